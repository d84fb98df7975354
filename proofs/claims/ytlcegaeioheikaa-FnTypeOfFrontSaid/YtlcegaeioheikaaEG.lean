/- Part of the proofs about the heaps and memories: a law is joined in the text whose name ends in W and the law. -/
import Derived.Test.YtlcegaeioheikaaEGa
namespace Go.Vc
open Go Go.Proofs
set_option linter.all false

def vc42 (x_0 : Sl) (n_1 : Int) (v : World) (Q : Value → World → Prop) : Prop :=
 (((decide (n_1 < 1)) || (decide (n_1 > (x_0.n : Int)))) = true →
 Q (.slice none 0 0) v) ∧
 (((decide (n_1 < 1)) || (decide (n_1 > (x_0.n : Int)))) = false →
 ∃ n1 : Int, Wr .i64 (n_1 - 1) n1 ∧
 CutOk x_0 0 n1 ∧
 ∃ n2 : Int, (Trip Try.prog 68 #[(x_0.cut 0 n1 3).val] v fun r3 w4 => r3 = .int .i64 n2 ∧ Sub v w4) ∧
 ∃ n5 : Int, Wr .i64 (n_1 - 1) n5 ∧
 IxOk x_0 n5 ∧
 ∃ x6 : Sl, v.cell? ((elA x_0 n5 3).add 2) = some (x6.val) ∧
 ∃ I7 : Sl → Int → World → Prop, ∃ m8 : Sl → Int → World → Nat, I7 (Sl.mk none 0 0) 0 v ∧
 ∀ x9 : Sl, ∀ n10 : Int, ∀ w11 : World, I7 x9 n10 w11 →
 ((decide (n10 < (x6.n : Int))) = true →
 ∃ n12 : Int, Wr .i64 (n2 + n10) n12 ∧
 StepT Try.prog (Instr.buildSlice 27 1 #[(0, (.int .i64 n12))]) w11 fun r13 w14 =>
 ∃ x15 : Sl, r13 = x15.val ∧
 StepT Try.prog (Builtin.append_ #[27, 27] 27 #[(x9.val), (x15.val)]) w14 fun r16 w17 =>
 ∃ x18 : Sl, r16 = x18.val ∧
 ∃ n19 : Int, Wr .i64 (n10 + 1) n19 ∧
 I7 x18 n19 w17 ∧
 m8 x18 n19 w17 < m8 x9 n10 w11) ∧
 ((decide (n10 < (x6.n : Int))) = false →
 Q (x9.val) w11))
theorem of42 (x_0 : Sl) (n_1 : Int) (v : World) (Q : Value → World → Prop) (h : vc42 x_0 n_1 v Q) : Trip Try.prog 42 #[x_0.val, .int .i64 n_1] v Q :=
 trip_of_eq (args := [.sl x_0, .num .i64 n_1]) (A := ⟨[(6, [(6, .sl), (28, .int .i64)], [])], [], [], [], psG⟩) Try.func42 (by kernel_rfl) (by kernel_rfl) (by kernel_rfl : vc42 x_0 n_1 v Q = _) h

def vc43 (x_0 : Sl) (n_1 : Int) (v : World) (Q : Value → World → Prop) : Prop :=
 ∃ n1 : Int, ∃ x2 : Sl, (Trip Try.prog 69 #[x_0.val, .int .i64 n_1] v fun r3 w4 => r3 = .tuple #[.int .i64 n1, .agg #[x2.val]] ∧ Sub v w4) ∧
 Q (x2.val) v
theorem of43 (x_0 : Sl) (n_1 : Int) (v : World) (Q : Value → World → Prop) (h : vc43 x_0 n_1 v Q) : Trip Try.prog 43 #[x_0.val, .int .i64 n_1] v Q :=
 trip_of_eq (args := [.sl x_0, .num .i64 n_1]) (A := ⟨[], [], [], [], psG⟩) Try.func43 (by kernel_rfl) (by kernel_rfl) (by kernel_rfl : vc43 x_0 n_1 v Q = _) h

def vc44 (x0_0 : Sl) (x0_1 : Sl) (n_1 : Int) (n_2 : Int) (x_3 : Sl) (v : World) (Q : Value → World → Prop) : Prop :=
 ((decide (n_1 = 0)) = true →
 Q (.tuple #[.int .i64 0, .bool (((decide (n_2 ≥ (-999))) && (decide (n_2 ≤ 999))) && (decide ((x_3.n : Int) = 0)))]) v) ∧
 ((decide (n_1 = 0)) = false →
 ((decide (n_1 = 1)) = true →
 StepT Try.prog (Instr.buildSlice 27 2 #[(0, (.int .i64 0)), (1, (.int .i64 0))]) v fun r1 w2 =>
 ∃ x3 : Sl, r1 = x3.val ∧
 ∃ q4 : Bool, ((decide (n_2 = 0)) = true →
 (Trip Try.prog 71 #[x_3.val, x3.val] w2 fun r5 w6 => r5 = .bool q4 ∧ Sub w2 w6)) ∧
 Q (.tuple #[.int .i64 0, .bool ((decide (n_2 = 0)) && q4)]) w2) ∧
 ((decide (n_1 = 1)) = false →
 ((decide (n_1 = 2)) = true →
 StepT Try.prog (Instr.buildSlice 27 2 #[(0, (.int .i64 0)), (1, (.int .i64 0))]) v fun r7 w8 =>
 ∃ x9 : Sl, r7 = x9.val ∧
 ∃ q10 : Bool, ((decide (n_2 = 0)) = true →
 (Trip Try.prog 71 #[x_3.val, x9.val] w8 fun r11 w12 => r11 = .bool q10 ∧ Sub w8 w12)) ∧
 Q (.tuple #[.int .i64 0, .bool ((decide (n_2 = 0)) && q10)]) w8) ∧
 ((decide (n_1 = 2)) = false →
 ((decide (n_1 = 3)) = true →
 StepT Try.prog (Instr.buildSlice 27 2 #[(0, (.int .i64 0)), (1, (.int .i64 0))]) v fun r13 w14 =>
 ∃ x15 : Sl, r13 = x15.val ∧
 ∃ q16 : Bool, ((decide (n_2 = 0)) = true →
 (Trip Try.prog 71 #[x_3.val, x15.val] w14 fun r17 w18 => r17 = .bool q16 ∧ Sub w14 w18)) ∧
 Q (.tuple #[.int .i64 0, .bool ((decide (n_2 = 0)) && q16)]) w14) ∧
 ((decide (n_1 = 3)) = false →
 ((decide (n_1 = 4)) = true →
 StepT Try.prog (Instr.buildSlice 27 2 #[(0, (.int .i64 0)), (1, (.int .i64 0))]) v fun r19 w20 =>
 ∃ x21 : Sl, r19 = x21.val ∧
 ∃ q22 : Bool, ((decide (n_2 = 0)) = true →
 (Trip Try.prog 71 #[x_3.val, x21.val] w20 fun r23 w24 => r23 = .bool q22 ∧ Sub w20 w24)) ∧
 Q (.tuple #[.int .i64 0, .bool ((decide (n_2 = 0)) && q22)]) w20) ∧
 ((decide (n_1 = 4)) = false →
 ((decide (n_1 = 5)) = true →
 StepT Try.prog (Instr.buildSlice 27 1 #[(0, (.int .i64 0))]) v fun r25 w26 =>
 ∃ x27 : Sl, r25 = x27.val ∧
 ∃ q28 : Bool, ((decide (n_2 = 0)) = true →
 (Trip Try.prog 71 #[x_3.val, x27.val] w26 fun r29 w30 => r29 = .bool q28 ∧ Sub w26 w30)) ∧
 Q (.tuple #[.int .i64 0, .bool ((decide (n_2 = 0)) && q28)]) w26) ∧
 ((decide (n_1 = 5)) = false →
 ((decide (n_1 = 11)) = true →
 ((!decide ((x_3.n : Int) = 2)) = true →
 Q (.tuple #[.int .i64 (-1), .bool false]) v) ∧
 ((!decide ((x_3.n : Int) = 2)) = false →
 IxOk x_3 0 ∧
 ∃ n31 : Int, v.cell? ((elA x_3 0 1).add 0) = some (.int .i64 n31) ∧
 ∃ n32 : Int, ∃ n33 : Int, ∃ x34 : Sl, ∃ q35 : Bool, (Trip Try.prog 70 #[x0_0.val, .int .i64 n31] v fun r36 w37 => r36 = .tuple #[.agg #[.int .i64 n32, .int .i64 n33, x34.val], .bool q35] ∧ Sub v w37) ∧
 Sub v v ∧
 (q35 = true →
 IxOk x_3 1) ∧
 ∃ n38 : Int, (q35 = true →
 v.cell? ((elA x_3 1 1).add 0) = some (.int .i64 n38)) ∧
 Q (.tuple #[.int .i64 n33, .bool ((q35 && (decide (n38 = n32))) && (decide (n_2 = 0)))]) v)) ∧
 ((decide (n_1 = 11)) = false →
 ((decide (n_1 = 6)) = true →
 ∃ n39 : Int, ∃ x40 : Sl, (Trip Try.prog 69 #[x0_0.val, .int .i64 n_2] v fun r41 w42 => r41 = .tuple #[.int .i64 n39, .agg #[x40.val]] ∧ Sub v w42) ∧
 ∃ q43 : Bool, ((decide (n39 ≥ 0)) = true →
 (Trip Try.prog 71 #[x_3.val, x40.val] v fun r44 w45 => r44 = .bool q43 ∧ Sub v w45)) ∧
 Q (.tuple #[.int .i64 n39, .bool ((decide (n39 ≥ 0)) && q43)]) v) ∧
 ((decide (n_1 = 6)) = false →
 ((decide (n_1 = 9)) = true →
 (((decide (n_2 < 0)) || (decide (n_2 ≥ (x0_1.n : Int)))) = true →
 Q (.tuple #[.int .i64 (-1), .bool false]) v) ∧
 (((decide (n_2 < 0)) || (decide (n_2 ≥ (x0_1.n : Int)))) = false →
 IxOk x0_1 n_2 ∧
 ∃ x46 : Sl, v.cell? ((elA x0_1 n_2 3).add 0) = some (x46.val) ∧
 IxOk x0_1 n_2 ∧
 ∃ n47 : Int, v.cell? ((elA x0_1 n_2 3).add 2) = some (.int .i64 n47) ∧
 ((decide (n_1 = 9)) = true →
 ∃ q48 : Bool, (Trip Try.prog 71 #[x_3.val, x46.val] v fun r49 w50 => r49 = .bool q48 ∧ Sub v w50) ∧
 Q (.tuple #[.int .i64 n47, .bool q48]) v) ∧
 ((decide (n_1 = 9)) = false →
 ∃ n51 : Int, Wr .i64 ((x46.n : Int) - 1) n51 ∧
 ((decide (n51 < 0)) = true →
 Q (.tuple #[.int .i64 (-1), .bool false]) v) ∧
 ((decide (n51 < 0)) = false →
 IxOk x46 n51 ∧
 ∃ n52 : Int, v.cell? ((elA x46 n51 1).add 0) = some (.int .i64 n52) ∧
 ∃ n53 : Int, (Trip Try.prog 72 #[x0_0.val, .int .i64 n52, .int .i64 n47] v fun r54 w55 => r54 = .int .i64 n53 ∧ Sub v w55) ∧
 ((decide (n53 ≥ 0)) = true →
 CutOk x46 0 n51) ∧
 ∃ q56 : Bool, ((decide (n53 ≥ 0)) = true →
 (Trip Try.prog 71 #[x_3.val, (x46.cut 0 n51 1).val] v fun r57 w58 => r57 = .bool q56 ∧ Sub v w58)) ∧
 Q (.tuple #[.int .i64 n53, .bool ((decide (n53 ≥ 0)) && q56)]) v)))) ∧
 ((decide (n_1 = 9)) = false →
 ((decide (n_1 = 10)) = true →
 (((decide (n_2 < 0)) || (decide (n_2 ≥ (x0_1.n : Int)))) = true →
 Q (.tuple #[.int .i64 (-1), .bool false]) v) ∧
 (((decide (n_2 < 0)) || (decide (n_2 ≥ (x0_1.n : Int)))) = false →
 IxOk x0_1 n_2 ∧
 ∃ x59 : Sl, v.cell? ((elA x0_1 n_2 3).add 0) = some (x59.val) ∧
 IxOk x0_1 n_2 ∧
 ∃ n60 : Int, v.cell? ((elA x0_1 n_2 3).add 2) = some (.int .i64 n60) ∧
 ((decide (n_1 = 9)) = true →
 ∃ q61 : Bool, (Trip Try.prog 71 #[x_3.val, x59.val] v fun r62 w63 => r62 = .bool q61 ∧ Sub v w63) ∧
 Q (.tuple #[.int .i64 n60, .bool q61]) v) ∧
 ((decide (n_1 = 9)) = false →
 ∃ n64 : Int, Wr .i64 ((x59.n : Int) - 1) n64 ∧
 ((decide (n64 < 0)) = true →
 Q (.tuple #[.int .i64 (-1), .bool false]) v) ∧
 ((decide (n64 < 0)) = false →
 IxOk x59 n64 ∧
 ∃ n65 : Int, v.cell? ((elA x59 n64 1).add 0) = some (.int .i64 n65) ∧
 ∃ n66 : Int, (Trip Try.prog 72 #[x0_0.val, .int .i64 n65, .int .i64 n60] v fun r67 w68 => r67 = .int .i64 n66 ∧ Sub v w68) ∧
 ((decide (n66 ≥ 0)) = true →
 CutOk x59 0 n64) ∧
 ∃ q69 : Bool, ((decide (n66 ≥ 0)) = true →
 (Trip Try.prog 71 #[x_3.val, (x59.cut 0 n64 1).val] v fun r70 w71 => r70 = .bool q69 ∧ Sub v w71)) ∧
 Q (.tuple #[.int .i64 n66, .bool ((decide (n66 ≥ 0)) && q69)]) v)))) ∧
 ((decide (n_1 = 10)) = false →
 Q (.tuple #[.int .i64 (-1), .bool false]) v))))))))))
theorem of44 (x0_0 : Sl) (x0_1 : Sl) (n_1 : Int) (n_2 : Int) (x_3 : Sl) (v : World) (Q : Value → World → Prop) (h : vc44 x0_0 x0_1 n_1 n_2 x_3 v Q) : Trip Try.prog 44 #[.agg #[x0_0.val, x0_1.val], .int .i64 n_1, .int .i64 n_2, x_3.val] v Q :=
 trip_of_eq (args := [.ag [.sl x0_0, .sl x0_1], .num .i64 n_1, .num .i64 n_2, .sl x_3]) (A := ⟨[], [], [(16, [9])], [999999], psG⟩) Try.func44 (by kernel_rfl) (by kernel_rfl) (by kernel_rfl : vc44 x0_0 x0_1 n_1 n_2 x_3 v Q = _) h

def vc45 (x_0 : Sl) (v : World) (Q : Value → World → Prop) : Prop :=
 ((decide ((x_0.n : Int) > 4)) = true →
 Q (.bool false) v) ∧
 ((decide ((x_0.n : Int) > 4)) = false →
 ∃ I1 : Int → World → Prop, ∃ m2 : Int → World → Nat, I1 0 v ∧
 ∀ n3 : Int, ∀ w4 : World, I1 n3 w4 →
 ((decide (n3 < (x_0.n : Int))) = true →
 ∃ q5 : Bool, (Trip Try.prog 73 #[x_0.val, .int .i64 n3] w4 fun r6 w7 => r6 = .bool q5 ∧ Sub w4 w7) ∧
 ((!q5) = true →
 Q (.bool false) w4) ∧
 ((!q5) = false →
 ∃ n8 : Int, Wr .i64 (n3 + 1) n8 ∧
 I1 n8 w4 ∧
 m2 n8 w4 < m2 n3 w4)) ∧
 ((decide (n3 < (x_0.n : Int))) = false →
 Q (.bool true) w4))
theorem of45 (x_0 : Sl) (v : World) (Q : Value → World → Prop) (h : vc45 x_0 v Q) : Trip Try.prog 45 #[x_0.val] v Q :=
 trip_of_eq (args := [.sl x_0]) (A := ⟨[(4, [(3, .int .i64)], [])], [], [], [], psG⟩) Try.func45 (by kernel_rfl) (by kernel_rfl) (by kernel_rfl : vc45 x_0 v Q = _) h

def vc46 (n_0 : Int) (n_1 : Int) (n_2 : Int) (v : World) (Q : Value → World → Prop) : Prop :=
 Q (.bool ((decide (n_1 ≤ n_0)) && (decide (n_0 ≤ n_2)))) v
theorem of46 (n_0 : Int) (n_1 : Int) (n_2 : Int) (v : World) (Q : Value → World → Prop) (h : vc46 n_0 n_1 n_2 v Q) : Trip Try.prog 46 #[.int .i64 n_0, .int .i64 n_1, .int .i64 n_2] v Q :=
 trip_of_eq (args := [.num .i64 n_0, .num .i64 n_1, .num .i64 n_2]) (A := ⟨[], [], [], [], psG⟩) Try.func46 (by kernel_rfl) (by kernel_rfl) (by kernel_rfl : vc46 n_0 n_1 n_2 v Q = _) h

def vc47 (n0_0 : Int) (n0_1 : Int) (x0_2 : Sl) (n_1 : Int) (v : World) (Q : Value → World → Prop) : Prop :=
 ((decide (n_1 < 1)) = true →
 Q (.int .i64 (-1)) v) ∧
 ((decide (n_1 < 1)) = false →
 ∃ n1 : Int, Wr .i64 (n_1 - 1) n1 ∧
 ∃ I2 : Int → Int → World → Prop, ∃ m3 : Int → Int → World → Nat, I2 n1 0 v ∧
 ∀ n4 : Int, ∀ n5 : Int, ∀ w6 : World, I2 n4 n5 w6 →
 ((decide (n5 < (x0_2.n : Int))) = true →
 IxOk x0_2 n5 ∧
 ldT w6 x0_2 n5 fun n7 n8 x9 =>
 ∃ n10 : Int, (Trip Try.prog 47 #[.agg #[.int .i64 n7, .int .i64 n8, x9.val], .int .i64 n4] w6 fun r11 w12 => r11 = .int .i64 n10 ∧ Sub w6 w12) ∧
 ((decide (n10 < 0)) = true →
 Q (.int .i64 (-1)) w6) ∧
 ((decide (n10 < 0)) = false →
 ∃ n13 : Int, Wr .i64 (n5 + 1) n13 ∧
 eqS (.num .i64 n0_0) ∧
 eqS (.num .i64 n0_1) ∧
 eqS (.sl x0_2) ∧
 I2 n10 n13 w6 ∧
 m3 n10 n13 w6 < m3 n4 n5 w6)) ∧
 ((decide (n5 < (x0_2.n : Int))) = false →
 Q (.int .i64 n4) w6))
theorem of47 (n0_0 : Int) (n0_1 : Int) (x0_2 : Sl) (n_1 : Int) (v : World) (Q : Value → World → Prop) (h : vc47 n0_0 n0_1 x0_2 n_1 v Q) : Trip Try.prog 47 #[.agg #[.int .i64 n0_0, .int .i64 n0_1, x0_2.val], .int .i64 n_1] v Q :=
 trip_of_eq (args := [.ag [.num .i64 n0_0, .num .i64 n0_1, .sl x0_2], .num .i64 n_1]) (A := ⟨[(5, [(1, .int .i64), (5, .int .i64)], [])], [], [], [], psG⟩) Try.func47 (by kernel_rfl) (by kernel_rfl) (by kernel_rfl : vc47 n0_0 n0_1 x0_2 n_1 v Q = _) h

def vc48 (x0_0 : Sl) (x0_1 : Sl) (x_1 : Sl) (x_2 : Sl) (n_3 : Int) (v : World) (Q : Value → World → Prop) : Prop :=
 ((!decide ((x_2.n : Int) = n_3)) = true →
 Q (.bool false) v) ∧
 ((!decide ((x_2.n : Int) = n_3)) = false →
 ∃ I1 : Int → World → Prop, ∃ m2 : Int → World → Nat, I1 0 v ∧
 ∀ n3 : Int, ∀ w4 : World, I1 n3 w4 →
 ((decide (n3 < n_3)) = true →
 IxOk x_2 n3 ∧
 ldT w4 x_2 n3 fun n5 n6 x7 =>
 ∃ n8 : Int, (Trip Try.prog 26 #[.agg #[x0_0.val, x0_1.val], x_1.val, .agg #[.int .i64 n5, .int .i64 n6, x7.val]] w4 fun r9 w10 => r9 = .int .i64 n8 ∧ Sub w4 w10) ∧
 ((!decide (n8 = 0)) = true →
 Q (.bool false) w4) ∧
 ((!decide (n8 = 0)) = false →
 ∃ n11 : Int, Wr .i64 (n3 + 1) n11 ∧
 eqS (.sl x0_0) ∧
 eqS (.sl x0_1) ∧
 I1 n11 w4 ∧
 m2 n11 w4 < m2 n3 w4)) ∧
 ((decide (n3 < n_3)) = false →
 Q (.bool true) w4))
theorem of48 (x0_0 : Sl) (x0_1 : Sl) (x_1 : Sl) (x_2 : Sl) (n_3 : Int) (v : World) (Q : Value → World → Prop) (h : vc48 x0_0 x0_1 x_1 x_2 n_3 v Q) : Trip Try.prog 48 #[.agg #[x0_0.val, x0_1.val], x_1.val, x_2.val, .int .i64 n_3] v Q :=
 trip_of_eq (args := [.ag [.sl x0_0, .sl x0_1], .sl x_1, .sl x_2, .num .i64 n_3]) (A := ⟨[(4, [(9, .int .i64)], [])], [], [], [], psG⟩) Try.func48 (by kernel_rfl) (by kernel_rfl) (by kernel_rfl : vc48 x0_0 x0_1 x_1 x_2 n_3 v Q = _) h

def vc49 (x_0 : Sl) (n_1 : Int) (v : World) (Q : Value → World → Prop) : Prop :=
 ∃ I1 : Int → World → Prop, ∃ m2 : Int → World → Nat, I1 0 v ∧
 ∀ n3 : Int, ∀ w4 : World, I1 n3 w4 →
 ((decide (n3 < (x_0.n : Int))) = true →
 ∃ n5 : Int, (Trip Try.prog 74 #[x_0.val, .int .i64 n3] w4 fun r6 w7 => r6 = .int .i64 n5 ∧ Sub w4 w7) ∧
 IxOk x_0 n3 ∧
 ∃ x8 : Sl, w4.cell? ((elA x_0 n3 3).add 2) = some (x8.val) ∧
 ∃ n9 : Int, Wr .i64 (n5 + (x8.n : Int)) n9 ∧
 ∃ n10 : Int, Wr .i64 (n9 - 1) n10 ∧
 ∃ q11 : Bool, (Trip Try.prog 46 #[.int .i64 n_1, .int .i64 n5, .int .i64 n10] w4 fun r12 w13 => r12 = .bool q11 ∧ Sub w4 w13) ∧
 (q11 = true →
 ∃ n14 : Int, Wr .i64 (n3 + 1) n14 ∧
 Q (.int .i64 n14) w4) ∧
 (q11 = false →
 ∃ n15 : Int, Wr .i64 (n3 + 1) n15 ∧
 I1 n15 w4 ∧
 m2 n15 w4 < m2 n3 w4)) ∧
 ((decide (n3 < (x_0.n : Int))) = false →
 Q (.int .i64 (-1)) w4)
theorem of49 (x_0 : Sl) (n_1 : Int) (v : World) (Q : Value → World → Prop) (h : vc49 x_0 n_1 v Q) : Trip Try.prog 49 #[x_0.val, .int .i64 n_1] v Q :=
 trip_of_eq (args := [.sl x_0, .num .i64 n_1]) (A := ⟨[(2, [(5, .int .i64)], [])], [], [], [], psG⟩) Try.func49 (by kernel_rfl) (by kernel_rfl) (by kernel_rfl : vc49 x_0 n_1 v Q = _) h

def vc50 (x0_0 : Sl) (x0_1 : Sl) (x_1 : Sl) (x_2 : Sl) (x_3 : Sl) (v : World) (Q : Value → World → Prop) : Prop :=
 ((!decide ((x_2.n : Int) = (x_3.n : Int))) = true →
 Q (.bool false) v) ∧
 ((!decide ((x_2.n : Int) = (x_3.n : Int))) = false →
 ∃ I1 : Int → World → Prop, ∃ m2 : Int → World → Nat, I1 0 v ∧
 ∀ n3 : Int, ∀ w4 : World, I1 n3 w4 →
 ((decide (n3 < (x_3.n : Int))) = true →
 IxOk x_2 n3 ∧
 ldT w4 x_2 n3 fun n5 n6 x7 =>
 ∃ n8 : Int, (Trip Try.prog 26 #[.agg #[x0_0.val, x0_1.val], x_1.val, .agg #[.int .i64 n5, .int .i64 n6, x7.val]] w4 fun r9 w10 => r9 = .int .i64 n8 ∧ Sub w4 w10) ∧
 IxOk x_3 n3 ∧
 ∃ n11 : Int, w4.cell? ((elA x_3 n3 1).add 0) = some (.int .i64 n11) ∧
 ((!decide (n8 = n11)) = true →
 Q (.bool false) w4) ∧
 ((!decide (n8 = n11)) = false →
 ∃ n12 : Int, Wr .i64 (n3 + 1) n12 ∧
 eqS (.sl x0_0) ∧
 eqS (.sl x0_1) ∧
 I1 n12 w4 ∧
 m2 n12 w4 < m2 n3 w4)) ∧
 ((decide (n3 < (x_3.n : Int))) = false →
 Q (.bool true) w4))
theorem of50 (x0_0 : Sl) (x0_1 : Sl) (x_1 : Sl) (x_2 : Sl) (x_3 : Sl) (v : World) (Q : Value → World → Prop) (h : vc50 x0_0 x0_1 x_1 x_2 x_3 v Q) : Trip Try.prog 50 #[.agg #[x0_0.val, x0_1.val], x_1.val, x_2.val, x_3.val] v Q :=
 trip_of_eq (args := [.ag [.sl x0_0, .sl x0_1], .sl x_1, .sl x_2, .sl x_3]) (A := ⟨[(4, [(9, .int .i64)], [])], [], [], [], psG⟩) Try.func50 (by kernel_rfl) (by kernel_rfl) (by kernel_rfl : vc50 x0_0 x0_1 x_1 x_2 x_3 v Q = _) h

def vc51 (x_0 : Sl) (n_1 : Int) (v : World) (Q : Value → World → Prop) : Prop :=
 ∃ n1 : Int, (Trip Try.prog 49 #[x_0.val, .int .i64 n_1] v fun r2 w3 => r2 = .int .i64 n1 ∧ Sub v w3) ∧
 ((decide (n1 < 1)) = true →
 StepT Try.prog (Instr.buildSlice 27 0 #[]) v fun r4 w5 =>
 ∃ x6 : Sl, r4 = x6.val ∧
 Q (x6.val) w5) ∧
 ((decide (n1 < 1)) = false →
 ∃ n7 : Int, Wr .i64 (n1 - 1) n7 ∧
 IxOk x_0 n7 ∧
 ∃ x8 : Sl, v.cell? ((elA x_0 n7 3).add 2) = some (x8.val) ∧
 ∃ n9 : Int, Wr .i64 (n1 - 1) n9 ∧
 ∃ n10 : Int, (Trip Try.prog 74 #[x_0.val, .int .i64 n9] v fun r11 w12 => r11 = .int .i64 n10 ∧ Sub v w12) ∧
 ∃ n13 : Int, Wr .i64 (n_1 - n10) n13 ∧
 IxOk x8 n13 ∧
 ∃ x14 : Sl, v.cell? ((elA x8 n13 1).add 0) = some (x14.val) ∧
 Q (x14.val) v)
theorem of51 (x_0 : Sl) (n_1 : Int) (v : World) (Q : Value → World → Prop) (h : vc51 x_0 n_1 v Q) : Trip Try.prog 51 #[x_0.val, .int .i64 n_1] v Q :=
 trip_of_eq (args := [.sl x_0, .num .i64 n_1]) (A := ⟨[], [], [], [], psG⟩) Try.func51 (by kernel_rfl) (by kernel_rfl) (by kernel_rfl : vc51 x_0 n_1 v Q = _) h

def vc52 (x0_0 : Sl) (x0_1 : Sl) (x_1 : Sl) (n2_0 : Int) (n2_1 : Int) (x2_2 : Sl) (v : World) (Q : Value → World → Prop) : Prop :=
 Trip Try.prog 75 #[x0_0.val, .int .i64 n2_1] v fun r1 w2 =>
 ∃ x3 : Sl, r1 = x3.val ∧
 ∃ n4 : Int, ((decide ((x3.n : Int) = 0)) = false →
 Wr .i64 (1 + (x3.n : Int)) n4) ∧
 (((decide ((x3.n : Int) = 0)) || (!decide ((x2_2.n : Int) = n4))) = false →
 IxOk x2_2 0) ∧
 ∃ n5 : Int, ∃ n6 : Int, ∃ x7 : Sl, (((decide ((x3.n : Int) = 0)) || (!decide ((x2_2.n : Int) = n4))) = false →
 w2.cell? ((elA x2_2 0 3).add 0) = some (.int .i64 n5) ∧
 w2.cell? ((elA x2_2 0 3).add 1) = some (.int .i64 n6) ∧
 w2.cell? ((elA x2_2 0 3).add 2) = some (x7.val)) ∧
 ∃ n8 : Int, (((decide ((x3.n : Int) = 0)) || (!decide ((x2_2.n : Int) = n4))) = false →
 (Trip Try.prog 26 #[.agg #[x0_0.val, x0_1.val], x_1.val, .agg #[.int .i64 n5, .int .i64 n6, x7.val]] w2 fun r9 w10 => r9 = .int .i64 n8 ∧ Sub w2 w10)) ∧
 ((((decide ((x3.n : Int) = 0)) || (!decide ((x2_2.n : Int) = n4))) || (!decide (n8 = n2_1))) = true →
 Q (.int .i64 (-1)) w2) ∧
 ((((decide ((x3.n : Int) = 0)) || (!decide ((x2_2.n : Int) = n4))) || (!decide (n8 = n2_1))) = false →
 IxOk x3 0 ∧
 ∃ n11 : Int, w2.cell? ((elA x3 0 1).add 0) = some (.int .i64 n11) ∧
 IxOk x2_2 1 ∧
 ldT w2 x2_2 1 fun n12 n13 x14 =>
 Trip Try.prog 51 #[x0_0.val, .int .i64 n11] w2 fun r15 w16 =>
 ∃ x17 : Sl, r15 = x17.val ∧
 Sub w2 w16 ∧
 Trip Try.prog 36 #[x_1.val, x17.val] w16 fun r18 w19 =>
 ∃ x20 : Sl, r18 = x20.val ∧
 Sub w16 w19 ∧
 ∃ n21 : Int, (Trip Try.prog 26 #[.agg #[x0_0.val, x0_1.val], x20.val, .agg #[.int .i64 n12, .int .i64 n13, x14.val]] w19 fun r22 w23 => r22 = .int .i64 n21 ∧ Sub w19 w23) ∧
 ∃ I24 : Int → World → Prop, ∃ m25 : Int → World → Nat, I24 1 w19 ∧
 ∀ n26 : Int, ∀ w27 : World, I24 n26 w27 →
 ((decide (n26 < (x3.n : Int))) = true →
 IxOk x3 n26 ∧
 ∃ n28 : Int, w27.cell? ((elA x3 n26 1).add 0) = some (.int .i64 n28) ∧
 ∃ n29 : Int, Wr .i64 (1 + n26) n29 ∧
 IxOk x2_2 n29 ∧
 ldT w27 x2_2 n29 fun n30 n31 x32 =>
 Trip Try.prog 51 #[x0_0.val, .int .i64 n28] w27 fun r33 w34 =>
 ∃ x35 : Sl, r33 = x35.val ∧
 Sub w27 w34 ∧
 Trip Try.prog 36 #[x_1.val, x35.val] w34 fun r36 w37 =>
 ∃ x38 : Sl, r36 = x38.val ∧
 Sub w34 w37 ∧
 ∃ n39 : Int, (Trip Try.prog 26 #[.agg #[x0_0.val, x0_1.val], x38.val, .agg #[.int .i64 n30, .int .i64 n31, x32.val]] w37 fun r40 w41 => r40 = .int .i64 n39 ∧ Sub w37 w41) ∧
 ((!decide (n39 = n21)) = true →
 Q (.int .i64 (-1)) w37) ∧
 ((!decide (n39 = n21)) = false →
 ∃ n42 : Int, Wr .i64 (n26 + 1) n42 ∧
 eqS (.sl x0_0) ∧
 eqS (.sl x0_1) ∧
 eqS (.num .i64 n2_0) ∧
 eqS (.num .i64 n2_1) ∧
 eqS (.sl x2_2) ∧
 I24 n42 w37 ∧
 m25 n42 w37 < m25 n26 w27)) ∧
 ((decide (n26 < (x3.n : Int))) = false →
 Q (.int .i64 n21) w27))
theorem of52 (x0_0 : Sl) (x0_1 : Sl) (x_1 : Sl) (n2_0 : Int) (n2_1 : Int) (x2_2 : Sl) (v : World) (Q : Value → World → Prop) (h : vc52 x0_0 x0_1 x_1 n2_0 n2_1 x2_2 v Q) : Trip Try.prog 52 #[.agg #[x0_0.val, x0_1.val], x_1.val, .agg #[.int .i64 n2_0, .int .i64 n2_1, x2_2.val]] v Q :=
 trip_of_eq (args := [.ag [.sl x0_0, .sl x0_1], .sl x_1, .ag [.num .i64 n2_0, .num .i64 n2_1, .sl x2_2]]) (A := ⟨[(6, [(9, .int .i64)], [])], [], [(4, [7, 8]), (8, [8, 9])], [], psG⟩) Try.func52 (by kernel_rfl) (by kernel_rfl) (by kernel_rfl : vc52 x0_0 x0_1 x_1 n2_0 n2_1 x2_2 v Q = _) h

def vc53 (x0_0 : Sl) (x0_1 : Sl) (x_1 : Sl) (n2_0 : Int) (n2_1 : Int) (x2_2 : Sl) (v : World) (Q : Value → World → Prop) : Prop :=
 ∃ n1 : Int, Wr .i64 ((x0_1.n : Int) - 1) n1 ∧
 ∃ q2 : Bool, (Trip Try.prog 46 #[.int .i64 n2_1, .int .i64 0, .int .i64 n1] v fun r3 w4 => r3 = .bool q2 ∧ Sub v w4) ∧
 ((!q2) = true →
 Q (.int .i64 (-1)) v) ∧
 ((!q2) = false →
 IxOk x0_1 n2_1 ∧
 ldF v x0_1 n2_1 fun x5 n6 n7 n8 x9 =>
 ((decide (n2_0 = 9)) = true →
 ∃ q10 : Bool, (Trip Try.prog 50 #[.agg #[x0_0.val, x0_1.val], x_1.val, x2_2.val, x5.val] v fun r11 w12 => r11 = .bool q10 ∧ Sub v w12) ∧
 ((!q10) = true →
 Q (.int .i64 (-1)) v) ∧
 ((!q10) = false →
 Q (.int .i64 n6) v)) ∧
 ((decide (n2_0 = 9)) = false →
 ∃ n13 : Int, ((decide ((x5.n : Int) = 0)) = false →
 Wr .i64 ((x5.n : Int) - 1) n13) ∧
 ((decide ((x5.n : Int) = 0)) = false →
 CutOk x5 0 n13) ∧
 ∃ q14 : Bool, ((decide ((x5.n : Int) = 0)) = false →
 (Trip Try.prog 50 #[.agg #[x0_0.val, x0_1.val], x_1.val, x2_2.val, (x5.cut 0 n13 1).val] v fun r15 w16 => r15 = .bool q14 ∧ Sub v w16)) ∧
 (((decide ((x5.n : Int) = 0)) || (!q14)) = true →
 Q (.int .i64 (-1)) v) ∧
 (((decide ((x5.n : Int) = 0)) || (!q14)) = false →
 ∃ n17 : Int, Wr .i64 ((x5.n : Int) - 1) n17 ∧
 IxOk x5 n17 ∧
 ∃ n18 : Int, v.cell? ((elA x5 n17 1).add 0) = some (.int .i64 n18) ∧
 ∃ n19 : Int, (Trip Try.prog 76 #[x0_0.val, .int .i64 n18, .int .i64 n6] v fun r20 w21 => r20 = .int .i64 n19 ∧ Sub v w21) ∧
 Q (.int .i64 n19) v)))
theorem of53 (x0_0 : Sl) (x0_1 : Sl) (x_1 : Sl) (n2_0 : Int) (n2_1 : Int) (x2_2 : Sl) (v : World) (Q : Value → World → Prop) (h : vc53 x0_0 x0_1 x_1 n2_0 n2_1 x2_2 v Q) : Trip Try.prog 53 #[.agg #[x0_0.val, x0_1.val], x_1.val, .agg #[.int .i64 n2_0, .int .i64 n2_1, x2_2.val]] v Q :=
 trip_of_eq (args := [.ag [.sl x0_0, .sl x0_1], .sl x_1, .ag [.num .i64 n2_0, .num .i64 n2_1, .sl x2_2]]) (A := ⟨[], [], [], [], psG⟩) Try.func53 (by kernel_rfl) (by kernel_rfl) (by kernel_rfl : vc53 x0_0 x0_1 x_1 n2_0 n2_1 x2_2 v Q = _) h

def vc54 (x_0 : Sl) (n_1 : Int) (v : World) (Q : Value → World → Prop) : Prop :=
 ∃ q1 : Bool, (Trip Try.prog 46 #[.int .i64 n_1, .int .i64 1, .int .i64 (x_0.n : Int)] v fun r2 w3 => r2 = .bool q1 ∧ Sub v w3) ∧
 ∃ n4 : Int, (q1 = true →
 Wr .i64 (n_1 - 1) n4) ∧
 (q1 = true →
 IxOk x_0 n4) ∧
 ∃ x5 : Sl, (q1 = true →
 v.cell? ((elA x_0 n4 3).add 2) = some (x5.val)) ∧
 Q (.bool (q1 && (decide ((x5.n : Int) = 0)))) v
theorem of54 (x_0 : Sl) (n_1 : Int) (v : World) (Q : Value → World → Prop) (h : vc54 x_0 n_1 v Q) : Trip Try.prog 54 #[x_0.val, .int .i64 n_1] v Q :=
 trip_of_eq (args := [.sl x_0, .num .i64 n_1]) (A := ⟨[], [], [], [], psG⟩) Try.func54 (by kernel_rfl) (by kernel_rfl) (by kernel_rfl : vc54 x_0 n_1 v Q = _) h

def vc55 (a_0 : Addr) (v : World) (Q : Value → World → Prop) : Prop :=
 StepT Try.prog (Instr.buildSlice 27 0 #[]) v fun r1 w2 =>
 ∃ x3 : Sl, r1 = x3.val ∧
 Trip Try.prog 65 #[x3.val] w2 fun r4 w5 =>
 ∃ x6 : Sl, r4 = .agg #[x6.val] ∧
 StepT Try.prog (Instr.buildSlice 27 2 #[(0, (.int .i64 0)), (1, (.int .i64 1))]) w5 fun r7 w8 =>
 ∃ x9 : Sl, r7 = x9.val ∧
 Trip Try.prog 65 #[x9.val] w8 fun r10 w11 =>
 ∃ x12 : Sl, r10 = .agg #[x12.val] ∧
 StepT Try.prog (Instr.buildSlice 85 2 #[(0, (.agg #[x6.val])), (1, (.agg #[x12.val]))]) w11 fun r13 w14 =>
 ∃ x15 : Sl, r13 = x15.val ∧
 StepT Try.prog (Instr.buildSlice 27 0 #[]) w14 fun r16 w17 =>
 ∃ x18 : Sl, r16 = x18.val ∧
 Trip Try.prog 65 #[x18.val] w17 fun r19 w20 =>
 ∃ x21 : Sl, r19 = .agg #[x21.val] ∧
 StepT Try.prog (Instr.buildSlice 27 3 #[(0, (.int .i64 3)), (1, (.int .i64 0)), (2, (.int .i64 3))]) w20 fun r22 w23 =>
 ∃ x24 : Sl, r22 = x24.val ∧
 Trip Try.prog 65 #[x24.val] w23 fun r25 w26 =>
 ∃ x27 : Sl, r25 = .agg #[x27.val] ∧
 StepT Try.prog (Instr.buildSlice 85 2 #[(0, (.agg #[x21.val])), (1, (.agg #[x27.val]))]) w26 fun r28 w29 =>
 ∃ x30 : Sl, r28 = x30.val ∧
 StepT Try.prog (Instr.buildSlice 27 2 #[(0, (.int .i64 1)), (1, (.int .i64 3))]) w29 fun r31 w32 =>
 ∃ x33 : Sl, r31 = x33.val ∧
 Trip Try.prog 65 #[x33.val] w32 fun r34 w35 =>
 ∃ x36 : Sl, r34 = .agg #[x36.val] ∧
 StepT Try.prog (Instr.buildSlice 85 1 #[(0, (.agg #[x36.val]))]) w35 fun r37 w38 =>
 ∃ x39 : Sl, r37 = x39.val ∧
 StepT Try.prog (Instr.buildSlice 27 3 #[(0, (.int .i64 1)), (1, (.int .i64 1)), (2, (.int .i64 0))]) w38 fun r40 w41 =>
 ∃ x42 : Sl, r40 = x42.val ∧
 Trip Try.prog 65 #[x42.val] w41 fun r43 w44 =>
 ∃ x45 : Sl, r43 = .agg #[x45.val] ∧
 StepT Try.prog (Instr.buildSlice 27 1 #[(0, (.int .i64 0))]) w44 fun r46 w47 =>
 ∃ x48 : Sl, r46 = x48.val ∧
 Trip Try.prog 65 #[x48.val] w47 fun r49 w50 =>
 ∃ x51 : Sl, r49 = .agg #[x51.val] ∧
 StepT Try.prog (Instr.buildSlice 27 1 #[(0, (.int .i64 3))]) w50 fun r52 w53 =>
 ∃ x54 : Sl, r52 = x54.val ∧
 Trip Try.prog 65 #[x54.val] w53 fun r55 w56 =>
 ∃ x57 : Sl, r55 = .agg #[x57.val] ∧
 StepT Try.prog (Instr.buildSlice 85 3 #[(0, (.agg #[x45.val])), (1, (.agg #[x51.val])), (2, (.agg #[x57.val]))]) w56 fun r58 w59 =>
 ∃ x60 : Sl, r58 = x60.val ∧
 StepT Try.prog (Instr.buildSlice 23 4 #[(0, (.agg #[.int .i64 0, .int .i64 0, x39.val])), (1, (.agg #[.int .i64 1, .int .i64 0, .slice none 0 0])), (2, (.agg #[.int .i64 0, .int .i64 0, x60.val])), (3, (.agg #[.int .i64 0, .int .i64 1, .slice none 0 0]))]) w59 fun r61 w62 =>
 ∃ x63 : Sl, r61 = x63.val ∧
 StepT Try.prog (Instr.buildSlice 23 3 #[(0, (.agg #[.int .i64 0, .int .i64 0, x15.val])), (1, (.agg #[.int .i64 0, .int .i64 0, .slice none 0 0])), (2, (.agg #[.int .i64 0, .int .i64 0, x30.val]))]) w62 fun r64 w65 =>
 ∃ x66 : Sl, r64 = x66.val ∧
 Trip Try.prog 12 #[.pointer (some (a_0.add 0)), .int .i64 5] w65 fun r67 w68 =>
 ∃ n69 : Int, r67 = .int .i64 n69 ∧
 ((decide (n69 < 4)) = true →
 IxOk x63 n69 ∧
 ldT w68 x63 n69 fun n70 n71 x72 =>
 StepT Try.prog (Instr.buildSlice 23 1 #[(0, (.agg #[.int .i64 n70, .int .i64 n71, x72.val]))]) w68 fun r73 w74 =>
 ∃ x75 : Sl, r73 = x75.val ∧
 StepT Try.prog (Builtin.append_ #[23, 23] 23 #[(x66.val), (x75.val)]) w74 fun r76 w77 =>
 ∃ x78 : Sl, r76 = x78.val ∧
 Q (x78.val) w77) ∧
 ((decide (n69 < 4)) = false →
 Q (x66.val) w68)
theorem of55 (a_0 : Addr) (v : World) (Q : Value → World → Prop) (h : vc55 a_0 v Q) : Trip Try.prog 55 #[.pointer (some (a_0.add 0))] v Q :=
 trip_of_eq (args := [.pt a_0 0]) (A := ⟨[], [], [], [], psG⟩) Try.func55 (by kernel_rfl) (by kernel_rfl) (by kernel_rfl : vc55 a_0 v Q = _) h

def vc56 (x_0 : Sl) (n_1 : Int) (v : World) (Q : Value → World → Prop) : Prop :=
 Q (.agg #[x_0.val, .int .i64 n_1, .int .i64 0, .int .i64 0, .slice none 0 0]) v
theorem of56 (x_0 : Sl) (n_1 : Int) (v : World) (Q : Value → World → Prop) (h : vc56 x_0 n_1 v Q) : Trip Try.prog 56 #[x_0.val, .int .i64 n_1] v Q :=
 trip_of_eq (args := [.sl x_0, .num .i64 n_1]) (A := ⟨[], [], [], [], psG⟩) Try.func56 (by kernel_rfl) (by kernel_rfl) (by kernel_rfl : vc56 x_0 n_1 v Q = _) h

def vc57 (a_0 : Addr) (x1_0 : Sl) (x1_1 : Sl) (n_2 : Int) (v : World) (Q : Value → World → Prop) : Prop :=
 IxOk x1_1 n_2 ∧
 ∃ x1 : Sl, v.cell? ((elA x1_1 n_2 5).add 0) = some (x1.val) ∧
 IxOk x1_1 n_2 ∧
 ∃ n2 : Int, v.cell? ((elA x1_1 n_2 5).add 1) = some (.int .i64 n2) ∧
 ∃ n3 : Int, (Trip Try.prog 77 #[x1.val, .int .i64 1] v fun r4 w5 => r4 = .int .i64 n3 ∧ Sub v w5) ∧
 Trip Try.prog 34 #[.int .i64 0] v fun r6 w7 =>
 ∃ n8 : Int, ∃ n9 : Int, ∃ x10 : Sl, r6 = .agg #[.int .i64 n8, .int .i64 n9, x10.val] ∧
 Trip Try.prog 12 #[.pointer (some (a_0.add 0)), .int .i64 4] w7 fun r11 w12 =>
 ∃ n13 : Int, r11 = .int .i64 n13 ∧
 ∃ J14 : Int → Int → Sl → World → Prop, ((((decide (n13 < 3)) && (decide (n_2 = 0))) = true →
 Trip Try.prog 78 #[.pointer (some (a_0.add 0)), .agg #[x1_0.val, x1_1.val]] w12 fun r15 w16 =>
 ∃ n17 : Int, ∃ n18 : Int, ∃ x19 : Sl, r15 = .agg #[.int .i64 n17, .int .i64 n18, x19.val] ∧
 eqS (.sl x1_0) ∧
 eqS (.sl x1_1) ∧
 eqS (.num .i64 0) ∧
 eqS (.num .i64 0) ∧
 eqS (.sl (Sl.mk none 0 0)) ∧
 J14 n17 n18 x19 w16) ∧
 (((decide (n13 < 3)) && (decide (n_2 = 0))) = false →
 ((((decide (n13 < 3)) && (decide (n3 ≥ 0))) && ((decide (n2 = 0)) || (decide (n2 = 1)))) = true →
 Trip Try.prog 79 #[.pointer (some (a_0.add 0)), .agg #[x1_0.val, x1_1.val], .int .i64 n_2, .int .i64 n3] w12 fun r20 w21 =>
 ∃ n22 : Int, ∃ n23 : Int, ∃ x24 : Sl, r20 = .agg #[.int .i64 n22, .int .i64 n23, x24.val] ∧
 eqS (.sl x1_0) ∧
 eqS (.sl x1_1) ∧
 eqS (.num .i64 0) ∧
 eqS (.num .i64 0) ∧
 eqS (.sl (Sl.mk none 0 0)) ∧
 J14 n22 n23 x24 w21) ∧
 ((((decide (n13 < 3)) && (decide (n3 ≥ 0))) && ((decide (n2 = 0)) || (decide (n2 = 1)))) = false →
 (((decide (n13 < 3)) && (decide ((x1.n : Int) > 0))) = true →
 IxOk x1 0) ∧
 ∃ n25 : Int, (((decide (n13 < 3)) && (decide ((x1.n : Int) > 0))) = true →
 w12.cell? ((elA x1 0 1).add 0) = some (.int .i64 n25)) ∧
 (((((decide (n13 < 3)) && (decide ((x1.n : Int) > 0))) && (decide (n25 = 3))) && ((decide (n2 = 0)) || (decide (n2 = 3)))) = true →
 Trip Try.prog 80 #[.pointer (some (a_0.add 0)), .agg #[x1_0.val, x1_1.val], .int .i64 n_2] w12 fun r26 w27 =>
 ∃ n28 : Int, ∃ n29 : Int, ∃ x30 : Sl, r26 = .agg #[.int .i64 n28, .int .i64 n29, x30.val] ∧
 eqS (.sl x1_0) ∧
 eqS (.sl x1_1) ∧
 eqS (.num .i64 0) ∧
 eqS (.num .i64 0) ∧
 eqS (.sl (Sl.mk none 0 0)) ∧
 J14 n28 n29 x30 w27) ∧
 (((((decide (n13 < 3)) && (decide ((x1.n : Int) > 0))) && (decide (n25 = 3))) && ((decide (n2 = 0)) || (decide (n2 = 3)))) = false →
 (((decide (n13 < 3)) && (decide ((x1.n : Int) > 0))) = true →
 IxOk x1 0) ∧
 ∃ n31 : Int, (((decide (n13 < 3)) && (decide ((x1.n : Int) > 0))) = true →
 w12.cell? ((elA x1 0 1).add 0) = some (.int .i64 n31)) ∧
 (((((decide (n13 < 3)) && (decide ((x1.n : Int) > 0))) && (decide (n31 = 0))) && ((decide (n2 = 0)) || (decide (n2 = 1)))) = true →
 Trip Try.prog 81 #[.pointer (some (a_0.add 0)), .agg #[x1_0.val, x1_1.val], .int .i64 n_2] w12 fun r32 w33 =>
 ∃ n34 : Int, ∃ n35 : Int, ∃ x36 : Sl, r32 = .agg #[.int .i64 n34, .int .i64 n35, x36.val] ∧
 eqS (.sl x1_0) ∧
 eqS (.sl x1_1) ∧
 eqS (.num .i64 0) ∧
 eqS (.num .i64 0) ∧
 eqS (.sl (Sl.mk none 0 0)) ∧
 J14 n34 n35 x36 w33) ∧
 (((((decide (n13 < 3)) && (decide ((x1.n : Int) > 0))) && (decide (n31 = 0))) && ((decide (n2 = 0)) || (decide (n2 = 1)))) = false →
 Trip Try.prog 13 #[.pointer (some (a_0.add 0)), .agg #[x1_0.val, x1_1.val], x1.val, .int .i64 n2, .int .i64 18] w12 fun r37 w38 =>
 ∃ n39 : Int, ∃ n40 : Int, ∃ x41 : Sl, r37 = .agg #[.int .i64 n39, .int .i64 n40, x41.val] ∧
 eqS (.sl x1_0) ∧
 eqS (.sl x1_1) ∧
 eqS (.num .i64 0) ∧
 eqS (.num .i64 0) ∧
 eqS (.sl (Sl.mk none 0 0)) ∧
 J14 n39 n40 x41 w38))))) ∧
 ∀ n42 : Int, ∀ n43 : Int, ∀ x44 : Sl, ∀ w45 : World, J14 n42 n43 x44 w45 →
 ∃ n46 : Int, (Trip Try.prog 24 #[.agg #[.int .i64 n42, .int .i64 n43, x44.val]] w45 fun r47 w48 => r47 = .int .i64 n46 ∧ Sub w45 w48) ∧
 ((decide (n46 < 0)) = true →
 Trip Try.prog 13 #[.pointer (some (a_0.add 0)), .agg #[x1_0.val, x1_1.val], x1.val, .int .i64 n2, .int .i64 12] w45 fun r49 w50 =>
 ∃ n51 : Int, ∃ n52 : Int, ∃ x53 : Sl, r49 = .agg #[.int .i64 n51, .int .i64 n52, x53.val] ∧
 Q (.agg #[.int .i64 n51, .int .i64 n52, x53.val]) w50) ∧
 ((decide (n46 < 0)) = false →
 Q (.agg #[.int .i64 n42, .int .i64 n43, x44.val]) w45)
theorem of57 (a_0 : Addr) (x1_0 : Sl) (x1_1 : Sl) (n_2 : Int) (v : World) (Q : Value → World → Prop) (h : vc57 a_0 x1_0 x1_1 n_2 v Q) : Trip Try.prog 57 #[.pointer (some (a_0.add 0)), .agg #[x1_0.val, x1_1.val], .int .i64 n_2] v Q :=
 trip_of_eq (args := [.pt a_0 0, .ag [.sl x1_0, .sl x1_1], .num .i64 n_2]) (A := ⟨[], [(15, [], [(2, 0, .int .i64), (2, 1, .int .i64), (2, 2, .sl)])], [], [], psG⟩) Try.func57 (by kernel_rfl) (by kernel_rfl) (by kernel_rfl : vc57 a_0 x1_0 x1_1 n_2 v Q = _) h

def vc58 (a_0 : Addr) (x1_0 : Sl) (x1_1 : Sl) (x_2 : Sl) (n_3 : Int) (v : World) (Q : Value → World → Prop) : Prop :=
 Trip Try.prog 82 #[x_2.val, .int .i64 n_3] v fun r1 w2 =>
 ∃ x3 : Sl, r1 = x3.val ∧
 ∃ J4 : Bool → World → Prop, (((decide ((x3.n : Int) > 0)) = true →
 Trip Try.prog 12 #[.pointer (some (a_0.add 0)), .int .i64 6] w2 fun r5 w6 =>
 ∃ n7 : Int, r5 = .int .i64 n7 ∧
 ((decide (n7 > 0)) = false →
 StepT Try.prog (Instr.buildSlice 27 0 #[]) w6 fun r8 w9 =>
 ∃ x10 : Sl, r8 = x10.val ∧
 ∃ q11 : Bool, ((decide (n7 > 0)) = false →
 (Trip Try.prog 83 #[.agg #[x1_0.val, x1_1.val], x10.val, .int .i64 n_3] w9 fun r12 w13 => r12 = .bool q11 ∧ Sub w9 w13)) ∧
 eqS (.sl x1_0) ∧
 eqS (.sl x1_1) ∧
 eqS (.num .i64 0) ∧
 eqS (.num .i64 0) ∧
 eqS (.sl (Sl.mk none 0 0)) ∧
 J4 ((decide (n7 > 0)) || (!q11)) w9) ∧
 ((decide (n7 > 0)) = true →
 ∃ q14 : Bool, ((decide (n7 > 0)) = false →
 (Trip Try.prog 83 #[.agg #[x1_0.val, x1_1.val], .bool false, .int .i64 n_3] w6 fun r15 w16 => r15 = .bool q14 ∧ Sub w6 w16)) ∧
 eqS (.sl x1_0) ∧
 eqS (.sl x1_1) ∧
 eqS (.num .i64 0) ∧
 eqS (.num .i64 0) ∧
 eqS (.sl (Sl.mk none 0 0)) ∧
 J4 ((decide (n7 > 0)) || (!q14)) w6)) ∧
 ((decide ((x3.n : Int) > 0)) = false →
 eqS (.sl x1_0) ∧
 eqS (.sl x1_1) ∧
 eqS (.num .i64 0) ∧
 eqS (.num .i64 0) ∧
 eqS (.sl (Sl.mk none 0 0)) ∧
 J4 false w2)) ∧
 ∀ q17 : Bool, ∀ w18 : World, J4 q17 w18 →
 (q17 = true →
 Trip Try.prog 12 #[.pointer (some (a_0.add 0)), .int .i64 (x3.n : Int)] w18 fun r19 w20 =>
 ∃ n21 : Int, r19 = .int .i64 n21 ∧
 IxOk x3 n21 ∧
 ∃ n22 : Int, w20.cell? ((elA x3 n21 1).add 0) = some (.int .i64 n22) ∧
 Trip Try.prog 35 #[.int .i64 n22] w20 fun r23 w24 =>
 ∃ n25 : Int, ∃ n26 : Int, ∃ x27 : Sl, r23 = .agg #[.int .i64 n25, .int .i64 n26, x27.val] ∧
 Q (.agg #[.int .i64 n25, .int .i64 n26, x27.val]) w24) ∧
 (q17 = false →
 Trip Try.prog 84 #[.pointer (some (a_0.add 0)), .agg #[x1_0.val, x1_1.val], .int .i64 n_3] w18 fun r28 w29 =>
 ∃ n30 : Int, ∃ n31 : Int, ∃ x32 : Sl, r28 = .agg #[.int .i64 n30, .int .i64 n31, x32.val] ∧
 Q (.agg #[.int .i64 n30, .int .i64 n31, x32.val]) w29)
theorem of58 (a_0 : Addr) (x1_0 : Sl) (x1_1 : Sl) (x_2 : Sl) (n_3 : Int) (v : World) (Q : Value → World → Prop) (h : vc58 a_0 x1_0 x1_1 x_2 n_3 v Q) : Trip Try.prog 58 #[.pointer (some (a_0.add 0)), .agg #[x1_0.val, x1_1.val], x_2.val, .int .i64 n_3] v Q :=
 trip_of_eq (args := [.pt a_0 0, .ag [.sl x1_0, .sl x1_1], .sl x_2, .num .i64 n_3]) (A := ⟨[], [(3, [(27, .bool)], [])], [], [], psG⟩) Try.func58 (by kernel_rfl) (by kernel_rfl) (by kernel_rfl : vc58 a_0 x1_0 x1_1 x_2 n_3 v Q = _) h

def vc59 (a_0 : Addr) (x1_0 : Sl) (x1_1 : Sl) (x_2 : Sl) (v : World) (Q : Value → World → Prop) : Prop :=
 StepT Try.prog (Instr.buildSlice 27 7 #[(0, (.int .i64 1)), (1, (.int .i64 1)), (2, (.int .i64 3)), (3, (.int .i64 0)), (4, (.int .i64 2)), (5, (.int .i64 4)), (6, (.int .i64 3))]) v fun r1 w2 =>
 ∃ x3 : Sl, r1 = x3.val ∧
 Trip Try.prog 14 #[.pointer (some (a_0.add 0)), x3.val] w2 fun r4 w5 =>
 ∃ n6 : Int, r4 = .int .i64 n6 ∧
 ∃ q7 : Bool, ((decide (n6 > (x1_0.n : Int))) = false →
 (Trip Try.prog 83 #[.agg #[x1_0.val, x1_1.val], x_2.val, .int .i64 n6] w5 fun r8 w9 => r8 = .bool q7 ∧ Sub w5 w9)) ∧
 (((decide (n6 > (x1_0.n : Int))) || (!q7)) = true →
 Q (.int .i64 1) w5) ∧
 (((decide (n6 > (x1_0.n : Int))) || (!q7)) = false →
 Q (.int .i64 n6) w5)
theorem of59 (a_0 : Addr) (x1_0 : Sl) (x1_1 : Sl) (x_2 : Sl) (v : World) (Q : Value → World → Prop) (h : vc59 a_0 x1_0 x1_1 x_2 v Q) : Trip Try.prog 59 #[.pointer (some (a_0.add 0)), .agg #[x1_0.val, x1_1.val], x_2.val] v Q :=
 trip_of_eq (args := [.pt a_0 0, .ag [.sl x1_0, .sl x1_1], .sl x_2]) (A := ⟨[], [], [], [], psG⟩) Try.func59 (by kernel_rfl) (by kernel_rfl) (by kernel_rfl : vc59 a_0 x1_0 x1_1 x_2 v Q = _) h

def vc60 (a_0 : Addr) (x1_0 : Sl) (x1_1 : Sl) (x_2 : Sl) (x_3 : Sl) (n_4 : Int) (v : World) (Q : Value → World → Prop) : Prop :=
 StepT Try.prog (Instr.buildSlice 28 0 #[]) v fun r1 w2 =>
 ∃ x3 : Sl, r1 = x3.val ∧
 ∃ I4 : Sl → Int → World → Prop, ∃ m5 : Sl → Int → World → Nat, I4 x3 0 w2 ∧
 ∀ x6 : Sl, ∀ n7 : Int, ∀ w8 : World, I4 x6 n7 w8 →
 ((decide (n7 < (x_3.n : Int))) = true →
 IxOk x_3 n7 ∧
 ∃ n9 : Int, w8.cell? ((elA x_3 n7 1).add 0) = some (.int .i64 n9) ∧
 ∃ n10 : Int, (((x_3.n : Int) : Int) ≠ 0 ∧ Wr .i64 (Int.tdiv n_4 (x_3.n : Int)) n10) ∧
 Trip Try.prog 31 #[.pointer (some (a_0.add 0)), .agg #[x1_0.val, x1_1.val], x_2.val, .int .i64 n9, .int .i64 n10] w8 fun r11 w12 =>
 ∃ n13 : Int, ∃ n14 : Int, ∃ x15 : Sl, r11 = .agg #[.int .i64 n13, .int .i64 n14, x15.val] ∧
 StepT Try.prog (Instr.buildSlice 28 1 #[(0, (.agg #[.int .i64 n13, .int .i64 n14, x15.val]))]) w12 fun r16 w17 =>
 ∃ x18 : Sl, r16 = x18.val ∧
 StepT Try.prog (Builtin.append_ #[28, 28] 28 #[(x6.val), (x18.val)]) w17 fun r19 w20 =>
 ∃ x21 : Sl, r19 = x21.val ∧
 ∃ n22 : Int, Wr .i64 (n7 + 1) n22 ∧
 eqS (.sl x1_0) ∧
 eqS (.sl x1_1) ∧
 I4 x21 n22 w20 ∧
 m5 x21 n22 w20 < m5 x6 n7 w8) ∧
 ((decide (n7 < (x_3.n : Int))) = false →
 Q (x6.val) w8)
theorem of60 (a_0 : Addr) (x1_0 : Sl) (x1_1 : Sl) (x_2 : Sl) (x_3 : Sl) (n_4 : Int) (v : World) (Q : Value → World → Prop) (h : vc60 a_0 x1_0 x1_1 x_2 x_3 n_4 v Q) : Trip Try.prog 60 #[.pointer (some (a_0.add 0)), .agg #[x1_0.val, x1_1.val], x_2.val, x_3.val, .int .i64 n_4] v Q :=
 trip_of_eq (args := [.pt a_0 0, .ag [.sl x1_0, .sl x1_1], .sl x_2, .sl x_3, .num .i64 n_4]) (A := ⟨[(3, [(11, .sl), (12, .int .i64)], [])], [], [(5, [])], [], psG⟩) Try.func60 (by kernel_rfl) (by kernel_rfl) (by kernel_rfl : vc60 a_0 x1_0 x1_1 x_2 x_3 n_4 v Q = _) h

def vc61 (a_0 : Addr) (x1_0 : Sl) (x1_1 : Sl) (x_2 : Sl) (n_3 : Int) (n_4 : Int) (v : World) (Q : Value → World → Prop) : Prop :=
 StepT Try.prog (Instr.buildSlice 27 4 #[(0, (.int .i64 1)), (1, (.int .i64 1)), (2, (.int .i64 3)), (3, (.int .i64 4))]) v fun r1 w2 =>
 ∃ x3 : Sl, r1 = x3.val ∧
 Trip Try.prog 14 #[.pointer (some (a_0.add 0)), x3.val] w2 fun r4 w5 =>
 ∃ n6 : Int, r4 = .int .i64 n6 ∧
 ∃ q7 : Bool, ((decide (n6 > (x1_0.n : Int))) = false →
 (Trip Try.prog 54 #[x1_0.val, .int .i64 n6] w5 fun r8 w9 => r8 = .bool q7 ∧ Sub w5 w9)) ∧
 (((decide (n6 > (x1_0.n : Int))) || q7) = true →
 Trip Try.prog 75 #[x1_0.val, .int .i64 1] w5 fun r10 w11 =>
 ∃ x12 : Sl, r10 = x12.val ∧
 Trip Try.prog 58 #[.pointer (some (a_0.add 0)), .agg #[x1_0.val, x1_1.val], x_2.val, .int .i64 1] w11 fun r13 w14 =>
 ∃ n15 : Int, ∃ n16 : Int, ∃ x17 : Sl, r13 = .agg #[.int .i64 n15, .int .i64 n16, x17.val] ∧
 StepT Try.prog (Instr.buildSlice 28 1 #[(0, (.agg #[.int .i64 n15, .int .i64 n16, x17.val]))]) w14 fun r18 w19 =>
 ∃ x20 : Sl, r18 = x20.val ∧
 ∃ I21 : Sl → Int → World → Prop, ∃ m22 : Sl → Int → World → Nat, I21 x20 0 w19 ∧
 ∀ x23 : Sl, ∀ n24 : Int, ∀ w25 : World, I21 x23 n24 w25 →
 ((decide (n24 < (x12.n : Int))) = true →
 IxOk x12 n24 ∧
 ∃ n26 : Int, w25.cell? ((elA x12 n24 1).add 0) = some (.int .i64 n26) ∧
 ∃ n27 : Int, Wr .i64 (n_4 - 2) n27 ∧
 ∃ n28 : Int, (((x12.n : Int) : Int) ≠ 0 ∧ Wr .i64 (Int.tdiv n27 (x12.n : Int)) n28) ∧
 Trip Try.prog 51 #[x1_0.val, .int .i64 n26] w25 fun r29 w30 =>
 ∃ x31 : Sl, r29 = x31.val ∧
 Sub w25 w30 ∧
 Trip Try.prog 36 #[x_2.val, x31.val] w30 fun r32 w33 =>
 ∃ x34 : Sl, r32 = x34.val ∧
 Sub w30 w33 ∧
 Trip Try.prog 31 #[.pointer (some (a_0.add 0)), .agg #[x1_0.val, x1_1.val], x34.val, .int .i64 n_3, .int .i64 n28] w33 fun r35 w36 =>
 ∃ n37 : Int, ∃ n38 : Int, ∃ x39 : Sl, r35 = .agg #[.int .i64 n37, .int .i64 n38, x39.val] ∧
 StepT Try.prog (Instr.buildSlice 28 1 #[(0, (.agg #[.int .i64 n37, .int .i64 n38, x39.val]))]) w36 fun r40 w41 =>
 ∃ x42 : Sl, r40 = x42.val ∧
 StepT Try.prog (Builtin.append_ #[28, 28] 28 #[(x23.val), (x42.val)]) w41 fun r43 w44 =>
 ∃ x45 : Sl, r43 = x45.val ∧
 ∃ n46 : Int, Wr .i64 (n24 + 1) n46 ∧
 eqS (.sl x1_0) ∧
 eqS (.sl x1_1) ∧
 eqS (.num .i64 0) ∧
 eqS (.num .i64 0) ∧
 eqS (.sl (Sl.mk none 0 0)) ∧
 I21 x45 n46 w44 ∧
 m22 x45 n46 w44 < m22 x23 n24 w25) ∧
 ((decide (n24 < (x12.n : Int))) = false →
 Trip Try.prog 33 #[.int .i64 8, .int .i64 1, x23.val] w25 fun r47 w48 =>
 ∃ n49 : Int, ∃ n50 : Int, ∃ x51 : Sl, r47 = .agg #[.int .i64 n49, .int .i64 n50, x51.val] ∧
 Q (.agg #[.int .i64 n49, .int .i64 n50, x51.val]) w48)) ∧
 (((decide (n6 > (x1_0.n : Int))) || q7) = false →
 Trip Try.prog 75 #[x1_0.val, .int .i64 n6] w5 fun r52 w53 =>
 ∃ x54 : Sl, r52 = x54.val ∧
 Trip Try.prog 58 #[.pointer (some (a_0.add 0)), .agg #[x1_0.val, x1_1.val], x_2.val, .int .i64 n6] w53 fun r55 w56 =>
 ∃ n57 : Int, ∃ n58 : Int, ∃ x59 : Sl, r55 = .agg #[.int .i64 n57, .int .i64 n58, x59.val] ∧
 StepT Try.prog (Instr.buildSlice 28 1 #[(0, (.agg #[.int .i64 n57, .int .i64 n58, x59.val]))]) w56 fun r60 w61 =>
 ∃ x62 : Sl, r60 = x62.val ∧
 ∃ I63 : Sl → Int → World → Prop, ∃ m64 : Sl → Int → World → Nat, I63 x62 0 w61 ∧
 ∀ x65 : Sl, ∀ n66 : Int, ∀ w67 : World, I63 x65 n66 w67 →
 ((decide (n66 < (x54.n : Int))) = true →
 IxOk x54 n66 ∧
 ∃ n68 : Int, w67.cell? ((elA x54 n66 1).add 0) = some (.int .i64 n68) ∧
 ∃ n69 : Int, Wr .i64 (n_4 - 2) n69 ∧
 ∃ n70 : Int, (((x54.n : Int) : Int) ≠ 0 ∧ Wr .i64 (Int.tdiv n69 (x54.n : Int)) n70) ∧
 Trip Try.prog 51 #[x1_0.val, .int .i64 n68] w67 fun r71 w72 =>
 ∃ x73 : Sl, r71 = x73.val ∧
 Sub w67 w72 ∧
 Trip Try.prog 36 #[x_2.val, x73.val] w72 fun r74 w75 =>
 ∃ x76 : Sl, r74 = x76.val ∧
 Sub w72 w75 ∧
 Trip Try.prog 31 #[.pointer (some (a_0.add 0)), .agg #[x1_0.val, x1_1.val], x76.val, .int .i64 n_3, .int .i64 n70] w75 fun r77 w78 =>
 ∃ n79 : Int, ∃ n80 : Int, ∃ x81 : Sl, r77 = .agg #[.int .i64 n79, .int .i64 n80, x81.val] ∧
 StepT Try.prog (Instr.buildSlice 28 1 #[(0, (.agg #[.int .i64 n79, .int .i64 n80, x81.val]))]) w78 fun r82 w83 =>
 ∃ x84 : Sl, r82 = x84.val ∧
 StepT Try.prog (Builtin.append_ #[28, 28] 28 #[(x65.val), (x84.val)]) w83 fun r85 w86 =>
 ∃ x87 : Sl, r85 = x87.val ∧
 ∃ n88 : Int, Wr .i64 (n66 + 1) n88 ∧
 eqS (.sl x1_0) ∧
 eqS (.sl x1_1) ∧
 eqS (.num .i64 0) ∧
 eqS (.num .i64 0) ∧
 eqS (.sl (Sl.mk none 0 0)) ∧
 I63 x87 n88 w86 ∧
 m64 x87 n88 w86 < m64 x65 n66 w67) ∧
 ((decide (n66 < (x54.n : Int))) = false →
 Trip Try.prog 33 #[.int .i64 8, .int .i64 n6, x65.val] w67 fun r89 w90 =>
 ∃ n91 : Int, ∃ n92 : Int, ∃ x93 : Sl, r89 = .agg #[.int .i64 n91, .int .i64 n92, x93.val] ∧
 Q (.agg #[.int .i64 n91, .int .i64 n92, x93.val]) w90))
theorem of61 (a_0 : Addr) (x1_0 : Sl) (x1_1 : Sl) (x_2 : Sl) (n_3 : Int) (n_4 : Int) (v : World) (Q : Value → World → Prop) (h : vc61 a_0 x1_0 x1_1 x_2 n_3 n_4 v Q) : Trip Try.prog 61 #[.pointer (some (a_0.add 0)), .agg #[x1_0.val, x1_1.val], x_2.val, .int .i64 n_3, .int .i64 n_4] v Q :=
 trip_of_eq (args := [.pt a_0 0, .ag [.sl x1_0, .sl x1_1], .sl x_2, .num .i64 n_3, .num .i64 n_4]) (A := ⟨[(7, [(13, .sl), (14, .int .i64)], [])], [], [(9, [10, 11])], [], psG⟩) Try.func61 (by kernel_rfl) (by kernel_rfl) (by kernel_rfl : vc61 a_0 x1_0 x1_1 x_2 n_3 n_4 v Q = _) h

def vc62 (x0_0 : Sl) (x0_1 : Sl) (n_1 : Int) (v : World) (Q : Value → World → Prop) : Prop :=
 StepT Try.prog (Instr.buildSlice 27 0 #[]) v fun r1 w2 =>
 ∃ x3 : Sl, r1 = x3.val ∧
 ∃ I4 : Sl → Int → World → Prop, ∃ m5 : Sl → Int → World → Nat, I4 x3 1 w2 ∧
 ∀ x6 : Sl, ∀ n7 : Int, ∀ w8 : World, I4 x6 n7 w8 →
 ((decide (n7 < (x0_1.n : Int))) = true →
 IxOk x0_1 n7 ∧
 ∃ n9 : Int, w8.cell? ((elA x0_1 n7 5).add 1) = some (.int .i64 n9) ∧
 ∃ I10 : Bool → Int → World → Prop, ∃ m11 : Bool → Int → World → Nat, I10 (decide (n9 = n_1)) 0 w8 ∧
 ∀ q12 : Bool, ∀ n13 : Int, ∀ w14 : World, I10 q12 n13 w14 →
 IxOk x0_1 n7 ∧
 ∃ x15 : Sl, w14.cell? ((elA x0_1 n7 5).add 0) = some (x15.val) ∧
 ((decide (n13 < (x15.n : Int))) = true →
 (q12 = true →
 IxOk x0_1 n7) ∧
 ∃ x16 : Sl, (q12 = true →
 w14.cell? ((elA x0_1 n7 5).add 0) = some (x16.val)) ∧
 (q12 = true →
 IxOk x16 n13) ∧
 ∃ n17 : Int, (q12 = true →
 w14.cell? ((elA x16 n13 1).add 0) = some (.int .i64 n17)) ∧
 (q12 = true →
 StepT Try.prog (Instr.buildSlice 27 0 #[]) w14 fun r18 w19 =>
 ∃ x20 : Sl, r18 = x20.val ∧
 Sub w14 w19 ∧
 ∃ q21 : Bool, (Trip Try.prog 83 #[.agg #[x0_0.val, x0_1.val], x20.val, .int .i64 n17] w19 fun r22 w23 => r22 = .bool q21 ∧ Sub w19 w23) ∧
 ∃ n24 : Int, Wr .i64 (n13 + 1) n24 ∧
 eqS (.sl x0_0) ∧
 eqS (.sl x0_1) ∧
 I10 q21 n24 w19 ∧
 m11 q21 n24 w19 < m11 q12 n13 w14) ∧
 (q12 = false →
 Sub w14 w14 ∧
 ∃ n25 : Int, Wr .i64 (n13 + 1) n25 ∧
 eqS (.sl x0_0) ∧
 eqS (.sl x0_1) ∧
 I10 false n25 w14 ∧
 m11 false n25 w14 < m11 q12 n13 w14)) ∧
 ((decide (n13 < (x15.n : Int))) = false →
 (q12 = true →
 StepT Try.prog (Instr.buildSlice 27 1 #[(0, (.int .i64 n7))]) w14 fun r26 w27 =>
 ∃ x28 : Sl, r26 = x28.val ∧
 StepT Try.prog (Builtin.append_ #[27, 27] 27 #[(x6.val), (x28.val)]) w27 fun r29 w30 =>
 ∃ x31 : Sl, r29 = x31.val ∧
 ∃ n32 : Int, Wr .i64 (n7 + 1) n32 ∧
 eqS (.sl x0_0) ∧
 eqS (.sl x0_1) ∧
 I4 x31 n32 w30 ∧
 m5 x31 n32 w30 < m5 x6 n7 w8) ∧
 (q12 = false →
 ∃ n33 : Int, Wr .i64 (n7 + 1) n33 ∧
 eqS (.sl x0_0) ∧
 eqS (.sl x0_1) ∧
 I4 x6 n33 w14 ∧
 m5 x6 n33 w14 < m5 x6 n7 w8))) ∧
 ((decide (n7 < (x0_1.n : Int))) = false →
 Q (x6.val) w8)
theorem of62 (x0_0 : Sl) (x0_1 : Sl) (n_1 : Int) (v : World) (Q : Value → World → Prop) (h : vc62 x0_0 x0_1 n_1 v Q) : Trip Try.prog 62 #[.agg #[x0_0.val, x0_1.val], .int .i64 n_1] v Q :=
 trip_of_eq (args := [.ag [.sl x0_0, .sl x0_1], .num .i64 n_1]) (A := ⟨[(3, [(5, .sl), (6, .int .i64)], []), (7, [(7, .bool), (8, .int .i64)], [])], [], [(9, [3])], [], psG⟩) Try.func62 (by kernel_rfl) (by kernel_rfl) (by kernel_rfl : vc62 x0_0 x0_1 n_1 v Q = _) h

def vc63 (a_0 : Addr) (x1_0 : Sl) (x1_1 : Sl) (x_2 : Sl) (n_3 : Int) (n_4 : Int) (v : World) (Q : Value → World → Prop) : Prop :=
 ∃ J1 : World → Prop, (Trip Try.prog 12 #[.pointer (some (a_0.add 0)), .int .i64 4] v fun r2 w3 =>
 ∃ n4 : Int, r2 = .int .i64 n4 ∧
 ((decide (n4 = 0)) = true →
 ∃ I5 : Int → World → Prop, ∃ m6 : Int → World → Nat, I5 1 w3 ∧
 ∀ n7 : Int, ∀ w8 : World, I5 n7 w8 →
 ((decide (n7 ≤ (x1_0.n : Int))) = true →
 ∃ q9 : Bool, (Trip Try.prog 54 #[x1_0.val, .int .i64 n7] w8 fun r10 w11 => r10 = .bool q9 ∧ Sub w8 w11) ∧
 ∃ n12 : Int, (q9 = true →
 Wr .i64 (n7 - 1) n12) ∧
 (q9 = true →
 IxOk x1_0 n12) ∧
 ∃ n13 : Int, (q9 = true →
 w8.cell? ((elA x1_0 n12 3).add 1) = some (.int .i64 n13)) ∧
 ∃ q14 : Bool, ((q9 && (decide (n13 = n_3))) = true →
 (Trip Try.prog 83 #[.agg #[x1_0.val, x1_1.val], x_2.val, .int .i64 n7] w8 fun r15 w16 => r15 = .bool q14 ∧ Sub w8 w16)) ∧
 (((q9 && (decide (n13 = n_3))) && q14) = true →
 ∃ n17 : Int, Wr .i64 (n7 - 1) n17 ∧
 ∃ n18 : Int, Wr .i64 (n_4 - 2) n18 ∧
 (Trip Try.prog 58 #[.pointer (some (a_0.add 0)), .agg #[x1_0.val, x1_1.val], x_2.val, .int .i64 n7] w8 fun r19 w20 =>
 ∃ n21 : Int, ∃ n22 : Int, ∃ x23 : Sl, r19 = .agg #[.int .i64 n21, .int .i64 n22, x23.val] ∧
 IxOk x1_0 n17 ∧
 ∃ n24 : Int, w20.cell? ((elA x1_0 n17 3).add 0) = some (.int .i64 n24) ∧
 Trip Try.prog 31 #[.pointer (some (a_0.add 0)), .agg #[x1_0.val, x1_1.val], x_2.val, .int .i64 n24, .int .i64 n18] w20 fun r25 w26 =>
 ∃ n27 : Int, ∃ n28 : Int, ∃ x29 : Sl, r25 = .agg #[.int .i64 n27, .int .i64 n28, x29.val] ∧
 StepT Try.prog (Instr.buildSlice 28 2 #[(0, (.agg #[.int .i64 n21, .int .i64 n22, x23.val])), (1, (.agg #[.int .i64 n27, .int .i64 n28, x29.val]))]) w26 fun r30 w31 =>
 ∃ x32 : Sl, r30 = x32.val ∧
 Trip Try.prog 33 #[.int .i64 11, .int .i64 0, x32.val] w31 fun r33 w34 =>
 ∃ n35 : Int, ∃ n36 : Int, ∃ x37 : Sl, r33 = .agg #[.int .i64 n35, .int .i64 n36, x37.val] ∧
 Q (.agg #[.int .i64 n35, .int .i64 n36, x37.val]) w34) ∧
 IxOk x1_0 n17 ∧
 (Trip Try.prog 58 #[.pointer (some (a_0.add 0)), .agg #[x1_0.val, x1_1.val], x_2.val, .int .i64 n7] w8 fun r38 w39 =>
 ∃ n40 : Int, ∃ n41 : Int, ∃ x42 : Sl, r38 = .agg #[.int .i64 n40, .int .i64 n41, x42.val] ∧
 ∃ n43 : Int, w39.cell? ((elA x1_0 n17 3).add 0) = some (.int .i64 n43) ∧
 Trip Try.prog 31 #[.pointer (some (a_0.add 0)), .agg #[x1_0.val, x1_1.val], x_2.val, .int .i64 n43, .int .i64 n18] w39 fun r44 w45 =>
 ∃ n46 : Int, ∃ n47 : Int, ∃ x48 : Sl, r44 = .agg #[.int .i64 n46, .int .i64 n47, x48.val] ∧
 StepT Try.prog (Instr.buildSlice 28 2 #[(0, (.agg #[.int .i64 n40, .int .i64 n41, x42.val])), (1, (.agg #[.int .i64 n46, .int .i64 n47, x48.val]))]) w45 fun r49 w50 =>
 ∃ x51 : Sl, r49 = x51.val ∧
 Trip Try.prog 33 #[.int .i64 11, .int .i64 0, x51.val] w50 fun r52 w53 =>
 ∃ n54 : Int, ∃ n55 : Int, ∃ x56 : Sl, r52 = .agg #[.int .i64 n54, .int .i64 n55, x56.val] ∧
 Q (.agg #[.int .i64 n54, .int .i64 n55, x56.val]) w53) ∧
 ∃ n57 : Int, w8.cell? ((elA x1_0 n17 3).add 0) = some (.int .i64 n57) ∧
 Trip Try.prog 58 #[.pointer (some (a_0.add 0)), .agg #[x1_0.val, x1_1.val], x_2.val, .int .i64 n7] w8 fun r58 w59 =>
 ∃ n60 : Int, ∃ n61 : Int, ∃ x62 : Sl, r58 = .agg #[.int .i64 n60, .int .i64 n61, x62.val] ∧
 Trip Try.prog 31 #[.pointer (some (a_0.add 0)), .agg #[x1_0.val, x1_1.val], x_2.val, .int .i64 n57, .int .i64 n18] w59 fun r63 w64 =>
 ∃ n65 : Int, ∃ n66 : Int, ∃ x67 : Sl, r63 = .agg #[.int .i64 n65, .int .i64 n66, x67.val] ∧
 StepT Try.prog (Instr.buildSlice 28 2 #[(0, (.agg #[.int .i64 n60, .int .i64 n61, x62.val])), (1, (.agg #[.int .i64 n65, .int .i64 n66, x67.val]))]) w64 fun r68 w69 =>
 ∃ x70 : Sl, r68 = x70.val ∧
 Trip Try.prog 33 #[.int .i64 11, .int .i64 0, x70.val] w69 fun r71 w72 =>
 ∃ n73 : Int, ∃ n74 : Int, ∃ x75 : Sl, r71 = .agg #[.int .i64 n73, .int .i64 n74, x75.val] ∧
 Q (.agg #[.int .i64 n73, .int .i64 n74, x75.val]) w72) ∧
 (((q9 && (decide (n13 = n_3))) && q14) = false →
 ∃ n76 : Int, Wr .i64 (n7 + 1) n76 ∧
 eqS (.sl x1_0) ∧
 eqS (.sl x1_1) ∧
 eqS (.num .i64 0) ∧
 eqS (.num .i64 0) ∧
 eqS (.sl (Sl.mk none 0 0)) ∧
 I5 n76 w8 ∧
 m6 n76 w8 < m6 n7 w8)) ∧
 ((decide (n7 ≤ (x1_0.n : Int))) = false →
 eqS (.sl x1_0) ∧
 eqS (.sl x1_1) ∧
 eqS (.num .i64 0) ∧
 eqS (.num .i64 0) ∧
 eqS (.sl (Sl.mk none 0 0)) ∧
 J1 w8)) ∧
 ((decide (n4 = 0)) = false →
 eqS (.sl x1_0) ∧
 eqS (.sl x1_1) ∧
 eqS (.num .i64 0) ∧
 eqS (.num .i64 0) ∧
 eqS (.sl (Sl.mk none 0 0)) ∧
 J1 w3)) ∧
 ∀ w77 : World, J1 w77 →
 Trip Try.prog 75 #[x1_0.val, .int .i64 n_3] w77 fun r78 w79 =>
 ∃ x80 : Sl, r78 = x80.val ∧
 ((decide ((x80.n : Int) > 0)) = true →
 Trip Try.prog 12 #[.pointer (some (a_0.add 0)), .int .i64 (x80.n : Int)] w79 fun r81 w82 =>
 ∃ n83 : Int, r81 = .int .i64 n83 ∧
 IxOk x80 n83 ∧
 ∃ n84 : Int, w82.cell? ((elA x80 n83 1).add 0) = some (.int .i64 n84) ∧
 ∃ n85 : Int, Wr .i64 (n_4 - 1) n85 ∧
 Trip Try.prog 51 #[x1_0.val, .int .i64 n84] w82 fun r86 w87 =>
 ∃ x88 : Sl, r86 = x88.val ∧
 Sub w82 w87 ∧
 Trip Try.prog 60 #[.pointer (some (a_0.add 0)), .agg #[x1_0.val, x1_1.val], x_2.val, x88.val, .int .i64 n85] w87 fun r89 w90 =>
 ∃ x91 : Sl, r89 = x91.val ∧
 Trip Try.prog 33 #[.int .i64 6, .int .i64 n84, x91.val] w90 fun r92 w93 =>
 ∃ n94 : Int, ∃ n95 : Int, ∃ x96 : Sl, r92 = .agg #[.int .i64 n94, .int .i64 n95, x96.val] ∧
 Q (.agg #[.int .i64 n94, .int .i64 n95, x96.val]) w93) ∧
 ((decide ((x80.n : Int) > 0)) = false →
 ((decide (n_3 > 0)) = true →
 Trip Try.prog 58 #[.pointer (some (a_0.add 0)), .agg #[x1_0.val, x1_1.val], x_2.val, .int .i64 n_3] w79 fun r97 w98 =>
 ∃ n99 : Int, ∃ n100 : Int, ∃ x101 : Sl, r97 = .agg #[.int .i64 n99, .int .i64 n100, x101.val] ∧
 Q (.agg #[.int .i64 n99, .int .i64 n100, x101.val]) w98) ∧
 ((decide (n_3 > 0)) = false →
 Trip Try.prog 12 #[.pointer (some (a_0.add 0)), .int .i64 3] w79 fun r102 w103 =>
 ∃ n104 : Int, r102 = .int .i64 n104 ∧
 ((decide (n104 = 0)) = true →
 StepT Try.prog (Instr.buildSlice 27 1 #[(0, (.int .i64 0))]) w103 fun r105 w106 =>
 ∃ x107 : Sl, r105 = x107.val ∧
 ∃ n108 : Int, Wr .i64 (n_4 - 1) n108 ∧
 Trip Try.prog 60 #[.pointer (some (a_0.add 0)), .agg #[x1_0.val, x1_1.val], x_2.val, x107.val, .int .i64 n108] w106 fun r109 w110 =>
 ∃ x111 : Sl, r109 = x111.val ∧
 Trip Try.prog 33 #[.int .i64 5, .int .i64 0, x111.val] w110 fun r112 w113 =>
 ∃ n114 : Int, ∃ n115 : Int, ∃ x116 : Sl, r112 = .agg #[.int .i64 n114, .int .i64 n115, x116.val] ∧
 Q (.agg #[.int .i64 n114, .int .i64 n115, x116.val]) w113) ∧
 ((decide (n104 = 0)) = false →
 ∃ n117 : Int, Wr .i64 (n_4 - 1) n117 ∧
 (StepT Try.prog (Instr.buildSlice 27 4 #[(0, (.int .i64 1)), (1, (.int .i64 2)), (2, (.int .i64 3)), (3, (.int .i64 4))]) w103 fun r118 w119 =>
 ∃ x120 : Sl, r118 = x120.val ∧
 (Trip Try.prog 14 #[.pointer (some (a_0.add 0)), x120.val] w119 fun r121 w122 =>
 ∃ n123 : Int, r121 = .int .i64 n123 ∧
 StepT Try.prog (Instr.buildSlice 27 2 #[(0, (.int .i64 0)), (1, (.int .i64 0))]) w122 fun r124 w125 =>
 ∃ x126 : Sl, r124 = x126.val ∧
 Trip Try.prog 60 #[.pointer (some (a_0.add 0)), .agg #[x1_0.val, x1_1.val], x_2.val, x126.val, .int .i64 n117] w125 fun r127 w128 =>
 ∃ x129 : Sl, r127 = x129.val ∧
 Trip Try.prog 33 #[.int .i64 n123, .int .i64 0, x129.val] w128 fun r130 w131 =>
 ∃ n132 : Int, ∃ n133 : Int, ∃ x134 : Sl, r130 = .agg #[.int .i64 n132, .int .i64 n133, x134.val] ∧
 Q (.agg #[.int .i64 n132, .int .i64 n133, x134.val]) w131) ∧
 StepT Try.prog (Instr.buildSlice 27 2 #[(0, (.int .i64 0)), (1, (.int .i64 0))]) w119 fun r135 w136 =>
 ∃ x137 : Sl, r135 = x137.val ∧
 Trip Try.prog 14 #[.pointer (some (a_0.add 0)), x120.val] w136 fun r138 w139 =>
 ∃ n140 : Int, r138 = .int .i64 n140 ∧
 Trip Try.prog 60 #[.pointer (some (a_0.add 0)), .agg #[x1_0.val, x1_1.val], x_2.val, x137.val, .int .i64 n117] w139 fun r141 w142 =>
 ∃ x143 : Sl, r141 = x143.val ∧
 Trip Try.prog 33 #[.int .i64 n140, .int .i64 0, x143.val] w142 fun r144 w145 =>
 ∃ n146 : Int, ∃ n147 : Int, ∃ x148 : Sl, r144 = .agg #[.int .i64 n146, .int .i64 n147, x148.val] ∧
 Q (.agg #[.int .i64 n146, .int .i64 n147, x148.val]) w145) ∧
 StepT Try.prog (Instr.buildSlice 27 2 #[(0, (.int .i64 0)), (1, (.int .i64 0))]) w103 fun r149 w150 =>
 ∃ x151 : Sl, r149 = x151.val ∧
 StepT Try.prog (Instr.buildSlice 27 4 #[(0, (.int .i64 1)), (1, (.int .i64 2)), (2, (.int .i64 3)), (3, (.int .i64 4))]) w150 fun r152 w153 =>
 ∃ x154 : Sl, r152 = x154.val ∧
 Trip Try.prog 14 #[.pointer (some (a_0.add 0)), x154.val] w153 fun r155 w156 =>
 ∃ n157 : Int, r155 = .int .i64 n157 ∧
 Trip Try.prog 60 #[.pointer (some (a_0.add 0)), .agg #[x1_0.val, x1_1.val], x_2.val, x151.val, .int .i64 n117] w156 fun r158 w159 =>
 ∃ x160 : Sl, r158 = x160.val ∧
 Trip Try.prog 33 #[.int .i64 n157, .int .i64 0, x160.val] w159 fun r161 w162 =>
 ∃ n163 : Int, ∃ n164 : Int, ∃ x165 : Sl, r161 = .agg #[.int .i64 n163, .int .i64 n164, x165.val] ∧
 Q (.agg #[.int .i64 n163, .int .i64 n164, x165.val]) w162)))
theorem of63 (a_0 : Addr) (x1_0 : Sl) (x1_1 : Sl) (x_2 : Sl) (n_3 : Int) (n_4 : Int) (v : World) (Q : Value → World → Prop) (h : vc63 a_0 x1_0 x1_1 x_2 n_3 n_4 v Q) : Trip Try.prog 63 #[.pointer (some (a_0.add 0)), .agg #[x1_0.val, x1_1.val], x_2.val, .int .i64 n_3, .int .i64 n_4] v Q :=
 trip_of_eq (args := [.pt a_0 0, .ag [.sl x1_0, .sl x1_1], .sl x_2, .num .i64 n_3, .num .i64 n_4]) (A := ⟨[(3, [(11, .int .i64)], [])], [(7, [], [])], [(6, []), (10, [7]), (15, [])], [], psG⟩) Try.func63 (by kernel_rfl) (by kernel_rfl) (by kernel_rfl : vc63 a_0 x1_0 x1_1 x_2 n_3 n_4 v Q = _) h

def vc64 (n0_0 : Int) (n0_1 : Int) (x0_2 : Sl) (v : World) (Q : Value → World → Prop) : Prop :=
 Trip Try.prog 32 #[x0_2.val] v fun r1 w2 =>
 ∃ x3 : Sl, r1 = x3.val ∧
 Sub v w2 ∧
 Q (.agg #[.int .i64 n0_0, .int .i64 n0_1, x3.val]) w2
theorem of64 (n0_0 : Int) (n0_1 : Int) (x0_2 : Sl) (v : World) (Q : Value → World → Prop) (h : vc64 n0_0 n0_1 x0_2 v Q) : Trip Try.prog 64 #[.agg #[.int .i64 n0_0, .int .i64 n0_1, x0_2.val]] v Q :=
 trip_of_eq (args := [.ag [.num .i64 n0_0, .num .i64 n0_1, .sl x0_2]]) (A := ⟨[], [], [(1, [6])], [], psG⟩) Try.func64 (by kernel_rfl) (by kernel_rfl) (by kernel_rfl : vc64 n0_0 n0_1 x0_2 v Q = _) h

def vc65 (x_0 : Sl) (v : World) (Q : Value → World → Prop) : Prop :=
 Q (.agg #[x_0.val]) v
theorem of65 (x_0 : Sl) (v : World) (Q : Value → World → Prop) (h : vc65 x_0 v Q) : Trip Try.prog 65 #[x_0.val] v Q :=
 trip_of_eq (args := [.sl x_0]) (A := ⟨[], [], [], [], psG⟩) Try.func65 (by kernel_rfl) (by kernel_rfl) (by kernel_rfl : vc65 x_0 v Q = _) h

def vc66 (x_0 : Sl) (v : World) (Q : Value → World → Prop) : Prop :=
 ((decide ((x_0.n : Int) > 4)) = true →
 Q (.bool false) v) ∧
 ((decide ((x_0.n : Int) > 4)) = false →
 ∃ I1 : Int → World → Prop, ∃ m2 : Int → World → Nat, I1 0 v ∧
 ∀ n3 : Int, ∀ w4 : World, I1 n3 w4 →
 ((decide (n3 < (x_0.n : Int))) = true →
 IxOk x_0 n3 ∧
 ldT w4 x_0 n3 fun n5 n6 x7 =>
 ∃ q8 : Bool, (Trip Try.prog 40 #[x_0.val, .int .i64 n5] w4 fun r9 w10 => r9 = .bool q8 ∧ Sub w4 w10) ∧
 ∃ q11 : Bool, ((!q8) = false →
 (Trip Try.prog 40 #[x_0.val, .int .i64 n6] w4 fun r12 w13 => r12 = .bool q11 ∧ Sub w4 w13)) ∧
 (((((!q8) || (!q11)) || (decide ((x7.n : Int) > 3))) || ((decide ((x7.n : Int) > 0)) && ((!decide (n5 = 0)) || (!decide (n6 = 0))))) = true →
 Q (.bool false) w4) ∧
 (((((!q8) || (!q11)) || (decide ((x7.n : Int) > 3))) || ((decide ((x7.n : Int) > 0)) && ((!decide (n5 = 0)) || (!decide (n6 = 0))))) = false →
 ∃ I14 : Int → World → Prop, ∃ m15 : Int → World → Nat, I14 0 w4 ∧
 ∀ n16 : Int, ∀ w17 : World, I14 n16 w17 →
 ((decide (n16 < (x7.n : Int))) = true →
 IxOk x7 n16 ∧
 ∃ x18 : Sl, w17.cell? ((elA x7 n16 1).add 0) = some (x18.val) ∧
 ∃ q19 : Bool, ((decide ((x18.n : Int) > 3)) = false →
 (Trip Try.prog 19 #[x_0.val, x18.val] w17 fun r20 w21 => r20 = .bool q19 ∧ Sub w17 w21)) ∧
 (((decide ((x18.n : Int) > 3)) || (!q19)) = true →
 Q (.bool false) w17) ∧
 (((decide ((x18.n : Int) > 3)) || (!q19)) = false →
 ∃ n22 : Int, Wr .i64 (n16 + 1) n22 ∧
 eqS (.num .i64 n5) ∧
 eqS (.num .i64 n6) ∧
 eqS (.sl x7) ∧
 I14 n22 w17 ∧
 m15 n22 w17 < m15 n16 w17)) ∧
 ((decide (n16 < (x7.n : Int))) = false →
 CutOk x_0 0 n3 ∧
 ∃ I23 : Int → World → Prop, ∃ m24 : Int → World → Nat, I23 0 w17 ∧
 ∀ n25 : Int, ∀ w26 : World, I23 n25 w26 →
 ((decide (n25 < ((x_0.cut 0 n3 3).n : Int))) = true →
 IxOk (x_0.cut 0 n3 3) n25 ∧
 ldT w26 (x_0.cut 0 n3 3) n25 fun n27 n28 x29 =>
 (((((decide ((x7.n : Int) = 0)) && (decide ((x29.n : Int) = 0))) && (decide (n27 = n5))) && (decide (n28 = n6))) = true →
 Q (.bool false) w26) ∧
 (((((decide ((x7.n : Int) = 0)) && (decide ((x29.n : Int) = 0))) && (decide (n27 = n5))) && (decide (n28 = n6))) = false →
 ∃ n30 : Int, Wr .i64 (n25 + 1) n30 ∧
 eqS (.num .i64 n5) ∧
 eqS (.num .i64 n6) ∧
 eqS (.sl x7) ∧
 I23 n30 w26 ∧
 m24 n30 w26 < m24 n25 w26)) ∧
 ((decide (n25 < ((x_0.cut 0 n3 3).n : Int))) = false →
 ∃ n31 : Int, Wr .i64 (n3 + 1) n31 ∧
 I1 n31 w26 ∧
 m2 n31 w26 < m2 n3 w4)))) ∧
 ((decide (n3 < (x_0.n : Int))) = false →
 Q (.bool true) w4))
theorem of66 (x_0 : Sl) (v : World) (Q : Value → World → Prop) (h : vc66 x_0 v Q) : Trip Try.prog 66 #[x_0.val] v Q :=
 trip_of_eq (args := [.sl x_0]) (A := ⟨[(4, [(14, .int .i64)], []), (9, [(56, .int .i64)], []), (15, [(76, .int .i64)], [])], [], [], [], psG⟩) Try.func66 (by kernel_rfl) (by kernel_rfl) (by kernel_rfl : vc66 x_0 v Q = _) h

def vc67 (x_0 : Sl) (v : World) (Q : Value → World → Prop) : Prop :=
 ∃ I1 : Int → Int → World → Prop, ∃ m2 : Int → Int → World → Nat, I1 0 0 v ∧
 ∀ n3 : Int, ∀ n4 : Int, ∀ w5 : World, I1 n3 n4 w5 →
 ((decide (n4 < (x_0.n : Int))) = true →
 IxOk x_0 n4 ∧
 ∃ x6 : Sl, w5.cell? ((elA x_0 n4 1).add 0) = some (x6.val) ∧
 ∃ n7 : Int, Wr .i64 (n3 + (x6.n : Int)) n7 ∧
 ((decide (n7 < 0)) = true →
 False) ∧
 ((decide (n7 < 0)) = false →
 ∃ n8 : Int, Wr .i64 (n4 + 1) n8 ∧
 I1 n7 n8 w5 ∧
 m2 n7 n8 w5 < m2 n3 n4 w5)) ∧
 ((decide (n4 < (x_0.n : Int))) = false →
 Trip Try.prog 85 #[.slice none 0 0, .int .i64 n3] w5 fun r9 w10 =>
 ∃ x11 : Sl, r9 = x11.val ∧
 ∃ I12 : Sl → Int → World → Prop, ∃ m13 : Sl → Int → World → Nat, I12 x11 0 w10 ∧
 ∀ x14 : Sl, ∀ n15 : Int, ∀ w16 : World, I12 x14 n15 w16 →
 ((decide (n15 < (x_0.n : Int))) = true →
 IxOk x_0 n15 ∧
 ∃ x17 : Sl, w16.cell? ((elA x_0 n15 1).add 0) = some (x17.val) ∧
 StepT Try.prog (Builtin.append_ #[27, 27] 27 #[(x14.val), (x17.val)]) w16 fun r18 w19 =>
 ∃ x20 : Sl, r18 = x20.val ∧
 ∃ n21 : Int, Wr .i64 (n15 + 1) n21 ∧
 I12 x20 n21 w19 ∧
 m13 x20 n21 w19 < m13 x14 n15 w16) ∧
 ((decide (n15 < (x_0.n : Int))) = false →
 Q (x14.val) w16))
theorem of67 (x_0 : Sl) (v : World) (Q : Value → World → Prop) (h : vc67 x_0 v Q) : Trip Try.prog 67 #[x_0.val] v Q :=
 trip_of_eq (args := [.sl x_0]) (A := ⟨[(3, [(3, .int .i64), (11, .int .i64)], []), (11, [(6, .sl), (27, .int .i64)], [])], [], [], [], psG⟩) Try.func67 (by kernel_rfl) (by kernel_rfl) (by kernel_rfl : vc67 x_0 v Q = _) h

def vc68 (x_0 : Sl) (v : World) (Q : Value → World → Prop) : Prop :=
 ∃ I1 : Int → Int → World → Prop, ∃ m2 : Int → Int → World → Nat, I1 0 0 v ∧
 ∀ n3 : Int, ∀ n4 : Int, ∀ w5 : World, I1 n3 n4 w5 →
 ((decide (n4 < (x_0.n : Int))) = true →
 IxOk x_0 n4 ∧
 ldT w5 x_0 n4 fun n6 n7 x8 =>
 ∃ n9 : Int, Wr .i64 (n3 + (x8.n : Int)) n9 ∧
 ∃ n10 : Int, Wr .i64 (n4 + 1) n10 ∧
 I1 n9 n10 w5 ∧
 m2 n9 n10 w5 < m2 n3 n4 w5) ∧
 ((decide (n4 < (x_0.n : Int))) = false →
 Q (.int .i64 n3) w5)
theorem of68 (x_0 : Sl) (v : World) (Q : Value → World → Prop) (h : vc68 x_0 v Q) : Trip Try.prog 68 #[x_0.val] v Q :=
 trip_of_eq (args := [.sl x_0]) (A := ⟨[(3, [(3, .int .i64), (8, .int .i64)], [])], [], [], [], psG⟩) Try.func68 (by kernel_rfl) (by kernel_rfl) (by kernel_rfl : vc68 x_0 v Q = _) h

def vc69 (x_0 : Sl) (n_1 : Int) (v : World) (Q : Value → World → Prop) : Prop :=
 ∃ I1 : Int → Int → World → Prop, ∃ m2 : Int → Int → World → Nat, I1 n_1 0 v ∧
 ∀ n3 : Int, ∀ n4 : Int, ∀ w5 : World, I1 n3 n4 w5 →
 ((decide (n4 < (x_0.n : Int))) = true →
 IxOk x_0 n4 ∧
 ldT w5 x_0 n4 fun n6 n7 x8 =>
 (((decide (n3 ≥ 0)) && (decide (n3 < (x8.n : Int)))) = true →
 ∃ n9 : Int, Wr .i64 (n4 + 1) n9 ∧
 IxOk x8 n3 ∧
 ∃ x10 : Sl, w5.cell? ((elA x8 n3 1).add 0) = some (x10.val) ∧
 Q (.tuple #[.int .i64 n9, .agg #[x10.val]]) w5) ∧
 (((decide (n3 ≥ 0)) && (decide (n3 < (x8.n : Int)))) = false →
 ∃ n11 : Int, Wr .i64 (n3 - (x8.n : Int)) n11 ∧
 ∃ n12 : Int, Wr .i64 (n4 + 1) n12 ∧
 eqS (.sl (Sl.mk none 0 0)) ∧
 I1 n11 n12 w5 ∧
 m2 n11 n12 w5 < m2 n3 n4 w5)) ∧
 ((decide (n4 < (x_0.n : Int))) = false →
 Q (.tuple #[.int .i64 (-1), .agg #[.slice none 0 0]]) w5)
theorem of69 (x_0 : Sl) (n_1 : Int) (v : World) (Q : Value → World → Prop) (h : vc69 x_0 n_1 v Q) : Trip Try.prog 69 #[x_0.val, .int .i64 n_1] v Q :=
 trip_of_eq (args := [.sl x_0, .num .i64 n_1]) (A := ⟨[(2, [(1, .int .i64), (10, .int .i64)], [])], [], [(5, [])], [], psG⟩) Try.func69 (by kernel_rfl) (by kernel_rfl) (by kernel_rfl : vc69 x_0 n_1 v Q = _) h

def vc70 (x_0 : Sl) (n_1 : Int) (v : World) (Q : Value → World → Prop) : Prop :=
 ∃ n1 : Int, (((decide (n_1 < 1)) || (decide (n_1 > (x_0.n : Int)))) = false →
 Wr .i64 (n_1 - 1) n1) ∧
 (((decide (n_1 < 1)) || (decide (n_1 > (x_0.n : Int)))) = false →
 IxOk x_0 n1) ∧
 ∃ x2 : Sl, (((decide (n_1 < 1)) || (decide (n_1 > (x_0.n : Int)))) = false →
 v.cell? ((elA x_0 n1 3).add 2) = some (x2.val)) ∧
 ((((decide (n_1 < 1)) || (decide (n_1 > (x_0.n : Int)))) || (decide ((x2.n : Int) > 0))) = true →
 Q (.tuple #[.agg #[.int .i64 0, .int .i64 0, .slice none 0 0], .bool false]) v) ∧
 ((((decide (n_1 < 1)) || (decide (n_1 > (x_0.n : Int)))) || (decide ((x2.n : Int) > 0))) = false →
 ∃ n3 : Int, Wr .i64 (n_1 - 1) n3 ∧
 IxOk x_0 n3 ∧
 ldT v x_0 n3 fun n4 n5 x6 =>
 Q (.tuple #[.agg #[.int .i64 n4, .int .i64 n5, x6.val], .bool true]) v)
theorem of70 (x_0 : Sl) (n_1 : Int) (v : World) (Q : Value → World → Prop) (h : vc70 x_0 n_1 v Q) : Trip Try.prog 70 #[x_0.val, .int .i64 n_1] v Q :=
 trip_of_eq (args := [.sl x_0, .num .i64 n_1]) (A := ⟨[], [], [], [], psG⟩) Try.func70 (by kernel_rfl) (by kernel_rfl) (by kernel_rfl : vc70 x_0 n_1 v Q = _) h

def vc71 (x_0 : Sl) (x_1 : Sl) (v : World) (Q : Value → World → Prop) : Prop :=
 ((!decide ((x_0.n : Int) = (x_1.n : Int))) = true →
 Q (.bool false) v) ∧
 ((!decide ((x_0.n : Int) = (x_1.n : Int))) = false →
 ∃ I1 : Int → World → Prop, ∃ m2 : Int → World → Nat, I1 0 v ∧
 ∀ n3 : Int, ∀ w4 : World, I1 n3 w4 →
 ((decide (n3 < (x_0.n : Int))) = true →
 IxOk x_0 n3 ∧
 ∃ n5 : Int, w4.cell? ((elA x_0 n3 1).add 0) = some (.int .i64 n5) ∧
 IxOk x_1 n3 ∧
 ∃ n6 : Int, w4.cell? ((elA x_1 n3 1).add 0) = some (.int .i64 n6) ∧
 ((!decide (n5 = n6)) = true →
 Q (.bool false) w4) ∧
 ((!decide (n5 = n6)) = false →
 ∃ n7 : Int, Wr .i64 (n3 + 1) n7 ∧
 I1 n7 w4 ∧
 m2 n7 w4 < m2 n3 w4)) ∧
 ((decide (n3 < (x_0.n : Int))) = false →
 Q (.bool true) w4))
theorem of71 (x_0 : Sl) (x_1 : Sl) (v : World) (Q : Value → World → Prop) (h : vc71 x_0 x_1 v Q) : Trip Try.prog 71 #[x_0.val, x_1.val] v Q :=
 trip_of_eq (args := [.sl x_0, .sl x_1]) (A := ⟨[(4, [(13, .int .i64)], [])], [], [], [], psG⟩) Try.func71 (by kernel_rfl) (by kernel_rfl) (by kernel_rfl : vc71 x_0 x_1 v Q = _) h

def vc72 (x_0 : Sl) (n_1 : Int) (n_2 : Int) (v : World) (Q : Value → World → Prop) : Prop :=
 ∃ I1 : Int → World → Prop, ∃ m2 : Int → World → Nat, I1 0 v ∧
 ∀ n3 : Int, ∀ w4 : World, I1 n3 w4 →
 ((decide (n3 < (x_0.n : Int))) = true →
 IxOk x_0 n3 ∧
 ldT w4 x_0 n3 fun n5 n6 x7 =>
 ((((decide ((x7.n : Int) = 0)) && (decide (n5 = n_1))) && (decide (n6 = n_2))) = true →
 ∃ n8 : Int, Wr .i64 (n3 + 1) n8 ∧
 Q (.int .i64 n8) w4) ∧
 ((((decide ((x7.n : Int) = 0)) && (decide (n5 = n_1))) && (decide (n6 = n_2))) = false →
 ∃ n9 : Int, Wr .i64 (n3 + 1) n9 ∧
 I1 n9 w4 ∧
 m2 n9 w4 < m2 n3 w4)) ∧
 ((decide (n3 < (x_0.n : Int))) = false →
 Q (.int .i64 (-1)) w4)
theorem of72 (x_0 : Sl) (n_1 : Int) (n_2 : Int) (v : World) (Q : Value → World → Prop) (h : vc72 x_0 n_1 n_2 v Q) : Trip Try.prog 72 #[x_0.val, .int .i64 n_1, .int .i64 n_2] v Q :=
 trip_of_eq (args := [.sl x_0, .num .i64 n_1, .num .i64 n_2]) (A := ⟨[(2, [(11, .int .i64)], [])], [], [], [], psG⟩) Try.func72 (by kernel_rfl) (by kernel_rfl) (by kernel_rfl : vc72 x_0 n_1 n_2 v Q = _) h

def vc73 (x_0 : Sl) (n_1 : Int) (v : World) (Q : Value → World → Prop) : Prop :=
 IxOk x_0 n_1 ∧
 ldT v x_0 n_1 fun n1 n2 x3 =>
 ((decide ((x3.n : Int) > 0)) = true →
 ((((decide ((x3.n : Int) > 3)) || (!decide (n1 = 0))) || (!decide (n2 = 0))) = true →
 Q (.bool false) v) ∧
 ((((decide ((x3.n : Int) > 3)) || (!decide (n1 = 0))) || (!decide (n2 = 0))) = false →
 ∃ I4 : Int → World → Prop, ∃ m5 : Int → World → Nat, I4 0 v ∧
 ∀ n6 : Int, ∀ w7 : World, I4 n6 w7 →
 ((decide (n6 < (x3.n : Int))) = true →
 IxOk x3 n6 ∧
 ∃ x8 : Sl, w7.cell? ((elA x3 n6 1).add 0) = some (x8.val) ∧
 ((decide ((x8.n : Int) > 3)) = false →
 IxOk x3 n6) ∧
 ∃ x9 : Sl, ((decide ((x8.n : Int) > 3)) = false →
 w7.cell? ((elA x3 n6 1).add 0) = some (x9.val)) ∧
 ∃ q10 : Bool, ((decide ((x8.n : Int) > 3)) = false →
 (Trip Try.prog 25 #[x_0.val, x9.val] w7 fun r11 w12 => r11 = .bool q10 ∧ Sub w7 w12)) ∧
 (((decide ((x8.n : Int) > 3)) || (!q10)) = true →
 Q (.bool false) w7) ∧
 (((decide ((x8.n : Int) > 3)) || (!q10)) = false →
 ∃ n13 : Int, Wr .i64 (n6 + 1) n13 ∧
 eqS (.num .i64 n1) ∧
 eqS (.num .i64 n2) ∧
 eqS (.sl x3) ∧
 I4 n13 w7 ∧
 m5 n13 w7 < m5 n6 w7)) ∧
 ((decide (n6 < (x3.n : Int))) = false →
 Q (.bool true) w7))) ∧
 ((decide ((x3.n : Int) > 0)) = false →
 ∃ I14 : Int → World → Prop, ∃ m15 : Int → World → Nat, I14 0 v ∧
 ∀ n16 : Int, ∀ w17 : World, I14 n16 w17 →
 ((decide (n16 < n_1)) = true →
 IxOk x_0 n16 ∧
 ∃ x18 : Sl, w17.cell? ((elA x_0 n16 3).add 2) = some (x18.val) ∧
 ((decide ((x18.n : Int) = 0)) = true →
 IxOk x_0 n16) ∧
 ∃ n19 : Int, ((decide ((x18.n : Int) = 0)) = true →
 w17.cell? ((elA x_0 n16 3).add 0) = some (.int .i64 n19)) ∧
 (((decide ((x18.n : Int) = 0)) && (decide (n19 = n1))) = true →
 IxOk x_0 n16) ∧
 ∃ n20 : Int, (((decide ((x18.n : Int) = 0)) && (decide (n19 = n1))) = true →
 w17.cell? ((elA x_0 n16 3).add 1) = some (.int .i64 n20)) ∧
 ((((decide ((x18.n : Int) = 0)) && (decide (n19 = n1))) && (decide (n20 = n2))) = true →
 Q (.bool false) w17) ∧
 ((((decide ((x18.n : Int) = 0)) && (decide (n19 = n1))) && (decide (n20 = n2))) = false →
 ∃ n21 : Int, Wr .i64 (n16 + 1) n21 ∧
 eqS (.num .i64 n1) ∧
 eqS (.num .i64 n2) ∧
 eqS (.sl x3) ∧
 I14 n21 w17 ∧
 m15 n21 w17 < m15 n16 w17)) ∧
 ((decide (n16 < n_1)) = false →
 ∃ q22 : Bool, (Trip Try.prog 46 #[.int .i64 n1, .int .i64 0, .int .i64 (x_0.n : Int)] w17 fun r23 w24 => r23 = .bool q22 ∧ Sub w17 w24) ∧
 ∃ q25 : Bool, (q22 = true →
 (Trip Try.prog 46 #[.int .i64 n2, .int .i64 0, .int .i64 (x_0.n : Int)] w17 fun r26 w27 => r26 = .bool q25 ∧ Sub w17 w27)) ∧
 Q (.bool (q22 && q25)) w17))
theorem of73 (x_0 : Sl) (n_1 : Int) (v : World) (Q : Value → World → Prop) (h : vc73 x_0 n_1 v Q) : Trip Try.prog 73 #[x_0.val, .int .i64 n_1] v Q :=
 trip_of_eq (args := [.sl x_0, .num .i64 n_1]) (A := ⟨[(6, [(6, .int .i64)], []), (12, [(7, .int .i64)], [])], [], [], [], psG⟩) Try.func73 (by kernel_rfl) (by kernel_rfl) (by kernel_rfl : vc73 x_0 n_1 v Q = _) h

def vc74 (x_0 : Sl) (n_1 : Int) (v : World) (Q : Value → World → Prop) : Prop :=
 ∃ I1 : Int → Int → World → Prop, ∃ m2 : Int → Int → World → Nat, I1 0 0 v ∧
 ∀ n3 : Int, ∀ n4 : Int, ∀ w5 : World, I1 n3 n4 w5 →
 ((decide (n4 < n_1)) = true →
 IxOk x_0 n4 ∧
 ∃ x6 : Sl, w5.cell? ((elA x_0 n4 3).add 2) = some (x6.val) ∧
 ∃ n7 : Int, Wr .i64 (n3 + (x6.n : Int)) n7 ∧
 ∃ n8 : Int, Wr .i64 (n4 + 1) n8 ∧
 I1 n7 n8 w5 ∧
 m2 n7 n8 w5 < m2 n3 n4 w5) ∧
 ((decide (n4 < n_1)) = false →
 Q (.int .i64 n3) w5)
theorem of74 (x_0 : Sl) (n_1 : Int) (v : World) (Q : Value → World → Prop) (h : vc74 x_0 n_1 v Q) : Trip Try.prog 74 #[x_0.val, .int .i64 n_1] v Q :=
 trip_of_eq (args := [.sl x_0, .num .i64 n_1]) (A := ⟨[(3, [(5, .int .i64), (6, .int .i64)], [])], [], [], [], psG⟩) Try.func74 (by kernel_rfl) (by kernel_rfl) (by kernel_rfl : vc74 x_0 n_1 v Q = _) h

def vc75 (x_0 : Sl) (n_1 : Int) (v : World) (Q : Value → World → Prop) : Prop :=
 StepT Try.prog (Instr.buildSlice 27 0 #[]) v fun r1 w2 =>
 ∃ x3 : Sl, r1 = x3.val ∧
 ∃ q4 : Bool, (Trip Try.prog 46 #[.int .i64 n_1, .int .i64 1, .int .i64 (x_0.n : Int)] w2 fun r5 w6 => r5 = .bool q4 ∧ Sub w2 w6) ∧
 ((!q4) = true →
 Q (x3.val) w2) ∧
 ((!q4) = false →
 ∃ I7 : Sl → Int → World → Prop, ∃ m8 : Sl → Int → World → Nat, I7 x3 0 w2 ∧
 ∀ x9 : Sl, ∀ n10 : Int, ∀ w11 : World, I7 x9 n10 w11 →
 ∃ n12 : Int, Wr .i64 (n_1 - 1) n12 ∧
 IxOk x_0 n12 ∧
 ∃ x13 : Sl, w11.cell? ((elA x_0 n12 3).add 2) = some (x13.val) ∧
 ((decide (n10 < (x13.n : Int))) = true →
 ∃ n14 : Int, Wr .i64 (n_1 - 1) n14 ∧
 ∃ n15 : Int, (Trip Try.prog 74 #[x_0.val, .int .i64 n14] w11 fun r16 w17 => r16 = .int .i64 n15 ∧ Sub w11 w17) ∧
 ∃ n18 : Int, Wr .i64 (n15 + n10) n18 ∧
 StepT Try.prog (Instr.buildSlice 27 1 #[(0, (.int .i64 n18))]) w11 fun r19 w20 =>
 ∃ x21 : Sl, r19 = x21.val ∧
 StepT Try.prog (Builtin.append_ #[27, 27] 27 #[(x9.val), (x21.val)]) w20 fun r22 w23 =>
 ∃ x24 : Sl, r22 = x24.val ∧
 ∃ n25 : Int, Wr .i64 (n10 + 1) n25 ∧
 I7 x24 n25 w23 ∧
 m8 x24 n25 w23 < m8 x9 n10 w11) ∧
 ((decide (n10 < (x13.n : Int))) = false →
 Q (x9.val) w11))
theorem of75 (x_0 : Sl) (n_1 : Int) (v : World) (Q : Value → World → Prop) (h : vc75 x_0 n_1 v Q) : Trip Try.prog 75 #[x_0.val, .int .i64 n_1] v Q :=
 trip_of_eq (args := [.sl x_0, .num .i64 n_1]) (A := ⟨[(5, [(5, .sl), (6, .int .i64)], [])], [], [], [], psG⟩) Try.func75 (by kernel_rfl) (by kernel_rfl) (by kernel_rfl : vc75 x_0 n_1 v Q = _) h

def vc76 (x_0 : Sl) (n_1 : Int) (n_2 : Int) (v : World) (Q : Value → World → Prop) : Prop :=
 ∃ I1 : Int → World → Prop, ∃ m2 : Int → World → Nat, I1 0 v ∧
 ∀ n3 : Int, ∀ w4 : World, I1 n3 w4 →
 ((decide (n3 < (x_0.n : Int))) = true →
 IxOk x_0 n3 ∧
 ∃ x5 : Sl, w4.cell? ((elA x_0 n3 3).add 2) = some (x5.val) ∧
 ((decide ((x5.n : Int) = 0)) = true →
 IxOk x_0 n3) ∧
 ∃ n6 : Int, ((decide ((x5.n : Int) = 0)) = true →
 w4.cell? ((elA x_0 n3 3).add 0) = some (.int .i64 n6)) ∧
 (((decide ((x5.n : Int) = 0)) && (decide (n6 = n_1))) = true →
 IxOk x_0 n3) ∧
 ∃ n7 : Int, (((decide ((x5.n : Int) = 0)) && (decide (n6 = n_1))) = true →
 w4.cell? ((elA x_0 n3 3).add 1) = some (.int .i64 n7)) ∧
 ((((decide ((x5.n : Int) = 0)) && (decide (n6 = n_1))) && (decide (n7 = n_2))) = true →
 ∃ n8 : Int, Wr .i64 (n3 + 1) n8 ∧
 Q (.int .i64 n8) w4) ∧
 ((((decide ((x5.n : Int) = 0)) && (decide (n6 = n_1))) && (decide (n7 = n_2))) = false →
 ∃ n9 : Int, Wr .i64 (n3 + 1) n9 ∧
 I1 n9 w4 ∧
 m2 n9 w4 < m2 n3 w4)) ∧
 ((decide (n3 < (x_0.n : Int))) = false →
 Q (.int .i64 (-1)) w4)
theorem of76 (x_0 : Sl) (n_1 : Int) (n_2 : Int) (v : World) (Q : Value → World → Prop) (h : vc76 x_0 n_1 n_2 v Q) : Trip Try.prog 76 #[x_0.val, .int .i64 n_1, .int .i64 n_2] v Q :=
 trip_of_eq (args := [.sl x_0, .num .i64 n_1, .num .i64 n_2]) (A := ⟨[(2, [(7, .int .i64)], [])], [], [], [], psG⟩) Try.func76 (by kernel_rfl) (by kernel_rfl) (by kernel_rfl : vc76 x_0 n_1 n_2 v Q = _) h

def vc77 (x_0 : Sl) (n_1 : Int) (v : World) (Q : Value → World → Prop) : Prop :=
 ∃ I1 : Int → World → Prop, ∃ m2 : Int → World → Nat, I1 0 v ∧
 ∀ n3 : Int, ∀ w4 : World, I1 n3 w4 →
 ((decide (n3 < (x_0.n : Int))) = true →
 IxOk x_0 n3 ∧
 ∃ n5 : Int, w4.cell? ((elA x_0 n3 1).add 0) = some (.int .i64 n5) ∧
 ((decide (n5 = n_1)) = true →
 Q (.int .i64 n3) w4) ∧
 ((decide (n5 = n_1)) = false →
 ∃ n6 : Int, Wr .i64 (n3 + 1) n6 ∧
 I1 n6 w4 ∧
 m2 n6 w4 < m2 n3 w4)) ∧
 ((decide (n3 < (x_0.n : Int))) = false →
 Q (.int .i64 (-1)) w4)
theorem of77 (x_0 : Sl) (n_1 : Int) (v : World) (Q : Value → World → Prop) (h : vc77 x_0 n_1 v Q) : Trip Try.prog 77 #[x_0.val, .int .i64 n_1] v Q :=
 trip_of_eq (args := [.sl x_0, .num .i64 n_1]) (A := ⟨[(2, [(5, .int .i64)], [])], [], [], [], psG⟩) Try.func77 (by kernel_rfl) (by kernel_rfl) (by kernel_rfl : vc77 x_0 n_1 v Q = _) h

def vc78 (a_0 : Addr) (x1_0 : Sl) (x1_1 : Sl) (v : World) (Q : Value → World → Prop) : Prop :=
 StepT Try.prog (Instr.buildSlice 27 3 #[(0, (.int .i64 1)), (1, (.int .i64 1)), (2, (.int .i64 3))]) v fun r1 w2 =>
 ∃ x3 : Sl, r1 = x3.val ∧
 Trip Try.prog 14 #[.pointer (some (a_0.add 0)), x3.val] w2 fun r4 w5 =>
 ∃ n6 : Int, r4 = .int .i64 n6 ∧
 StepT Try.prog (Instr.buildSlice 27 1 #[(0, (.int .i64 n6))]) w5 fun r7 w8 =>
 ∃ x9 : Sl, r7 = x9.val ∧
 Trip Try.prog 31 #[.pointer (some (a_0.add 0)), .agg #[x1_0.val, x1_1.val], x9.val, .int .i64 0, .int .i64 16] w8 fun r10 w11 =>
 ∃ n12 : Int, ∃ n13 : Int, ∃ x14 : Sl, r10 = .agg #[.int .i64 n12, .int .i64 n13, x14.val] ∧
 Trip Try.prog 12 #[.pointer (some (a_0.add 0)), .int .i64 3] w11 fun r15 w16 =>
 ∃ n17 : Int, r15 = .int .i64 n17 ∧
 ((decide (n17 = 0)) = true →
 StepT Try.prog (Instr.buildSlice 28 1 #[(0, (.agg #[.int .i64 n12, .int .i64 n13, x14.val]))]) w16 fun r18 w19 =>
 ∃ x20 : Sl, r18 = x20.val ∧
 Trip Try.prog 33 #[.int .i64 5, .int .i64 0, x20.val] w19 fun r21 w22 =>
 ∃ n23 : Int, ∃ n24 : Int, ∃ x25 : Sl, r21 = .agg #[.int .i64 n23, .int .i64 n24, x25.val] ∧
 Trip Try.prog 86 #[.pointer (some (a_0.add 0)), .int .i64 n6] w22 fun r26 w27 =>
 ∃ n28 : Int, ∃ n29 : Int, ∃ x30 : Sl, r26 = .agg #[.int .i64 n28, .int .i64 n29, x30.val] ∧
 StepT Try.prog (Instr.buildSlice 28 2 #[(0, (.agg #[.int .i64 n28, .int .i64 n29, x30.val])), (1, (.agg #[.int .i64 n23, .int .i64 n24, x25.val]))]) w27 fun r31 w32 =>
 ∃ x33 : Sl, r31 = x33.val ∧
 Trip Try.prog 33 #[.int .i64 13, .int .i64 0, x33.val] w32 fun r34 w35 =>
 ∃ n36 : Int, ∃ n37 : Int, ∃ x38 : Sl, r34 = .agg #[.int .i64 n36, .int .i64 n37, x38.val] ∧
 Q (.agg #[.int .i64 n36, .int .i64 n37, x38.val]) w35) ∧
 ((decide (n17 = 0)) = false →
 Trip Try.prog 86 #[.pointer (some (a_0.add 0)), .int .i64 n6] w16 fun r39 w40 =>
 ∃ n41 : Int, ∃ n42 : Int, ∃ x43 : Sl, r39 = .agg #[.int .i64 n41, .int .i64 n42, x43.val] ∧
 StepT Try.prog (Instr.buildSlice 28 2 #[(0, (.agg #[.int .i64 n41, .int .i64 n42, x43.val])), (1, (.agg #[.int .i64 n12, .int .i64 n13, x14.val]))]) w40 fun r44 w45 =>
 ∃ x46 : Sl, r44 = x46.val ∧
 Trip Try.prog 33 #[.int .i64 13, .int .i64 0, x46.val] w45 fun r47 w48 =>
 ∃ n49 : Int, ∃ n50 : Int, ∃ x51 : Sl, r47 = .agg #[.int .i64 n49, .int .i64 n50, x51.val] ∧
 Q (.agg #[.int .i64 n49, .int .i64 n50, x51.val]) w48)
theorem of78 (a_0 : Addr) (x1_0 : Sl) (x1_1 : Sl) (v : World) (Q : Value → World → Prop) (h : vc78 a_0 x1_0 x1_1 v Q) : Trip Try.prog 78 #[.pointer (some (a_0.add 0)), .agg #[x1_0.val, x1_1.val]] v Q :=
 trip_of_eq (args := [.pt a_0 0, .ag [.sl x1_0, .sl x1_1]]) (A := ⟨[], [], [(5, [])], [], psG⟩) Try.func78 (by kernel_rfl) (by kernel_rfl) (by kernel_rfl : vc78 a_0 x1_0 x1_1 v Q = _) h

def vc79 (a_0 : Addr) (x1_0 : Sl) (x1_1 : Sl) (n_2 : Int) (n_3 : Int) (v : World) (Q : Value → World → Prop) : Prop :=
 IxOk x1_1 n_2 ∧
 ∃ x1 : Sl, v.cell? ((elA x1_1 n_2 5).add 0) = some (x1.val) ∧
 StepT Try.prog (Instr.buildSlice 27 2 #[(0, (.int .i64 0)), (1, (.int .i64 1))]) v fun r2 w3 =>
 ∃ x4 : Sl, r2 = x4.val ∧
 Trip Try.prog 36 #[x1.val, x4.val] w3 fun r5 w6 =>
 ∃ x7 : Sl, r5 = x7.val ∧
 StepT Try.prog (Instr.buildSlice 28 0 #[]) w6 fun r8 w9 =>
 ∃ x10 : Sl, r8 = x10.val ∧
 ∃ I11 : Sl → Int → World → Prop, ∃ m12 : Sl → Int → World → Nat, I11 x10 0 w9 ∧
 ∀ x13 : Sl, ∀ n14 : Int, ∀ w15 : World, I11 x13 n14 w15 →
 ((decide (n14 < (x1.n : Int))) = true →
 ((decide (n14 = n_3)) = true →
 ∃ n16 : Int, Wr .i64 ((x1.n : Int) + 1) n16 ∧
 Trip Try.prog 35 #[.int .i64 n16] w15 fun r17 w18 =>
 ∃ n19 : Int, ∃ n20 : Int, ∃ x21 : Sl, r17 = .agg #[.int .i64 n19, .int .i64 n20, x21.val] ∧
 StepT Try.prog (Instr.buildSlice 28 1 #[(0, (.agg #[.int .i64 n19, .int .i64 n20, x21.val]))]) w18 fun r22 w23 =>
 ∃ x24 : Sl, r22 = x24.val ∧
 StepT Try.prog (Builtin.append_ #[28, 28] 28 #[(x13.val), (x24.val)]) w23 fun r25 w26 =>
 ∃ x27 : Sl, r25 = x27.val ∧
 ∃ n28 : Int, Wr .i64 (n14 + 1) n28 ∧
 eqS (.sl x1_0) ∧
 eqS (.sl x1_1) ∧
 eqS (.num .i64 0) ∧
 eqS (.num .i64 0) ∧
 eqS (.sl (Sl.mk none 0 0)) ∧
 I11 x27 n28 w26 ∧
 m12 x27 n28 w26 < m12 x13 n14 w15) ∧
 ((decide (n14 = n_3)) = false →
 IxOk x1 n14 ∧
 ∃ n29 : Int, w15.cell? ((elA x1 n14 1).add 0) = some (.int .i64 n29) ∧
 ((decide (n29 = 0)) = true →
 Trip Try.prog 12 #[.pointer (some (a_0.add 0)), .int .i64 2] w15 fun r30 w31 =>
 ∃ n32 : Int, r30 = .int .i64 n32 ∧
 ((decide (n32 = 0)) = true →
 Trip Try.prog 35 #[.int .i64 n14] w31 fun r33 w34 =>
 ∃ n35 : Int, ∃ n36 : Int, ∃ x37 : Sl, r33 = .agg #[.int .i64 n35, .int .i64 n36, x37.val] ∧
 Trip Try.prog 35 #[.int .i64 (x1.n : Int)] w34 fun r38 w39 =>
 ∃ n40 : Int, ∃ n41 : Int, ∃ x42 : Sl, r38 = .agg #[.int .i64 n40, .int .i64 n41, x42.val] ∧
 StepT Try.prog (Instr.buildSlice 28 2 #[(0, (.agg #[.int .i64 n35, .int .i64 n36, x37.val])), (1, (.agg #[.int .i64 n40, .int .i64 n41, x42.val]))]) w39 fun r43 w44 =>
 ∃ x45 : Sl, r43 = x45.val ∧
 Trip Try.prog 33 #[.int .i64 1, .int .i64 0, x45.val] w44 fun r46 w47 =>
 ∃ n48 : Int, ∃ n49 : Int, ∃ x50 : Sl, r46 = .agg #[.int .i64 n48, .int .i64 n49, x50.val] ∧
 StepT Try.prog (Instr.buildSlice 28 1 #[(0, (.agg #[.int .i64 n48, .int .i64 n49, x50.val]))]) w47 fun r51 w52 =>
 ∃ x53 : Sl, r51 = x53.val ∧
 StepT Try.prog (Builtin.append_ #[28, 28] 28 #[(x13.val), (x53.val)]) w52 fun r54 w55 =>
 ∃ x56 : Sl, r54 = x56.val ∧
 ∃ n57 : Int, Wr .i64 (n14 + 1) n57 ∧
 eqS (.sl x1_0) ∧
 eqS (.sl x1_1) ∧
 eqS (.num .i64 0) ∧
 eqS (.num .i64 0) ∧
 eqS (.sl (Sl.mk none 0 0)) ∧
 I11 x56 n57 w55 ∧
 m12 x56 n57 w55 < m12 x13 n14 w15) ∧
 ((decide (n32 = 0)) = false →
 Trip Try.prog 35 #[.int .i64 n14] w31 fun r58 w59 =>
 ∃ n60 : Int, ∃ n61 : Int, ∃ x62 : Sl, r58 = .agg #[.int .i64 n60, .int .i64 n61, x62.val] ∧
 StepT Try.prog (Instr.buildSlice 28 1 #[(0, (.agg #[.int .i64 n60, .int .i64 n61, x62.val]))]) w59 fun r63 w64 =>
 ∃ x65 : Sl, r63 = x65.val ∧
 StepT Try.prog (Builtin.append_ #[28, 28] 28 #[(x13.val), (x65.val)]) w64 fun r66 w67 =>
 ∃ x68 : Sl, r66 = x68.val ∧
 ∃ n69 : Int, Wr .i64 (n14 + 1) n69 ∧
 eqS (.sl x1_0) ∧
 eqS (.sl x1_1) ∧
 eqS (.num .i64 0) ∧
 eqS (.num .i64 0) ∧
 eqS (.sl (Sl.mk none 0 0)) ∧
 I11 x68 n69 w67 ∧
 m12 x68 n69 w67 < m12 x13 n14 w15)) ∧
 ((decide (n29 = 0)) = false →
 Trip Try.prog 35 #[.int .i64 n14] w15 fun r70 w71 =>
 ∃ n72 : Int, ∃ n73 : Int, ∃ x74 : Sl, r70 = .agg #[.int .i64 n72, .int .i64 n73, x74.val] ∧
 StepT Try.prog (Instr.buildSlice 28 1 #[(0, (.agg #[.int .i64 n72, .int .i64 n73, x74.val]))]) w71 fun r75 w76 =>
 ∃ x77 : Sl, r75 = x77.val ∧
 StepT Try.prog (Builtin.append_ #[28, 28] 28 #[(x13.val), (x77.val)]) w76 fun r78 w79 =>
 ∃ x80 : Sl, r78 = x80.val ∧
 ∃ n81 : Int, Wr .i64 (n14 + 1) n81 ∧
 eqS (.sl x1_0) ∧
 eqS (.sl x1_1) ∧
 eqS (.num .i64 0) ∧
 eqS (.num .i64 0) ∧
 eqS (.sl (Sl.mk none 0 0)) ∧
 I11 x80 n81 w79 ∧
 m12 x80 n81 w79 < m12 x13 n14 w15))) ∧
 ((decide (n14 < (x1.n : Int))) = false →
 Trip Try.prog 33 #[.int .i64 9, .int .i64 n_2, x13.val] w15 fun r82 w83 =>
 ∃ n84 : Int, ∃ n85 : Int, ∃ x86 : Sl, r82 = .agg #[.int .i64 n84, .int .i64 n85, x86.val] ∧
 ∃ J87 : Int → Int → Sl → World → Prop, (∃ J88 : Bool → World → Prop, (IxOk x1_1 n_2 ∧
 ∃ n89 : Int, w83.cell? ((elA x1_1 n_2 5).add 1) = some (.int .i64 n89) ∧
 ((decide (n89 = 1)) = true →
 Trip Try.prog 12 #[.pointer (some (a_0.add 0)), .int .i64 5] w83 fun r90 w91 =>
 ∃ n92 : Int, r90 = .int .i64 n92 ∧
 eqS (.sl x1_0) ∧
 eqS (.sl x1_1) ∧
 eqS (.num .i64 0) ∧
 eqS (.num .i64 0) ∧
 eqS (.sl (Sl.mk none 0 0)) ∧
 eqS (.num .i64 n84) ∧
 eqS (.num .i64 n85) ∧
 eqS (.sl x86) ∧
 eqS (.num .i64 n84) ∧
 eqS (.num .i64 n85) ∧
 eqS (.sl x86) ∧
 J88 (decide (n92 > 0)) w91) ∧
 ((decide (n89 = 1)) = false →
 eqS (.sl x1_0) ∧
 eqS (.sl x1_1) ∧
 eqS (.num .i64 0) ∧
 eqS (.num .i64 0) ∧
 eqS (.sl (Sl.mk none 0 0)) ∧
 eqS (.num .i64 n84) ∧
 eqS (.num .i64 n85) ∧
 eqS (.sl x86) ∧
 eqS (.num .i64 n84) ∧
 eqS (.num .i64 n85) ∧
 eqS (.sl x86) ∧
 J88 false w83)) ∧
 ∀ q93 : Bool, ∀ w94 : World, J88 q93 w94 →
 (q93 = true →
 Trip Try.prog 31 #[.pointer (some (a_0.add 0)), .agg #[x1_0.val, x1_1.val], x7.val, .int .i64 0, .int .i64 4] w94 fun r95 w96 =>
 ∃ n97 : Int, ∃ n98 : Int, ∃ x99 : Sl, r95 = .agg #[.int .i64 n97, .int .i64 n98, x99.val] ∧
 ((decide ((x1.n : Int) > 1)) = true →
 IxOk x1 0) ∧
 ∃ n100 : Int, ((decide ((x1.n : Int) > 1)) = true →
 w96.cell? ((elA x1 0 1).add 0) = some (.int .i64 n100)) ∧
 (((decide ((x1.n : Int) > 1)) && (decide (n100 = 2))) = true →
 Trip Try.prog 35 #[.int .i64 0] w96 fun r101 w102 =>
 ∃ n103 : Int, ∃ n104 : Int, ∃ x105 : Sl, r101 = .agg #[.int .i64 n103, .int .i64 n104, x105.val] ∧
 Trip Try.prog 35 #[.int .i64 (x1.n : Int)] w102 fun r106 w107 =>
 ∃ n108 : Int, ∃ n109 : Int, ∃ x110 : Sl, r106 = .agg #[.int .i64 n108, .int .i64 n109, x110.val] ∧
 StepT Try.prog (Instr.buildSlice 28 2 #[(0, (.agg #[.int .i64 n103, .int .i64 n104, x105.val])), (1, (.agg #[.int .i64 n108, .int .i64 n109, x110.val]))]) w107 fun r111 w112 =>
 ∃ x113 : Sl, r111 = x113.val ∧
 Trip Try.prog 33 #[.int .i64 11, .int .i64 0, x113.val] w112 fun r114 w115 =>
 ∃ n116 : Int, ∃ n117 : Int, ∃ x118 : Sl, r114 = .agg #[.int .i64 n116, .int .i64 n117, x118.val] ∧
 StepT Try.prog (Instr.buildSlice 28 2 #[(0, (.agg #[.int .i64 n116, .int .i64 n117, x118.val])), (1, (.agg #[.int .i64 n84, .int .i64 n85, x86.val]))]) w115 fun r119 w120 =>
 ∃ x121 : Sl, r119 = x121.val ∧
 Trip Try.prog 33 #[.int .i64 6, .int .i64 1, x121.val] w120 fun r122 w123 =>
 ∃ n124 : Int, ∃ n125 : Int, ∃ x126 : Sl, r122 = .agg #[.int .i64 n124, .int .i64 n125, x126.val] ∧
 eqS (.sl x1_0) ∧
 eqS (.sl x1_1) ∧
 eqS (.num .i64 0) ∧
 eqS (.num .i64 0) ∧
 eqS (.sl (Sl.mk none 0 0)) ∧
 eqS (.num .i64 n84) ∧
 eqS (.num .i64 n85) ∧
 eqS (.sl x86) ∧
 J87 n124 n125 x126 w123) ∧
 (((decide ((x1.n : Int) > 1)) && (decide (n100 = 2))) = false →
 StepT Try.prog (Instr.buildSlice 28 2 #[(0, (.agg #[.int .i64 n97, .int .i64 n98, x99.val])), (1, (.agg #[.int .i64 n84, .int .i64 n85, x86.val]))]) w96 fun r127 w128 =>
 ∃ x129 : Sl, r127 = x129.val ∧
 Trip Try.prog 33 #[.int .i64 6, .int .i64 1, x129.val] w128 fun r130 w131 =>
 ∃ n132 : Int, ∃ n133 : Int, ∃ x134 : Sl, r130 = .agg #[.int .i64 n132, .int .i64 n133, x134.val] ∧
 eqS (.sl x1_0) ∧
 eqS (.sl x1_1) ∧
 eqS (.num .i64 0) ∧
 eqS (.num .i64 0) ∧
 eqS (.sl (Sl.mk none 0 0)) ∧
 eqS (.num .i64 n84) ∧
 eqS (.num .i64 n85) ∧
 eqS (.sl x86) ∧
 J87 n132 n133 x134 w131)) ∧
 (q93 = false →
 IxOk x1_1 n_2 ∧
 ∃ n135 : Int, w94.cell? ((elA x1_1 n_2 5).add 1) = some (.int .i64 n135) ∧
 ((decide (n135 = 0)) = true →
 StepT Try.prog (Instr.buildSlice 27 2 #[(0, (.int .i64 1)), (1, (.int .i64 2))]) w94 fun r136 w137 =>
 ∃ x138 : Sl, r136 = x138.val ∧
 Trip Try.prog 14 #[.pointer (some (a_0.add 0)), x138.val] w137 fun r139 w140 =>
 ∃ n141 : Int, r139 = .int .i64 n141 ∧
 Trip Try.prog 31 #[.pointer (some (a_0.add 0)), .agg #[x1_0.val, x1_1.val], x7.val, .int .i64 0, .int .i64 4] w140 fun r142 w143 =>
 ∃ n144 : Int, ∃ n145 : Int, ∃ x146 : Sl, r142 = .agg #[.int .i64 n144, .int .i64 n145, x146.val] ∧
 StepT Try.prog (Instr.buildSlice 28 2 #[(0, (.agg #[.int .i64 n144, .int .i64 n145, x146.val])), (1, (.agg #[.int .i64 n84, .int .i64 n85, x86.val]))]) w143 fun r147 w148 =>
 ∃ x149 : Sl, r147 = x149.val ∧
 Trip Try.prog 33 #[.int .i64 n141, .int .i64 0, x149.val] w148 fun r150 w151 =>
 ∃ n152 : Int, ∃ n153 : Int, ∃ x154 : Sl, r150 = .agg #[.int .i64 n152, .int .i64 n153, x154.val] ∧
 eqS (.sl x1_0) ∧
 eqS (.sl x1_1) ∧
 eqS (.num .i64 0) ∧
 eqS (.num .i64 0) ∧
 eqS (.sl (Sl.mk none 0 0)) ∧
 eqS (.num .i64 n84) ∧
 eqS (.num .i64 n85) ∧
 eqS (.sl x86) ∧
 J87 n152 n153 x154 w151) ∧
 ((decide (n135 = 0)) = false →
 eqS (.sl x1_0) ∧
 eqS (.sl x1_1) ∧
 eqS (.num .i64 0) ∧
 eqS (.num .i64 0) ∧
 eqS (.sl (Sl.mk none 0 0)) ∧
 eqS (.num .i64 n84) ∧
 eqS (.num .i64 n85) ∧
 eqS (.sl x86) ∧
 J87 n84 n85 x86 w94))) ∧
 ∀ n155 : Int, ∀ n156 : Int, ∀ x157 : Sl, ∀ w158 : World, J87 n155 n156 x157 w158 →
 IxOk x1_1 n_2 ∧
 ∃ n159 : Int, w158.cell? ((elA x1_1 n_2 5).add 1) = some (.int .i64 n159) ∧
 Trip Try.prog 35 #[.int .i64 n_3] w158 fun r160 w161 =>
 ∃ n162 : Int, ∃ n163 : Int, ∃ x164 : Sl, r160 = .agg #[.int .i64 n162, .int .i64 n163, x164.val] ∧
 Sub w158 w161 ∧
 Trip Try.prog 31 #[.pointer (some (a_0.add 0)), .agg #[x1_0.val, x1_1.val], x1.val, .int .i64 n159, .int .i64 4] w161 fun r165 w166 =>
 ∃ n167 : Int, ∃ n168 : Int, ∃ x169 : Sl, r165 = .agg #[.int .i64 n167, .int .i64 n168, x169.val] ∧
 StepT Try.prog (Instr.buildSlice 28 3 #[(0, (.agg #[.int .i64 n162, .int .i64 n163, x164.val])), (1, (.agg #[.int .i64 n167, .int .i64 n168, x169.val])), (2, (.agg #[.int .i64 n155, .int .i64 n156, x157.val]))]) w166 fun r170 w171 =>
 ∃ x172 : Sl, r170 = x172.val ∧
 Trip Try.prog 33 #[.int .i64 8, .int .i64 1, x172.val] w171 fun r173 w174 =>
 ∃ n175 : Int, ∃ n176 : Int, ∃ x177 : Sl, r173 = .agg #[.int .i64 n175, .int .i64 n176, x177.val] ∧
 Q (.agg #[.int .i64 n175, .int .i64 n176, x177.val]) w174)
theorem of79 (a_0 : Addr) (x1_0 : Sl) (x1_1 : Sl) (n_2 : Int) (n_3 : Int) (v : World) (Q : Value → World → Prop) (h : vc79 a_0 x1_0 x1_1 n_2 n_3 v Q) : Trip Try.prog 79 #[.pointer (some (a_0.add 0)), .agg #[x1_0.val, x1_1.val], .int .i64 n_2, .int .i64 n_3] v Q :=
 trip_of_eq (args := [.pt a_0 0, .ag [.sl x1_0, .sl x1_1], .num .i64 n_2, .num .i64 n_3]) (A := ⟨[(6, [(12, .sl), (13, .int .i64)], [])], [(16, [(82, .bool)], []), (22, [], [(3, 0, .int .i64), (3, 1, .int .i64), (3, 2, .sl)])], [(21, []), (22, [1])], [], psG⟩) Try.func79 (by kernel_rfl) (by kernel_rfl) (by kernel_rfl : vc79 a_0 x1_0 x1_1 n_2 n_3 v Q = _) h

def vc80 (a_0 : Addr) (x1_0 : Sl) (x1_1 : Sl) (n_2 : Int) (v : World) (Q : Value → World → Prop) : Prop :=
 IxOk x1_1 n_2 ∧
 ∃ x1 : Sl, v.cell? ((elA x1_1 n_2 5).add 0) = some (x1.val) ∧
 Trip Try.prog 35 #[.int .i64 (x1.n : Int)] v fun r2 w3 =>
 ∃ n4 : Int, ∃ n5 : Int, ∃ x6 : Sl, r2 = .agg #[.int .i64 n4, .int .i64 n5, x6.val] ∧
 StepT Try.prog (Instr.buildSlice 28 1 #[(0, (.agg #[.int .i64 n4, .int .i64 n5, x6.val]))]) w3 fun r7 w8 =>
 ∃ x9 : Sl, r7 = x9.val ∧
 ∃ n10 : Int, Wr .i64 ((x1.n : Int) + 2) n10 ∧
 Trip Try.prog 35 #[.int .i64 n10] w8 fun r11 w12 =>
 ∃ n13 : Int, ∃ n14 : Int, ∃ x15 : Sl, r11 = .agg #[.int .i64 n13, .int .i64 n14, x15.val] ∧
 StepT Try.prog (Instr.buildSlice 28 1 #[(0, (.agg #[.int .i64 n13, .int .i64 n14, x15.val]))]) w12 fun r16 w17 =>
 ∃ x18 : Sl, r16 = x18.val ∧
 ∃ I19 : Sl → Sl → Int → World → Prop, ∃ m20 : Sl → Sl → Int → World → Nat, I19 x9 x18 1 w17 ∧
 ∀ x21 : Sl, ∀ x22 : Sl, ∀ n23 : Int, ∀ w24 : World, I19 x21 x22 n23 w24 →
 ((decide (n23 < (x1.n : Int))) = true →
 Trip Try.prog 35 #[.int .i64 n23] w24 fun r25 w26 =>
 ∃ n27 : Int, ∃ n28 : Int, ∃ x29 : Sl, r25 = .agg #[.int .i64 n27, .int .i64 n28, x29.val] ∧
 StepT Try.prog (Instr.buildSlice 28 1 #[(0, (.agg #[.int .i64 n27, .int .i64 n28, x29.val]))]) w26 fun r30 w31 =>
 ∃ x32 : Sl, r30 = x32.val ∧
 StepT Try.prog (Builtin.append_ #[28, 28] 28 #[(x21.val), (x32.val)]) w31 fun r33 w34 =>
 ∃ x35 : Sl, r33 = x35.val ∧
 Trip Try.prog 35 #[.int .i64 n23] w34 fun r36 w37 =>
 ∃ n38 : Int, ∃ n39 : Int, ∃ x40 : Sl, r36 = .agg #[.int .i64 n38, .int .i64 n39, x40.val] ∧
 StepT Try.prog (Instr.buildSlice 28 1 #[(0, (.agg #[.int .i64 n38, .int .i64 n39, x40.val]))]) w37 fun r41 w42 =>
 ∃ x43 : Sl, r41 = x43.val ∧
 StepT Try.prog (Builtin.append_ #[28, 28] 28 #[(x22.val), (x43.val)]) w42 fun r44 w45 =>
 ∃ x46 : Sl, r44 = x46.val ∧
 ∃ n47 : Int, Wr .i64 (n23 + 1) n47 ∧
 eqS (.sl x1_0) ∧
 eqS (.sl x1_1) ∧
 eqS (.num .i64 0) ∧
 eqS (.num .i64 0) ∧
 eqS (.sl (Sl.mk none 0 0)) ∧
 I19 x35 x46 n47 w45 ∧
 m20 x35 x46 n47 w45 < m20 x21 x22 n23 w24) ∧
 ((decide (n23 < (x1.n : Int))) = false →
 Trip Try.prog 33 #[.int .i64 9, .int .i64 n_2, x21.val] w24 fun r48 w49 =>
 ∃ n50 : Int, ∃ n51 : Int, ∃ x52 : Sl, r48 = .agg #[.int .i64 n50, .int .i64 n51, x52.val] ∧
 Trip Try.prog 33 #[.int .i64 9, .int .i64 n_2, x22.val] w49 fun r53 w54 =>
 ∃ n55 : Int, ∃ n56 : Int, ∃ x57 : Sl, r53 = .agg #[.int .i64 n55, .int .i64 n56, x57.val] ∧
 (StepT Try.prog (Instr.buildSlice 27 3 #[(0, (.int .i64 3)), (1, (.int .i64 0)), (2, (.int .i64 3))]) w54 fun r58 w59 =>
 ∃ x60 : Sl, r58 = x60.val ∧
 Sub w54 w59 ∧
 (Trip Try.prog 36 #[x1.val, x60.val] w59 fun r61 w62 =>
 ∃ x63 : Sl, r61 = x63.val ∧
 Sub w59 w62 ∧
 (Trip Try.prog 31 #[.pointer (some (a_0.add 0)), .agg #[x1_0.val, x1_1.val], x63.val, .int .i64 0, .int .i64 4] w62 fun r64 w65 =>
 ∃ n66 : Int, ∃ n67 : Int, ∃ x68 : Sl, r64 = .agg #[.int .i64 n66, .int .i64 n67, x68.val] ∧
 (StepT Try.prog (Instr.buildSlice 28 2 #[(0, (.agg #[.int .i64 n66, .int .i64 n67, x68.val])), (1, (.agg #[.int .i64 n55, .int .i64 n56, x57.val]))]) w65 fun r69 w70 =>
 ∃ x71 : Sl, r69 = x71.val ∧
 (Trip Try.prog 33 #[.int .i64 1, .int .i64 0, x71.val] w70 fun r72 w73 =>
 ∃ n74 : Int, ∃ n75 : Int, ∃ x76 : Sl, r72 = .agg #[.int .i64 n74, .int .i64 n75, x76.val] ∧
 (StepT Try.prog (Instr.buildSlice 28 2 #[(0, (.agg #[.int .i64 n50, .int .i64 n51, x52.val])), (1, (.agg #[.int .i64 n74, .int .i64 n75, x76.val]))]) w73 fun r77 w78 =>
 ∃ x79 : Sl, r77 = x79.val ∧
 (Trip Try.prog 33 #[.int .i64 1, .int .i64 0, x79.val] w78 fun r80 w81 =>
 ∃ n82 : Int, ∃ n83 : Int, ∃ x84 : Sl, r80 = .agg #[.int .i64 n82, .int .i64 n83, x84.val] ∧
 Sub w81 w81 ∧
 IxOk x1_1 n_2 ∧
 ∃ n85 : Int, w81.cell? ((elA x1_1 n_2 5).add 1) = some (.int .i64 n85) ∧
 ((decide (n85 = 3)) = true →
 ∃ n86 : Int, Wr .i64 ((x1.n : Int) + 2) n86 ∧
 StepT Try.prog (Instr.buildSlice 27 3 #[(0, (.int .i64 3)), (1, (.int .i64 0)), (2, (.int .i64 3))]) w81 fun r87 w88 =>
 ∃ x89 : Sl, r87 = x89.val ∧
 Sub w81 w88 ∧
 Trip Try.prog 36 #[x1.val, x89.val] w88 fun r90 w91 =>
 ∃ x92 : Sl, r90 = x92.val ∧
 Sub w88 w91 ∧
 Trip Try.prog 31 #[.pointer (some (a_0.add 0)), .agg #[x1_0.val, x1_1.val], x92.val, .int .i64 0, .int .i64 4] w91 fun r93 w94 =>
 ∃ n95 : Int, ∃ n96 : Int, ∃ x97 : Sl, r93 = .agg #[.int .i64 n95, .int .i64 n96, x97.val] ∧
 Trip Try.prog 35 #[.int .i64 n86] w94 fun r98 w99 =>
 ∃ n100 : Int, ∃ n101 : Int, ∃ x102 : Sl, r98 = .agg #[.int .i64 n100, .int .i64 n101, x102.val] ∧
 StepT Try.prog (Instr.buildSlice 28 3 #[(0, (.agg #[.int .i64 n50, .int .i64 n51, x52.val])), (1, (.agg #[.int .i64 n95, .int .i64 n96, x97.val])), (2, (.agg #[.int .i64 n100, .int .i64 n101, x102.val]))]) w99 fun r103 w104 =>
 ∃ x105 : Sl, r103 = x105.val ∧
 Trip Try.prog 33 #[.int .i64 6, .int .i64 3, x105.val] w104 fun r106 w107 =>
 ∃ n108 : Int, ∃ n109 : Int, ∃ x110 : Sl, r106 = .agg #[.int .i64 n108, .int .i64 n109, x110.val] ∧
 IxOk x1_1 n_2 ∧
 ∃ n111 : Int, w107.cell? ((elA x1_1 n_2 5).add 1) = some (.int .i64 n111) ∧
 Trip Try.prog 35 #[.int .i64 0] w107 fun r112 w113 =>
 ∃ n114 : Int, ∃ n115 : Int, ∃ x116 : Sl, r112 = .agg #[.int .i64 n114, .int .i64 n115, x116.val] ∧
 Sub w107 w113 ∧
 Trip Try.prog 31 #[.pointer (some (a_0.add 0)), .agg #[x1_0.val, x1_1.val], x1.val, .int .i64 n111, .int .i64 4] w113 fun r117 w118 =>
 ∃ n119 : Int, ∃ n120 : Int, ∃ x121 : Sl, r117 = .agg #[.int .i64 n119, .int .i64 n120, x121.val] ∧
 StepT Try.prog (Instr.buildSlice 28 3 #[(0, (.agg #[.int .i64 n114, .int .i64 n115, x116.val])), (1, (.agg #[.int .i64 n119, .int .i64 n120, x121.val])), (2, (.agg #[.int .i64 n108, .int .i64 n109, x110.val]))]) w118 fun r122 w123 =>
 ∃ x124 : Sl, r122 = x124.val ∧
 Trip Try.prog 33 #[.int .i64 8, .int .i64 3, x124.val] w123 fun r125 w126 =>
 ∃ n127 : Int, ∃ n128 : Int, ∃ x129 : Sl, r125 = .agg #[.int .i64 n127, .int .i64 n128, x129.val] ∧
 Q (.agg #[.int .i64 n127, .int .i64 n128, x129.val]) w126) ∧
 ((decide (n85 = 3)) = false →
 IxOk x1_1 n_2 ∧
 ∃ n130 : Int, w81.cell? ((elA x1_1 n_2 5).add 1) = some (.int .i64 n130) ∧
 Trip Try.prog 35 #[.int .i64 0] w81 fun r131 w132 =>
 ∃ n133 : Int, ∃ n134 : Int, ∃ x135 : Sl, r131 = .agg #[.int .i64 n133, .int .i64 n134, x135.val] ∧
 Sub w81 w132 ∧
 Trip Try.prog 31 #[.pointer (some (a_0.add 0)), .agg #[x1_0.val, x1_1.val], x1.val, .int .i64 n130, .int .i64 4] w132 fun r136 w137 =>
 ∃ n138 : Int, ∃ n139 : Int, ∃ x140 : Sl, r136 = .agg #[.int .i64 n138, .int .i64 n139, x140.val] ∧
 StepT Try.prog (Instr.buildSlice 28 3 #[(0, (.agg #[.int .i64 n133, .int .i64 n134, x135.val])), (1, (.agg #[.int .i64 n138, .int .i64 n139, x140.val])), (2, (.agg #[.int .i64 n82, .int .i64 n83, x84.val]))]) w137 fun r141 w142 =>
 ∃ x143 : Sl, r141 = x143.val ∧
 Trip Try.prog 33 #[.int .i64 8, .int .i64 3, x143.val] w142 fun r144 w145 =>
 ∃ n146 : Int, ∃ n147 : Int, ∃ x148 : Sl, r144 = .agg #[.int .i64 n146, .int .i64 n147, x148.val] ∧
 Q (.agg #[.int .i64 n146, .int .i64 n147, x148.val]) w145)) ∧
 Sub w78 w78 ∧
 Trip Try.prog 33 #[.int .i64 1, .int .i64 0, x79.val] w78 fun r149 w150 =>
 ∃ n151 : Int, ∃ n152 : Int, ∃ x153 : Sl, r149 = .agg #[.int .i64 n151, .int .i64 n152, x153.val] ∧
 IxOk x1_1 n_2 ∧
 ∃ n154 : Int, w150.cell? ((elA x1_1 n_2 5).add 1) = some (.int .i64 n154) ∧
 ((decide (n154 = 3)) = true →
 ∃ n155 : Int, Wr .i64 ((x1.n : Int) + 2) n155 ∧
 StepT Try.prog (Instr.buildSlice 27 3 #[(0, (.int .i64 3)), (1, (.int .i64 0)), (2, (.int .i64 3))]) w150 fun r156 w157 =>
 ∃ x158 : Sl, r156 = x158.val ∧
 Sub w150 w157 ∧
 Trip Try.prog 36 #[x1.val, x158.val] w157 fun r159 w160 =>
 ∃ x161 : Sl, r159 = x161.val ∧
 Sub w157 w160 ∧
 Trip Try.prog 31 #[.pointer (some (a_0.add 0)), .agg #[x1_0.val, x1_1.val], x161.val, .int .i64 0, .int .i64 4] w160 fun r162 w163 =>
 ∃ n164 : Int, ∃ n165 : Int, ∃ x166 : Sl, r162 = .agg #[.int .i64 n164, .int .i64 n165, x166.val] ∧
 Trip Try.prog 35 #[.int .i64 n155] w163 fun r167 w168 =>
 ∃ n169 : Int, ∃ n170 : Int, ∃ x171 : Sl, r167 = .agg #[.int .i64 n169, .int .i64 n170, x171.val] ∧
 StepT Try.prog (Instr.buildSlice 28 3 #[(0, (.agg #[.int .i64 n50, .int .i64 n51, x52.val])), (1, (.agg #[.int .i64 n164, .int .i64 n165, x166.val])), (2, (.agg #[.int .i64 n169, .int .i64 n170, x171.val]))]) w168 fun r172 w173 =>
 ∃ x174 : Sl, r172 = x174.val ∧
 Trip Try.prog 33 #[.int .i64 6, .int .i64 3, x174.val] w173 fun r175 w176 =>
 ∃ n177 : Int, ∃ n178 : Int, ∃ x179 : Sl, r175 = .agg #[.int .i64 n177, .int .i64 n178, x179.val] ∧
 IxOk x1_1 n_2 ∧
 ∃ n180 : Int, w176.cell? ((elA x1_1 n_2 5).add 1) = some (.int .i64 n180) ∧
 Trip Try.prog 35 #[.int .i64 0] w176 fun r181 w182 =>
 ∃ n183 : Int, ∃ n184 : Int, ∃ x185 : Sl, r181 = .agg #[.int .i64 n183, .int .i64 n184, x185.val] ∧
 Sub w176 w182 ∧
 Trip Try.prog 31 #[.pointer (some (a_0.add 0)), .agg #[x1_0.val, x1_1.val], x1.val, .int .i64 n180, .int .i64 4] w182 fun r186 w187 =>
 ∃ n188 : Int, ∃ n189 : Int, ∃ x190 : Sl, r186 = .agg #[.int .i64 n188, .int .i64 n189, x190.val] ∧
 StepT Try.prog (Instr.buildSlice 28 3 #[(0, (.agg #[.int .i64 n183, .int .i64 n184, x185.val])), (1, (.agg #[.int .i64 n188, .int .i64 n189, x190.val])), (2, (.agg #[.int .i64 n177, .int .i64 n178, x179.val]))]) w187 fun r191 w192 =>
 ∃ x193 : Sl, r191 = x193.val ∧
 Trip Try.prog 33 #[.int .i64 8, .int .i64 3, x193.val] w192 fun r194 w195 =>
 ∃ n196 : Int, ∃ n197 : Int, ∃ x198 : Sl, r194 = .agg #[.int .i64 n196, .int .i64 n197, x198.val] ∧
 Q (.agg #[.int .i64 n196, .int .i64 n197, x198.val]) w195) ∧
 ((decide (n154 = 3)) = false →
 IxOk x1_1 n_2 ∧
 ∃ n199 : Int, w150.cell? ((elA x1_1 n_2 5).add 1) = some (.int .i64 n199) ∧
 Trip Try.prog 35 #[.int .i64 0] w150 fun r200 w201 =>
 ∃ n202 : Int, ∃ n203 : Int, ∃ x204 : Sl, r200 = .agg #[.int .i64 n202, .int .i64 n203, x204.val] ∧
 Sub w150 w201 ∧
 Trip Try.prog 31 #[.pointer (some (a_0.add 0)), .agg #[x1_0.val, x1_1.val], x1.val, .int .i64 n199, .int .i64 4] w201 fun r205 w206 =>
 ∃ n207 : Int, ∃ n208 : Int, ∃ x209 : Sl, r205 = .agg #[.int .i64 n207, .int .i64 n208, x209.val] ∧
 StepT Try.prog (Instr.buildSlice 28 3 #[(0, (.agg #[.int .i64 n202, .int .i64 n203, x204.val])), (1, (.agg #[.int .i64 n207, .int .i64 n208, x209.val])), (2, (.agg #[.int .i64 n151, .int .i64 n152, x153.val]))]) w206 fun r210 w211 =>
 ∃ x212 : Sl, r210 = x212.val ∧
 Trip Try.prog 33 #[.int .i64 8, .int .i64 3, x212.val] w211 fun r213 w214 =>
 ∃ n215 : Int, ∃ n216 : Int, ∃ x217 : Sl, r213 = .agg #[.int .i64 n215, .int .i64 n216, x217.val] ∧
 Q (.agg #[.int .i64 n215, .int .i64 n216, x217.val]) w214)) ∧
 Sub w73 w73 ∧
 StepT Try.prog (Instr.buildSlice 28 2 #[(0, (.agg #[.int .i64 n50, .int .i64 n51, x52.val])), (1, (.agg #[.int .i64 n74, .int .i64 n75, x76.val]))]) w73 fun r218 w219 =>
 ∃ x220 : Sl, r218 = x220.val ∧
 Trip Try.prog 33 #[.int .i64 1, .int .i64 0, x220.val] w219 fun r221 w222 =>
 ∃ n223 : Int, ∃ n224 : Int, ∃ x225 : Sl, r221 = .agg #[.int .i64 n223, .int .i64 n224, x225.val] ∧
 IxOk x1_1 n_2 ∧
 ∃ n226 : Int, w222.cell? ((elA x1_1 n_2 5).add 1) = some (.int .i64 n226) ∧
 ((decide (n226 = 3)) = true →
 ∃ n227 : Int, Wr .i64 ((x1.n : Int) + 2) n227 ∧
 StepT Try.prog (Instr.buildSlice 27 3 #[(0, (.int .i64 3)), (1, (.int .i64 0)), (2, (.int .i64 3))]) w222 fun r228 w229 =>
 ∃ x230 : Sl, r228 = x230.val ∧
 Sub w222 w229 ∧
 Trip Try.prog 36 #[x1.val, x230.val] w229 fun r231 w232 =>
 ∃ x233 : Sl, r231 = x233.val ∧
 Sub w229 w232 ∧
 Trip Try.prog 31 #[.pointer (some (a_0.add 0)), .agg #[x1_0.val, x1_1.val], x233.val, .int .i64 0, .int .i64 4] w232 fun r234 w235 =>
 ∃ n236 : Int, ∃ n237 : Int, ∃ x238 : Sl, r234 = .agg #[.int .i64 n236, .int .i64 n237, x238.val] ∧
 Trip Try.prog 35 #[.int .i64 n227] w235 fun r239 w240 =>
 ∃ n241 : Int, ∃ n242 : Int, ∃ x243 : Sl, r239 = .agg #[.int .i64 n241, .int .i64 n242, x243.val] ∧
 StepT Try.prog (Instr.buildSlice 28 3 #[(0, (.agg #[.int .i64 n50, .int .i64 n51, x52.val])), (1, (.agg #[.int .i64 n236, .int .i64 n237, x238.val])), (2, (.agg #[.int .i64 n241, .int .i64 n242, x243.val]))]) w240 fun r244 w245 =>
 ∃ x246 : Sl, r244 = x246.val ∧
 Trip Try.prog 33 #[.int .i64 6, .int .i64 3, x246.val] w245 fun r247 w248 =>
 ∃ n249 : Int, ∃ n250 : Int, ∃ x251 : Sl, r247 = .agg #[.int .i64 n249, .int .i64 n250, x251.val] ∧
 IxOk x1_1 n_2 ∧
 ∃ n252 : Int, w248.cell? ((elA x1_1 n_2 5).add 1) = some (.int .i64 n252) ∧
 Trip Try.prog 35 #[.int .i64 0] w248 fun r253 w254 =>
 ∃ n255 : Int, ∃ n256 : Int, ∃ x257 : Sl, r253 = .agg #[.int .i64 n255, .int .i64 n256, x257.val] ∧
 Sub w248 w254 ∧
 Trip Try.prog 31 #[.pointer (some (a_0.add 0)), .agg #[x1_0.val, x1_1.val], x1.val, .int .i64 n252, .int .i64 4] w254 fun r258 w259 =>
 ∃ n260 : Int, ∃ n261 : Int, ∃ x262 : Sl, r258 = .agg #[.int .i64 n260, .int .i64 n261, x262.val] ∧
 StepT Try.prog (Instr.buildSlice 28 3 #[(0, (.agg #[.int .i64 n255, .int .i64 n256, x257.val])), (1, (.agg #[.int .i64 n260, .int .i64 n261, x262.val])), (2, (.agg #[.int .i64 n249, .int .i64 n250, x251.val]))]) w259 fun r263 w264 =>
 ∃ x265 : Sl, r263 = x265.val ∧
 Trip Try.prog 33 #[.int .i64 8, .int .i64 3, x265.val] w264 fun r266 w267 =>
 ∃ n268 : Int, ∃ n269 : Int, ∃ x270 : Sl, r266 = .agg #[.int .i64 n268, .int .i64 n269, x270.val] ∧
 Q (.agg #[.int .i64 n268, .int .i64 n269, x270.val]) w267) ∧
 ((decide (n226 = 3)) = false →
 IxOk x1_1 n_2 ∧
 ∃ n271 : Int, w222.cell? ((elA x1_1 n_2 5).add 1) = some (.int .i64 n271) ∧
 Trip Try.prog 35 #[.int .i64 0] w222 fun r272 w273 =>
 ∃ n274 : Int, ∃ n275 : Int, ∃ x276 : Sl, r272 = .agg #[.int .i64 n274, .int .i64 n275, x276.val] ∧
 Sub w222 w273 ∧
 Trip Try.prog 31 #[.pointer (some (a_0.add 0)), .agg #[x1_0.val, x1_1.val], x1.val, .int .i64 n271, .int .i64 4] w273 fun r277 w278 =>
 ∃ n279 : Int, ∃ n280 : Int, ∃ x281 : Sl, r277 = .agg #[.int .i64 n279, .int .i64 n280, x281.val] ∧
 StepT Try.prog (Instr.buildSlice 28 3 #[(0, (.agg #[.int .i64 n274, .int .i64 n275, x276.val])), (1, (.agg #[.int .i64 n279, .int .i64 n280, x281.val])), (2, (.agg #[.int .i64 n223, .int .i64 n224, x225.val]))]) w278 fun r282 w283 =>
 ∃ x284 : Sl, r282 = x284.val ∧
 Trip Try.prog 33 #[.int .i64 8, .int .i64 3, x284.val] w283 fun r285 w286 =>
 ∃ n287 : Int, ∃ n288 : Int, ∃ x289 : Sl, r285 = .agg #[.int .i64 n287, .int .i64 n288, x289.val] ∧
 Q (.agg #[.int .i64 n287, .int .i64 n288, x289.val]) w286)) ∧
 Sub w70 w70 ∧
 Trip Try.prog 33 #[.int .i64 1, .int .i64 0, x71.val] w70 fun r290 w291 =>
 ∃ n292 : Int, ∃ n293 : Int, ∃ x294 : Sl, r290 = .agg #[.int .i64 n292, .int .i64 n293, x294.val] ∧
 StepT Try.prog (Instr.buildSlice 28 2 #[(0, (.agg #[.int .i64 n50, .int .i64 n51, x52.val])), (1, (.agg #[.int .i64 n292, .int .i64 n293, x294.val]))]) w291 fun r295 w296 =>
 ∃ x297 : Sl, r295 = x297.val ∧
 Trip Try.prog 33 #[.int .i64 1, .int .i64 0, x297.val] w296 fun r298 w299 =>
 ∃ n300 : Int, ∃ n301 : Int, ∃ x302 : Sl, r298 = .agg #[.int .i64 n300, .int .i64 n301, x302.val] ∧
 IxOk x1_1 n_2 ∧
 ∃ n303 : Int, w299.cell? ((elA x1_1 n_2 5).add 1) = some (.int .i64 n303) ∧
 ((decide (n303 = 3)) = true →
 ∃ n304 : Int, Wr .i64 ((x1.n : Int) + 2) n304 ∧
 StepT Try.prog (Instr.buildSlice 27 3 #[(0, (.int .i64 3)), (1, (.int .i64 0)), (2, (.int .i64 3))]) w299 fun r305 w306 =>
 ∃ x307 : Sl, r305 = x307.val ∧
 Sub w299 w306 ∧
 Trip Try.prog 36 #[x1.val, x307.val] w306 fun r308 w309 =>
 ∃ x310 : Sl, r308 = x310.val ∧
 Sub w306 w309 ∧
 Trip Try.prog 31 #[.pointer (some (a_0.add 0)), .agg #[x1_0.val, x1_1.val], x310.val, .int .i64 0, .int .i64 4] w309 fun r311 w312 =>
 ∃ n313 : Int, ∃ n314 : Int, ∃ x315 : Sl, r311 = .agg #[.int .i64 n313, .int .i64 n314, x315.val] ∧
 Trip Try.prog 35 #[.int .i64 n304] w312 fun r316 w317 =>
 ∃ n318 : Int, ∃ n319 : Int, ∃ x320 : Sl, r316 = .agg #[.int .i64 n318, .int .i64 n319, x320.val] ∧
 StepT Try.prog (Instr.buildSlice 28 3 #[(0, (.agg #[.int .i64 n50, .int .i64 n51, x52.val])), (1, (.agg #[.int .i64 n313, .int .i64 n314, x315.val])), (2, (.agg #[.int .i64 n318, .int .i64 n319, x320.val]))]) w317 fun r321 w322 =>
 ∃ x323 : Sl, r321 = x323.val ∧
 Trip Try.prog 33 #[.int .i64 6, .int .i64 3, x323.val] w322 fun r324 w325 =>
 ∃ n326 : Int, ∃ n327 : Int, ∃ x328 : Sl, r324 = .agg #[.int .i64 n326, .int .i64 n327, x328.val] ∧
 IxOk x1_1 n_2 ∧
 ∃ n329 : Int, w325.cell? ((elA x1_1 n_2 5).add 1) = some (.int .i64 n329) ∧
 Trip Try.prog 35 #[.int .i64 0] w325 fun r330 w331 =>
 ∃ n332 : Int, ∃ n333 : Int, ∃ x334 : Sl, r330 = .agg #[.int .i64 n332, .int .i64 n333, x334.val] ∧
 Sub w325 w331 ∧
 Trip Try.prog 31 #[.pointer (some (a_0.add 0)), .agg #[x1_0.val, x1_1.val], x1.val, .int .i64 n329, .int .i64 4] w331 fun r335 w336 =>
 ∃ n337 : Int, ∃ n338 : Int, ∃ x339 : Sl, r335 = .agg #[.int .i64 n337, .int .i64 n338, x339.val] ∧
 StepT Try.prog (Instr.buildSlice 28 3 #[(0, (.agg #[.int .i64 n332, .int .i64 n333, x334.val])), (1, (.agg #[.int .i64 n337, .int .i64 n338, x339.val])), (2, (.agg #[.int .i64 n326, .int .i64 n327, x328.val]))]) w336 fun r340 w341 =>
 ∃ x342 : Sl, r340 = x342.val ∧
 Trip Try.prog 33 #[.int .i64 8, .int .i64 3, x342.val] w341 fun r343 w344 =>
 ∃ n345 : Int, ∃ n346 : Int, ∃ x347 : Sl, r343 = .agg #[.int .i64 n345, .int .i64 n346, x347.val] ∧
 Q (.agg #[.int .i64 n345, .int .i64 n346, x347.val]) w344) ∧
 ((decide (n303 = 3)) = false →
 IxOk x1_1 n_2 ∧
 ∃ n348 : Int, w299.cell? ((elA x1_1 n_2 5).add 1) = some (.int .i64 n348) ∧
 Trip Try.prog 35 #[.int .i64 0] w299 fun r349 w350 =>
 ∃ n351 : Int, ∃ n352 : Int, ∃ x353 : Sl, r349 = .agg #[.int .i64 n351, .int .i64 n352, x353.val] ∧
 Sub w299 w350 ∧
 Trip Try.prog 31 #[.pointer (some (a_0.add 0)), .agg #[x1_0.val, x1_1.val], x1.val, .int .i64 n348, .int .i64 4] w350 fun r354 w355 =>
 ∃ n356 : Int, ∃ n357 : Int, ∃ x358 : Sl, r354 = .agg #[.int .i64 n356, .int .i64 n357, x358.val] ∧
 StepT Try.prog (Instr.buildSlice 28 3 #[(0, (.agg #[.int .i64 n351, .int .i64 n352, x353.val])), (1, (.agg #[.int .i64 n356, .int .i64 n357, x358.val])), (2, (.agg #[.int .i64 n300, .int .i64 n301, x302.val]))]) w355 fun r359 w360 =>
 ∃ x361 : Sl, r359 = x361.val ∧
 Trip Try.prog 33 #[.int .i64 8, .int .i64 3, x361.val] w360 fun r362 w363 =>
 ∃ n364 : Int, ∃ n365 : Int, ∃ x366 : Sl, r362 = .agg #[.int .i64 n364, .int .i64 n365, x366.val] ∧
 Q (.agg #[.int .i64 n364, .int .i64 n365, x366.val]) w363)) ∧
 Sub w65 w65 ∧
 StepT Try.prog (Instr.buildSlice 28 2 #[(0, (.agg #[.int .i64 n66, .int .i64 n67, x68.val])), (1, (.agg #[.int .i64 n55, .int .i64 n56, x57.val]))]) w65 fun r367 w368 =>
 ∃ x369 : Sl, r367 = x369.val ∧
 Trip Try.prog 33 #[.int .i64 1, .int .i64 0, x369.val] w368 fun r370 w371 =>
 ∃ n372 : Int, ∃ n373 : Int, ∃ x374 : Sl, r370 = .agg #[.int .i64 n372, .int .i64 n373, x374.val] ∧
 StepT Try.prog (Instr.buildSlice 28 2 #[(0, (.agg #[.int .i64 n50, .int .i64 n51, x52.val])), (1, (.agg #[.int .i64 n372, .int .i64 n373, x374.val]))]) w371 fun r375 w376 =>
 ∃ x377 : Sl, r375 = x377.val ∧
 Trip Try.prog 33 #[.int .i64 1, .int .i64 0, x377.val] w376 fun r378 w379 =>
 ∃ n380 : Int, ∃ n381 : Int, ∃ x382 : Sl, r378 = .agg #[.int .i64 n380, .int .i64 n381, x382.val] ∧
 IxOk x1_1 n_2 ∧
 ∃ n383 : Int, w379.cell? ((elA x1_1 n_2 5).add 1) = some (.int .i64 n383) ∧
 ((decide (n383 = 3)) = true →
 ∃ n384 : Int, Wr .i64 ((x1.n : Int) + 2) n384 ∧
 StepT Try.prog (Instr.buildSlice 27 3 #[(0, (.int .i64 3)), (1, (.int .i64 0)), (2, (.int .i64 3))]) w379 fun r385 w386 =>
 ∃ x387 : Sl, r385 = x387.val ∧
 Sub w379 w386 ∧
 Trip Try.prog 36 #[x1.val, x387.val] w386 fun r388 w389 =>
 ∃ x390 : Sl, r388 = x390.val ∧
 Sub w386 w389 ∧
 Trip Try.prog 31 #[.pointer (some (a_0.add 0)), .agg #[x1_0.val, x1_1.val], x390.val, .int .i64 0, .int .i64 4] w389 fun r391 w392 =>
 ∃ n393 : Int, ∃ n394 : Int, ∃ x395 : Sl, r391 = .agg #[.int .i64 n393, .int .i64 n394, x395.val] ∧
 Trip Try.prog 35 #[.int .i64 n384] w392 fun r396 w397 =>
 ∃ n398 : Int, ∃ n399 : Int, ∃ x400 : Sl, r396 = .agg #[.int .i64 n398, .int .i64 n399, x400.val] ∧
 StepT Try.prog (Instr.buildSlice 28 3 #[(0, (.agg #[.int .i64 n50, .int .i64 n51, x52.val])), (1, (.agg #[.int .i64 n393, .int .i64 n394, x395.val])), (2, (.agg #[.int .i64 n398, .int .i64 n399, x400.val]))]) w397 fun r401 w402 =>
 ∃ x403 : Sl, r401 = x403.val ∧
 Trip Try.prog 33 #[.int .i64 6, .int .i64 3, x403.val] w402 fun r404 w405 =>
 ∃ n406 : Int, ∃ n407 : Int, ∃ x408 : Sl, r404 = .agg #[.int .i64 n406, .int .i64 n407, x408.val] ∧
 IxOk x1_1 n_2 ∧
 ∃ n409 : Int, w405.cell? ((elA x1_1 n_2 5).add 1) = some (.int .i64 n409) ∧
 Trip Try.prog 35 #[.int .i64 0] w405 fun r410 w411 =>
 ∃ n412 : Int, ∃ n413 : Int, ∃ x414 : Sl, r410 = .agg #[.int .i64 n412, .int .i64 n413, x414.val] ∧
 Sub w405 w411 ∧
 Trip Try.prog 31 #[.pointer (some (a_0.add 0)), .agg #[x1_0.val, x1_1.val], x1.val, .int .i64 n409, .int .i64 4] w411 fun r415 w416 =>
 ∃ n417 : Int, ∃ n418 : Int, ∃ x419 : Sl, r415 = .agg #[.int .i64 n417, .int .i64 n418, x419.val] ∧
 StepT Try.prog (Instr.buildSlice 28 3 #[(0, (.agg #[.int .i64 n412, .int .i64 n413, x414.val])), (1, (.agg #[.int .i64 n417, .int .i64 n418, x419.val])), (2, (.agg #[.int .i64 n406, .int .i64 n407, x408.val]))]) w416 fun r420 w421 =>
 ∃ x422 : Sl, r420 = x422.val ∧
 Trip Try.prog 33 #[.int .i64 8, .int .i64 3, x422.val] w421 fun r423 w424 =>
 ∃ n425 : Int, ∃ n426 : Int, ∃ x427 : Sl, r423 = .agg #[.int .i64 n425, .int .i64 n426, x427.val] ∧
 Q (.agg #[.int .i64 n425, .int .i64 n426, x427.val]) w424) ∧
 ((decide (n383 = 3)) = false →
 IxOk x1_1 n_2 ∧
 ∃ n428 : Int, w379.cell? ((elA x1_1 n_2 5).add 1) = some (.int .i64 n428) ∧
 Trip Try.prog 35 #[.int .i64 0] w379 fun r429 w430 =>
 ∃ n431 : Int, ∃ n432 : Int, ∃ x433 : Sl, r429 = .agg #[.int .i64 n431, .int .i64 n432, x433.val] ∧
 Sub w379 w430 ∧
 Trip Try.prog 31 #[.pointer (some (a_0.add 0)), .agg #[x1_0.val, x1_1.val], x1.val, .int .i64 n428, .int .i64 4] w430 fun r434 w435 =>
 ∃ n436 : Int, ∃ n437 : Int, ∃ x438 : Sl, r434 = .agg #[.int .i64 n436, .int .i64 n437, x438.val] ∧
 StepT Try.prog (Instr.buildSlice 28 3 #[(0, (.agg #[.int .i64 n431, .int .i64 n432, x433.val])), (1, (.agg #[.int .i64 n436, .int .i64 n437, x438.val])), (2, (.agg #[.int .i64 n380, .int .i64 n381, x382.val]))]) w435 fun r439 w440 =>
 ∃ x441 : Sl, r439 = x441.val ∧
 Trip Try.prog 33 #[.int .i64 8, .int .i64 3, x441.val] w440 fun r442 w443 =>
 ∃ n444 : Int, ∃ n445 : Int, ∃ x446 : Sl, r442 = .agg #[.int .i64 n444, .int .i64 n445, x446.val] ∧
 Q (.agg #[.int .i64 n444, .int .i64 n445, x446.val]) w443)) ∧
 Sub w62 w62 ∧
 Trip Try.prog 31 #[.pointer (some (a_0.add 0)), .agg #[x1_0.val, x1_1.val], x63.val, .int .i64 0, .int .i64 4] w62 fun r447 w448 =>
 ∃ n449 : Int, ∃ n450 : Int, ∃ x451 : Sl, r447 = .agg #[.int .i64 n449, .int .i64 n450, x451.val] ∧
 StepT Try.prog (Instr.buildSlice 28 2 #[(0, (.agg #[.int .i64 n449, .int .i64 n450, x451.val])), (1, (.agg #[.int .i64 n55, .int .i64 n56, x57.val]))]) w448 fun r452 w453 =>
 ∃ x454 : Sl, r452 = x454.val ∧
 Trip Try.prog 33 #[.int .i64 1, .int .i64 0, x454.val] w453 fun r455 w456 =>
 ∃ n457 : Int, ∃ n458 : Int, ∃ x459 : Sl, r455 = .agg #[.int .i64 n457, .int .i64 n458, x459.val] ∧
 StepT Try.prog (Instr.buildSlice 28 2 #[(0, (.agg #[.int .i64 n50, .int .i64 n51, x52.val])), (1, (.agg #[.int .i64 n457, .int .i64 n458, x459.val]))]) w456 fun r460 w461 =>
 ∃ x462 : Sl, r460 = x462.val ∧
 Trip Try.prog 33 #[.int .i64 1, .int .i64 0, x462.val] w461 fun r463 w464 =>
 ∃ n465 : Int, ∃ n466 : Int, ∃ x467 : Sl, r463 = .agg #[.int .i64 n465, .int .i64 n466, x467.val] ∧
 IxOk x1_1 n_2 ∧
 ∃ n468 : Int, w464.cell? ((elA x1_1 n_2 5).add 1) = some (.int .i64 n468) ∧
 ((decide (n468 = 3)) = true →
 ∃ n469 : Int, Wr .i64 ((x1.n : Int) + 2) n469 ∧
 StepT Try.prog (Instr.buildSlice 27 3 #[(0, (.int .i64 3)), (1, (.int .i64 0)), (2, (.int .i64 3))]) w464 fun r470 w471 =>
 ∃ x472 : Sl, r470 = x472.val ∧
 Sub w464 w471 ∧
 Trip Try.prog 36 #[x1.val, x472.val] w471 fun r473 w474 =>
 ∃ x475 : Sl, r473 = x475.val ∧
 Sub w471 w474 ∧
 Trip Try.prog 31 #[.pointer (some (a_0.add 0)), .agg #[x1_0.val, x1_1.val], x475.val, .int .i64 0, .int .i64 4] w474 fun r476 w477 =>
 ∃ n478 : Int, ∃ n479 : Int, ∃ x480 : Sl, r476 = .agg #[.int .i64 n478, .int .i64 n479, x480.val] ∧
 Trip Try.prog 35 #[.int .i64 n469] w477 fun r481 w482 =>
 ∃ n483 : Int, ∃ n484 : Int, ∃ x485 : Sl, r481 = .agg #[.int .i64 n483, .int .i64 n484, x485.val] ∧
 StepT Try.prog (Instr.buildSlice 28 3 #[(0, (.agg #[.int .i64 n50, .int .i64 n51, x52.val])), (1, (.agg #[.int .i64 n478, .int .i64 n479, x480.val])), (2, (.agg #[.int .i64 n483, .int .i64 n484, x485.val]))]) w482 fun r486 w487 =>
 ∃ x488 : Sl, r486 = x488.val ∧
 Trip Try.prog 33 #[.int .i64 6, .int .i64 3, x488.val] w487 fun r489 w490 =>
 ∃ n491 : Int, ∃ n492 : Int, ∃ x493 : Sl, r489 = .agg #[.int .i64 n491, .int .i64 n492, x493.val] ∧
 IxOk x1_1 n_2 ∧
 ∃ n494 : Int, w490.cell? ((elA x1_1 n_2 5).add 1) = some (.int .i64 n494) ∧
 Trip Try.prog 35 #[.int .i64 0] w490 fun r495 w496 =>
 ∃ n497 : Int, ∃ n498 : Int, ∃ x499 : Sl, r495 = .agg #[.int .i64 n497, .int .i64 n498, x499.val] ∧
 Sub w490 w496 ∧
 Trip Try.prog 31 #[.pointer (some (a_0.add 0)), .agg #[x1_0.val, x1_1.val], x1.val, .int .i64 n494, .int .i64 4] w496 fun r500 w501 =>
 ∃ n502 : Int, ∃ n503 : Int, ∃ x504 : Sl, r500 = .agg #[.int .i64 n502, .int .i64 n503, x504.val] ∧
 StepT Try.prog (Instr.buildSlice 28 3 #[(0, (.agg #[.int .i64 n497, .int .i64 n498, x499.val])), (1, (.agg #[.int .i64 n502, .int .i64 n503, x504.val])), (2, (.agg #[.int .i64 n491, .int .i64 n492, x493.val]))]) w501 fun r505 w506 =>
 ∃ x507 : Sl, r505 = x507.val ∧
 Trip Try.prog 33 #[.int .i64 8, .int .i64 3, x507.val] w506 fun r508 w509 =>
 ∃ n510 : Int, ∃ n511 : Int, ∃ x512 : Sl, r508 = .agg #[.int .i64 n510, .int .i64 n511, x512.val] ∧
 Q (.agg #[.int .i64 n510, .int .i64 n511, x512.val]) w509) ∧
 ((decide (n468 = 3)) = false →
 IxOk x1_1 n_2 ∧
 ∃ n513 : Int, w464.cell? ((elA x1_1 n_2 5).add 1) = some (.int .i64 n513) ∧
 Trip Try.prog 35 #[.int .i64 0] w464 fun r514 w515 =>
 ∃ n516 : Int, ∃ n517 : Int, ∃ x518 : Sl, r514 = .agg #[.int .i64 n516, .int .i64 n517, x518.val] ∧
 Sub w464 w515 ∧
 Trip Try.prog 31 #[.pointer (some (a_0.add 0)), .agg #[x1_0.val, x1_1.val], x1.val, .int .i64 n513, .int .i64 4] w515 fun r519 w520 =>
 ∃ n521 : Int, ∃ n522 : Int, ∃ x523 : Sl, r519 = .agg #[.int .i64 n521, .int .i64 n522, x523.val] ∧
 StepT Try.prog (Instr.buildSlice 28 3 #[(0, (.agg #[.int .i64 n516, .int .i64 n517, x518.val])), (1, (.agg #[.int .i64 n521, .int .i64 n522, x523.val])), (2, (.agg #[.int .i64 n465, .int .i64 n466, x467.val]))]) w520 fun r524 w525 =>
 ∃ x526 : Sl, r524 = x526.val ∧
 Trip Try.prog 33 #[.int .i64 8, .int .i64 3, x526.val] w525 fun r527 w528 =>
 ∃ n529 : Int, ∃ n530 : Int, ∃ x531 : Sl, r527 = .agg #[.int .i64 n529, .int .i64 n530, x531.val] ∧
 Q (.agg #[.int .i64 n529, .int .i64 n530, x531.val]) w528)) ∧
 Sub w59 w59 ∧
 Trip Try.prog 36 #[x1.val, x60.val] w59 fun r532 w533 =>
 ∃ x534 : Sl, r532 = x534.val ∧
 Sub w59 w533 ∧
 Trip Try.prog 31 #[.pointer (some (a_0.add 0)), .agg #[x1_0.val, x1_1.val], x534.val, .int .i64 0, .int .i64 4] w533 fun r535 w536 =>
 ∃ n537 : Int, ∃ n538 : Int, ∃ x539 : Sl, r535 = .agg #[.int .i64 n537, .int .i64 n538, x539.val] ∧
 StepT Try.prog (Instr.buildSlice 28 2 #[(0, (.agg #[.int .i64 n537, .int .i64 n538, x539.val])), (1, (.agg #[.int .i64 n55, .int .i64 n56, x57.val]))]) w536 fun r540 w541 =>
 ∃ x542 : Sl, r540 = x542.val ∧
 Trip Try.prog 33 #[.int .i64 1, .int .i64 0, x542.val] w541 fun r543 w544 =>
 ∃ n545 : Int, ∃ n546 : Int, ∃ x547 : Sl, r543 = .agg #[.int .i64 n545, .int .i64 n546, x547.val] ∧
 StepT Try.prog (Instr.buildSlice 28 2 #[(0, (.agg #[.int .i64 n50, .int .i64 n51, x52.val])), (1, (.agg #[.int .i64 n545, .int .i64 n546, x547.val]))]) w544 fun r548 w549 =>
 ∃ x550 : Sl, r548 = x550.val ∧
 Trip Try.prog 33 #[.int .i64 1, .int .i64 0, x550.val] w549 fun r551 w552 =>
 ∃ n553 : Int, ∃ n554 : Int, ∃ x555 : Sl, r551 = .agg #[.int .i64 n553, .int .i64 n554, x555.val] ∧
 IxOk x1_1 n_2 ∧
 ∃ n556 : Int, w552.cell? ((elA x1_1 n_2 5).add 1) = some (.int .i64 n556) ∧
 ((decide (n556 = 3)) = true →
 ∃ n557 : Int, Wr .i64 ((x1.n : Int) + 2) n557 ∧
 StepT Try.prog (Instr.buildSlice 27 3 #[(0, (.int .i64 3)), (1, (.int .i64 0)), (2, (.int .i64 3))]) w552 fun r558 w559 =>
 ∃ x560 : Sl, r558 = x560.val ∧
 Sub w552 w559 ∧
 Trip Try.prog 36 #[x1.val, x560.val] w559 fun r561 w562 =>
 ∃ x563 : Sl, r561 = x563.val ∧
 Sub w559 w562 ∧
 Trip Try.prog 31 #[.pointer (some (a_0.add 0)), .agg #[x1_0.val, x1_1.val], x563.val, .int .i64 0, .int .i64 4] w562 fun r564 w565 =>
 ∃ n566 : Int, ∃ n567 : Int, ∃ x568 : Sl, r564 = .agg #[.int .i64 n566, .int .i64 n567, x568.val] ∧
 Trip Try.prog 35 #[.int .i64 n557] w565 fun r569 w570 =>
 ∃ n571 : Int, ∃ n572 : Int, ∃ x573 : Sl, r569 = .agg #[.int .i64 n571, .int .i64 n572, x573.val] ∧
 StepT Try.prog (Instr.buildSlice 28 3 #[(0, (.agg #[.int .i64 n50, .int .i64 n51, x52.val])), (1, (.agg #[.int .i64 n566, .int .i64 n567, x568.val])), (2, (.agg #[.int .i64 n571, .int .i64 n572, x573.val]))]) w570 fun r574 w575 =>
 ∃ x576 : Sl, r574 = x576.val ∧
 Trip Try.prog 33 #[.int .i64 6, .int .i64 3, x576.val] w575 fun r577 w578 =>
 ∃ n579 : Int, ∃ n580 : Int, ∃ x581 : Sl, r577 = .agg #[.int .i64 n579, .int .i64 n580, x581.val] ∧
 IxOk x1_1 n_2 ∧
 ∃ n582 : Int, w578.cell? ((elA x1_1 n_2 5).add 1) = some (.int .i64 n582) ∧
 Trip Try.prog 35 #[.int .i64 0] w578 fun r583 w584 =>
 ∃ n585 : Int, ∃ n586 : Int, ∃ x587 : Sl, r583 = .agg #[.int .i64 n585, .int .i64 n586, x587.val] ∧
 Sub w578 w584 ∧
 Trip Try.prog 31 #[.pointer (some (a_0.add 0)), .agg #[x1_0.val, x1_1.val], x1.val, .int .i64 n582, .int .i64 4] w584 fun r588 w589 =>
 ∃ n590 : Int, ∃ n591 : Int, ∃ x592 : Sl, r588 = .agg #[.int .i64 n590, .int .i64 n591, x592.val] ∧
 StepT Try.prog (Instr.buildSlice 28 3 #[(0, (.agg #[.int .i64 n585, .int .i64 n586, x587.val])), (1, (.agg #[.int .i64 n590, .int .i64 n591, x592.val])), (2, (.agg #[.int .i64 n579, .int .i64 n580, x581.val]))]) w589 fun r593 w594 =>
 ∃ x595 : Sl, r593 = x595.val ∧
 Trip Try.prog 33 #[.int .i64 8, .int .i64 3, x595.val] w594 fun r596 w597 =>
 ∃ n598 : Int, ∃ n599 : Int, ∃ x600 : Sl, r596 = .agg #[.int .i64 n598, .int .i64 n599, x600.val] ∧
 Q (.agg #[.int .i64 n598, .int .i64 n599, x600.val]) w597) ∧
 ((decide (n556 = 3)) = false →
 IxOk x1_1 n_2 ∧
 ∃ n601 : Int, w552.cell? ((elA x1_1 n_2 5).add 1) = some (.int .i64 n601) ∧
 Trip Try.prog 35 #[.int .i64 0] w552 fun r602 w603 =>
 ∃ n604 : Int, ∃ n605 : Int, ∃ x606 : Sl, r602 = .agg #[.int .i64 n604, .int .i64 n605, x606.val] ∧
 Sub w552 w603 ∧
 Trip Try.prog 31 #[.pointer (some (a_0.add 0)), .agg #[x1_0.val, x1_1.val], x1.val, .int .i64 n601, .int .i64 4] w603 fun r607 w608 =>
 ∃ n609 : Int, ∃ n610 : Int, ∃ x611 : Sl, r607 = .agg #[.int .i64 n609, .int .i64 n610, x611.val] ∧
 StepT Try.prog (Instr.buildSlice 28 3 #[(0, (.agg #[.int .i64 n604, .int .i64 n605, x606.val])), (1, (.agg #[.int .i64 n609, .int .i64 n610, x611.val])), (2, (.agg #[.int .i64 n553, .int .i64 n554, x555.val]))]) w608 fun r612 w613 =>
 ∃ x614 : Sl, r612 = x614.val ∧
 Trip Try.prog 33 #[.int .i64 8, .int .i64 3, x614.val] w613 fun r615 w616 =>
 ∃ n617 : Int, ∃ n618 : Int, ∃ x619 : Sl, r615 = .agg #[.int .i64 n617, .int .i64 n618, x619.val] ∧
 Q (.agg #[.int .i64 n617, .int .i64 n618, x619.val]) w616)) ∧
 Sub w54 w54 ∧
 StepT Try.prog (Instr.buildSlice 27 3 #[(0, (.int .i64 3)), (1, (.int .i64 0)), (2, (.int .i64 3))]) w54 fun r620 w621 =>
 ∃ x622 : Sl, r620 = x622.val ∧
 Sub w54 w621 ∧
 Trip Try.prog 36 #[x1.val, x622.val] w621 fun r623 w624 =>
 ∃ x625 : Sl, r623 = x625.val ∧
 Sub w621 w624 ∧
 Trip Try.prog 31 #[.pointer (some (a_0.add 0)), .agg #[x1_0.val, x1_1.val], x625.val, .int .i64 0, .int .i64 4] w624 fun r626 w627 =>
 ∃ n628 : Int, ∃ n629 : Int, ∃ x630 : Sl, r626 = .agg #[.int .i64 n628, .int .i64 n629, x630.val] ∧
 StepT Try.prog (Instr.buildSlice 28 2 #[(0, (.agg #[.int .i64 n628, .int .i64 n629, x630.val])), (1, (.agg #[.int .i64 n55, .int .i64 n56, x57.val]))]) w627 fun r631 w632 =>
 ∃ x633 : Sl, r631 = x633.val ∧
 Trip Try.prog 33 #[.int .i64 1, .int .i64 0, x633.val] w632 fun r634 w635 =>
 ∃ n636 : Int, ∃ n637 : Int, ∃ x638 : Sl, r634 = .agg #[.int .i64 n636, .int .i64 n637, x638.val] ∧
 StepT Try.prog (Instr.buildSlice 28 2 #[(0, (.agg #[.int .i64 n50, .int .i64 n51, x52.val])), (1, (.agg #[.int .i64 n636, .int .i64 n637, x638.val]))]) w635 fun r639 w640 =>
 ∃ x641 : Sl, r639 = x641.val ∧
 Trip Try.prog 33 #[.int .i64 1, .int .i64 0, x641.val] w640 fun r642 w643 =>
 ∃ n644 : Int, ∃ n645 : Int, ∃ x646 : Sl, r642 = .agg #[.int .i64 n644, .int .i64 n645, x646.val] ∧
 IxOk x1_1 n_2 ∧
 ∃ n647 : Int, w643.cell? ((elA x1_1 n_2 5).add 1) = some (.int .i64 n647) ∧
 ((decide (n647 = 3)) = true →
 ∃ n648 : Int, Wr .i64 ((x1.n : Int) + 2) n648 ∧
 StepT Try.prog (Instr.buildSlice 27 3 #[(0, (.int .i64 3)), (1, (.int .i64 0)), (2, (.int .i64 3))]) w643 fun r649 w650 =>
 ∃ x651 : Sl, r649 = x651.val ∧
 Sub w643 w650 ∧
 Trip Try.prog 36 #[x1.val, x651.val] w650 fun r652 w653 =>
 ∃ x654 : Sl, r652 = x654.val ∧
 Sub w650 w653 ∧
 Trip Try.prog 31 #[.pointer (some (a_0.add 0)), .agg #[x1_0.val, x1_1.val], x654.val, .int .i64 0, .int .i64 4] w653 fun r655 w656 =>
 ∃ n657 : Int, ∃ n658 : Int, ∃ x659 : Sl, r655 = .agg #[.int .i64 n657, .int .i64 n658, x659.val] ∧
 Trip Try.prog 35 #[.int .i64 n648] w656 fun r660 w661 =>
 ∃ n662 : Int, ∃ n663 : Int, ∃ x664 : Sl, r660 = .agg #[.int .i64 n662, .int .i64 n663, x664.val] ∧
 StepT Try.prog (Instr.buildSlice 28 3 #[(0, (.agg #[.int .i64 n50, .int .i64 n51, x52.val])), (1, (.agg #[.int .i64 n657, .int .i64 n658, x659.val])), (2, (.agg #[.int .i64 n662, .int .i64 n663, x664.val]))]) w661 fun r665 w666 =>
 ∃ x667 : Sl, r665 = x667.val ∧
 Trip Try.prog 33 #[.int .i64 6, .int .i64 3, x667.val] w666 fun r668 w669 =>
 ∃ n670 : Int, ∃ n671 : Int, ∃ x672 : Sl, r668 = .agg #[.int .i64 n670, .int .i64 n671, x672.val] ∧
 IxOk x1_1 n_2 ∧
 ∃ n673 : Int, w669.cell? ((elA x1_1 n_2 5).add 1) = some (.int .i64 n673) ∧
 Trip Try.prog 35 #[.int .i64 0] w669 fun r674 w675 =>
 ∃ n676 : Int, ∃ n677 : Int, ∃ x678 : Sl, r674 = .agg #[.int .i64 n676, .int .i64 n677, x678.val] ∧
 Sub w669 w675 ∧
 Trip Try.prog 31 #[.pointer (some (a_0.add 0)), .agg #[x1_0.val, x1_1.val], x1.val, .int .i64 n673, .int .i64 4] w675 fun r679 w680 =>
 ∃ n681 : Int, ∃ n682 : Int, ∃ x683 : Sl, r679 = .agg #[.int .i64 n681, .int .i64 n682, x683.val] ∧
 StepT Try.prog (Instr.buildSlice 28 3 #[(0, (.agg #[.int .i64 n676, .int .i64 n677, x678.val])), (1, (.agg #[.int .i64 n681, .int .i64 n682, x683.val])), (2, (.agg #[.int .i64 n670, .int .i64 n671, x672.val]))]) w680 fun r684 w685 =>
 ∃ x686 : Sl, r684 = x686.val ∧
 Trip Try.prog 33 #[.int .i64 8, .int .i64 3, x686.val] w685 fun r687 w688 =>
 ∃ n689 : Int, ∃ n690 : Int, ∃ x691 : Sl, r687 = .agg #[.int .i64 n689, .int .i64 n690, x691.val] ∧
 Q (.agg #[.int .i64 n689, .int .i64 n690, x691.val]) w688) ∧
 ((decide (n647 = 3)) = false →
 IxOk x1_1 n_2 ∧
 ∃ n692 : Int, w643.cell? ((elA x1_1 n_2 5).add 1) = some (.int .i64 n692) ∧
 Trip Try.prog 35 #[.int .i64 0] w643 fun r693 w694 =>
 ∃ n695 : Int, ∃ n696 : Int, ∃ x697 : Sl, r693 = .agg #[.int .i64 n695, .int .i64 n696, x697.val] ∧
 Sub w643 w694 ∧
 Trip Try.prog 31 #[.pointer (some (a_0.add 0)), .agg #[x1_0.val, x1_1.val], x1.val, .int .i64 n692, .int .i64 4] w694 fun r698 w699 =>
 ∃ n700 : Int, ∃ n701 : Int, ∃ x702 : Sl, r698 = .agg #[.int .i64 n700, .int .i64 n701, x702.val] ∧
 StepT Try.prog (Instr.buildSlice 28 3 #[(0, (.agg #[.int .i64 n695, .int .i64 n696, x697.val])), (1, (.agg #[.int .i64 n700, .int .i64 n701, x702.val])), (2, (.agg #[.int .i64 n644, .int .i64 n645, x646.val]))]) w699 fun r703 w704 =>
 ∃ x705 : Sl, r703 = x705.val ∧
 Trip Try.prog 33 #[.int .i64 8, .int .i64 3, x705.val] w704 fun r706 w707 =>
 ∃ n708 : Int, ∃ n709 : Int, ∃ x710 : Sl, r706 = .agg #[.int .i64 n708, .int .i64 n709, x710.val] ∧
 Q (.agg #[.int .i64 n708, .int .i64 n709, x710.val]) w707))
theorem of80 (a_0 : Addr) (x1_0 : Sl) (x1_1 : Sl) (n_2 : Int) (v : World) (Q : Value → World → Prop) (h : vc80 a_0 x1_0 x1_1 n_2 v Q) : Trip Try.prog 80 #[.pointer (some (a_0.add 0)), .agg #[x1_0.val, x1_1.val], .int .i64 n_2] v Q :=
 trip_of_eq (args := [.pt a_0 0, .ag [.sl x1_0, .sl x1_1], .num .i64 n_2]) (A := ⟨[(6, [(9, .sl), (10, .sl), (11, .int .i64)], [])], [], [(12, [4, 5, 12]), (14, [4, 5]), (15, [0])], [], psG⟩) Try.func80 (by kernel_rfl) (by kernel_rfl) (by kernel_rfl : vc80 a_0 x1_0 x1_1 n_2 v Q = _) h

def vc81 (a_0 : Addr) (x1_0 : Sl) (x1_1 : Sl) (n_2 : Int) (v : World) (Q : Value → World → Prop) : Prop :=
 IxOk x1_1 n_2 ∧
 ∃ x1 : Sl, v.cell? ((elA x1_1 n_2 5).add 0) = some (x1.val) ∧
 Trip Try.prog 35 #[.int .i64 0] v fun r2 w3 =>
 ∃ n4 : Int, ∃ n5 : Int, ∃ x6 : Sl, r2 = .agg #[.int .i64 n4, .int .i64 n5, x6.val] ∧
 Trip Try.prog 34 #[.int .i64 1] w3 fun r7 w8 =>
 ∃ n9 : Int, ∃ n10 : Int, ∃ x11 : Sl, r7 = .agg #[.int .i64 n9, .int .i64 n10, x11.val] ∧
 StepT Try.prog (Instr.buildSlice 28 2 #[(0, (.agg #[.int .i64 n4, .int .i64 n5, x6.val])), (1, (.agg #[.int .i64 n9, .int .i64 n10, x11.val]))]) w8 fun r12 w13 =>
 ∃ x14 : Sl, r12 = x14.val ∧
 Trip Try.prog 33 #[.int .i64 2, .int .i64 0, x14.val] w13 fun r15 w16 =>
 ∃ n17 : Int, ∃ n18 : Int, ∃ x19 : Sl, r15 = .agg #[.int .i64 n17, .int .i64 n18, x19.val] ∧
 StepT Try.prog (Instr.buildSlice 28 1 #[(0, (.agg #[.int .i64 n17, .int .i64 n18, x19.val]))]) w16 fun r20 w21 =>
 ∃ x22 : Sl, r20 = x22.val ∧
 ∃ I23 : Sl → Int → World → Prop, ∃ m24 : Sl → Int → World → Nat, I23 x22 1 w21 ∧
 ∀ x25 : Sl, ∀ n26 : Int, ∀ w27 : World, I23 x25 n26 w27 →
 ((decide (n26 < (x1.n : Int))) = true →
 IxOk x1 n26 ∧
 ∃ n28 : Int, w27.cell? ((elA x1 n26 1).add 0) = some (.int .i64 n28) ∧
 Trip Try.prog 58 #[.pointer (some (a_0.add 0)), .agg #[x1_0.val, x1_1.val], x1.val, .int .i64 n28] w27 fun r29 w30 =>
 ∃ n31 : Int, ∃ n32 : Int, ∃ x33 : Sl, r29 = .agg #[.int .i64 n31, .int .i64 n32, x33.val] ∧
 StepT Try.prog (Instr.buildSlice 28 1 #[(0, (.agg #[.int .i64 n31, .int .i64 n32, x33.val]))]) w30 fun r34 w35 =>
 ∃ x36 : Sl, r34 = x36.val ∧
 StepT Try.prog (Builtin.append_ #[28, 28] 28 #[(x25.val), (x36.val)]) w35 fun r37 w38 =>
 ∃ x39 : Sl, r37 = x39.val ∧
 ∃ n40 : Int, Wr .i64 (n26 + 1) n40 ∧
 eqS (.sl x1_0) ∧
 eqS (.sl x1_1) ∧
 eqS (.num .i64 0) ∧
 eqS (.num .i64 0) ∧
 eqS (.sl (Sl.mk none 0 0)) ∧
 I23 x39 n40 w38 ∧
 m24 x39 n40 w38 < m24 x25 n26 w27) ∧
 ((decide (n26 < (x1.n : Int))) = false →
 Trip Try.prog 33 #[.int .i64 9, .int .i64 n_2, x25.val] w27 fun r41 w42 =>
 ∃ n43 : Int, ∃ n44 : Int, ∃ x45 : Sl, r41 = .agg #[.int .i64 n43, .int .i64 n44, x45.val] ∧
 IxOk x1_1 n_2 ∧
 ∃ n46 : Int, w42.cell? ((elA x1_1 n_2 5).add 1) = some (.int .i64 n46) ∧
 ((decide (n46 = 1)) = true →
 Trip Try.prog 31 #[.pointer (some (a_0.add 0)), .agg #[x1_0.val, x1_1.val], x1.val, .int .i64 0, .int .i64 3] w42 fun r47 w48 =>
 ∃ n49 : Int, ∃ n50 : Int, ∃ x51 : Sl, r47 = .agg #[.int .i64 n49, .int .i64 n50, x51.val] ∧
 StepT Try.prog (Instr.buildSlice 28 2 #[(0, (.agg #[.int .i64 n49, .int .i64 n50, x51.val])), (1, (.agg #[.int .i64 n43, .int .i64 n44, x45.val]))]) w48 fun r52 w53 =>
 ∃ x54 : Sl, r52 = x54.val ∧
 Trip Try.prog 33 #[.int .i64 6, .int .i64 1, x54.val] w53 fun r55 w56 =>
 ∃ n57 : Int, ∃ n58 : Int, ∃ x59 : Sl, r55 = .agg #[.int .i64 n57, .int .i64 n58, x59.val] ∧
 Trip Try.prog 34 #[.int .i64 0] w56 fun r60 w61 =>
 ∃ n62 : Int, ∃ n63 : Int, ∃ x64 : Sl, r60 = .agg #[.int .i64 n62, .int .i64 n63, x64.val] ∧
 Trip Try.prog 35 #[.int .i64 0] w61 fun r65 w66 =>
 ∃ n67 : Int, ∃ n68 : Int, ∃ x69 : Sl, r65 = .agg #[.int .i64 n67, .int .i64 n68, x69.val] ∧
 StepT Try.prog (Instr.buildSlice 28 2 #[(0, (.agg #[.int .i64 n62, .int .i64 n63, x64.val])), (1, (.agg #[.int .i64 n67, .int .i64 n68, x69.val]))]) w66 fun r70 w71 =>
 ∃ x72 : Sl, r70 = x72.val ∧
 Trip Try.prog 33 #[.int .i64 4, .int .i64 0, x72.val] w71 fun r73 w74 =>
 ∃ n75 : Int, ∃ n76 : Int, ∃ x77 : Sl, r73 = .agg #[.int .i64 n75, .int .i64 n76, x77.val] ∧
 IxOk x1_1 n_2 ∧
 ∃ n78 : Int, w74.cell? ((elA x1_1 n_2 5).add 1) = some (.int .i64 n78) ∧
 Trip Try.prog 31 #[.pointer (some (a_0.add 0)), .agg #[x1_0.val, x1_1.val], x1.val, .int .i64 n78, .int .i64 4] w74 fun r79 w80 =>
 ∃ n81 : Int, ∃ n82 : Int, ∃ x83 : Sl, r79 = .agg #[.int .i64 n81, .int .i64 n82, x83.val] ∧
 StepT Try.prog (Instr.buildSlice 28 3 #[(0, (.agg #[.int .i64 n75, .int .i64 n76, x77.val])), (1, (.agg #[.int .i64 n57, .int .i64 n58, x59.val])), (2, (.agg #[.int .i64 n81, .int .i64 n82, x83.val]))]) w80 fun r84 w85 =>
 ∃ x86 : Sl, r84 = x86.val ∧
 Trip Try.prog 33 #[.int .i64 7, .int .i64 0, x86.val] w85 fun r87 w88 =>
 ∃ n89 : Int, ∃ n90 : Int, ∃ x91 : Sl, r87 = .agg #[.int .i64 n89, .int .i64 n90, x91.val] ∧
 Q (.agg #[.int .i64 n89, .int .i64 n90, x91.val]) w88) ∧
 ((decide (n46 = 1)) = false →
 Trip Try.prog 34 #[.int .i64 0] w42 fun r92 w93 =>
 ∃ n94 : Int, ∃ n95 : Int, ∃ x96 : Sl, r92 = .agg #[.int .i64 n94, .int .i64 n95, x96.val] ∧
 Trip Try.prog 35 #[.int .i64 0] w93 fun r97 w98 =>
 ∃ n99 : Int, ∃ n100 : Int, ∃ x101 : Sl, r97 = .agg #[.int .i64 n99, .int .i64 n100, x101.val] ∧
 StepT Try.prog (Instr.buildSlice 28 2 #[(0, (.agg #[.int .i64 n94, .int .i64 n95, x96.val])), (1, (.agg #[.int .i64 n99, .int .i64 n100, x101.val]))]) w98 fun r102 w103 =>
 ∃ x104 : Sl, r102 = x104.val ∧
 Trip Try.prog 33 #[.int .i64 4, .int .i64 0, x104.val] w103 fun r105 w106 =>
 ∃ n107 : Int, ∃ n108 : Int, ∃ x109 : Sl, r105 = .agg #[.int .i64 n107, .int .i64 n108, x109.val] ∧
 IxOk x1_1 n_2 ∧
 ∃ n110 : Int, w106.cell? ((elA x1_1 n_2 5).add 1) = some (.int .i64 n110) ∧
 Trip Try.prog 31 #[.pointer (some (a_0.add 0)), .agg #[x1_0.val, x1_1.val], x1.val, .int .i64 n110, .int .i64 4] w106 fun r111 w112 =>
 ∃ n113 : Int, ∃ n114 : Int, ∃ x115 : Sl, r111 = .agg #[.int .i64 n113, .int .i64 n114, x115.val] ∧
 StepT Try.prog (Instr.buildSlice 28 3 #[(0, (.agg #[.int .i64 n107, .int .i64 n108, x109.val])), (1, (.agg #[.int .i64 n43, .int .i64 n44, x45.val])), (2, (.agg #[.int .i64 n113, .int .i64 n114, x115.val]))]) w112 fun r116 w117 =>
 ∃ x118 : Sl, r116 = x118.val ∧
 Trip Try.prog 33 #[.int .i64 7, .int .i64 0, x118.val] w117 fun r119 w120 =>
 ∃ n121 : Int, ∃ n122 : Int, ∃ x123 : Sl, r119 = .agg #[.int .i64 n121, .int .i64 n122, x123.val] ∧
 Q (.agg #[.int .i64 n121, .int .i64 n122, x123.val]) w120))
theorem of81 (a_0 : Addr) (x1_0 : Sl) (x1_1 : Sl) (n_2 : Int) (v : World) (Q : Value → World → Prop) (h : vc81 a_0 x1_0 x1_1 n_2 v Q) : Trip Try.prog 81 #[.pointer (some (a_0.add 0)), .agg #[x1_0.val, x1_1.val], .int .i64 n_2] v Q :=
 trip_of_eq (args := [.pt a_0 0, .ag [.sl x1_0, .sl x1_1], .num .i64 n_2]) (A := ⟨[(4, [(8, .sl), (9, .int .i64)], [])], [], [(6, []), (9, []), (11, [])], [], psG⟩) Try.func81 (by kernel_rfl) (by kernel_rfl) (by kernel_rfl : vc81 a_0 x1_0 x1_1 n_2 v Q = _) h

def vc82 (x_0 : Sl) (n_1 : Int) (v : World) (Q : Value → World → Prop) : Prop :=
 StepT Try.prog (Instr.buildSlice 27 0 #[]) v fun r1 w2 =>
 ∃ x3 : Sl, r1 = x3.val ∧
 ∃ I4 : Sl → Int → World → Prop, ∃ m5 : Sl → Int → World → Nat, I4 x3 0 w2 ∧
 ∀ x6 : Sl, ∀ n7 : Int, ∀ w8 : World, I4 x6 n7 w8 →
 ((decide (n7 < (x_0.n : Int))) = true →
 IxOk x_0 n7 ∧
 ∃ n9 : Int, w8.cell? ((elA x_0 n7 1).add 0) = some (.int .i64 n9) ∧
 ((decide (n9 = n_1)) = true →
 StepT Try.prog (Instr.buildSlice 27 1 #[(0, (.int .i64 n7))]) w8 fun r10 w11 =>
 ∃ x12 : Sl, r10 = x12.val ∧
 StepT Try.prog (Builtin.append_ #[27, 27] 27 #[(x6.val), (x12.val)]) w11 fun r13 w14 =>
 ∃ x15 : Sl, r13 = x15.val ∧
 ∃ n16 : Int, Wr .i64 (n7 + 1) n16 ∧
 I4 x15 n16 w14 ∧
 m5 x15 n16 w14 < m5 x6 n7 w8) ∧
 ((decide (n9 = n_1)) = false →
 ∃ n17 : Int, Wr .i64 (n7 + 1) n17 ∧
 I4 x6 n17 w8 ∧
 m5 x6 n17 w8 < m5 x6 n7 w8)) ∧
 ((decide (n7 < (x_0.n : Int))) = false →
 Q (x6.val) w8)
theorem of82 (x_0 : Sl) (n_1 : Int) (v : World) (Q : Value → World → Prop) (h : vc82 x_0 n_1 v Q) : Trip Try.prog 82 #[x_0.val, .int .i64 n_1] v Q :=
 trip_of_eq (args := [.sl x_0, .num .i64 n_1]) (A := ⟨[(3, [(5, .sl), (6, .int .i64)], [])], [], [], [], psG⟩) Try.func82 (by kernel_rfl) (by kernel_rfl) (by kernel_rfl : vc82 x_0 n_1 v Q = _) h

def vc83 (x0_0 : Sl) (x0_1 : Sl) (x_1 : Sl) (n_2 : Int) (v : World) (Q : Value → World → Prop) : Prop :=
 ∃ q1 : Bool, (Trip Try.prog 54 #[x0_0.val, .int .i64 n_2] v fun r2 w3 => r2 = .bool q1 ∧ Sub v w3) ∧
 ((!q1) = false →
 Trip Try.prog 87 #[.agg #[x0_0.val, x0_1.val], .int .i64 n_2] v fun r4 w5 =>
 ∃ x6 : Sl, r4 = x6.val ∧
 ∃ q7 : Bool, ((decide ((x6.n : Int) > 0)) = false →
 (Trip Try.prog 88 #[x_1.val, .int .i64 n_2] w5 fun r8 w9 => r8 = .bool q7 ∧ Sub w5 w9)) ∧
 Q (.bool ((decide ((x6.n : Int) > 0)) || q7)) w5) ∧
 ((!q1) = true →
 Q (.bool true) v)
theorem of83 (x0_0 : Sl) (x0_1 : Sl) (x_1 : Sl) (n_2 : Int) (v : World) (Q : Value → World → Prop) (h : vc83 x0_0 x0_1 x_1 n_2 v Q) : Trip Try.prog 83 #[.agg #[x0_0.val, x0_1.val], x_1.val, .int .i64 n_2] v Q :=
 trip_of_eq (args := [.ag [.sl x0_0, .sl x0_1], .sl x_1, .num .i64 n_2]) (A := ⟨[], [], [], [], psG⟩) Try.func83 (by kernel_rfl) (by kernel_rfl) (by kernel_rfl : vc83 x0_0 x0_1 x_1 n_2 v Q = _) h

def vc84 (a_0 : Addr) (x1_0 : Sl) (x1_1 : Sl) (n_2 : Int) (v : World) (Q : Value → World → Prop) : Prop :=
 Trip Try.prog 75 #[x1_0.val, .int .i64 n_2] v fun r1 w2 =>
 ∃ x3 : Sl, r1 = x3.val ∧
 ((decide ((x3.n : Int) > 0)) = true →
 IxOk x3 0 ∧
 ∃ n4 : Int, w2.cell? ((elA x3 0 1).add 0) = some (.int .i64 n4) ∧
 ∃ J5 : Int → World → Prop, (((decide ((x3.n : Int) > 1)) = true →
 Trip Try.prog 12 #[.pointer (some (a_0.add 0)), .int .i64 4] w2 fun r6 w7 =>
 ∃ n8 : Int, r6 = .int .i64 n8 ∧
 ((decide (n8 = 0)) = true →
 IxOk x3 1 ∧
 ∃ n9 : Int, w7.cell? ((elA x3 1 1).add 0) = some (.int .i64 n9) ∧
 eqS (.sl x1_0) ∧
 eqS (.sl x1_1) ∧
 eqS (.num .i64 0) ∧
 eqS (.num .i64 0) ∧
 eqS (.sl (Sl.mk none 0 0)) ∧
 J5 n9 w7) ∧
 ((decide (n8 = 0)) = false →
 eqS (.sl x1_0) ∧
 eqS (.sl x1_1) ∧
 eqS (.num .i64 0) ∧
 eqS (.num .i64 0) ∧
 eqS (.sl (Sl.mk none 0 0)) ∧
 J5 n4 w7)) ∧
 ((decide ((x3.n : Int) > 1)) = false →
 eqS (.sl x1_0) ∧
 eqS (.sl x1_1) ∧
 eqS (.num .i64 0) ∧
 eqS (.num .i64 0) ∧
 eqS (.sl (Sl.mk none 0 0)) ∧
 J5 n4 w2)) ∧
 ∀ n10 : Int, ∀ w11 : World, J5 n10 w11 →
 ∃ J12 : Int → World → Prop, (Trip Try.prog 51 #[x1_0.val, .int .i64 n10] w11 fun r13 w14 =>
 ∃ x15 : Sl, r13 = x15.val ∧
 ∃ q16 : Bool, (Trip Try.prog 88 #[x15.val, .int .i64 n_2] w14 fun r17 w18 => r17 = .bool q16 ∧ Sub w14 w18) ∧
 (q16 = true →
 IxOk x3 0 ∧
 ∃ n19 : Int, w14.cell? ((elA x3 0 1).add 0) = some (.int .i64 n19) ∧
 eqS (.sl x1_0) ∧
 eqS (.sl x1_1) ∧
 eqS (.num .i64 0) ∧
 eqS (.num .i64 0) ∧
 eqS (.sl (Sl.mk none 0 0)) ∧
 J12 n19 w14) ∧
 (q16 = false →
 eqS (.sl x1_0) ∧
 eqS (.sl x1_1) ∧
 eqS (.num .i64 0) ∧
 eqS (.num .i64 0) ∧
 eqS (.sl (Sl.mk none 0 0)) ∧
 J12 n10 w14)) ∧
 ∀ n20 : Int, ∀ w21 : World, J12 n20 w21 →
 StepT Try.prog (Instr.buildSlice 28 0 #[]) w21 fun r22 w23 =>
 ∃ x24 : Sl, r22 = x24.val ∧
 Trip Try.prog 51 #[x1_0.val, .int .i64 n20] w23 fun r25 w26 =>
 ∃ x27 : Sl, r25 = x27.val ∧
 ∃ I28 : Sl → Int → World → Prop, ∃ m29 : Sl → Int → World → Nat, I28 x24 0 w26 ∧
 ∀ x30 : Sl, ∀ n31 : Int, ∀ w32 : World, I28 x30 n31 w32 →
 ((decide (n31 < (x27.n : Int))) = true →
 IxOk x27 n31 ∧
 ∃ n33 : Int, w32.cell? ((elA x27 n31 1).add 0) = some (.int .i64 n33) ∧
 Trip Try.prog 84 #[.pointer (some (a_0.add 0)), .agg #[x1_0.val, x1_1.val], .int .i64 n33] w32 fun r34 w35 =>
 ∃ n36 : Int, ∃ n37 : Int, ∃ x38 : Sl, r34 = .agg #[.int .i64 n36, .int .i64 n37, x38.val] ∧
 StepT Try.prog (Instr.buildSlice 28 1 #[(0, (.agg #[.int .i64 n36, .int .i64 n37, x38.val]))]) w35 fun r39 w40 =>
 ∃ x41 : Sl, r39 = x41.val ∧
 StepT Try.prog (Builtin.append_ #[28, 28] 28 #[(x30.val), (x41.val)]) w40 fun r42 w43 =>
 ∃ x44 : Sl, r42 = x44.val ∧
 ∃ n45 : Int, Wr .i64 (n31 + 1) n45 ∧
 eqS (.sl x1_0) ∧
 eqS (.sl x1_1) ∧
 eqS (.num .i64 0) ∧
 eqS (.num .i64 0) ∧
 eqS (.sl (Sl.mk none 0 0)) ∧
 I28 x44 n45 w43 ∧
 m29 x44 n45 w43 < m29 x30 n31 w32) ∧
 ((decide (n31 < (x27.n : Int))) = false →
 Trip Try.prog 33 #[.int .i64 6, .int .i64 n20, x30.val] w32 fun r46 w47 =>
 ∃ n48 : Int, ∃ n49 : Int, ∃ x50 : Sl, r46 = .agg #[.int .i64 n48, .int .i64 n49, x50.val] ∧
 Q (.agg #[.int .i64 n48, .int .i64 n49, x50.val]) w47)) ∧
 ((decide ((x3.n : Int) > 0)) = false →
 Trip Try.prog 87 #[.agg #[x1_0.val, x1_1.val], .int .i64 n_2] w2 fun r51 w52 =>
 ∃ x53 : Sl, r51 = x53.val ∧
 (((decide (n_2 > 0)) && (decide ((x53.n : Int) > 0))) = true →
 Trip Try.prog 12 #[.pointer (some (a_0.add 0)), .int .i64 (x53.n : Int)] w52 fun r54 w55 =>
 ∃ n56 : Int, r54 = .int .i64 n56 ∧
 IxOk x53 n56 ∧
 ∃ n57 : Int, w55.cell? ((elA x53 n56 1).add 0) = some (.int .i64 n57) ∧
 IxOk x1_1 n57 ∧
 ∃ x58 : Sl, w55.cell? ((elA x1_1 n57 5).add 0) = some (x58.val) ∧
 StepT Try.prog (Instr.buildSlice 28 0 #[]) w55 fun r59 w60 =>
 ∃ x61 : Sl, r59 = x61.val ∧
 ∃ I62 : Sl → Int → World → Prop, ∃ m63 : Sl → Int → World → Nat, I62 x61 0 w60 ∧
 ∀ x64 : Sl, ∀ n65 : Int, ∀ w66 : World, I62 x64 n65 w66 →
 ∃ n67 : Int, Wr .i64 (n65 + 1) n67 ∧
 ((decide (n67 < (x58.n : Int))) = true →
 IxOk x58 n65 ∧
 ∃ n68 : Int, w66.cell? ((elA x58 n65 1).add 0) = some (.int .i64 n68) ∧
 Trip Try.prog 84 #[.pointer (some (a_0.add 0)), .agg #[x1_0.val, x1_1.val], .int .i64 n68] w66 fun r69 w70 =>
 ∃ n71 : Int, ∃ n72 : Int, ∃ x73 : Sl, r69 = .agg #[.int .i64 n71, .int .i64 n72, x73.val] ∧
 StepT Try.prog (Instr.buildSlice 28 1 #[(0, (.agg #[.int .i64 n71, .int .i64 n72, x73.val]))]) w70 fun r74 w75 =>
 ∃ x76 : Sl, r74 = x76.val ∧
 StepT Try.prog (Builtin.append_ #[28, 28] 28 #[(x64.val), (x76.val)]) w75 fun r77 w78 =>
 ∃ x79 : Sl, r77 = x79.val ∧
 ∃ n80 : Int, Wr .i64 (n65 + 1) n80 ∧
 eqS (.sl x1_0) ∧
 eqS (.sl x1_1) ∧
 eqS (.num .i64 0) ∧
 eqS (.num .i64 0) ∧
 eqS (.sl (Sl.mk none 0 0)) ∧
 I62 x79 n80 w78 ∧
 m63 x79 n80 w78 < m63 x64 n65 w66) ∧
 ((decide (n67 < (x58.n : Int))) = false →
 Trip Try.prog 33 #[.int .i64 10, .int .i64 n57, x64.val] w66 fun r81 w82 =>
 ∃ n83 : Int, ∃ n84 : Int, ∃ x85 : Sl, r81 = .agg #[.int .i64 n83, .int .i64 n84, x85.val] ∧
 Q (.agg #[.int .i64 n83, .int .i64 n84, x85.val]) w82)) ∧
 (((decide (n_2 > 0)) && (decide ((x53.n : Int) > 0))) = false →
 Trip Try.prog 89 #[.pointer (some (a_0.add 0))] w52 fun r86 w87 =>
 ∃ n88 : Int, r86 = .int .i64 n88 ∧
 Trip Try.prog 34 #[.int .i64 n88] w87 fun r89 w90 =>
 ∃ n91 : Int, ∃ n92 : Int, ∃ x93 : Sl, r89 = .agg #[.int .i64 n91, .int .i64 n92, x93.val] ∧
 Q (.agg #[.int .i64 n91, .int .i64 n92, x93.val]) w90))
theorem of84 (a_0 : Addr) (x1_0 : Sl) (x1_1 : Sl) (n_2 : Int) (v : World) (Q : Value → World → Prop) (h : vc84 a_0 x1_0 x1_1 n_2 v Q) : Trip Try.prog 84 #[.pointer (some (a_0.add 0)), .agg #[x1_0.val, x1_1.val], .int .i64 n_2] v Q :=
 trip_of_eq (args := [.pt a_0 0, .ag [.sl x1_0, .sl x1_1], .num .i64 n_2]) (A := ⟨[(11, [(9, .sl), (11, .int .i64)], []), (21, [(15, .sl), (16, .int .i64)], [])], [(6, [(8, .int .i64)], []), (8, [(8, .int .i64)], [])], [(13, []), (23, [])], [], psG⟩) Try.func84 (by kernel_rfl) (by kernel_rfl) (by kernel_rfl : vc84 a_0 x1_0 x1_1 n_2 v Q = _) h

def vc85 (x_0 : Sl) (n_1 : Int) (v : World) (Q : Value → World → Prop) : Prop :=
 ((decide (n_1 < 0)) = true →
 False) ∧
 ((decide (n_1 < 0)) = false →
 StepT Try.prog (Builtin.cap_ #[27] 3 #[(x_0.val)]) v fun r1 w2 =>
 ∃ n3 : Int, r1 = .int .i64 n3 ∧
 ∃ n4 : Int, Wr .i64 (n3 - (x_0.n : Int)) n4 ∧
 ∃ n5 : Int, Wr .i64 (n_1 - n4) n5 ∧
 ((decide (n5 > 0)) = true →
 StepT Try.prog (Builtin.cap_ #[27] 3 #[(x_0.val)]) w2 fun r6 w7 =>
 ∃ n8 : Int, r6 = .int .i64 n8 ∧
 CutOk x_0 0 n8 ∧
 StepT Try.prog (Builtin.append_ #[27, 3] 27 #[((x_0.cut 0 n8 1).val), (.int .i64 n5)]) w7 fun r9 w10 =>
 ∃ x11 : Sl, r9 = x11.val ∧
 CutOk x11 0 (x_0.n : Int) ∧
 Q ((x11.cut 0 (x_0.n : Int) 1).val) w10) ∧
 ((decide (n5 > 0)) = false →
 Q (x_0.val) w2))
theorem of85 (x_0 : Sl) (n_1 : Int) (v : World) (Q : Value → World → Prop) (h : vc85 x_0 n_1 v Q) : Trip Try.prog 85 #[x_0.val, .int .i64 n_1] v Q :=
 trip_of_eq (args := [.sl x_0, .num .i64 n_1]) (A := ⟨[], [], [], [], psG⟩) Try.func85 (by kernel_rfl) (by kernel_rfl) (by kernel_rfl : vc85 x_0 n_1 v Q = _) h

def vc86 (a_0 : Addr) (n_1 : Int) (v : World) (Q : Value → World → Prop) : Prop :=
 StepT Try.prog (Instr.buildSlice 28 0 #[]) v fun r1 w2 =>
 ∃ x3 : Sl, r1 = x3.val ∧
 Trip Try.prog 33 #[.int .i64 6, .int .i64 0, x3.val] w2 fun r4 w5 =>
 ∃ n6 : Int, ∃ n7 : Int, ∃ x8 : Sl, r4 = .agg #[.int .i64 n6, .int .i64 n7, x8.val] ∧
 ((decide (n_1 = 3)) = true →
 StepT Try.prog (Instr.buildSlice 28 0 #[]) w5 fun r9 w10 =>
 ∃ x11 : Sl, r9 = x11.val ∧
 Trip Try.prog 33 #[.int .i64 6, .int .i64 2, x11.val] w10 fun r12 w13 =>
 ∃ n14 : Int, ∃ n15 : Int, ∃ x16 : Sl, r12 = .agg #[.int .i64 n14, .int .i64 n15, x16.val] ∧
 (Trip Try.prog 12 #[.pointer (some (a_0.add 0)), .int .i64 9] w13 fun r17 w18 =>
 ∃ n19 : Int, r17 = .int .i64 n19 ∧
 (Trip Try.prog 34 #[.int .i64 n19] w18 fun r20 w21 =>
 ∃ n22 : Int, ∃ n23 : Int, ∃ x24 : Sl, r20 = .agg #[.int .i64 n22, .int .i64 n23, x24.val] ∧
 (StepT Try.prog (Instr.buildSlice 28 3 #[(0, (.agg #[.int .i64 n14, .int .i64 n15, x16.val])), (1, (.agg #[.int .i64 n22, .int .i64 n23, x24.val])), (2, (.agg #[.int .i64 n14, .int .i64 n15, x16.val]))]) w21 fun r25 w26 =>
 ∃ x27 : Sl, r25 = x27.val ∧
 (Trip Try.prog 33 #[.int .i64 6, .int .i64 3, x27.val] w26 fun r28 w29 =>
 ∃ n30 : Int, ∃ n31 : Int, ∃ x32 : Sl, r28 = .agg #[.int .i64 n30, .int .i64 n31, x32.val] ∧
 Trip Try.prog 12 #[.pointer (some (a_0.add 0)), .int .i64 9] w29 fun r33 w34 =>
 ∃ n35 : Int, r33 = .int .i64 n35 ∧
 Trip Try.prog 34 #[.int .i64 n35] w34 fun r36 w37 =>
 ∃ n38 : Int, ∃ n39 : Int, ∃ x40 : Sl, r36 = .agg #[.int .i64 n38, .int .i64 n39, x40.val] ∧
 StepT Try.prog (Instr.buildSlice 28 3 #[(0, (.agg #[.int .i64 n30, .int .i64 n31, x32.val])), (1, (.agg #[.int .i64 n38, .int .i64 n39, x40.val])), (2, (.agg #[.int .i64 n14, .int .i64 n15, x16.val]))]) w37 fun r41 w42 =>
 ∃ x43 : Sl, r41 = x43.val ∧
 Trip Try.prog 33 #[.int .i64 6, .int .i64 3, x43.val] w42 fun r44 w45 =>
 ∃ n46 : Int, ∃ n47 : Int, ∃ x48 : Sl, r44 = .agg #[.int .i64 n46, .int .i64 n47, x48.val] ∧
 Q (.agg #[.int .i64 n46, .int .i64 n47, x48.val]) w45) ∧
 Trip Try.prog 33 #[.int .i64 6, .int .i64 3, x27.val] w26 fun r49 w50 =>
 ∃ n51 : Int, ∃ n52 : Int, ∃ x53 : Sl, r49 = .agg #[.int .i64 n51, .int .i64 n52, x53.val] ∧
 Trip Try.prog 12 #[.pointer (some (a_0.add 0)), .int .i64 9] w50 fun r54 w55 =>
 ∃ n56 : Int, r54 = .int .i64 n56 ∧
 Trip Try.prog 34 #[.int .i64 n56] w55 fun r57 w58 =>
 ∃ n59 : Int, ∃ n60 : Int, ∃ x61 : Sl, r57 = .agg #[.int .i64 n59, .int .i64 n60, x61.val] ∧
 StepT Try.prog (Instr.buildSlice 28 3 #[(0, (.agg #[.int .i64 n51, .int .i64 n52, x53.val])), (1, (.agg #[.int .i64 n59, .int .i64 n60, x61.val])), (2, (.agg #[.int .i64 n14, .int .i64 n15, x16.val]))]) w58 fun r62 w63 =>
 ∃ x64 : Sl, r62 = x64.val ∧
 Trip Try.prog 33 #[.int .i64 6, .int .i64 3, x64.val] w63 fun r65 w66 =>
 ∃ n67 : Int, ∃ n68 : Int, ∃ x69 : Sl, r65 = .agg #[.int .i64 n67, .int .i64 n68, x69.val] ∧
 Q (.agg #[.int .i64 n67, .int .i64 n68, x69.val]) w66) ∧
 StepT Try.prog (Instr.buildSlice 28 3 #[(0, (.agg #[.int .i64 n14, .int .i64 n15, x16.val])), (1, (.agg #[.int .i64 n22, .int .i64 n23, x24.val])), (2, (.agg #[.int .i64 n14, .int .i64 n15, x16.val]))]) w21 fun r70 w71 =>
 ∃ x72 : Sl, r70 = x72.val ∧
 Trip Try.prog 33 #[.int .i64 6, .int .i64 3, x72.val] w71 fun r73 w74 =>
 ∃ n75 : Int, ∃ n76 : Int, ∃ x77 : Sl, r73 = .agg #[.int .i64 n75, .int .i64 n76, x77.val] ∧
 Trip Try.prog 12 #[.pointer (some (a_0.add 0)), .int .i64 9] w74 fun r78 w79 =>
 ∃ n80 : Int, r78 = .int .i64 n80 ∧
 Trip Try.prog 34 #[.int .i64 n80] w79 fun r81 w82 =>
 ∃ n83 : Int, ∃ n84 : Int, ∃ x85 : Sl, r81 = .agg #[.int .i64 n83, .int .i64 n84, x85.val] ∧
 StepT Try.prog (Instr.buildSlice 28 3 #[(0, (.agg #[.int .i64 n75, .int .i64 n76, x77.val])), (1, (.agg #[.int .i64 n83, .int .i64 n84, x85.val])), (2, (.agg #[.int .i64 n14, .int .i64 n15, x16.val]))]) w82 fun r86 w87 =>
 ∃ x88 : Sl, r86 = x88.val ∧
 Trip Try.prog 33 #[.int .i64 6, .int .i64 3, x88.val] w87 fun r89 w90 =>
 ∃ n91 : Int, ∃ n92 : Int, ∃ x93 : Sl, r89 = .agg #[.int .i64 n91, .int .i64 n92, x93.val] ∧
 Q (.agg #[.int .i64 n91, .int .i64 n92, x93.val]) w90) ∧
 Trip Try.prog 34 #[.int .i64 n19] w18 fun r94 w95 =>
 ∃ n96 : Int, ∃ n97 : Int, ∃ x98 : Sl, r94 = .agg #[.int .i64 n96, .int .i64 n97, x98.val] ∧
 StepT Try.prog (Instr.buildSlice 28 3 #[(0, (.agg #[.int .i64 n14, .int .i64 n15, x16.val])), (1, (.agg #[.int .i64 n96, .int .i64 n97, x98.val])), (2, (.agg #[.int .i64 n14, .int .i64 n15, x16.val]))]) w95 fun r99 w100 =>
 ∃ x101 : Sl, r99 = x101.val ∧
 Trip Try.prog 33 #[.int .i64 6, .int .i64 3, x101.val] w100 fun r102 w103 =>
 ∃ n104 : Int, ∃ n105 : Int, ∃ x106 : Sl, r102 = .agg #[.int .i64 n104, .int .i64 n105, x106.val] ∧
 Trip Try.prog 12 #[.pointer (some (a_0.add 0)), .int .i64 9] w103 fun r107 w108 =>
 ∃ n109 : Int, r107 = .int .i64 n109 ∧
 Trip Try.prog 34 #[.int .i64 n109] w108 fun r110 w111 =>
 ∃ n112 : Int, ∃ n113 : Int, ∃ x114 : Sl, r110 = .agg #[.int .i64 n112, .int .i64 n113, x114.val] ∧
 StepT Try.prog (Instr.buildSlice 28 3 #[(0, (.agg #[.int .i64 n104, .int .i64 n105, x106.val])), (1, (.agg #[.int .i64 n112, .int .i64 n113, x114.val])), (2, (.agg #[.int .i64 n14, .int .i64 n15, x16.val]))]) w111 fun r115 w116 =>
 ∃ x117 : Sl, r115 = x117.val ∧
 Trip Try.prog 33 #[.int .i64 6, .int .i64 3, x117.val] w116 fun r118 w119 =>
 ∃ n120 : Int, ∃ n121 : Int, ∃ x122 : Sl, r118 = .agg #[.int .i64 n120, .int .i64 n121, x122.val] ∧
 Q (.agg #[.int .i64 n120, .int .i64 n121, x122.val]) w119) ∧
 Trip Try.prog 12 #[.pointer (some (a_0.add 0)), .int .i64 9] w13 fun r123 w124 =>
 ∃ n125 : Int, r123 = .int .i64 n125 ∧
 Trip Try.prog 34 #[.int .i64 n125] w124 fun r126 w127 =>
 ∃ n128 : Int, ∃ n129 : Int, ∃ x130 : Sl, r126 = .agg #[.int .i64 n128, .int .i64 n129, x130.val] ∧
 StepT Try.prog (Instr.buildSlice 28 3 #[(0, (.agg #[.int .i64 n14, .int .i64 n15, x16.val])), (1, (.agg #[.int .i64 n128, .int .i64 n129, x130.val])), (2, (.agg #[.int .i64 n14, .int .i64 n15, x16.val]))]) w127 fun r131 w132 =>
 ∃ x133 : Sl, r131 = x133.val ∧
 Trip Try.prog 33 #[.int .i64 6, .int .i64 3, x133.val] w132 fun r134 w135 =>
 ∃ n136 : Int, ∃ n137 : Int, ∃ x138 : Sl, r134 = .agg #[.int .i64 n136, .int .i64 n137, x138.val] ∧
 Trip Try.prog 12 #[.pointer (some (a_0.add 0)), .int .i64 9] w135 fun r139 w140 =>
 ∃ n141 : Int, r139 = .int .i64 n141 ∧
 Trip Try.prog 34 #[.int .i64 n141] w140 fun r142 w143 =>
 ∃ n144 : Int, ∃ n145 : Int, ∃ x146 : Sl, r142 = .agg #[.int .i64 n144, .int .i64 n145, x146.val] ∧
 StepT Try.prog (Instr.buildSlice 28 3 #[(0, (.agg #[.int .i64 n136, .int .i64 n137, x138.val])), (1, (.agg #[.int .i64 n144, .int .i64 n145, x146.val])), (2, (.agg #[.int .i64 n14, .int .i64 n15, x16.val]))]) w143 fun r147 w148 =>
 ∃ x149 : Sl, r147 = x149.val ∧
 Trip Try.prog 33 #[.int .i64 6, .int .i64 3, x149.val] w148 fun r150 w151 =>
 ∃ n152 : Int, ∃ n153 : Int, ∃ x154 : Sl, r150 = .agg #[.int .i64 n152, .int .i64 n153, x154.val] ∧
 Q (.agg #[.int .i64 n152, .int .i64 n153, x154.val]) w151) ∧
 ((decide (n_1 = 3)) = false →
 Trip Try.prog 12 #[.pointer (some (a_0.add 0)), .int .i64 3] w5 fun r155 w156 =>
 ∃ n157 : Int, r155 = .int .i64 n157 ∧
 ∃ n158 : Int, Wr .i64 (1 + n157) n158 ∧
 ∃ I159 : Int → Int → Int → Sl → World → Prop, ∃ m160 : Int → Int → Int → Sl → World → Nat, I159 n158 n6 n7 x8 w156 ∧
 ∀ n161 : Int, ∀ n162 : Int, ∀ n163 : Int, ∀ x164 : Sl, ∀ w165 : World, I159 n161 n162 n163 x164 w165 →
 ((decide (n161 > 0)) = true →
 Trip Try.prog 89 #[.pointer (some (a_0.add 0))] w165 fun r166 w167 =>
 ∃ n168 : Int, r166 = .int .i64 n168 ∧
 Trip Try.prog 34 #[.int .i64 n168] w167 fun r169 w170 =>
 ∃ n171 : Int, ∃ n172 : Int, ∃ x173 : Sl, r169 = .agg #[.int .i64 n171, .int .i64 n172, x173.val] ∧
 StepT Try.prog (Instr.buildSlice 28 2 #[(0, (.agg #[.int .i64 n171, .int .i64 n172, x173.val])), (1, (.agg #[.int .i64 n162, .int .i64 n163, x164.val]))]) w170 fun r174 w175 =>
 ∃ x176 : Sl, r174 = x176.val ∧
 Trip Try.prog 33 #[.int .i64 6, .int .i64 1, x176.val] w175 fun r177 w178 =>
 ∃ n179 : Int, ∃ n180 : Int, ∃ x181 : Sl, r177 = .agg #[.int .i64 n179, .int .i64 n180, x181.val] ∧
 ∃ n182 : Int, Wr .i64 (n161 - 1) n182 ∧
 eqS (.num .i64 0) ∧
 eqS (.num .i64 0) ∧
 eqS (.sl (Sl.mk none 0 0)) ∧
 eqS (.num .i64 n6) ∧
 eqS (.num .i64 n7) ∧
 eqS (.sl x8) ∧
 I159 n182 n179 n180 x181 w178 ∧
 m160 n182 n179 n180 x181 w178 < m160 n161 n162 n163 x164 w165) ∧
 ((decide (n161 > 0)) = false →
 Q (.agg #[.int .i64 n162, .int .i64 n163, x164.val]) w165))
theorem of86 (a_0 : Addr) (n_1 : Int) (v : World) (Q : Value → World → Prop) (h : vc86 a_0 n_1 v Q) : Trip Try.prog 86 #[.pointer (some (a_0.add 0)), .int .i64 n_1] v Q :=
 trip_of_eq (args := [.pt a_0 0, .num .i64 n_1]) (A := ⟨[(8, [(9, .int .i64)], [(2, 0, .int .i64), (2, 1, .int .i64), (2, 2, .sl)])], [], [(4, []), (5, []), (10, [])], [], psG⟩) Try.func86 (by kernel_rfl) (by kernel_rfl) (by kernel_rfl : vc86 a_0 n_1 v Q = _) h

def vc87 (x0_0 : Sl) (x0_1 : Sl) (n_1 : Int) (v : World) (Q : Value → World → Prop) : Prop :=
 StepT Try.prog (Instr.buildSlice 27 0 #[]) v fun r1 w2 =>
 ∃ x3 : Sl, r1 = x3.val ∧
 ∃ I4 : Sl → Int → World → Prop, ∃ m5 : Sl → Int → World → Nat, I4 x3 0 w2 ∧
 ∀ x6 : Sl, ∀ n7 : Int, ∀ w8 : World, I4 x6 n7 w8 →
 ((decide (n7 < (x0_1.n : Int))) = true →
 IxOk x0_1 n7 ∧
 ∃ x9 : Sl, w8.cell? ((elA x0_1 n7 5).add 0) = some (x9.val) ∧
 ((decide ((x9.n : Int) > 0)) = true →
 IxOk x0_1 n7) ∧
 ∃ x10 : Sl, ((decide ((x9.n : Int) > 0)) = true →
 w8.cell? ((elA x0_1 n7 5).add 0) = some (x10.val)) ∧
 ∃ n11 : Int, ((decide ((x9.n : Int) > 0)) = true →
 Wr .i64 ((x9.n : Int) - 1) n11) ∧
 ((decide ((x9.n : Int) > 0)) = true →
 IxOk x10 n11) ∧
 ∃ n12 : Int, ((decide ((x9.n : Int) > 0)) = true →
 w8.cell? ((elA x10 n11 1).add 0) = some (.int .i64 n12)) ∧
 ((decide ((x9.n : Int) > 0)) = true →
 IxOk x0_1 n7) ∧
 ∃ n13 : Int, ((decide ((x9.n : Int) > 0)) = true →
 w8.cell? ((elA x0_1 n7 5).add 1) = some (.int .i64 n13)) ∧
 ∃ n14 : Int, ((decide ((x9.n : Int) > 0)) = true →
 (Trip Try.prog 76 #[x0_0.val, .int .i64 n12, .int .i64 n13] w8 fun r15 w16 => r15 = .int .i64 n14 ∧ Sub w8 w16)) ∧
 (((decide ((x9.n : Int) > 0)) && (decide (n14 = n_1))) = true →
 StepT Try.prog (Instr.buildSlice 27 1 #[(0, (.int .i64 n7))]) w8 fun r17 w18 =>
 ∃ x19 : Sl, r17 = x19.val ∧
 StepT Try.prog (Builtin.append_ #[27, 27] 27 #[(x6.val), (x19.val)]) w18 fun r20 w21 =>
 ∃ x22 : Sl, r20 = x22.val ∧
 ∃ n23 : Int, Wr .i64 (n7 + 1) n23 ∧
 eqS (.sl x0_0) ∧
 eqS (.sl x0_1) ∧
 I4 x22 n23 w21 ∧
 m5 x22 n23 w21 < m5 x6 n7 w8) ∧
 (((decide ((x9.n : Int) > 0)) && (decide (n14 = n_1))) = false →
 ∃ n24 : Int, Wr .i64 (n7 + 1) n24 ∧
 eqS (.sl x0_0) ∧
 eqS (.sl x0_1) ∧
 I4 x6 n24 w8 ∧
 m5 x6 n24 w8 < m5 x6 n7 w8)) ∧
 ((decide (n7 < (x0_1.n : Int))) = false →
 Q (x6.val) w8)
theorem of87 (x0_0 : Sl) (x0_1 : Sl) (n_1 : Int) (v : World) (Q : Value → World → Prop) (h : vc87 x0_0 x0_1 n_1 v Q) : Trip Try.prog 87 #[.agg #[x0_0.val, x0_1.val], .int .i64 n_1] v Q :=
 trip_of_eq (args := [.ag [.sl x0_0, .sl x0_1], .num .i64 n_1]) (A := ⟨[(3, [(5, .sl), (6, .int .i64)], [])], [], [], [], psG⟩) Try.func87 (by kernel_rfl) (by kernel_rfl) (by kernel_rfl : vc87 x0_0 x0_1 n_1 v Q = _) h

def vc88 (x_0 : Sl) (n_1 : Int) (v : World) (Q : Value → World → Prop) : Prop :=
 ∃ I1 : Int → World → Prop, ∃ m2 : Int → World → Nat, I1 0 v ∧
 ∀ n3 : Int, ∀ w4 : World, I1 n3 w4 →
 ((decide (n3 < (x_0.n : Int))) = true →
 IxOk x_0 n3 ∧
 ∃ n5 : Int, w4.cell? ((elA x_0 n3 1).add 0) = some (.int .i64 n5) ∧
 ((decide (n5 = n_1)) = true →
 Q (.bool true) w4) ∧
 ((decide (n5 = n_1)) = false →
 ∃ n6 : Int, Wr .i64 (n3 + 1) n6 ∧
 I1 n6 w4 ∧
 m2 n6 w4 < m2 n3 w4)) ∧
 ((decide (n3 < (x_0.n : Int))) = false →
 Q (.bool false) w4)
theorem of88 (x_0 : Sl) (n_1 : Int) (v : World) (Q : Value → World → Prop) (h : vc88 x_0 n_1 v Q) : Trip Try.prog 88 #[x_0.val, .int .i64 n_1] v Q :=
 trip_of_eq (args := [.sl x_0, .num .i64 n_1]) (A := ⟨[(2, [(5, .int .i64)], [])], [], [], [], psG⟩) Try.func88 (by kernel_rfl) (by kernel_rfl) (by kernel_rfl : vc88 x_0 n_1 v Q = _) h

def vc89 (a_0 : Addr) (v : World) (Q : Value → World → Prop) : Prop :=
 Trip Try.prog 12 #[.pointer (some (a_0.add 0)), .int .i64 6] v fun r1 w2 =>
 ∃ n3 : Int, r1 = .int .i64 n3 ∧
 Trip Try.prog 12 #[.pointer (some (a_0.add 0)), .int .i64 6] w2 fun r4 w5 =>
 ∃ n6 : Int, r4 = .int .i64 n6 ∧
 Trip Try.prog 12 #[.pointer (some (a_0.add 0)), .int .i64 40] w5 fun r7 w8 =>
 ∃ n9 : Int, r7 = .int .i64 n9 ∧
 StepT Try.prog (Instr.buildSlice 27 10 #[(0, (.int .i64 n3)), (1, (.int .i64 n6)), (2, (.int .i64 0)), (3, (.int .i64 1)), (4, (.int .i64 2)), (5, (.int .i64 (-1))), (6, (.int .i64 3)), (7, (.int .i64 n9)), (8, (.int .i64 999)), (9, (.int .i64 (-998)))]) w8 fun r10 w11 =>
 ∃ x12 : Sl, r10 = x12.val ∧
 Trip Try.prog 14 #[.pointer (some (a_0.add 0)), x12.val] w11 fun r13 w14 =>
 ∃ n15 : Int, r13 = .int .i64 n15 ∧
 Q (.int .i64 n15) w14
theorem of89 (a_0 : Addr) (v : World) (Q : Value → World → Prop) (h : vc89 a_0 v Q) : Trip Try.prog 89 #[.pointer (some (a_0.add 0))] v Q :=
 trip_of_eq (args := [.pt a_0 0]) (A := ⟨[], [], [], [], psG⟩) Try.func89 (by kernel_rfl) (by kernel_rfl) (by kernel_rfl : vc89 a_0 v Q = _) h

-- STOP 105 (impl.signatures).armFields: 'NoneType' object is not subscriptable
end Go.Vc
