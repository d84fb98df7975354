/- Part of the proofs about the heaps and memories: a law is joined in the text whose name ends in W and the law. -/
import Derived.Test.YtelgbndeeccblaaGreatDoorEVcFn
import Derived.Test.YtelgbndeeccblaaGreatDoorProg
import Derived.KernelRfl
namespace Go.Vc
open Go Go.Proofs
set_option linter.all false
abbrev ldF (w : World) (x : Sl) (i : Int) (K : Sl → Int → Int → Int → Sl → Prop) : Prop := ∃ f : Sl, ∃ a : Int, ∃ b : Int, ∃ c : Int, ∃ k : Sl, (w.cell? ((elA x i 5).add 0) = some (f.val) ∧ w.cell? ((elA x i 5).add 1) = some (.int .i64 a) ∧ w.cell? ((elA x i 5).add 2) = some (.int .i64 b) ∧ w.cell? ((elA x i 5).add 3) = some (.int .i64 c) ∧ w.cell? ((elA x i 5).add 4) = some (k.val)) ∧ K f a b c k
abbrev ldT (w : World) (x : Sl) (i : Int) (K : Int → Int → Sl → Prop) : Prop := ∃ a : Int, ∃ b : Int, ∃ k : Sl, (w.cell? ((elA x i 3).add 0) = some (.int .i64 a) ∧ w.cell? ((elA x i 3).add 1) = some (.int .i64 b) ∧ w.cell? ((elA x i 3).add 2) = some (k.val)) ∧ K a b k
abbrev eqS (x : SV) : Prop := x = x
abbrev psG : List Nat := [10, 11, 13, 14, 18, 20, 21, 23, 26, 28, 30, 31, 32, 33, 34, 38, 39, 41, 42, 43, 48, 51, 52, 56, 57, 58, 66, 67, 69, 70, 71, 72, 73, 74, 75, 76, 77, 83, 84, 85, 99, 100, 100, 101, 104, 105, 106, 107, 108, 109, 112, 113, 115, 122, 123, 127, 128, 129, 130, 131, 132, 133, 134, 137, 138, 139, 146, 147, 148, 158, 160, 163, 169, 170, 173, 174, 175, 176, 177, 178, 181, 189, 190, 213, 214, 215, 216, 217, 243, 254]
def vc4 (s_0 : ByteArray) (v : World) (Q : Value → World → Prop) : Prop :=
 ((decide ((s_0.size : Int) > 1048576)) = true →
 Q (.bool true) v) ∧
 ((decide ((s_0.size : Int) > 1048576)) = false →
 Trip Tryz.prog 15 #[.string s_0] v fun r1 w2 =>
 ∃ x3 : Sl, ∃ x4 : Sl, ∃ q5 : Bool, r1 = .tuple #[.agg #[x3.val, x4.val], .bool q5] ∧
 Trip Tryz.prog 16 #[.string s_0] w2 fun r6 w7 =>
 ∃ x8 : Sl, ∃ x9 : Sl, ∃ q10 : Bool, r6 = .tuple #[.agg #[x8.val, x9.val], .bool q10] ∧
 ∃ q11 : Bool, (Trip Tryz.prog 14 #[.agg #[x8.val, x9.val], .agg #[x3.val, x4.val]] w7 fun r12 w13 => r12 = .bool q11 ∧ Sub w7 w13) ∧
 (((!q11) || (!(q10 == q5))) = true →
 Q (.bool false) w7) ∧
 (((!q11) || (!(q10 == q5))) = false →
 Trip Tryz.prog 17 #[.agg #[x8.val, x9.val], .int .i64 1] w7 fun r14 w15 =>
 ∃ n16 : Int, r14 = .int .i64 n16 ∧
 ∃ n17 : Int, (Trip Tryz.prog 18 #[.agg #[x8.val, x9.val], .int .i64 1] w15 fun r18 w19 => r18 = .int .i64 n17 ∧ Sub w15 w19) ∧
 ((decide (n17 < 0)) = true →
 Q (.bool false) w15) ∧
 ((decide (n17 < 0)) = false →
 ((!decide (n17 = n16)) = true →
 Q (.bool false) w15) ∧
 ((!decide (n17 = n16)) = false →
 Trip Tryz.prog 16 #[.string s_0] w15 fun r20 w21 =>
 ∃ x22 : Sl, ∃ x23 : Sl, ∃ q24 : Bool, r20 = .tuple #[.agg #[x22.val, x23.val], .bool q24] ∧
 ∃ q25 : Bool, (Trip Tryz.prog 14 #[.agg #[x22.val, x23.val], .agg #[x3.val, x4.val]] w21 fun r26 w27 => r26 = .bool q25 ∧ Sub w21 w27) ∧
 (((!q25) || (!(q24 == q5))) = true →
 Q (.bool false) w21) ∧
 (((!q25) || (!(q24 == q5))) = false →
 ∃ n28 : Int, (Trip Tryz.prog 18 #[.agg #[x8.val, x9.val], .int .i64 1] w21 fun r29 w30 => r29 = .int .i64 n28 ∧ Sub w21 w30) ∧
 ((decide (n28 < 0)) = true →
 Q (.bool false) w21) ∧
 ((decide (n28 < 0)) = false →
 ((!decide (n28 = n16)) = true →
 Q (.bool false) w21) ∧
 ((!decide (n28 = n16)) = false →
 Q (.bool true) w21)))))))
theorem of4 (s_0 : ByteArray) (v : World) (Q : Value → World → Prop) (h : vc4 s_0 v Q) : Trip Tryz.prog 4 #[.string s_0] v Q :=
 trip_of_eq (args := [.st s_0]) (A := ⟨[], [], [], [], psG⟩) Tryz.func4 (by kernel_rfl) (by kernel_rfl) (by kernel_rfl : vc4 s_0 v Q = _) h

def vc13 (x0_0 : Sl) (x0_1 : Sl) (v : World) (Q : Value → World → Prop) : Prop :=
 ∃ q1 : Bool, (Trip Tryz.prog 30 #[.agg #[x0_0.val, x0_1.val]] v fun r2 w3 => r2 = .bool q1 ∧ Sub v w3) ∧
 ((!q1) = true →
 Q (.string (ByteArray.mk #[])) v) ∧
 ((!q1) = false →
 NewAt v (.cells #[(Vl.mk (Value.pointer none) rfl).x, .slice none 0 0] 59 (0, 0)) fun a4 w5 =>
 ∃ I6 : Int → World → Prop, ∃ m7 : Int → World → Nat, I6 0 w5 ∧
 ∀ n8 : Int, ∀ w9 : World, I6 n8 w9 →
 ((decide (n8 < (x0_0.n : Int))) = true →
 IxOk x0_0 n8 ∧
 ldT w9 x0_0 n8 fun n10 n11 x12 =>
 ((decide ((x12.n : Int) = 0)) = true →
 ∃ s13 : ByteArray, (Trip Tryz.prog 38 #[.int .i64 n10] w9 fun r14 w15 => r14 = .string s13 ∧ Sub w9 w15) ∧
 (((ByteArray.mk #[97, 114, 114, 111, 119, 32]).size + s13.size : Nat) : Int) ≤ 9223372036854775807 ∧
 ((((ByteArray.mk #[97, 114, 114, 111, 119, 32]) ++ s13).size + (ByteArray.mk #[32]).size : Nat) : Int) ≤ 9223372036854775807 ∧
 ∃ s16 : ByteArray, (Trip Tryz.prog 38 #[.int .i64 n11] w9 fun r17 w18 => r17 = .string s16 ∧ Sub w9 w18) ∧
 (((((ByteArray.mk #[97, 114, 114, 111, 119, 32]) ++ s13) ++ (ByteArray.mk #[32])).size + s16.size : Nat) : Int) ≤ 9223372036854775807 ∧
 ((((((ByteArray.mk #[97, 114, 114, 111, 119, 32]) ++ s13) ++ (ByteArray.mk #[32])) ++ s16).size + (ByteArray.mk #[10]).size : Nat) : Int) ≤ 9223372036854775807 ∧
 Trip Tryz.prog 37 #[.pointer (some (a4.add 0)), .string (((((ByteArray.mk #[97, 114, 114, 111, 119, 32]) ++ s13) ++ (ByteArray.mk #[32])) ++ s16) ++ (ByteArray.mk #[10]))] w9 fun r19 w20 =>
 ∃ n21 : Int, ∃ y22 : Vl, r19 = .tuple #[.int .i64 n21, y22.x] ∧
 ∃ n23 : Int, Wr .i64 (n8 + 1) n23 ∧
 eqS (.sl x0_0) ∧
 eqS (.sl x0_1) ∧
 I6 n23 w20 ∧
 m7 n23 w20 < m7 n8 w9) ∧
 ((decide ((x12.n : Int) = 0)) = false →
 Trip Tryz.prog 37 #[.pointer (some (a4.add 0)), .string (ByteArray.mk #[100, 97, 116, 97])] w9 fun r24 w25 =>
 ∃ n26 : Int, ∃ y27 : Vl, r24 = .tuple #[.int .i64 n26, y27.x] ∧
 ∃ I28 : Int → World → Prop, ∃ m29 : Int → World → Nat, I28 0 w25 ∧
 ∀ n30 : Int, ∀ w31 : World, I28 n30 w31 →
 ((decide (n30 < (x12.n : Int))) = true →
 IxOk x12 n30 ∧
 ∃ x32 : Sl, w31.cell? ((elA x12 n30 1).add 0) = some (x32.val) ∧
 ∃ s33 : ByteArray, (Trip Tryz.prog 39 #[x32.val] w31 fun r34 w35 => r34 = .string s33 ∧ Sub w31 w35) ∧
 (((ByteArray.mk #[32]).size + s33.size : Nat) : Int) ≤ 9223372036854775807 ∧
 Trip Tryz.prog 37 #[.pointer (some (a4.add 0)), .string ((ByteArray.mk #[32]) ++ s33)] w31 fun r36 w37 =>
 ∃ n38 : Int, ∃ y39 : Vl, r36 = .tuple #[.int .i64 n38, y39.x] ∧
 ∃ n40 : Int, Wr .i64 (n30 + 1) n40 ∧
 eqS (.sl x0_0) ∧
 eqS (.sl x0_1) ∧
 eqS (.num .i64 n10) ∧
 eqS (.num .i64 n11) ∧
 eqS (.sl x12) ∧
 I28 n40 w37 ∧
 m29 n40 w37 < m29 n30 w31) ∧
 ((decide (n30 < (x12.n : Int))) = false →
 Trip Tryz.prog 37 #[.pointer (some (a4.add 0)), .string (ByteArray.mk #[10])] w31 fun r41 w42 =>
 ∃ n43 : Int, ∃ y44 : Vl, r41 = .tuple #[.int .i64 n43, y44.x] ∧
 ∃ n45 : Int, Wr .i64 (n8 + 1) n45 ∧
 eqS (.sl x0_0) ∧
 eqS (.sl x0_1) ∧
 I6 n45 w42 ∧
 m7 n45 w42 < m7 n8 w9))) ∧
 ((decide (n8 < (x0_0.n : Int))) = false →
 ∃ I46 : Int → World → Prop, ∃ m47 : Int → World → Nat, I46 0 w9 ∧
 ∀ n48 : Int, ∀ w49 : World, I46 n48 w49 →
 ((decide (n48 < (x0_1.n : Int))) = true →
 IxOk x0_1 n48 ∧
 ldF w49 x0_1 n48 fun x50 n51 n52 n53 x54 =>
 ∃ s55 : ByteArray, (Trip Tryz.prog 39 #[x50.val] w49 fun r56 w57 => r56 = .string s55 ∧ Sub w49 w57) ∧
 (((ByteArray.mk #[102, 117, 110, 32]).size + s55.size : Nat) : Int) ≤ 9223372036854775807 ∧
 ((((ByteArray.mk #[102, 117, 110, 32]) ++ s55).size + (ByteArray.mk #[32]).size : Nat) : Int) ≤ 9223372036854775807 ∧
 ∃ s58 : ByteArray, (Trip Tryz.prog 38 #[.int .i64 n51] w49 fun r59 w60 => r59 = .string s58 ∧ Sub w49 w60) ∧
 (((((ByteArray.mk #[102, 117, 110, 32]) ++ s55) ++ (ByteArray.mk #[32])).size + s58.size : Nat) : Int) ≤ 9223372036854775807 ∧
 ((((((ByteArray.mk #[102, 117, 110, 32]) ++ s55) ++ (ByteArray.mk #[32])) ++ s58).size + (ByteArray.mk #[32]).size : Nat) : Int) ≤ 9223372036854775807 ∧
 ∃ s61 : ByteArray, (Trip Tryz.prog 20 #[.agg #[.int .i64 n52, .int .i64 n53, x54.val]] w49 fun r62 w63 => r62 = .string s61 ∧ Sub w49 w63) ∧
 (((((((ByteArray.mk #[102, 117, 110, 32]) ++ s55) ++ (ByteArray.mk #[32])) ++ s58) ++ (ByteArray.mk #[32])).size + s61.size : Nat) : Int) ≤ 9223372036854775807 ∧
 ((((((((ByteArray.mk #[102, 117, 110, 32]) ++ s55) ++ (ByteArray.mk #[32])) ++ s58) ++ (ByteArray.mk #[32])) ++ s61).size + (ByteArray.mk #[10]).size : Nat) : Int) ≤ 9223372036854775807 ∧
 Trip Tryz.prog 37 #[.pointer (some (a4.add 0)), .string (((((((ByteArray.mk #[102, 117, 110, 32]) ++ s55) ++ (ByteArray.mk #[32])) ++ s58) ++ (ByteArray.mk #[32])) ++ s61) ++ (ByteArray.mk #[10]))] w49 fun r64 w65 =>
 ∃ n66 : Int, ∃ y67 : Vl, r64 = .tuple #[.int .i64 n66, y67.x] ∧
 ∃ n68 : Int, Wr .i64 (n48 + 1) n68 ∧
 eqS (.sl x0_0) ∧
 eqS (.sl x0_1) ∧
 I46 n68 w65 ∧
 m47 n68 w65 < m47 n48 w49) ∧
 ((decide (n48 < (x0_1.n : Int))) = false →
 Trip Tryz.prog 40 #[.pointer (some (a4.add 0))] w49 fun r69 w70 =>
 ∃ s71 : ByteArray, r69 = .string s71 ∧
 Q (.string s71) w70)))
theorem of13 (x0_0 : Sl) (x0_1 : Sl) (v : World) (Q : Value → World → Prop) (h : vc13 x0_0 x0_1 v Q) : Trip Tryz.prog 13 #[.agg #[x0_0.val, x0_1.val]] v Q :=
 trip_of_eq (args := [.ag [.sl x0_0, .sl x0_1]]) (A := ⟨[(5, [(16, .int .i64)], []), (11, [(39, .int .i64)], []), (18, [(54, .int .i64)], [])], [], [(8, []), (20, [])], [3], psG⟩) Tryz.func13 (by kernel_rfl) (by kernel_rfl) (by kernel_rfl : vc13 x0_0 x0_1 v Q = _) h

def vc14 (x0_0 : Sl) (x0_1 : Sl) (x1_0 : Sl) (x1_1 : Sl) (v : World) (Q : Value → World → Prop) : Prop :=
 ∃ q1 : Bool, (Trip Tryz.prog 41 #[x0_0.val, x1_0.val] v fun r2 w3 => r2 = .bool q1 ∧ Sub v w3) ∧
 ((!q1) = true →
 Q (.bool false) v) ∧
 ((!q1) = false →
 ∃ q4 : Bool, (Trip Tryz.prog 42 #[x0_1.val, x1_1.val] v fun r5 w6 => r5 = .bool q4 ∧ Sub v w6) ∧
 ((!q4) = true →
 Q (.bool false) v) ∧
 ((!q4) = false →
 Q (.bool true) v))
theorem of14 (x0_0 : Sl) (x0_1 : Sl) (x1_0 : Sl) (x1_1 : Sl) (v : World) (Q : Value → World → Prop) (h : vc14 x0_0 x0_1 x1_0 x1_1 v Q) : Trip Tryz.prog 14 #[.agg #[x0_0.val, x0_1.val], .agg #[x1_0.val, x1_1.val]] v Q :=
 trip_of_eq (args := [.ag [.sl x0_0, .sl x0_1], .ag [.sl x1_0, .sl x1_1]]) (A := ⟨[], [], [], [], psG⟩) Tryz.func14 (by kernel_rfl) (by kernel_rfl) (by kernel_rfl : vc14 x0_0 x0_1 x1_0 x1_1 v Q = _) h

def vc15 (s_0 : ByteArray) (v : World) (Q : Value → World → Prop) : Prop :=
 NewAt v (.cells #[.string s_0, .int .i64 0, .int .i64 0, .bool false] 79 (0, 0)) fun a1 w2 =>
 StepT Tryz.prog (Instr.buildSlice 28 0 #[]) w2 fun r3 w4 =>
 ∃ x5 : Sl, r3 = x5.val ∧
 StepT Tryz.prog (Instr.buildSlice 29 0 #[]) w4 fun r6 w7 =>
 ∃ x8 : Sl, r6 = x8.val ∧
 ∃ I9 : Sl → World → Prop, ∃ m10 : Sl → World → Nat, I9 x5 w7 ∧
 ∀ x11 : Sl, ∀ w12 : World, I9 x11 w12 →
 ∃ q13 : Bool, w12.cell? (a1.add 3) = some (.bool q13) ∧
 ∃ n14 : Int, ((!q13) = true →
 (Trip Tryz.prog 43 #[.pointer (some (a1.add 0))] w12 fun r15 w16 => r15 = .int .i64 n14 ∧ Sub w12 w16)) ∧
 ∃ n17 : Int, ((decide (n14 = 100)) = false →
 (!q13) = true →
 (Trip Tryz.prog 43 #[.pointer (some (a1.add 0))] w12 fun r18 w19 => r18 = .int .i64 n17 ∧ Sub w12 w19)) ∧
 (((!q13) && ((decide (n14 = 100)) || (decide (n17 = 97)))) = true →
 Trip Tryz.prog 44 #[.pointer (some (a1.add 0))] w12 fun r20 w21 =>
 ∃ n22 : Int, ∃ n23 : Int, ∃ x24 : Sl, r20 = .agg #[.int .i64 n22, .int .i64 n23, x24.val] ∧
 StepT Tryz.prog (Instr.buildSlice 28 1 #[(0, (.agg #[.int .i64 n22, .int .i64 n23, x24.val]))]) w21 fun r25 w26 =>
 ∃ x27 : Sl, r25 = x27.val ∧
 StepT Tryz.prog (Builtin.append_ #[28, 28] 28 #[(x11.val), (x27.val)]) w26 fun r28 w29 =>
 ∃ x30 : Sl, r28 = x30.val ∧
 eqS (.sl (Sl.mk none 0 0)) ∧
 eqS (.sl (Sl.mk none 0 0)) ∧
 eqS (.sl x8) ∧
 I9 x30 w29 ∧
 m10 x30 w29 < m10 x11 w12) ∧
 (((!q13) && ((decide (n14 = 100)) || (decide (n17 = 97)))) = false →
 ∃ I31 : Sl → World → Prop, ∃ m32 : Sl → World → Nat, I31 x8 w12 ∧
 ∀ x33 : Sl, ∀ w34 : World, I31 x33 w34 →
 ∃ q35 : Bool, w34.cell? (a1.add 3) = some (.bool q35) ∧
 ∃ n36 : Int, ((!q35) = true →
 w34.cell? (a1.add 1) = some (.int .i64 n36)) ∧
 (((!q35) && (decide (n36 < (s_0.size : Int)))) = true →
 Trip Tryz.prog 45 #[.pointer (some (a1.add 0))] w34 fun r37 w38 =>
 ∃ x39 : Sl, ∃ n40 : Int, ∃ n41 : Int, ∃ n42 : Int, ∃ x43 : Sl, r37 = .agg #[x39.val, .int .i64 n40, .int .i64 n41, .int .i64 n42, x43.val] ∧
 StepT Tryz.prog (Instr.buildSlice 29 1 #[(0, (.agg #[x39.val, .int .i64 n40, .int .i64 n41, .int .i64 n42, x43.val]))]) w38 fun r44 w45 =>
 ∃ x46 : Sl, r44 = x46.val ∧
 StepT Tryz.prog (Builtin.append_ #[29, 29] 29 #[(x33.val), (x46.val)]) w45 fun r47 w48 =>
 ∃ x49 : Sl, r47 = x49.val ∧
 eqS (.sl (Sl.mk none 0 0)) ∧
 eqS (.sl (Sl.mk none 0 0)) ∧
 eqS (.sl x11) ∧
 I31 x49 w48 ∧
 m32 x49 w48 < m32 x33 w34) ∧
 (((!q35) && (decide (n36 < (s_0.size : Int)))) = false →
 ∃ q50 : Bool, w34.cell? (a1.add 3) = some (.bool q50) ∧
 ∃ q51 : Bool, (q50 = false →
 (Trip Tryz.prog 33 #[.agg #[x11.val, x33.val]] w34 fun r52 w53 => r52 = .bool q51 ∧ Sub w34 w53)) ∧
 ∃ s54 : ByteArray, ((q50 || (!q51)) = false →
 (Trip Tryz.prog 34 #[.agg #[x11.val, x33.val]] w34 fun r55 w56 => r55 = .string s54 ∧ Sub w34 w56)) ∧
 (((q50 || (!q51)) || (!(s54.toList == s_0.toList))) = true →
 Q (.tuple #[.agg #[.slice none 0 0, .slice none 0 0], .bool false]) w34) ∧
 (((q50 || (!q51)) || (!(s54.toList == s_0.toList))) = false →
 Q (.tuple #[.agg #[x11.val, x33.val], .bool true]) w34)))
theorem of15 (s_0 : ByteArray) (v : World) (Q : Value → World → Prop) (h : vc15 s_0 v Q) : Trip Tryz.prog 15 #[.string s_0] v Q :=
 trip_of_eq (args := [.st s_0]) (A := ⟨[(3, [], [(1, 0, .sl)]), (5, [], [(1, 1, .sl)])], [], [(4, []), (6, [])], [8], psG⟩) Tryz.func15 (by kernel_rfl) (by kernel_rfl) (by kernel_rfl : vc15 s_0 v Q = _) h

def vc16 (s_0 : ByteArray) (v : World) (Q : Value → World → Prop) : Prop :=
 Trip Tryz.prog 46 #[.string s_0, .string (ByteArray.mk #[10]), .int .i64 10] v fun r1 w2 =>
 ∃ x3 : Sl, r1 = x3.val ∧
 NewAt w2 (.cells #[.slice none 0 0, .slice none 0 0] 31 (0, 0)) fun a4 w5 =>
 ∃ I6 : Int → World → Prop, ∃ m7 : Int → World → Nat, I6 0 w5 ∧
 ∀ n8 : Int, ∀ w9 : World, I6 n8 w9 →
 ((decide (n8 < (x3.n : Int))) = true →
 IxOk x3 n8 ∧
 ∃ s10 : ByteArray, w9.cell? ((elA x3 n8 1).add 0) = some (.string s10) ∧
 ∃ s11 : ByteArray, ((!(s10.toList == (ByteArray.mk #[]).toList)) = true →
 (Trip Tryz.prog 48 #[.string s10, .string (ByteArray.mk #[10])] w9 fun r12 w13 => r12 = .string s11 ∧ Sub w9 w13)) ∧
 ((!(s10.toList == (ByteArray.mk #[]).toList)) = true →
 Trip Tryz.prog 47 #[.pointer (some (a4.add 0)), .string s11] w9 fun r14 w15 =>
 ∃ q16 : Bool, r14 = .bool q16 ∧
 ((!q16) = true →
 Q (.tuple #[.agg #[.slice none 0 0, .slice none 0 0], .bool false]) w15) ∧
 ((!q16) = false →
 ∃ n17 : Int, Wr .i64 (n8 + 1) n17 ∧
 eqS (.sl (Sl.mk none 0 0)) ∧
 eqS (.sl (Sl.mk none 0 0)) ∧
 I6 n17 w15 ∧
 m7 n17 w15 < m7 n8 w9)) ∧
 ((!(s10.toList == (ByteArray.mk #[]).toList)) = false →
 ∃ n18 : Int, Wr .i64 (n8 + 1) n18 ∧
 eqS (.sl (Sl.mk none 0 0)) ∧
 eqS (.sl (Sl.mk none 0 0)) ∧
 I6 n18 w9 ∧
 m7 n18 w9 < m7 n8 w9)) ∧
 ((decide (n8 < (x3.n : Int))) = false →
 ∃ x19 : Sl, ∃ x20 : Sl, (w9.cell? (a4.add 0) = some (x19.val) ∧
 w9.cell? (a4.add 1) = some (x20.val)) ∧
 ∃ s21 : ByteArray, (Trip Tryz.prog 13 #[.agg #[x19.val, x20.val]] w9 fun r22 w23 => r22 = .string s21 ∧ Sub w9 w23) ∧
 (((s21.toList == (ByteArray.mk #[]).toList) || (!(s21.toList == s_0.toList))) = true →
 Q (.tuple #[.agg #[.slice none 0 0, .slice none 0 0], .bool false]) w9) ∧
 (((s21.toList == (ByteArray.mk #[]).toList) || (!(s21.toList == s_0.toList))) = false →
 ∃ x24 : Sl, ∃ x25 : Sl, (w9.cell? (a4.add 0) = some (x24.val) ∧
 w9.cell? (a4.add 1) = some (x25.val)) ∧
 Q (.tuple #[.agg #[x24.val, x25.val], .bool true]) w9))
theorem of16 (s_0 : ByteArray) (v : World) (Q : Value → World → Prop) (h : vc16 s_0 v Q) : Trip Tryz.prog 16 #[.string s_0] v Q :=
 trip_of_eq (args := [.st s_0]) (A := ⟨[(4, [(13, .int .i64)], [])], [], [], [5], psG⟩) Tryz.func16 (by kernel_rfl) (by kernel_rfl) (by kernel_rfl : vc16 s_0 v Q = _) h

def vc17 (x0_0 : Sl) (x0_1 : Sl) (n_1 : Int) (v : World) (Q : Value → World → Prop) : Prop :=
 Trip Tryz.prog 49 #[x0_0.val, .int .i64 n_1] v fun r1 w2 =>
 ∃ n3 : Int, r1 = .int .i64 n3 ∧
 Trip Tryz.prog 50 #[x0_1.val, .int .i64 n3] w2 fun r4 w5 =>
 ∃ n6 : Int, r4 = .int .i64 n6 ∧
 Q (.int .i64 n6) w5
theorem of17 (x0_0 : Sl) (x0_1 : Sl) (n_1 : Int) (v : World) (Q : Value → World → Prop) (h : vc17 x0_0 x0_1 n_1 v Q) : Trip Tryz.prog 17 #[.agg #[x0_0.val, x0_1.val], .int .i64 n_1] v Q :=
 trip_of_eq (args := [.ag [.sl x0_0, .sl x0_1], .num .i64 n_1]) (A := ⟨[], [], [], [], psG⟩) Tryz.func17 (by kernel_rfl) (by kernel_rfl) (by kernel_rfl : vc17 x0_0 x0_1 n_1 v Q = _) h

def vc18 (x0_0 : Sl) (x0_1 : Sl) (n_1 : Int) (v : World) (Q : Value → World → Prop) : Prop :=
 ∃ n1 : Int, (Trip Tryz.prog 51 #[x0_0.val, .int .i64 n_1] v fun r2 w3 => r2 = .int .i64 n1 ∧ Sub v w3) ∧
 ((decide (n1 < 0)) = true →
 Q (.int .i64 (-1)) v) ∧
 ((decide (n1 < 0)) = false →
 ∃ n4 : Int, (Trip Tryz.prog 52 #[x0_1.val, .int .i64 n1] v fun r5 w6 => r5 = .int .i64 n4 ∧ Sub v w6) ∧
 ((decide (n4 < 0)) = true →
 Q (.int .i64 (-1)) v) ∧
 ((decide (n4 < 0)) = false →
 Q (.int .i64 n4) v))
theorem of18 (x0_0 : Sl) (x0_1 : Sl) (n_1 : Int) (v : World) (Q : Value → World → Prop) (h : vc18 x0_0 x0_1 n_1 v Q) : Trip Tryz.prog 18 #[.agg #[x0_0.val, x0_1.val], .int .i64 n_1] v Q :=
 trip_of_eq (args := [.ag [.sl x0_0, .sl x0_1], .num .i64 n_1]) (A := ⟨[], [], [], [], psG⟩) Tryz.func18 (by kernel_rfl) (by kernel_rfl) (by kernel_rfl : vc18 x0_0 x0_1 n_1 v Q = _) h

def vc20 (n0_0 : Int) (n0_1 : Int) (x0_2 : Sl) (v : World) (Q : Value → World → Prop) : Prop :=
 ∃ n1 : Int, (Trip Tryz.prog 26 #[.agg #[.int .i64 n0_0, .int .i64 n0_1, x0_2.val]] v fun r2 w3 => r2 = .int .i64 n1 ∧ Sub v w3) ∧
 ((decide (n1 < 0)) = true →
 Q (.string (ByteArray.mk #[])) v) ∧
 ((decide (n1 < 0)) = false →
 NewAt v (.cells #[(Vl.mk (Value.pointer none) rfl).x, .slice none 0 0] 59 (0, 0)) fun a4 w5 =>
 Trip Tryz.prog 55 #[.pointer (some (a4.add 0)), .agg #[.int .i64 n0_0, .int .i64 n0_1, x0_2.val]] w5 fun r6 w7 =>
 ∃ q8 : Bool, r6 = .bool q8 ∧
 ((!q8) = true →
 Q (.string (ByteArray.mk #[])) w7) ∧
 ((!q8) = false →
 Trip Tryz.prog 40 #[.pointer (some (a4.add 0))] w7 fun r9 w10 =>
 ∃ s11 : ByteArray, r9 = .string s11 ∧
 Q (.string s11) w10))
theorem of20 (n0_0 : Int) (n0_1 : Int) (x0_2 : Sl) (v : World) (Q : Value → World → Prop) (h : vc20 n0_0 n0_1 x0_2 v Q) : Trip Tryz.prog 20 #[.agg #[.int .i64 n0_0, .int .i64 n0_1, x0_2.val]] v Q :=
 trip_of_eq (args := [.ag [.num .i64 n0_0, .num .i64 n0_1, .sl x0_2]]) (A := ⟨[], [], [], [3], psG⟩) Tryz.func20 (by kernel_rfl) (by kernel_rfl) (by kernel_rfl : vc20 n0_0 n0_1 x0_2 v Q = _) h

def vc22 (s_0 : ByteArray) (v : World) (Q : Value → World → Prop) : Prop :=
 NewAt v (.cells #[.string ByteArray.empty, .int .i64 0] 94 (0, 0)) fun a1 w2 =>
 StoreAt w2 a1 0 [.string s_0, .int .i64 0] fun w3 =>
 Trip Tryz.prog 59 #[.pointer (some (a1.add 0))] w3 fun r4 w5 =>
 ∃ n6 : Int, ∃ n7 : Int, ∃ x8 : Sl, ∃ q9 : Bool, r4 = .tuple #[.agg #[.int .i64 n6, .int .i64 n7, x8.val], .bool q9] ∧
 ∃ s10 : ByteArray, ((!q9) = false →
 (Trip Tryz.prog 20 #[.agg #[.int .i64 n6, .int .i64 n7, x8.val]] w5 fun r11 w12 => r11 = .string s10 ∧ Sub w5 w12)) ∧
 (((!q9) || (!(s10.toList == s_0.toList))) = true →
 Q (.tuple #[.agg #[.int .i64 0, .int .i64 0, .slice none 0 0], .bool false]) w5) ∧
 (((!q9) || (!(s10.toList == s_0.toList))) = false →
 Q (.tuple #[.agg #[.int .i64 n6, .int .i64 n7, x8.val], .bool true]) w5)
theorem of22 (s_0 : ByteArray) (v : World) (Q : Value → World → Prop) (h : vc22 s_0 v Q) : Trip Tryz.prog 22 #[.string s_0] v Q :=
 trip_of_eq (args := [.st s_0]) (A := ⟨[], [], [], [4], psG⟩) Tryz.func22 (by kernel_rfl) (by kernel_rfl) (by kernel_rfl : vc22 s_0 v Q = _) h

def vc26 (n0_0 : Int) (n0_1 : Int) (x0_2 : Sl) (v : World) (Q : Value → World → Prop) : Prop :=
 NewAt v (.cells #[.int .i64 0] 3 (0, 0)) fun a1 w2 =>
 StoreAt w2 a1 0 [.int .i64 0] fun w3 =>
 Trip Tryz.prog 64 #[.agg #[.int .i64 n0_0, .int .i64 n0_1, x0_2.val], .pointer (some (a1.add 0))] w3 fun r4 w5 =>
 ∃ q6 : Bool, r4 = .bool q6 ∧
 ((!q6) = true →
 Q (.int .i64 (-1)) w5) ∧
 ((!q6) = false →
 ∃ n7 : Int, w5.cell? (a1.add 0) = some (.int .i64 n7) ∧
 Q (.int .i64 n7) w5)
theorem of26 (n0_0 : Int) (n0_1 : Int) (x0_2 : Sl) (v : World) (Q : Value → World → Prop) (h : vc26 n0_0 n0_1 x0_2 v Q) : Trip Tryz.prog 26 #[.agg #[.int .i64 n0_0, .int .i64 n0_1, x0_2.val]] v Q :=
 trip_of_eq (args := [.ag [.num .i64 n0_0, .num .i64 n0_1, .sl x0_2]]) (A := ⟨[], [], [], [3], psG⟩) Tryz.func26 (by kernel_rfl) (by kernel_rfl) (by kernel_rfl : vc26 n0_0 n0_1 x0_2 v Q = _) h

def vc30 (x0_0 : Sl) (x0_1 : Sl) (v : World) (Q : Value → World → Prop) : Prop :=
 ∃ q1 : Bool, (Trip Tryz.prog 69 #[.agg #[x0_0.val, x0_1.val]] v fun r2 w3 => r2 = .bool q1 ∧ Sub v w3) ∧
 ((!q1) = true →
 Q (.bool false) v) ∧
 ((!q1) = false →
 ∃ I4 : Int → World → Prop, ∃ m5 : Int → World → Nat, I4 0 v ∧
 ∀ n6 : Int, ∀ w7 : World, I4 n6 w7 →
 ((decide (n6 < (x0_1.n : Int))) = true →
 IxOk x0_1 n6 ∧
 ldF w7 x0_1 n6 fun x8 n9 n10 n11 x12 =>
 ∃ n13 : Int, (Trip Tryz.prog 70 #[.agg #[x0_0.val, x0_1.val], x8.val, .agg #[.int .i64 n10, .int .i64 n11, x12.val]] w7 fun r14 w15 => r14 = .int .i64 n13 ∧ Sub w7 w15) ∧
 ((!decide (n13 = n9)) = true →
 Q (.bool false) w7) ∧
 ((!decide (n13 = n9)) = false →
 ∃ n16 : Int, Wr .i64 (n6 + 1) n16 ∧
 eqS (.sl x0_0) ∧
 eqS (.sl x0_1) ∧
 I4 n16 w7 ∧
 m5 n16 w7 < m5 n6 w7)) ∧
 ((decide (n6 < (x0_1.n : Int))) = false →
 Q (.bool true) w7))
theorem of30 (x0_0 : Sl) (x0_1 : Sl) (v : World) (Q : Value → World → Prop) (h : vc30 x0_0 x0_1 v Q) : Trip Tryz.prog 30 #[.agg #[x0_0.val, x0_1.val]] v Q :=
 trip_of_eq (args := [.ag [.sl x0_0, .sl x0_1]]) (A := ⟨[(4, [(11, .int .i64)], [])], [], [], [], psG⟩) Tryz.func30 (by kernel_rfl) (by kernel_rfl) (by kernel_rfl : vc30 x0_0 x0_1 v Q = _) h

def vc33 (x0_0 : Sl) (x0_1 : Sl) (v : World) (Q : Value → World → Prop) : Prop :=
 ∃ q1 : Bool, (Trip Tryz.prog 73 #[.agg #[x0_0.val, x0_1.val]] v fun r2 w3 => r2 = .bool q1 ∧ Sub v w3) ∧
 ((!q1) = true →
 Q (.bool false) v) ∧
 ((!q1) = false →
 ∃ I4 : Int → World → Prop, ∃ m5 : Int → World → Nat, I4 0 v ∧
 ∀ n6 : Int, ∀ w7 : World, I4 n6 w7 →
 ((decide (n6 < (x0_1.n : Int))) = true →
 IxOk x0_1 n6 ∧
 ∃ n8 : Int, ∃ n9 : Int, ∃ x10 : Sl, (w7.cell? ((elA x0_1 n6 5).add 2) = some (.int .i64 n8) ∧
 w7.cell? ((elA x0_1 n6 5).add 3) = some (.int .i64 n9) ∧
 w7.cell? ((elA x0_1 n6 5).add 4) = some (x10.val)) ∧
 ∃ n11 : Int, (Trip Tryz.prog 56 #[.agg #[.int .i64 n8, .int .i64 n9, x10.val]] w7 fun r12 w13 => r12 = .int .i64 n11 ∧ Sub w7 w13) ∧
 ((decide (n11 < 0)) = false →
 IxOk x0_1 n6) ∧
 ∃ x14 : Sl, ((decide (n11 < 0)) = false →
 w7.cell? ((elA x0_1 n6 5).add 0) = some (x14.val)) ∧
 ((decide (n11 < 0)) = false →
 IxOk x0_1 n6) ∧
 ∃ n15 : Int, ∃ n16 : Int, ∃ x17 : Sl, ((decide (n11 < 0)) = false →
 w7.cell? ((elA x0_1 n6 5).add 2) = some (.int .i64 n15) ∧
 w7.cell? ((elA x0_1 n6 5).add 3) = some (.int .i64 n16) ∧
 w7.cell? ((elA x0_1 n6 5).add 4) = some (x17.val)) ∧
 ∃ n18 : Int, ((decide (n11 < 0)) = false →
 (Trip Tryz.prog 74 #[.agg #[x0_0.val, x0_1.val], x14.val, .agg #[.int .i64 n15, .int .i64 n16, x17.val]] w7 fun r19 w20 => r19 = .int .i64 n18 ∧ Sub w7 w20)) ∧
 ((decide (n11 < 0)) = false →
 IxOk x0_1 n6) ∧
 ∃ n21 : Int, ((decide (n11 < 0)) = false →
 w7.cell? ((elA x0_1 n6 5).add 1) = some (.int .i64 n21)) ∧
 (((decide (n11 < 0)) || (!decide (n18 = n21))) = true →
 Q (.bool false) w7) ∧
 (((decide (n11 < 0)) || (!decide (n18 = n21))) = false →
 ∃ n22 : Int, Wr .i64 (n6 + 1) n22 ∧
 eqS (.sl x0_0) ∧
 eqS (.sl x0_1) ∧
 I4 n22 w7 ∧
 m5 n22 w7 < m5 n6 w7)) ∧
 ((decide (n6 < (x0_1.n : Int))) = false →
 Q (.bool true) w7))
theorem of33 (x0_0 : Sl) (x0_1 : Sl) (v : World) (Q : Value → World → Prop) (h : vc33 x0_0 x0_1 v Q) : Trip Tryz.prog 33 #[.agg #[x0_0.val, x0_1.val]] v Q :=
 trip_of_eq (args := [.ag [.sl x0_0, .sl x0_1]]) (A := ⟨[(4, [(3, .int .i64)], [])], [], [], [], psG⟩) Tryz.func33 (by kernel_rfl) (by kernel_rfl) (by kernel_rfl : vc33 x0_0 x0_1 v Q = _) h

def vc34 (x0_0 : Sl) (x0_1 : Sl) (v : World) (Q : Value → World → Prop) : Prop :=
 ∃ I1 : ByteArray → Int → World → Prop, ∃ m2 : ByteArray → Int → World → Nat, I1 (ByteArray.mk #[]) 0 v ∧
 ∀ s3 : ByteArray, ∀ n4 : Int, ∀ w5 : World, I1 s3 n4 w5 →
 ((decide (n4 < (x0_0.n : Int))) = true →
 IxOk x0_0 n4 ∧
 ldT w5 x0_0 n4 fun n6 n7 x8 =>
 ∃ s9 : ByteArray, (Trip Tryz.prog 75 #[.agg #[.int .i64 n6, .int .i64 n7, x8.val]] w5 fun r10 w11 => r10 = .string s9 ∧ Sub w5 w11) ∧
 ((s3.size + s9.size : Nat) : Int) ≤ 9223372036854775807 ∧
 ∃ n12 : Int, Wr .i64 (n4 + 1) n12 ∧
 eqS (.sl x0_0) ∧
 eqS (.sl x0_1) ∧
 I1 (s3 ++ s9) n12 w5 ∧
 m2 (s3 ++ s9) n12 w5 < m2 s3 n4 w5) ∧
 ((decide (n4 < (x0_0.n : Int))) = false →
 ∃ I13 : ByteArray → Int → World → Prop, ∃ m14 : ByteArray → Int → World → Nat, I13 s3 0 w5 ∧
 ∀ s15 : ByteArray, ∀ n16 : Int, ∀ w17 : World, I13 s15 n16 w17 →
 ((decide (n16 < (x0_1.n : Int))) = true →
 IxOk x0_1 n16 ∧
 ldF w17 x0_1 n16 fun x18 n19 n20 n21 x22 =>
 ((s15.size + (ByteArray.mk #[102, 117, 110, 32]).size : Nat) : Int) ≤ 9223372036854775807 ∧
 ∃ s23 : ByteArray, (Trip Tryz.prog 76 #[x18.val] w17 fun r24 w25 => r24 = .string s23 ∧ Sub w17 w25) ∧
 (((s15 ++ (ByteArray.mk #[102, 117, 110, 32])).size + s23.size : Nat) : Int) ≤ 9223372036854775807 ∧
 ((((s15 ++ (ByteArray.mk #[102, 117, 110, 32])) ++ s23).size + (ByteArray.mk #[32]).size : Nat) : Int) ≤ 9223372036854775807 ∧
 ∃ s26 : ByteArray, (Trip Tryz.prog 77 #[.int .i64 n19] w17 fun r27 w28 => r27 = .string s26 ∧ Sub w17 w28) ∧
 (((((s15 ++ (ByteArray.mk #[102, 117, 110, 32])) ++ s23) ++ (ByteArray.mk #[32])).size + s26.size : Nat) : Int) ≤ 9223372036854775807 ∧
 ((((((s15 ++ (ByteArray.mk #[102, 117, 110, 32])) ++ s23) ++ (ByteArray.mk #[32])) ++ s26).size + (ByteArray.mk #[32]).size : Nat) : Int) ≤ 9223372036854775807 ∧
 ∃ s29 : ByteArray, (Trip Tryz.prog 58 #[.agg #[.int .i64 n20, .int .i64 n21, x22.val]] w17 fun r30 w31 => r30 = .string s29 ∧ Sub w17 w31) ∧
 (((((((s15 ++ (ByteArray.mk #[102, 117, 110, 32])) ++ s23) ++ (ByteArray.mk #[32])) ++ s26) ++ (ByteArray.mk #[32])).size + s29.size : Nat) : Int) ≤ 9223372036854775807 ∧
 ((((((((s15 ++ (ByteArray.mk #[102, 117, 110, 32])) ++ s23) ++ (ByteArray.mk #[32])) ++ s26) ++ (ByteArray.mk #[32])) ++ s29).size + (ByteArray.mk #[10]).size : Nat) : Int) ≤ 9223372036854775807 ∧
 ∃ n32 : Int, Wr .i64 (n16 + 1) n32 ∧
 eqS (.sl x0_0) ∧
 eqS (.sl x0_1) ∧
 I13 (((((((s15 ++ (ByteArray.mk #[102, 117, 110, 32])) ++ s23) ++ (ByteArray.mk #[32])) ++ s26) ++ (ByteArray.mk #[32])) ++ s29) ++ (ByteArray.mk #[10])) n32 w17 ∧
 m14 (((((((s15 ++ (ByteArray.mk #[102, 117, 110, 32])) ++ s23) ++ (ByteArray.mk #[32])) ++ s26) ++ (ByteArray.mk #[32])) ++ s29) ++ (ByteArray.mk #[10])) n32 w17 < m14 s15 n16 w17) ∧
 ((decide (n16 < (x0_1.n : Int))) = false →
 Q (.string s15) w17))
theorem of34 (x0_0 : Sl) (x0_1 : Sl) (v : World) (Q : Value → World → Prop) (h : vc34 x0_0 x0_1 v Q) : Trip Tryz.prog 34 #[.agg #[x0_0.val, x0_1.val]] v Q :=
 trip_of_eq (args := [.ag [.sl x0_0, .sl x0_1]]) (A := ⟨[(3, [(3, .str), (4, .int .i64)], []), (7, [(3, .str), (5, .int .i64)], [])], [], [], [], psG⟩) Tryz.func34 (by kernel_rfl) (by kernel_rfl) (by kernel_rfl : vc34 x0_0 x0_1 v Q = _) h

def vc39 (x_0 : Sl) (v : World) (Q : Value → World → Prop) : Prop :=
 StepT Tryz.prog (Instr.makeSlice 83 (.int .i64 0) (.int .i64 (x_0.n : Int))) v fun r1 w2 =>
 ∃ x3 : Sl, r1 = x3.val ∧
 ∃ I4 : Sl → Int → World → Prop, ∃ m5 : Sl → Int → World → Nat, I4 x3 0 w2 ∧
 ∀ x6 : Sl, ∀ n7 : Int, ∀ w8 : World, I4 x6 n7 w8 →
 ((decide (n7 < (x_0.n : Int))) = true →
 IxOk x_0 n7 ∧
 ∃ n9 : Int, w8.cell? ((elA x_0 n7 1).add 0) = some (.int .i64 n9) ∧
 ∃ s10 : ByteArray, (Trip Tryz.prog 38 #[.int .i64 n9] w8 fun r11 w12 => r11 = .string s10 ∧ Sub w8 w12) ∧
 StepT Tryz.prog (Instr.buildSlice 83 1 #[(0, (.string s10))]) w8 fun r13 w14 =>
 ∃ x15 : Sl, r13 = x15.val ∧
 StepT Tryz.prog (Builtin.append_ #[83, 83] 83 #[(x6.val), (x15.val)]) w14 fun r16 w17 =>
 ∃ x18 : Sl, r16 = x18.val ∧
 ∃ n19 : Int, Wr .i64 (n7 + 1) n19 ∧
 I4 x18 n19 w17 ∧
 m5 x18 n19 w17 < m5 x6 n7 w8) ∧
 ((decide (n7 < (x_0.n : Int))) = false →
 Trip Tryz.prog 82 #[x6.val, .string (ByteArray.mk #[44])] w8 fun r20 w21 =>
 ∃ s22 : ByteArray, r20 = .string s22 ∧
 (((ByteArray.mk #[40]).size + s22.size : Nat) : Int) ≤ 9223372036854775807 ∧
 ((((ByteArray.mk #[40]) ++ s22).size + (ByteArray.mk #[41]).size : Nat) : Int) ≤ 9223372036854775807 ∧
 Q (.string (((ByteArray.mk #[40]) ++ s22) ++ (ByteArray.mk #[41]))) w21)
theorem of39 (x_0 : Sl) (v : World) (Q : Value → World → Prop) (h : vc39 x_0 v Q) : Trip Tryz.prog 39 #[x_0.val] v Q :=
 trip_of_eq (args := [.sl x_0]) (A := ⟨[(3, [(3, .sl), (11, .int .i64)], [])], [], [], [], psG⟩) Tryz.func39 (by kernel_rfl) (by kernel_rfl) (by kernel_rfl : vc39 x_0 v Q = _) h

def vc41 (x_0 : Sl) (x_1 : Sl) (v : World) (Q : Value → World → Prop) : Prop :=
 ((!decide ((x_0.n : Int) = (x_1.n : Int))) = true →
 Q (.bool false) v) ∧
 ((!decide ((x_0.n : Int) = (x_1.n : Int))) = false →
 ∃ I1 : Int → World → Prop, ∃ m2 : Int → World → Nat, I1 0 v ∧
 ∀ n3 : Int, ∀ w4 : World, I1 n3 w4 →
 ((decide (n3 < (x_0.n : Int))) = true →
 IxOk x_0 n3 ∧
 ldT w4 x_0 n3 fun n5 n6 x7 =>
 IxOk x_1 n3 ∧
 ldT w4 x_1 n3 fun n8 n9 x10 =>
 ∃ q11 : Bool, (Trip Tryz.prog 83 #[.agg #[.int .i64 n5, .int .i64 n6, x7.val], .agg #[.int .i64 n8, .int .i64 n9, x10.val]] w4 fun r12 w13 => r12 = .bool q11 ∧ Sub w4 w13) ∧
 ((!q11) = true →
 Q (.bool false) w4) ∧
 ((!q11) = false →
 ∃ n14 : Int, Wr .i64 (n3 + 1) n14 ∧
 I1 n14 w4 ∧
 m2 n14 w4 < m2 n3 w4)) ∧
 ((decide (n3 < (x_0.n : Int))) = false →
 Q (.bool true) w4))
theorem of41 (x_0 : Sl) (x_1 : Sl) (v : World) (Q : Value → World → Prop) (h : vc41 x_0 x_1 v Q) : Trip Tryz.prog 41 #[x_0.val, x_1.val] v Q :=
 trip_of_eq (args := [.sl x_0, .sl x_1]) (A := ⟨[(4, [(5, .int .i64)], [])], [], [], [], psG⟩) Tryz.func41 (by kernel_rfl) (by kernel_rfl) (by kernel_rfl : vc41 x_0 x_1 v Q = _) h

def vc42 (x_0 : Sl) (x_1 : Sl) (v : World) (Q : Value → World → Prop) : Prop :=
 ((!decide ((x_0.n : Int) = (x_1.n : Int))) = true →
 Q (.bool false) v) ∧
 ((!decide ((x_0.n : Int) = (x_1.n : Int))) = false →
 ∃ I1 : Int → World → Prop, ∃ m2 : Int → World → Nat, I1 0 v ∧
 ∀ n3 : Int, ∀ w4 : World, I1 n3 w4 →
 ((decide (n3 < (x_0.n : Int))) = true →
 IxOk x_0 n3 ∧
 ldF w4 x_0 n3 fun x5 n6 n7 n8 x9 =>
 IxOk x_1 n3 ∧
 ldF w4 x_1 n3 fun x10 n11 n12 n13 x14 =>
 ∃ q15 : Bool, (Trip Tryz.prog 84 #[.agg #[x5.val, .int .i64 n6, .int .i64 n7, .int .i64 n8, x9.val], .agg #[x10.val, .int .i64 n11, .int .i64 n12, .int .i64 n13, x14.val]] w4 fun r16 w17 => r16 = .bool q15 ∧ Sub w4 w17) ∧
 ((!q15) = true →
 Q (.bool false) w4) ∧
 ((!q15) = false →
 ∃ n18 : Int, Wr .i64 (n3 + 1) n18 ∧
 I1 n18 w4 ∧
 m2 n18 w4 < m2 n3 w4)) ∧
 ((decide (n3 < (x_0.n : Int))) = false →
 Q (.bool true) w4))
theorem of42 (x_0 : Sl) (x_1 : Sl) (v : World) (Q : Value → World → Prop) (h : vc42 x_0 x_1 v Q) : Trip Tryz.prog 42 #[x_0.val, x_1.val] v Q :=
 trip_of_eq (args := [.sl x_0, .sl x_1]) (A := ⟨[(4, [(5, .int .i64)], [])], [], [], [], psG⟩) Tryz.func42 (by kernel_rfl) (by kernel_rfl) (by kernel_rfl : vc42 x_0 x_1 v Q = _) h

def vc43 (a_0 : Addr) (v : World) (Q : Value → World → Prop) : Prop :=
 ∃ n1 : Int, v.cell? (a_0.add 1) = some (.int .i64 n1) ∧
 ∃ s2 : ByteArray, v.cell? (a_0.add 0) = some (.string s2) ∧
 ((decide (n1 ≥ (s2.size : Int))) = true →
 Q (.int .i64 0) v) ∧
 ((decide (n1 ≥ (s2.size : Int))) = false →
 ∃ s3 : ByteArray, v.cell? (a_0.add 0) = some (.string s3) ∧
 ∃ n4 : Int, v.cell? (a_0.add 1) = some (.int .i64 n4) ∧
 StrIxOk s3 n4 ∧
 ∃ n5 : Int, Wr .i64 (strIx s3 n4) n5 ∧
 Q (.int .i64 n5) v)
theorem of43 (a_0 : Addr) (v : World) (Q : Value → World → Prop) (h : vc43 a_0 v Q) : Trip Tryz.prog 43 #[.pointer (some (a_0.add 0))] v Q :=
 trip_of_eq (args := [.pt a_0 0]) (A := ⟨[], [], [], [], psG⟩) Tryz.func43 (by kernel_rfl) (by kernel_rfl) (by kernel_rfl : vc43 a_0 v Q = _) h

def vc44 (a_0 : Addr) (v : World) (Q : Value → World → Prop) : Prop :=
 ∃ q1 : Bool, (Trip Tryz.prog 85 #[.pointer (some (a_0.add 0)), .string (ByteArray.mk #[97, 114, 114, 111, 119, 32])] v fun r2 w3 => r2 = .bool q1 ∧ Sub v w3) ∧
 (q1 = true →
 Trip Tryz.prog 86 #[.pointer (some (a_0.add 0)), .string (ByteArray.mk #[97, 114, 114, 111, 119, 32])] v fun r4 w5 =>
 r4 = .tuple #[] ∧
 Trip Tryz.prog 87 #[.pointer (some (a_0.add 0))] w5 fun r6 w7 =>
 ∃ n8 : Int, r6 = .int .i64 n8 ∧
 Trip Tryz.prog 86 #[.pointer (some (a_0.add 0)), .string (ByteArray.mk #[32])] w7 fun r9 w10 =>
 r9 = .tuple #[] ∧
 Trip Tryz.prog 87 #[.pointer (some (a_0.add 0))] w10 fun r11 w12 =>
 ∃ n13 : Int, r11 = .int .i64 n13 ∧
 Trip Tryz.prog 86 #[.pointer (some (a_0.add 0)), .string (ByteArray.mk #[10])] w12 fun r14 w15 =>
 r14 = .tuple #[] ∧
 StepT Tryz.prog (Instr.buildSlice 60 0 #[]) w15 fun r16 w17 =>
 ∃ x18 : Sl, r16 = x18.val ∧
 Q (.agg #[.int .i64 n8, .int .i64 n13, x18.val]) w17) ∧
 (q1 = false →
 Trip Tryz.prog 86 #[.pointer (some (a_0.add 0)), .string (ByteArray.mk #[100, 97, 116, 97])] v fun r19 w20 =>
 r19 = .tuple #[] ∧
 StepT Tryz.prog (Instr.buildSlice 60 0 #[]) w20 fun r21 w22 =>
 ∃ x23 : Sl, r21 = x23.val ∧
 ∃ I24 : Sl → World → Prop, ∃ m25 : Sl → World → Nat, I24 x23 w22 ∧
 ∀ x26 : Sl, ∀ w27 : World, I24 x26 w27 →
 ∃ q28 : Bool, w27.cell? (a_0.add 3) = some (.bool q28) ∧
 ∃ n29 : Int, ((!q28) = true →
 (Trip Tryz.prog 43 #[.pointer (some (a_0.add 0))] w27 fun r30 w31 => r30 = .int .i64 n29 ∧ Sub w27 w31)) ∧
 (((!q28) && (decide (n29 = 32))) = true →
 Trip Tryz.prog 86 #[.pointer (some (a_0.add 0)), .string (ByteArray.mk #[32])] w27 fun r32 w33 =>
 r32 = .tuple #[] ∧
 Trip Tryz.prog 88 #[.pointer (some (a_0.add 0))] w33 fun r34 w35 =>
 ∃ x36 : Sl, r34 = x36.val ∧
 StepT Tryz.prog (Instr.buildSlice 60 1 #[(0, (.agg #[x36.val]))]) w35 fun r37 w38 =>
 ∃ x39 : Sl, r37 = x39.val ∧
 StepT Tryz.prog (Builtin.append_ #[60, 60] 60 #[(x26.val), (x39.val)]) w38 fun r40 w41 =>
 ∃ x42 : Sl, r40 = x42.val ∧
 eqS (.num .i64 0) ∧
 eqS (.num .i64 0) ∧
 eqS (.sl (Sl.mk none 0 0)) ∧
 I24 x42 w41 ∧
 m25 x42 w41 < m25 x26 w27) ∧
 (((!q28) && (decide (n29 = 32))) = false →
 Trip Tryz.prog 86 #[.pointer (some (a_0.add 0)), .string (ByteArray.mk #[10])] w27 fun r43 w44 =>
 r43 = .tuple #[] ∧
 Q (.agg #[.int .i64 0, .int .i64 0, x26.val]) w44))
theorem of44 (a_0 : Addr) (v : World) (Q : Value → World → Prop) (h : vc44 a_0 v Q) : Trip Tryz.prog 44 #[.pointer (some (a_0.add 0))] v Q :=
 trip_of_eq (args := [.pt a_0 0]) (A := ⟨[(10, [(5, .sl)], [])], [], [], [], psG⟩) Tryz.func44 (by kernel_rfl) (by kernel_rfl) (by kernel_rfl : vc44 a_0 v Q = _) h

def vc45 (a_0 : Addr) (v : World) (Q : Value → World → Prop) : Prop :=
 Trip Tryz.prog 86 #[.pointer (some (a_0.add 0)), .string (ByteArray.mk #[102, 117, 110, 32])] v fun r1 w2 =>
 r1 = .tuple #[] ∧
 Trip Tryz.prog 88 #[.pointer (some (a_0.add 0))] w2 fun r3 w4 =>
 ∃ x5 : Sl, r3 = x5.val ∧
 Trip Tryz.prog 86 #[.pointer (some (a_0.add 0)), .string (ByteArray.mk #[32])] w4 fun r6 w7 =>
 r6 = .tuple #[] ∧
 Trip Tryz.prog 87 #[.pointer (some (a_0.add 0))] w7 fun r8 w9 =>
 ∃ n10 : Int, r8 = .int .i64 n10 ∧
 Trip Tryz.prog 86 #[.pointer (some (a_0.add 0)), .string (ByteArray.mk #[32])] w9 fun r11 w12 =>
 r11 = .tuple #[] ∧
 StoreAt w12 a_0 2 [.int .i64 0] fun w13 =>
 Trip Tryz.prog 63 #[.pointer (some (a_0.add 0))] w13 fun r14 w15 =>
 ∃ n16 : Int, ∃ n17 : Int, ∃ x18 : Sl, r14 = .agg #[.int .i64 n16, .int .i64 n17, x18.val] ∧
 Trip Tryz.prog 86 #[.pointer (some (a_0.add 0)), .string (ByteArray.mk #[10])] w15 fun r19 w20 =>
 r19 = .tuple #[] ∧
 Q (.agg #[x5.val, .int .i64 n10, .int .i64 n16, .int .i64 n17, x18.val]) w20
theorem of45 (a_0 : Addr) (v : World) (Q : Value → World → Prop) (h : vc45 a_0 v Q) : Trip Tryz.prog 45 #[.pointer (some (a_0.add 0))] v Q :=
 trip_of_eq (args := [.pt a_0 0]) (A := ⟨[], [], [], [], psG⟩) Tryz.func45 (by kernel_rfl) (by kernel_rfl) (by kernel_rfl : vc45 a_0 v Q = _) h

def vc47 (a_0 : Addr) (s_1 : ByteArray) (v : World) (Q : Value → World → Prop) : Prop :=
 Trip Tryz.prog 90 #[.string s_1, .string (ByteArray.mk #[32]), .int .i64 4] v fun r1 w2 =>
 ∃ x3 : Sl, r1 = x3.val ∧
 IxOk x3 0 ∧
 ∃ s4 : ByteArray, w2.cell? ((elA x3 0 1).add 0) = some (.string s4) ∧
 ((s4.toList == (ByteArray.mk #[100, 97, 116, 97]).toList) = true →
 Trip Tryz.prog 92 #[.string s_1, .string (ByteArray.mk #[32])] w2 fun r5 w6 =>
 ∃ x7 : Sl, r5 = x7.val ∧
 ((0 : Int) ≤ 1 ∧ 1 ≤ (x7.n : Int)) ∧
 Trip Tryz.prog 91 #[.pointer (some (a_0.add 0)), (x7.cut 1 (x7.n : Int) 1).val] w6 fun r8 w9 =>
 ∃ q10 : Bool, r8 = .bool q10 ∧
 Q (.bool q10) w9) ∧
 ((s4.toList == (ByteArray.mk #[100, 97, 116, 97]).toList) = false →
 IxOk x3 0 ∧
 ∃ s11 : ByteArray, w2.cell? ((elA x3 0 1).add 0) = some (.string s11) ∧
 (((s11.toList == (ByteArray.mk #[97, 114, 114, 111, 119]).toList) && (decide ((x3.n : Int) = 3))) = true →
 IxOk x3 1 ∧
 ∃ s12 : ByteArray, w2.cell? ((elA x3 1 1).add 0) = some (.string s12) ∧
 Trip Tryz.prog 93 #[.string s12] w2 fun r13 w14 =>
 ∃ n15 : Int, ∃ y16 : Vl, r13 = .tuple #[.int .i64 n15, y16.x] ∧
 IxOk x3 2 ∧
 ∃ s17 : ByteArray, w14.cell? ((elA x3 2 1).add 0) = some (.string s17) ∧
 Trip Tryz.prog 93 #[.string s17] w14 fun r18 w19 =>
 ∃ n20 : Int, ∃ y21 : Vl, r18 = .tuple #[.int .i64 n20, y21.x] ∧
 ∃ x22 : Sl, w19.cell? (a_0.add 0) = some (x22.val) ∧
 StepT Tryz.prog (Instr.buildSlice 28 1 #[(0, (.agg #[.int .i64 n15, .int .i64 n20, .slice none 0 0]))]) w19 fun r23 w24 =>
 ∃ x25 : Sl, r23 = x25.val ∧
 StepT Tryz.prog (Builtin.append_ #[28, 28] 28 #[(x22.val), (x25.val)]) w24 fun r26 w27 =>
 ∃ x28 : Sl, r26 = x28.val ∧
 StoreAt w27 a_0 0 [x28.val] fun w29 =>
 ∃ q30 : Bool, PureT Tryz.prog (do eqGuard .eql 64 (.tmp 64) (.const (.nilIface)) (y16.x) ((Vl.mk Value.nilIface rfl).x); binOp .eql 64 (y16.x) ((Vl.mk Value.nilIface rfl).x)) w29 (.bool q30) ∧
 ∃ q31 : Bool, (q30 = true →
 PureT Tryz.prog (do eqGuard .eql 64 (.tmp 67) (.const (.nilIface)) (y21.x) ((Vl.mk Value.nilIface rfl).x); binOp .eql 64 (y21.x) ((Vl.mk Value.nilIface rfl).x)) w29 (.bool q31)) ∧
 Q (.bool (q30 && q31)) w29) ∧
 (((s11.toList == (ByteArray.mk #[97, 114, 114, 111, 119]).toList) && (decide ((x3.n : Int) = 3))) = false →
 IxOk x3 0 ∧
 ∃ s32 : ByteArray, w2.cell? ((elA x3 0 1).add 0) = some (.string s32) ∧
 (((s32.toList == (ByteArray.mk #[102, 117, 110]).toList) && (decide ((x3.n : Int) = 4))) = true →
 IxOk x3 1 ∧
 ∃ s33 : ByteArray, w2.cell? ((elA x3 1 1).add 0) = some (.string s33) ∧
 Trip Tryz.prog 94 #[.string s33] w2 fun r34 w35 =>
 ∃ x36 : Sl, ∃ q37 : Bool, r34 = .tuple #[x36.val, .bool q37] ∧
 IxOk x3 2 ∧
 ∃ s38 : ByteArray, w35.cell? ((elA x3 2 1).add 0) = some (.string s38) ∧
 Trip Tryz.prog 93 #[.string s38] w35 fun r39 w40 =>
 ∃ n41 : Int, ∃ y42 : Vl, r39 = .tuple #[.int .i64 n41, y42.x] ∧
 IxOk x3 3 ∧
 ∃ s43 : ByteArray, w40.cell? ((elA x3 3 1).add 0) = some (.string s43) ∧
 Trip Tryz.prog 22 #[.string s43] w40 fun r44 w45 =>
 ∃ n46 : Int, ∃ n47 : Int, ∃ x48 : Sl, ∃ q49 : Bool, r44 = .tuple #[.agg #[.int .i64 n46, .int .i64 n47, x48.val], .bool q49] ∧
 ∃ x50 : Sl, w45.cell? (a_0.add 1) = some (x50.val) ∧
 StepT Tryz.prog (Instr.buildSlice 29 1 #[(0, (.agg #[x36.val, .int .i64 n41, .int .i64 n46, .int .i64 n47, x48.val]))]) w45 fun r51 w52 =>
 ∃ x53 : Sl, r51 = x53.val ∧
 Sub w45 w52 ∧
 StepT Tryz.prog (Builtin.append_ #[29, 29] 29 #[(x50.val), (x53.val)]) w52 fun r54 w55 =>
 ∃ x56 : Sl, r54 = x56.val ∧
 StoreAt w55 a_0 1 [x56.val] fun w57 =>
 ∃ q58 : Bool, (q37 = true →
 PureT Tryz.prog (do eqGuard .eql 64 (.tmp 116) (.const (.nilIface)) (y42.x) ((Vl.mk Value.nilIface rfl).x); binOp .eql 64 (y42.x) ((Vl.mk Value.nilIface rfl).x)) w57 (.bool q58)) ∧
 Q (.bool ((q37 && q58) && q49)) w57) ∧
 (((s32.toList == (ByteArray.mk #[102, 117, 110]).toList) && (decide ((x3.n : Int) = 4))) = false →
 Q (.bool false) w2)))
theorem of47 (a_0 : Addr) (s_1 : ByteArray) (v : World) (Q : Value → World → Prop) (h : vc47 a_0 s_1 v Q) : Trip Tryz.prog 47 #[.pointer (some (a_0.add 0)), .string s_1] v Q :=
 trip_of_eq (args := [.pt a_0 0, .st s_1]) (A := ⟨[], [], [(13, [9])], [], psG⟩) Tryz.func47 (by kernel_rfl) (by kernel_rfl) (by kernel_rfl : vc47 a_0 s_1 v Q = _) h

def vc49 (x_0 : Sl) (n_1 : Int) (v : World) (Q : Value → World → Prop) : Prop :=
 ∃ I1 : Int → Int → World → Prop, ∃ m2 : Int → Int → World → Nat, I1 n_1 0 v ∧
 ∀ n3 : Int, ∀ n4 : Int, ∀ w5 : World, I1 n3 n4 w5 →
 ((decide (n4 < (x_0.n : Int))) = true →
 IxOk x_0 n4 ∧
 StoreAt w5 (elA x_0 n4 3) 0 [.int .i64 n3] fun w6 =>
 ∃ n7 : Int, Wr .i64 (n3 + 1) n7 ∧
 IxOk x_0 n4 ∧
 StoreAt w6 (elA x_0 n4 3) 1 [.int .i64 n7] fun w8 =>
 ∃ n9 : Int, Wr .i64 (n7 + 1) n9 ∧
 IxOk x_0 n4 ∧
 ∃ x10 : Sl, w8.cell? ((elA x_0 n4 3).add 2) = some (x10.val) ∧
 Trip Tryz.prog 96 #[x10.val, .int .i64 n9] w8 fun r11 w12 =>
 ∃ n13 : Int, r11 = .int .i64 n13 ∧
 ∃ n14 : Int, Wr .i64 (n4 + 1) n14 ∧
 I1 n13 n14 w12 ∧
 m2 n13 n14 w12 < m2 n3 n4 w5) ∧
 ((decide (n4 < (x_0.n : Int))) = false →
 Q (.int .i64 n3) w5)
theorem of49 (x_0 : Sl) (n_1 : Int) (v : World) (Q : Value → World → Prop) (h : vc49 x_0 n_1 v Q) : Trip Tryz.prog 49 #[x_0.val, .int .i64 n_1] v Q :=
 trip_of_eq (args := [.sl x_0, .num .i64 n_1]) (A := ⟨[(2, [(1, .int .i64), (5, .int .i64)], [])], [], [], [], psG⟩) Tryz.func49 (by kernel_rfl) (by kernel_rfl) (by kernel_rfl : vc49 x_0 n_1 v Q = _) h

def vc50 (x_0 : Sl) (n_1 : Int) (v : World) (Q : Value → World → Prop) : Prop :=
 ∃ I1 : Int → Int → World → Prop, ∃ m2 : Int → Int → World → Nat, I1 n_1 0 v ∧
 ∀ n3 : Int, ∀ n4 : Int, ∀ w5 : World, I1 n3 n4 w5 →
 ((decide (n4 < (x_0.n : Int))) = true →
 IxOk x_0 n4 ∧
 ∃ x6 : Sl, w5.cell? ((elA x_0 n4 5).add 0) = some (x6.val) ∧
 Trip Tryz.prog 97 #[x6.val, .int .i64 n3] w5 fun r7 w8 =>
 ∃ n9 : Int, r7 = .int .i64 n9 ∧
 IxOk x_0 n4 ∧
 StoreAt w8 (elA x_0 n4 5) 1 [.int .i64 n9] fun w10 =>
 ∃ n11 : Int, Wr .i64 (n9 + 1) n11 ∧
 IxOk x_0 n4 ∧
 StoreAt w10 (elA x_0 n4 5) 2 [.int .i64 n11] fun w12 =>
 ∃ n13 : Int, Wr .i64 (n11 + 1) n13 ∧
 IxOk x_0 n4 ∧
 StoreAt w12 (elA x_0 n4 5) 3 [.int .i64 n13] fun w14 =>
 ∃ n15 : Int, Wr .i64 (n13 + 1) n15 ∧
 IxOk x_0 n4 ∧
 ∃ x16 : Sl, w14.cell? ((elA x_0 n4 5).add 4) = some (x16.val) ∧
 Trip Tryz.prog 98 #[x16.val, .int .i64 n15] w14 fun r17 w18 =>
 ∃ n19 : Int, r17 = .int .i64 n19 ∧
 ∃ n20 : Int, Wr .i64 (n4 + 1) n20 ∧
 I1 n19 n20 w18 ∧
 m2 n19 n20 w18 < m2 n3 n4 w5) ∧
 ((decide (n4 < (x_0.n : Int))) = false →
 Q (.int .i64 n3) w5)
theorem of50 (x_0 : Sl) (n_1 : Int) (v : World) (Q : Value → World → Prop) (h : vc50 x_0 n_1 v Q) : Trip Tryz.prog 50 #[x_0.val, .int .i64 n_1] v Q :=
 trip_of_eq (args := [.sl x_0, .num .i64 n_1]) (A := ⟨[(2, [(1, .int .i64), (5, .int .i64)], [])], [], [], [], psG⟩) Tryz.func50 (by kernel_rfl) (by kernel_rfl) (by kernel_rfl : vc50 x_0 n_1 v Q = _) h

def vc51 (x_0 : Sl) (n_1 : Int) (v : World) (Q : Value → World → Prop) : Prop :=
 ∃ I1 : Int → Int → World → Prop, ∃ m2 : Int → Int → World → Nat, I1 n_1 0 v ∧
 ∀ n3 : Int, ∀ n4 : Int, ∀ w5 : World, I1 n3 n4 w5 →
 ((decide (n4 < (x_0.n : Int))) = true →
 IxOk x_0 n4 ∧
 ∃ n6 : Int, w5.cell? ((elA x_0 n4 3).add 0) = some (.int .i64 n6) ∧
 ((!decide (n6 = n3)) = true →
 Q (.int .i64 (-1)) w5) ∧
 ((!decide (n6 = n3)) = false →
 ∃ n7 : Int, Wr .i64 (n3 + 1) n7 ∧
 IxOk x_0 n4 ∧
 ∃ n8 : Int, w5.cell? ((elA x_0 n4 3).add 1) = some (.int .i64 n8) ∧
 ((!decide (n8 = n7)) = true →
 Q (.int .i64 (-1)) w5) ∧
 ((!decide (n8 = n7)) = false →
 ∃ n9 : Int, Wr .i64 (n7 + 1) n9 ∧
 IxOk x_0 n4 ∧
 ∃ x10 : Sl, w5.cell? ((elA x_0 n4 3).add 2) = some (x10.val) ∧
 ∃ n11 : Int, (Trip Tryz.prog 99 #[x10.val, .int .i64 n9] w5 fun r12 w13 => r12 = .int .i64 n11 ∧ Sub w5 w13) ∧
 ((decide (n11 < 0)) = true →
 Q (.int .i64 (-1)) w5) ∧
 ((decide (n11 < 0)) = false →
 ∃ n14 : Int, Wr .i64 (n4 + 1) n14 ∧
 I1 n11 n14 w5 ∧
 m2 n11 n14 w5 < m2 n3 n4 w5)))) ∧
 ((decide (n4 < (x_0.n : Int))) = false →
 Q (.int .i64 n3) w5)
theorem of51 (x_0 : Sl) (n_1 : Int) (v : World) (Q : Value → World → Prop) (h : vc51 x_0 n_1 v Q) : Trip Tryz.prog 51 #[x_0.val, .int .i64 n_1] v Q :=
 trip_of_eq (args := [.sl x_0, .num .i64 n_1]) (A := ⟨[(2, [(1, .int .i64), (5, .int .i64)], [])], [], [], [], psG⟩) Tryz.func51 (by kernel_rfl) (by kernel_rfl) (by kernel_rfl : vc51 x_0 n_1 v Q = _) h

def vc52 (x_0 : Sl) (n_1 : Int) (v : World) (Q : Value → World → Prop) : Prop :=
 ∃ I1 : Int → Int → World → Prop, ∃ m2 : Int → Int → World → Nat, I1 n_1 0 v ∧
 ∀ n3 : Int, ∀ n4 : Int, ∀ w5 : World, I1 n3 n4 w5 →
 ((decide (n4 < (x_0.n : Int))) = true →
 IxOk x_0 n4 ∧
 ∃ x6 : Sl, w5.cell? ((elA x_0 n4 5).add 0) = some (x6.val) ∧
 ∃ n7 : Int, (Trip Tryz.prog 100 #[x6.val, .int .i64 n3] w5 fun r8 w9 => r8 = .int .i64 n7 ∧ Sub w5 w9) ∧
 ((decide (n7 < 0)) = true →
 Q (.int .i64 (-1)) w5) ∧
 ((decide (n7 < 0)) = false →
 IxOk x_0 n4 ∧
 ∃ n10 : Int, w5.cell? ((elA x_0 n4 5).add 1) = some (.int .i64 n10) ∧
 ((!decide (n10 = n7)) = true →
 Q (.int .i64 (-1)) w5) ∧
 ((!decide (n10 = n7)) = false →
 ∃ n11 : Int, Wr .i64 (n7 + 1) n11 ∧
 IxOk x_0 n4 ∧
 ∃ n12 : Int, w5.cell? ((elA x_0 n4 5).add 2) = some (.int .i64 n12) ∧
 ((!decide (n12 = n11)) = true →
 Q (.int .i64 (-1)) w5) ∧
 ((!decide (n12 = n11)) = false →
 ∃ n13 : Int, Wr .i64 (n11 + 1) n13 ∧
 IxOk x_0 n4 ∧
 ∃ n14 : Int, w5.cell? ((elA x_0 n4 5).add 3) = some (.int .i64 n14) ∧
 ((!decide (n14 = n13)) = true →
 Q (.int .i64 (-1)) w5) ∧
 ((!decide (n14 = n13)) = false →
 ∃ n15 : Int, Wr .i64 (n13 + 1) n15 ∧
 IxOk x_0 n4 ∧
 ∃ x16 : Sl, w5.cell? ((elA x_0 n4 5).add 4) = some (x16.val) ∧
 ∃ n17 : Int, (Trip Tryz.prog 101 #[x16.val, .int .i64 n15] w5 fun r18 w19 => r18 = .int .i64 n17 ∧ Sub w5 w19) ∧
 ((decide (n17 < 0)) = true →
 Q (.int .i64 (-1)) w5) ∧
 ((decide (n17 < 0)) = false →
 ∃ n20 : Int, Wr .i64 (n4 + 1) n20 ∧
 I1 n17 n20 w5 ∧
 m2 n17 n20 w5 < m2 n3 n4 w5)))))) ∧
 ((decide (n4 < (x_0.n : Int))) = false →
 Q (.int .i64 n3) w5)
theorem of52 (x_0 : Sl) (n_1 : Int) (v : World) (Q : Value → World → Prop) (h : vc52 x_0 n_1 v Q) : Trip Tryz.prog 52 #[x_0.val, .int .i64 n_1] v Q :=
 trip_of_eq (args := [.sl x_0, .num .i64 n_1]) (A := ⟨[(2, [(1, .int .i64), (5, .int .i64)], [])], [], [], [], psG⟩) Tryz.func52 (by kernel_rfl) (by kernel_rfl) (by kernel_rfl : vc52 x_0 n_1 v Q = _) h

def vc55 (a_0 : Addr) (n1_0 : Int) (n1_1 : Int) (x1_2 : Sl) (v : World) (Q : Value → World → Prop) : Prop :=
 ((decide (n1_0 = 0)) = true →
 ∃ s1 : ByteArray, (Trip Tryz.prog 38 #[.int .i64 n1_1] v fun r2 w3 => r2 = .string s1 ∧ Sub v w3) ∧
 Trip Tryz.prog 37 #[.pointer (some (a_0.add 0)), .string s1] v fun r4 w5 =>
 ∃ n6 : Int, ∃ y7 : Vl, r4 = .tuple #[.int .i64 n6, y7.x] ∧
 ∃ q8 : Bool, ((decide ((x1_2.n : Int) = 0)) = true →
 (Trip Tryz.prog 104 #[.int .i64 n1_1] w5 fun r9 w10 => r9 = .bool q8 ∧ Sub w5 w10)) ∧
 Q (.bool ((decide ((x1_2.n : Int) = 0)) && q8)) w5) ∧
 ((decide (n1_0 = 0)) = false →
 ((decide (n1_0 = 12)) = true →
 ∃ s11 : ByteArray, (Trip Tryz.prog 38 #[.int .i64 n1_1] v fun r12 w13 => r12 = .string s11 ∧ Sub v w13) ∧
 (((ByteArray.mk #[118]).size + s11.size : Nat) : Int) ≤ 9223372036854775807 ∧
 Trip Tryz.prog 37 #[.pointer (some (a_0.add 0)), .string ((ByteArray.mk #[118]) ++ s11)] v fun r14 w15 =>
 ∃ n16 : Int, ∃ y17 : Vl, r14 = .tuple #[.int .i64 n16, y17.x] ∧
 Q (.bool ((decide ((x1_2.n : Int) = 0)) && ((decide (n1_1 ≥ 0)) && (decide (n1_1 ≤ 99))))) w15) ∧
 ((decide (n1_0 = 12)) = false →
 ∃ s18 : ByteArray, ∃ q19 : Bool, (Trip Tryz.prog 105 #[.int .i64 n1_0] v fun r20 w21 => r20 = .tuple #[.string s18, .bool q19] ∧ Sub v w21) ∧
 (((ByteArray.mk #[40]).size + s18.size : Nat) : Int) ≤ 9223372036854775807 ∧
 Trip Tryz.prog 37 #[.pointer (some (a_0.add 0)), .string ((ByteArray.mk #[40]) ++ s18)] v fun r22 w23 =>
 ∃ n24 : Int, ∃ y25 : Vl, r22 = .tuple #[.int .i64 n24, y25.x] ∧
 ((((s18.toList == (ByteArray.mk #[]).toList) || (q19 && (!((decide (n1_1 ≥ 0)) && (decide (n1_1 ≤ 99)))))) || ((!q19) && (!decide (n1_1 = 0)))) = true →
 Q (.bool false) w23) ∧
 ((((s18.toList == (ByteArray.mk #[]).toList) || (q19 && (!((decide (n1_1 ≥ 0)) && (decide (n1_1 ≤ 99)))))) || ((!q19) && (!decide (n1_1 = 0)))) = false →
 (q19 = true →
 ∃ s26 : ByteArray, (Trip Tryz.prog 38 #[.int .i64 n1_1] w23 fun r27 w28 => r27 = .string s26 ∧ Sub w23 w28) ∧
 Trip Tryz.prog 37 #[.pointer (some (a_0.add 0)), .string s26] w23 fun r29 w30 =>
 ∃ n31 : Int, ∃ y32 : Vl, r29 = .tuple #[.int .i64 n31, y32.x] ∧
 ∃ I33 : Int → World → Prop, ∃ m34 : Int → World → Nat, I33 0 w30 ∧
 ∀ n35 : Int, ∀ w36 : World, I33 n35 w36 →
 ((decide (n35 < (x1_2.n : Int))) = true →
 IxOk x1_2 n35 ∧
 ldT w36 x1_2 n35 fun n37 n38 x39 =>
 Trip Tryz.prog 37 #[.pointer (some (a_0.add 0)), .string (ByteArray.mk #[32])] w36 fun r40 w41 =>
 ∃ n42 : Int, ∃ y43 : Vl, r40 = .tuple #[.int .i64 n42, y43.x] ∧
 Trip Tryz.prog 55 #[.pointer (some (a_0.add 0)), .agg #[.int .i64 n37, .int .i64 n38, x39.val]] w41 fun r44 w45 =>
 ∃ q46 : Bool, r44 = .bool q46 ∧
 ((!q46) = true →
 Q (.bool false) w45) ∧
 ((!q46) = false →
 ∃ n47 : Int, Wr .i64 (n35 + 1) n47 ∧
 eqS (.num .i64 n1_0) ∧
 eqS (.num .i64 n1_1) ∧
 eqS (.sl x1_2) ∧
 I33 n47 w45 ∧
 m34 n47 w45 < m34 n35 w36)) ∧
 ((decide (n35 < (x1_2.n : Int))) = false →
 Trip Tryz.prog 37 #[.pointer (some (a_0.add 0)), .string (ByteArray.mk #[41])] w36 fun r48 w49 =>
 ∃ n50 : Int, ∃ y51 : Vl, r48 = .tuple #[.int .i64 n50, y51.x] ∧
 Q (.bool true) w49)) ∧
 (q19 = false →
 ∃ I52 : Int → World → Prop, ∃ m53 : Int → World → Nat, I52 0 w23 ∧
 ∀ n54 : Int, ∀ w55 : World, I52 n54 w55 →
 ((decide (n54 < (x1_2.n : Int))) = true →
 IxOk x1_2 n54 ∧
 ldT w55 x1_2 n54 fun n56 n57 x58 =>
 Trip Tryz.prog 37 #[.pointer (some (a_0.add 0)), .string (ByteArray.mk #[32])] w55 fun r59 w60 =>
 ∃ n61 : Int, ∃ y62 : Vl, r59 = .tuple #[.int .i64 n61, y62.x] ∧
 Trip Tryz.prog 55 #[.pointer (some (a_0.add 0)), .agg #[.int .i64 n56, .int .i64 n57, x58.val]] w60 fun r63 w64 =>
 ∃ q65 : Bool, r63 = .bool q65 ∧
 ((!q65) = true →
 Q (.bool false) w64) ∧
 ((!q65) = false →
 ∃ n66 : Int, Wr .i64 (n54 + 1) n66 ∧
 eqS (.num .i64 n1_0) ∧
 eqS (.num .i64 n1_1) ∧
 eqS (.sl x1_2) ∧
 I52 n66 w64 ∧
 m53 n66 w64 < m53 n54 w55)) ∧
 ((decide (n54 < (x1_2.n : Int))) = false →
 Trip Tryz.prog 37 #[.pointer (some (a_0.add 0)), .string (ByteArray.mk #[41])] w55 fun r67 w68 =>
 ∃ n69 : Int, ∃ y70 : Vl, r67 = .tuple #[.int .i64 n69, y70.x] ∧
 Q (.bool true) w68)))))
theorem of55 (a_0 : Addr) (n1_0 : Int) (n1_1 : Int) (x1_2 : Sl) (v : World) (Q : Value → World → Prop) (h : vc55 a_0 n1_0 n1_1 x1_2 v Q) : Trip Tryz.prog 55 #[.pointer (some (a_0.add 0)), .agg #[.int .i64 n1_0, .int .i64 n1_1, x1_2.val]] v Q :=
 trip_of_eq (args := [.pt a_0 0, .ag [.num .i64 n1_0, .num .i64 n1_1, .sl x1_2]]) (A := ⟨[(16, [(90, .int .i64)], [])], [], [], [], psG⟩) Tryz.func55 (by kernel_rfl) (by kernel_rfl) (by kernel_rfl : vc55 a_0 n1_0 n1_1 x1_2 v Q = _) h

def vc56 (n0_0 : Int) (n0_1 : Int) (x0_2 : Sl) (v : World) (Q : Value → World → Prop) : Prop :=
 ∃ n1 : Int, (Trip Tryz.prog 106 #[.agg #[.int .i64 n0_0, .int .i64 n0_1, x0_2.val], .int .i64 30] v fun r2 w3 => r2 = .int .i64 n1 ∧ Sub v w3) ∧
 ((decide (n1 < 0)) = true →
 Q (.int .i64 (-1)) v) ∧
 ((decide (n1 < 0)) = false →
 ∃ n4 : Int, Wr .i64 (30 - n1) n4 ∧
 Q (.int .i64 n4) v)
theorem of56 (n0_0 : Int) (n0_1 : Int) (x0_2 : Sl) (v : World) (Q : Value → World → Prop) (h : vc56 n0_0 n0_1 x0_2 v Q) : Trip Tryz.prog 56 #[.agg #[.int .i64 n0_0, .int .i64 n0_1, x0_2.val]] v Q :=
 trip_of_eq (args := [.ag [.num .i64 n0_0, .num .i64 n0_1, .sl x0_2]]) (A := ⟨[], [], [], [], psG⟩) Tryz.func56 (by kernel_rfl) (by kernel_rfl) (by kernel_rfl : vc56 n0_0 n0_1 x0_2 v Q = _) h

def vc58 (n0_0 : Int) (n0_1 : Int) (x0_2 : Sl) (v : World) (Q : Value → World → Prop) : Prop :=
 ((decide (n0_0 = 0)) = true →
 ∃ s1 : ByteArray, (Trip Tryz.prog 77 #[.int .i64 n0_1] v fun r2 w3 => r2 = .string s1 ∧ Sub v w3) ∧
 Q (.string s1) v) ∧
 ((decide (n0_0 = 0)) = false →
 ((decide (n0_0 = 12)) = true →
 ∃ s4 : ByteArray, (Trip Tryz.prog 77 #[.int .i64 n0_1] v fun r5 w6 => r5 = .string s4 ∧ Sub v w6) ∧
 (((ByteArray.mk #[118]).size + s4.size : Nat) : Int) ≤ 9223372036854775807 ∧
 Q (.string ((ByteArray.mk #[118]) ++ s4)) v) ∧
 ((decide (n0_0 = 12)) = false →
 ∃ s7 : ByteArray, (Trip Tryz.prog 109 #[.int .i64 n0_0] v fun r8 w9 => r8 = .string s7 ∧ Sub v w9) ∧
 (((ByteArray.mk #[40]).size + s7.size : Nat) : Int) ≤ 9223372036854775807 ∧
 ∃ q10 : Bool, (Trip Tryz.prog 108 #[.int .i64 n0_0] v fun r11 w12 => r11 = .bool q10 ∧ Sub v w12) ∧
 (q10 = true →
 ∃ s13 : ByteArray, (Trip Tryz.prog 77 #[.int .i64 n0_1] v fun r14 w15 => r14 = .string s13 ∧ Sub v w15) ∧
 ((((ByteArray.mk #[40]) ++ s7).size + s13.size : Nat) : Int) ≤ 9223372036854775807 ∧
 ∃ I16 : ByteArray → Int → World → Prop, ∃ m17 : ByteArray → Int → World → Nat, I16 (((ByteArray.mk #[40]) ++ s7) ++ s13) 0 v ∧
 ∀ s18 : ByteArray, ∀ n19 : Int, ∀ w20 : World, I16 s18 n19 w20 →
 ((decide (n19 < (x0_2.n : Int))) = true →
 ((s18.size + (ByteArray.mk #[32]).size : Nat) : Int) ≤ 9223372036854775807 ∧
 IxOk x0_2 n19 ∧
 ldT w20 x0_2 n19 fun n21 n22 x23 =>
 ∃ s24 : ByteArray, (Trip Tryz.prog 58 #[.agg #[.int .i64 n21, .int .i64 n22, x23.val]] w20 fun r25 w26 => r25 = .string s24 ∧ Sub w20 w26) ∧
 (((s18 ++ (ByteArray.mk #[32])).size + s24.size : Nat) : Int) ≤ 9223372036854775807 ∧
 ∃ n27 : Int, Wr .i64 (n19 + 1) n27 ∧
 eqS (.num .i64 n0_0) ∧
 eqS (.num .i64 n0_1) ∧
 eqS (.sl x0_2) ∧
 I16 ((s18 ++ (ByteArray.mk #[32])) ++ s24) n27 w20 ∧
 m17 ((s18 ++ (ByteArray.mk #[32])) ++ s24) n27 w20 < m17 s18 n19 w20) ∧
 ((decide (n19 < (x0_2.n : Int))) = false →
 ((s18.size + (ByteArray.mk #[41]).size : Nat) : Int) ≤ 9223372036854775807 ∧
 Q (.string (s18 ++ (ByteArray.mk #[41]))) w20)) ∧
 (q10 = false →
 ∃ I28 : ByteArray → Int → World → Prop, ∃ m29 : ByteArray → Int → World → Nat, I28 ((ByteArray.mk #[40]) ++ s7) 0 v ∧
 ∀ s30 : ByteArray, ∀ n31 : Int, ∀ w32 : World, I28 s30 n31 w32 →
 ((decide (n31 < (x0_2.n : Int))) = true →
 ((s30.size + (ByteArray.mk #[32]).size : Nat) : Int) ≤ 9223372036854775807 ∧
 IxOk x0_2 n31 ∧
 ldT w32 x0_2 n31 fun n33 n34 x35 =>
 ∃ s36 : ByteArray, (Trip Tryz.prog 58 #[.agg #[.int .i64 n33, .int .i64 n34, x35.val]] w32 fun r37 w38 => r37 = .string s36 ∧ Sub w32 w38) ∧
 (((s30 ++ (ByteArray.mk #[32])).size + s36.size : Nat) : Int) ≤ 9223372036854775807 ∧
 ∃ n39 : Int, Wr .i64 (n31 + 1) n39 ∧
 eqS (.num .i64 n0_0) ∧
 eqS (.num .i64 n0_1) ∧
 eqS (.sl x0_2) ∧
 I28 ((s30 ++ (ByteArray.mk #[32])) ++ s36) n39 w32 ∧
 m29 ((s30 ++ (ByteArray.mk #[32])) ++ s36) n39 w32 < m29 s30 n31 w32) ∧
 ((decide (n31 < (x0_2.n : Int))) = false →
 ((s30.size + (ByteArray.mk #[41]).size : Nat) : Int) ≤ 9223372036854775807 ∧
 Q (.string (s30 ++ (ByteArray.mk #[41]))) w32))))
theorem of58 (n0_0 : Int) (n0_1 : Int) (x0_2 : Sl) (v : World) (Q : Value → World → Prop) (h : vc58 n0_0 n0_1 x0_2 v Q) : Trip Tryz.prog 58 #[.agg #[.int .i64 n0_0, .int .i64 n0_1, x0_2.val]] v Q :=
 trip_of_eq (args := [.ag [.num .i64 n0_0, .num .i64 n0_1, .sl x0_2]]) (A := ⟨[(9, [(3, .str), (4, .int .i64)], [])], [], [], [], psG⟩) Tryz.func58 (by kernel_rfl) (by kernel_rfl) (by kernel_rfl : vc58 n0_0 n0_1 x0_2 v Q = _) h

def vc59 (a_0 : Addr) (v : World) (Q : Value → World → Prop) : Prop :=
 ∃ n1 : Int, v.cell? (a_0.add 1) = some (.int .i64 n1) ∧
 ∃ n2 : Int, Wr .i64 (n1 + 1) n2 ∧
 StoreAt v a_0 1 [.int .i64 n2] fun w3 =>
 ∃ n4 : Int, w3.cell? (a_0.add 1) = some (.int .i64 n4) ∧
 ((decide (n4 > 30)) = true →
 Q (.tuple #[.agg #[.int .i64 0, .int .i64 0, .slice none 0 0], .bool false]) w3) ∧
 ((decide (n4 > 30)) = false →
 Trip Tryz.prog 110 #[.pointer (some (a_0.add 0)), .int .u8 40] w3 fun r5 w6 =>
 ∃ q7 : Bool, r5 = .bool q7 ∧
 ((!q7) = true →
 Trip Tryz.prog 111 #[.pointer (some (a_0.add 0))] w6 fun r8 w9 =>
 ∃ s10 : ByteArray, r8 = .string s10 ∧
 ∃ s11 : ByteArray, ∃ q12 : Bool, (Trip Tryz.prog 112 #[.string s10, .string (ByteArray.mk #[118])] w9 fun r13 w14 => r13 = .tuple #[.string s11, .bool q12] ∧ Sub w9 w14) ∧
 (q12 = true →
 Trip Tryz.prog 93 #[.string s11] w9 fun r15 w16 =>
 ∃ n17 : Int, ∃ y18 : Vl, r15 = .tuple #[.int .i64 n17, y18.x] ∧
 (∃ q19 : Bool, PureT Tryz.prog (do eqGuard .eql 64 (.tmp 46) (.const (.nilIface)) (y18.x) ((Vl.mk Value.nilIface rfl).x); binOp .eql 64 (y18.x) ((Vl.mk Value.nilIface rfl).x)) w16 (.bool q19) ∧
 Q (.tuple #[.agg #[.int .i64 12, .int .i64 n17, .slice none 0 0], .bool q19]) w16) ∧
 ∃ q20 : Bool, PureT Tryz.prog (do eqGuard .eql 64 (.tmp 46) (.const (.nilIface)) (y18.x) ((Vl.mk Value.nilIface rfl).x); binOp .eql 64 (y18.x) ((Vl.mk Value.nilIface rfl).x)) w16 (.bool q20) ∧
 Q (.tuple #[.agg #[.int .i64 12, .int .i64 n17, .slice none 0 0], .bool q20]) w16) ∧
 (q12 = false →
 Trip Tryz.prog 93 #[.string s10] w9 fun r21 w22 =>
 ∃ n23 : Int, ∃ y24 : Vl, r21 = .tuple #[.int .i64 n23, y24.x] ∧
 (∃ q25 : Bool, PureT Tryz.prog (do eqGuard .eql 64 (.tmp 46) (.const (.nilIface)) (y24.x) ((Vl.mk Value.nilIface rfl).x); binOp .eql 64 (y24.x) ((Vl.mk Value.nilIface rfl).x)) w22 (.bool q25) ∧
 Q (.tuple #[.agg #[.int .i64 0, .int .i64 n23, .slice none 0 0], .bool q25]) w22) ∧
 ∃ q26 : Bool, PureT Tryz.prog (do eqGuard .eql 64 (.tmp 46) (.const (.nilIface)) (y24.x) ((Vl.mk Value.nilIface rfl).x); binOp .eql 64 (y24.x) ((Vl.mk Value.nilIface rfl).x)) w22 (.bool q26) ∧
 Q (.tuple #[.agg #[.int .i64 0, .int .i64 n23, .slice none 0 0], .bool q26]) w22)) ∧
 ((!q7) = false →
 Trip Tryz.prog 111 #[.pointer (some (a_0.add 0))] w6 fun r27 w28 =>
 ∃ s29 : ByteArray, r27 = .string s29 ∧
 ∃ n30 : Int, ∃ n31 : Int, ∃ x32 : Sl, ∃ q33 : Bool, (Trip Tryz.prog 113 #[.string s29] w28 fun r34 w35 => r34 = .tuple #[.agg #[.int .i64 n30, .int .i64 n31, x32.val], .bool q33] ∧ Sub w28 w35) ∧
 ∃ I36 : Bool → Sl → World → Prop, ∃ m37 : Bool → Sl → World → Nat, I36 q33 x32 w28 ∧
 ∀ q38 : Bool, ∀ x39 : Sl, ∀ w40 : World, I36 q38 x39 w40 →
 (q38 = true →
 Trip Tryz.prog 110 #[.pointer (some (a_0.add 0)), .int .u8 32] w40 fun r41 w42 =>
 ∃ q43 : Bool, r41 = .bool q43 ∧
 (q43 = true →
 Trip Tryz.prog 59 #[.pointer (some (a_0.add 0))] w42 fun r44 w45 =>
 ∃ n46 : Int, ∃ n47 : Int, ∃ x48 : Sl, ∃ q49 : Bool, r44 = .tuple #[.agg #[.int .i64 n46, .int .i64 n47, x48.val], .bool q49] ∧
 StepT Tryz.prog (Instr.buildSlice 40 1 #[(0, (.agg #[.int .i64 n46, .int .i64 n47, x48.val]))]) w45 fun r50 w51 =>
 ∃ x52 : Sl, r50 = x52.val ∧
 StepT Tryz.prog (Builtin.append_ #[40, 40] 40 #[(x39.val), (x52.val)]) w51 fun r53 w54 =>
 ∃ x55 : Sl, r53 = x55.val ∧
 eqS (.num .i64 0) ∧
 eqS (.num .i64 0) ∧
 eqS (.sl (Sl.mk none 0 0)) ∧
 eqS (.num .i64 n30) ∧
 eqS (.num .i64 n31) ∧
 I36 q49 x55 w54 ∧
 m37 q49 x55 w54 < m37 q38 x39 w40) ∧
 (q43 = false →
 (q38 = true →
 Trip Tryz.prog 110 #[.pointer (some (a_0.add 0)), .int .u8 41] w42 fun r56 w57 =>
 ∃ q58 : Bool, r56 = .bool q58 ∧
 Q (.tuple #[.agg #[.int .i64 n30, .int .i64 n31, x39.val], .bool q58]) w57 ∧
 Q (.tuple #[.agg #[.int .i64 n30, .int .i64 n31, x39.val], .bool q58]) w57) ∧
 (q38 = false →
 Q (.tuple #[.agg #[.int .i64 n30, .int .i64 n31, x39.val], .bool false]) w42 ∧
 Q (.tuple #[.agg #[.int .i64 n30, .int .i64 n31, x39.val], .bool false]) w42))) ∧
 (q38 = false →
 (q38 = true →
 Trip Tryz.prog 110 #[.pointer (some (a_0.add 0)), .int .u8 41] w40 fun r59 w60 =>
 ∃ q61 : Bool, r59 = .bool q61 ∧
 Q (.tuple #[.agg #[.int .i64 n30, .int .i64 n31, x39.val], .bool q61]) w60 ∧
 Q (.tuple #[.agg #[.int .i64 n30, .int .i64 n31, x39.val], .bool q61]) w60) ∧
 (q38 = false →
 Q (.tuple #[.agg #[.int .i64 n30, .int .i64 n31, x39.val], .bool false]) w40 ∧
 Q (.tuple #[.agg #[.int .i64 n30, .int .i64 n31, x39.val], .bool false]) w40))))
theorem of59 (a_0 : Addr) (v : World) (Q : Value → World → Prop) (h : vc59 a_0 v Q) : Trip Tryz.prog 59 #[.pointer (some (a_0.add 0))] v Q :=
 trip_of_eq (args := [.pt a_0 0]) (A := ⟨[(13, [(11, .bool)], [(1, 2, .sl)])], [], [(11, []), (17, [])], [], psG⟩) Tryz.func59 (by kernel_rfl) (by kernel_rfl) (by kernel_rfl : vc59 a_0 v Q = _) h

def vc63 (a_0 : Addr) (v : World) (Q : Value → World → Prop) : Prop :=
 ∃ n1 : Int, v.cell? (a_0.add 2) = some (.int .i64 n1) ∧
 ∃ n2 : Int, Wr .i64 (n1 + 1) n2 ∧
 StoreAt v a_0 2 [.int .i64 n2] fun w3 =>
 ∃ q4 : Bool, w3.cell? (a_0.add 3) = some (.bool q4) ∧
 ∃ n5 : Int, (q4 = false →
 w3.cell? (a_0.add 2) = some (.int .i64 n5)) ∧
 ((q4 || (decide (n5 > 30))) = true →
 StoreAt w3 a_0 3 [.bool true] fun w6 =>
 Q (.agg #[.int .i64 0, .int .i64 0, .slice none 0 0]) w6) ∧
 ((q4 || (decide (n5 > 30))) = false →
 ∃ n7 : Int, (Trip Tryz.prog 43 #[.pointer (some (a_0.add 0))] w3 fun r8 w9 => r8 = .int .i64 n7 ∧ Sub w3 w9) ∧
 ((decide (n7 = 118)) = true →
 ∃ n10 : Int, w3.cell? (a_0.add 1) = some (.int .i64 n10) ∧
 ∃ n11 : Int, Wr .i64 (n10 + 1) n11 ∧
 StoreAt w3 a_0 1 [.int .i64 n11] fun w12 =>
 Trip Tryz.prog 87 #[.pointer (some (a_0.add 0))] w12 fun r13 w14 =>
 ∃ n15 : Int, r13 = .int .i64 n15 ∧
 StepT Tryz.prog (Instr.buildSlice 40 0 #[]) w14 fun r16 w17 =>
 ∃ x18 : Sl, r16 = x18.val ∧
 Q (.agg #[.int .i64 12, .int .i64 n15, x18.val]) w17) ∧
 ((decide (n7 = 118)) = false →
 ∃ n19 : Int, (Trip Tryz.prog 43 #[.pointer (some (a_0.add 0))] w3 fun r20 w21 => r20 = .int .i64 n19 ∧ Sub w3 w21) ∧
 ((decide (n19 = 45)) = true →
 ∃ n22 : Int, w3.cell? (a_0.add 1) = some (.int .i64 n22) ∧
 ∃ n23 : Int, Wr .i64 (n22 + 1) n23 ∧
 StoreAt w3 a_0 1 [.int .i64 n23] fun w24 =>
 Trip Tryz.prog 87 #[.pointer (some (a_0.add 0))] w24 fun r25 w26 =>
 ∃ n27 : Int, r25 = .int .i64 n27 ∧
 ∃ n28 : Int, Wr .i64 (0 - n27) n28 ∧
 StepT Tryz.prog (Instr.buildSlice 40 0 #[]) w26 fun r29 w30 =>
 ∃ x31 : Sl, r29 = x31.val ∧
 Q (.agg #[.int .i64 0, .int .i64 n28, x31.val]) w30) ∧
 ((decide (n19 = 45)) = false →
 ∃ n32 : Int, (Trip Tryz.prog 43 #[.pointer (some (a_0.add 0))] w3 fun r33 w34 => r33 = .int .i64 n32 ∧ Sub w3 w34) ∧
 ((!decide (n32 = 40)) = true →
 Trip Tryz.prog 87 #[.pointer (some (a_0.add 0))] w3 fun r35 w36 =>
 ∃ n37 : Int, r35 = .int .i64 n37 ∧
 StepT Tryz.prog (Instr.buildSlice 40 0 #[]) w36 fun r38 w39 =>
 ∃ x40 : Sl, r38 = x40.val ∧
 Q (.agg #[.int .i64 0, .int .i64 n37, x40.val]) w39) ∧
 ((!decide (n32 = 40)) = false →
 ∃ n41 : Int, w3.cell? (a_0.add 1) = some (.int .i64 n41) ∧
 ∃ n42 : Int, Wr .i64 (n41 + 1) n42 ∧
 StoreAt w3 a_0 1 [.int .i64 n42] fun w43 =>
 Trip Tryz.prog 116 #[.pointer (some (a_0.add 0))] w43 fun r44 w45 =>
 ∃ s46 : ByteArray, r44 = .string s46 ∧
 ∃ n47 : Int, (Trip Tryz.prog 115 #[.string s46] w45 fun r48 w49 => r48 = .int .i64 n47 ∧ Sub w45 w49) ∧
 ((decide (n47 < 0)) = true →
 StoreAt w45 a_0 3 [.bool true] fun w50 =>
 Q (.agg #[.int .i64 0, .int .i64 0, .slice none 0 0]) w50) ∧
 ((decide (n47 < 0)) = false →
 ∃ q51 : Bool, (Trip Tryz.prog 108 #[.int .i64 n47] w45 fun r52 w53 => r52 = .bool q51 ∧ Sub w45 w53) ∧
 (q51 = true →
 Trip Tryz.prog 87 #[.pointer (some (a_0.add 0))] w45 fun r54 w55 =>
 ∃ n56 : Int, r54 = .int .i64 n56 ∧
 StepT Tryz.prog (Instr.buildSlice 40 0 #[]) w55 fun r57 w58 =>
 ∃ x59 : Sl, r57 = x59.val ∧
 ∃ I60 : Sl → World → Prop, ∃ m61 : Sl → World → Nat, I60 x59 w58 ∧
 ∀ x62 : Sl, ∀ w63 : World, I60 x62 w63 →
 ∃ q64 : Bool, w63.cell? (a_0.add 3) = some (.bool q64) ∧
 ∃ n65 : Int, ((!q64) = true →
 (Trip Tryz.prog 43 #[.pointer (some (a_0.add 0))] w63 fun r66 w67 => r66 = .int .i64 n65 ∧ Sub w63 w67)) ∧
 (((!q64) && (decide (n65 = 32))) = true →
 ∃ n68 : Int, w63.cell? (a_0.add 1) = some (.int .i64 n68) ∧
 ∃ n69 : Int, Wr .i64 (n68 + 1) n69 ∧
 StoreAt w63 a_0 1 [.int .i64 n69] fun w70 =>
 Trip Tryz.prog 63 #[.pointer (some (a_0.add 0))] w70 fun r71 w72 =>
 ∃ n73 : Int, ∃ n74 : Int, ∃ x75 : Sl, r71 = .agg #[.int .i64 n73, .int .i64 n74, x75.val] ∧
 StepT Tryz.prog (Instr.buildSlice 40 1 #[(0, (.agg #[.int .i64 n73, .int .i64 n74, x75.val]))]) w72 fun r76 w77 =>
 ∃ x78 : Sl, r76 = x78.val ∧
 StepT Tryz.prog (Builtin.append_ #[40, 40] 40 #[(x62.val), (x78.val)]) w77 fun r79 w80 =>
 ∃ x81 : Sl, r79 = x81.val ∧
 eqS (.num .i64 0) ∧
 eqS (.num .i64 0) ∧
 eqS (.sl (Sl.mk none 0 0)) ∧
 I60 x81 w80 ∧
 m61 x81 w80 < m61 x62 w63) ∧
 (((!q64) && (decide (n65 = 32))) = false →
 Trip Tryz.prog 86 #[.pointer (some (a_0.add 0)), .string (ByteArray.mk #[41])] w63 fun r82 w83 =>
 r82 = .tuple #[] ∧
 Q (.agg #[.int .i64 n47, .int .i64 n56, x62.val]) w83)) ∧
 (q51 = false →
 StepT Tryz.prog (Instr.buildSlice 40 0 #[]) w45 fun r84 w85 =>
 ∃ x86 : Sl, r84 = x86.val ∧
 ∃ I87 : Sl → World → Prop, ∃ m88 : Sl → World → Nat, I87 x86 w85 ∧
 ∀ x89 : Sl, ∀ w90 : World, I87 x89 w90 →
 ∃ q91 : Bool, w90.cell? (a_0.add 3) = some (.bool q91) ∧
 ∃ n92 : Int, ((!q91) = true →
 (Trip Tryz.prog 43 #[.pointer (some (a_0.add 0))] w90 fun r93 w94 => r93 = .int .i64 n92 ∧ Sub w90 w94)) ∧
 (((!q91) && (decide (n92 = 32))) = true →
 ∃ n95 : Int, w90.cell? (a_0.add 1) = some (.int .i64 n95) ∧
 ∃ n96 : Int, Wr .i64 (n95 + 1) n96 ∧
 StoreAt w90 a_0 1 [.int .i64 n96] fun w97 =>
 Trip Tryz.prog 63 #[.pointer (some (a_0.add 0))] w97 fun r98 w99 =>
 ∃ n100 : Int, ∃ n101 : Int, ∃ x102 : Sl, r98 = .agg #[.int .i64 n100, .int .i64 n101, x102.val] ∧
 StepT Tryz.prog (Instr.buildSlice 40 1 #[(0, (.agg #[.int .i64 n100, .int .i64 n101, x102.val]))]) w99 fun r103 w104 =>
 ∃ x105 : Sl, r103 = x105.val ∧
 StepT Tryz.prog (Builtin.append_ #[40, 40] 40 #[(x89.val), (x105.val)]) w104 fun r106 w107 =>
 ∃ x108 : Sl, r106 = x108.val ∧
 eqS (.num .i64 0) ∧
 eqS (.num .i64 0) ∧
 eqS (.sl (Sl.mk none 0 0)) ∧
 I87 x108 w107 ∧
 m88 x108 w107 < m88 x89 w90) ∧
 (((!q91) && (decide (n92 = 32))) = false →
 Trip Tryz.prog 86 #[.pointer (some (a_0.add 0)), .string (ByteArray.mk #[41])] w90 fun r109 w110 =>
 r109 = .tuple #[] ∧
 Q (.agg #[.int .i64 n47, .int .i64 0, x89.val]) w110)))))))
theorem of63 (a_0 : Addr) (v : World) (Q : Value → World → Prop) (h : vc63 a_0 v Q) : Trip Tryz.prog 63 #[.pointer (some (a_0.add 0))] v Q :=
 trip_of_eq (args := [.pt a_0 0]) (A := ⟨[(22, [(5, .sl)], [])], [], [], [], psG⟩) Tryz.func63 (by kernel_rfl) (by kernel_rfl) (by kernel_rfl : vc63 a_0 v Q = _) h

def vc64 (n0_0 : Int) (n0_1 : Int) (x0_2 : Sl) (a_1 : Addr) (v : World) (Q : Value → World → Prop) : Prop :=
 ∃ n1 : Int, v.cell? (a_1.add 0) = some (.int .i64 n1) ∧
 ∃ n2 : Int, Wr .i64 (n1 + 1) n2 ∧
 StoreAt v a_1 0 [.int .i64 n2] fun w3 =>
 ∃ n4 : Int, w3.cell? (a_1.add 0) = some (.int .i64 n4) ∧
 ((decide (n4 > 30)) = true →
 Q (.bool false) w3) ∧
 ((decide (n4 > 30)) = false →
 ∃ I5 : Int → World → Prop, ∃ m6 : Int → World → Nat, I5 0 w3 ∧
 ∀ n7 : Int, ∀ w8 : World, I5 n7 w8 →
 ((decide (n7 < (x0_2.n : Int))) = true →
 IxOk x0_2 n7 ∧
 ldT w8 x0_2 n7 fun n9 n10 x11 =>
 Trip Tryz.prog 64 #[.agg #[.int .i64 n9, .int .i64 n10, x11.val], .pointer (some (a_1.add 0))] w8 fun r12 w13 =>
 ∃ q14 : Bool, r12 = .bool q14 ∧
 ((!q14) = true →
 Q (.bool false) w13) ∧
 ((!q14) = false →
 ∃ n15 : Int, Wr .i64 (n7 + 1) n15 ∧
 eqS (.num .i64 n0_0) ∧
 eqS (.num .i64 n0_1) ∧
 eqS (.sl x0_2) ∧
 I5 n15 w13 ∧
 m6 n15 w13 < m6 n7 w8)) ∧
 ((decide (n7 < (x0_2.n : Int))) = false →
 Q (.bool true) w8))
theorem of64 (n0_0 : Int) (n0_1 : Int) (x0_2 : Sl) (a_1 : Addr) (v : World) (Q : Value → World → Prop) (h : vc64 n0_0 n0_1 x0_2 a_1 v Q) : Trip Tryz.prog 64 #[.agg #[.int .i64 n0_0, .int .i64 n0_1, x0_2.val], .pointer (some (a_1.add 0))] v Q :=
 trip_of_eq (args := [.ag [.num .i64 n0_0, .num .i64 n0_1, .sl x0_2], .pt a_1 0]) (A := ⟨[(5, [(19, .int .i64)], [])], [], [], [], psG⟩) Tryz.func64 (by kernel_rfl) (by kernel_rfl) (by kernel_rfl : vc64 n0_0 n0_1 x0_2 a_1 v Q = _) h

def vc69 (x0_0 : Sl) (x0_1 : Sl) (v : World) (Q : Value → World → Prop) : Prop :=
 StepT Tryz.prog (Instr.makeSlice 153 (.int .i64 0) (.int .i64 4)) v fun r1 w2 =>
 ∃ x3 : Sl, r1 = x3.val ∧
 ((decide ((x0_1.n : Int) > 4)) = true →
 Q (.bool false) w2) ∧
 ((decide ((x0_1.n : Int) > 4)) = false →
 ∃ I4 : Sl → Int → World → Prop, ∃ m5 : Sl → Int → World → Nat, I4 x3 0 w2 ∧
 ∀ x6 : Sl, ∀ n7 : Int, ∀ w8 : World, I4 x6 n7 w8 →
 ((decide (n7 < (x0_1.n : Int))) = true →
 IxOk x0_1 n7 ∧
 ldF w8 x0_1 n7 fun x9 n10 n11 n12 x13 =>
 StepT Tryz.prog (Instr.buildSlice 153 1 #[(0, (.agg #[x9.val, .slice none 0 0, .int .i64 n10]))]) w8 fun r14 w15 =>
 ∃ x16 : Sl, r14 = x16.val ∧
 StepT Tryz.prog (Builtin.append_ #[153, 153] 153 #[(x6.val), (x16.val)]) w15 fun r17 w18 =>
 ∃ x19 : Sl, r17 = x19.val ∧
 ∃ n20 : Int, Wr .i64 (n7 + 1) n20 ∧
 eqS (.sl x0_0) ∧
 eqS (.sl x0_1) ∧
 I4 x19 n20 w18 ∧
 m5 x19 n20 w18 < m5 x6 n7 w8) ∧
 ((decide (n7 < (x0_1.n : Int))) = false →
 ∃ q21 : Bool, (Trip Tryz.prog 122 #[x0_0.val, x6.val] w8 fun r22 w23 => r22 = .bool q21 ∧ Sub w8 w23) ∧
 Q (.bool q21) w8))
theorem of69 (x0_0 : Sl) (x0_1 : Sl) (v : World) (Q : Value → World → Prop) (h : vc69 x0_0 x0_1 v Q) : Trip Tryz.prog 69 #[.agg #[x0_0.val, x0_1.val]] v Q :=
 trip_of_eq (args := [.ag [.sl x0_0, .sl x0_1]]) (A := ⟨[(5, [(3, .sl), (14, .int .i64)], [])], [], [], [], psG⟩) Tryz.func69 (by kernel_rfl) (by kernel_rfl) (by kernel_rfl : vc69 x0_0 x0_1 v Q = _) h

def vc70 (x0_0 : Sl) (x0_1 : Sl) (x_1 : Sl) (n2_0 : Int) (n2_1 : Int) (x2_2 : Sl) (v : World) (Q : Value → World → Prop) : Prop :=
 ∃ q1 : Bool, (Trip Tryz.prog 69 #[.agg #[x0_0.val, x0_1.val]] v fun r2 w3 => r2 = .bool q1 ∧ Sub v w3) ∧
 ∃ n4 : Int, ((!q1) = false →
 (Trip Tryz.prog 26 #[.agg #[.int .i64 n2_0, .int .i64 n2_1, x2_2.val]] v fun r5 w6 => r5 = .int .i64 n4 ∧ Sub v w6)) ∧
 ∃ q7 : Bool, (((!q1) || (decide (n4 < 0))) = false →
 (Trip Tryz.prog 123 #[x0_0.val, x_1.val] v fun r8 w9 => r8 = .bool q7 ∧ Sub v w9)) ∧
 ((((!q1) || (decide (n4 < 0))) || (!q7)) = true →
 Q (.int .i64 (-1)) v) ∧
 ((((!q1) || (decide (n4 < 0))) || (!q7)) = false →
 Trip Tryz.prog 124 #[.agg #[x0_0.val, x0_1.val]] v fun r10 w11 =>
 ∃ x12 : Sl, ∃ x13 : Sl, r10 = .agg #[x12.val, x13.val] ∧
 Sub v w11 ∧
 Trip Tryz.prog 126 #[x_1.val] w11 fun r14 w15 =>
 ∃ x16 : Sl, r14 = x16.val ∧
 Sub w11 w15 ∧
 Trip Tryz.prog 125 #[.agg #[x12.val, x13.val], x16.val, .agg #[.int .i64 n2_0, .int .i64 n2_1, x2_2.val]] w15 fun r17 w18 =>
 ∃ n19 : Int, r17 = .int .i64 n19 ∧
 Q (.int .i64 n19) w18)
theorem of70 (x0_0 : Sl) (x0_1 : Sl) (x_1 : Sl) (n2_0 : Int) (n2_1 : Int) (x2_2 : Sl) (v : World) (Q : Value → World → Prop) (h : vc70 x0_0 x0_1 x_1 n2_0 n2_1 x2_2 v Q) : Trip Tryz.prog 70 #[.agg #[x0_0.val, x0_1.val], x_1.val, .agg #[.int .i64 n2_0, .int .i64 n2_1, x2_2.val]] v Q :=
 trip_of_eq (args := [.ag [.sl x0_0, .sl x0_1], .sl x_1, .ag [.num .i64 n2_0, .num .i64 n2_1, .sl x2_2]]) (A := ⟨[], [], [(3, [1, 3])], [], psG⟩) Tryz.func70 (by kernel_rfl) (by kernel_rfl) (by kernel_rfl : vc70 x0_0 x0_1 x_1 n2_0 n2_1 x2_2 v Q = _) h

def vc73 (x0_0 : Sl) (x0_1 : Sl) (v : World) (Q : Value → World → Prop) : Prop :=
 ∃ q1 : Bool, (Trip Tryz.prog 130 #[x0_0.val] v fun r2 w3 => r2 = .bool q1 ∧ Sub v w3) ∧
 ∃ q4 : Bool, ((!q1) = false →
 (Trip Tryz.prog 107 #[.int .i64 (x0_1.n : Int), .int .i64 1, .int .i64 4] v fun r5 w6 => r5 = .bool q4 ∧ Sub v w6)) ∧
 (((!q1) || (!q4)) = true →
 Q (.bool false) v) ∧
 (((!q1) || (!q4)) = false →
 ∃ I7 : Int → World → Prop, ∃ m8 : Int → World → Nat, I7 0 v ∧
 ∀ n9 : Int, ∀ w10 : World, I7 n9 w10 →
 ((decide (n9 < (x0_1.n : Int))) = true →
 IxOk x0_1 n9 ∧
 ldF w10 x0_1 n9 fun x11 n12 n13 n14 x15 =>
 ∃ q16 : Bool, ((decide ((x11.n : Int) > 3)) = false →
 (Trip Tryz.prog 131 #[x0_0.val, x11.val] w10 fun r17 w18 => r17 = .bool q16 ∧ Sub w10 w18)) ∧
 ∃ q19 : Bool, (((decide ((x11.n : Int) > 3)) || (!q16)) = false →
 (Trip Tryz.prog 107 #[.int .i64 n12, .int .i64 0, .int .i64 (x0_0.n : Int)] w10 fun r20 w21 => r20 = .bool q19 ∧ Sub w10 w21)) ∧
 ((((decide ((x11.n : Int) > 3)) || (!q16)) || (!q19)) = true →
 Q (.bool false) w10) ∧
 ((((decide ((x11.n : Int) > 3)) || (!q16)) || (!q19)) = false →
 ∃ n22 : Int, Wr .i64 (n9 + 1) n22 ∧
 eqS (.sl x0_0) ∧
 eqS (.sl x0_1) ∧
 I7 n22 w10 ∧
 m8 n22 w10 < m8 n9 w10)) ∧
 ((decide (n9 < (x0_1.n : Int))) = false →
 IxOk x0_1 0 ∧
 ∃ x23 : Sl, w10.cell? ((elA x0_1 0 5).add 0) = some (x23.val) ∧
 ((decide ((x23.n : Int) = 0)) = true →
 IxOk x0_1 0) ∧
 ∃ n24 : Int, ((decide ((x23.n : Int) = 0)) = true →
 w10.cell? ((elA x0_1 0 5).add 1) = some (.int .i64 n24)) ∧
 Q (.bool ((decide ((x23.n : Int) = 0)) && (decide (n24 = 0)))) w10))
theorem of73 (x0_0 : Sl) (x0_1 : Sl) (v : World) (Q : Value → World → Prop) (h : vc73 x0_0 x0_1 v Q) : Trip Tryz.prog 73 #[.agg #[x0_0.val, x0_1.val]] v Q :=
 trip_of_eq (args := [.ag [.sl x0_0, .sl x0_1]]) (A := ⟨[(4, [(3, .int .i64)], [])], [], [], [], psG⟩) Tryz.func73 (by kernel_rfl) (by kernel_rfl) (by kernel_rfl : vc73 x0_0 x0_1 v Q = _) h

def vc74 (x0_0 : Sl) (x0_1 : Sl) (x_1 : Sl) (n2_0 : Int) (n2_1 : Int) (x2_2 : Sl) (v : World) (Q : Value → World → Prop) : Prop :=
 ((decide (n2_0 = 0)) = true →
 ∃ q1 : Bool, ((decide ((x2_2.n : Int) = 0)) = true →
 (Trip Tryz.prog 107 #[.int .i64 n2_1, .int .i64 (-999), .int .i64 999] v fun r2 w3 => r2 = .bool q1 ∧ Sub v w3)) ∧
 (((decide ((x2_2.n : Int) = 0)) && q1) = true →
 Q (.int .i64 0) v) ∧
 (((decide ((x2_2.n : Int) = 0)) && q1) = false →
 Q (.int .i64 (-1)) v)) ∧
 ((decide (n2_0 = 0)) = false →
 ((decide (n2_0 = 12)) = true →
 ∃ n4 : Int, ((decide ((x2_2.n : Int) = 0)) = true →
 Wr .i64 ((x_1.n : Int) - 1) n4) ∧
 ∃ q5 : Bool, ((decide ((x2_2.n : Int) = 0)) = true →
 (Trip Tryz.prog 107 #[.int .i64 n2_1, .int .i64 0, .int .i64 n4] v fun r6 w7 => r6 = .bool q5 ∧ Sub v w7)) ∧
 (((decide ((x2_2.n : Int) = 0)) && q5) = true →
 IxOk x_1 n2_1 ∧
 ∃ n8 : Int, v.cell? ((elA x_1 n2_1 1).add 0) = some (.int .i64 n8) ∧
 Q (.int .i64 n8) v) ∧
 (((decide ((x2_2.n : Int) = 0)) && q5) = false →
 Q (.int .i64 (-1)) v)) ∧
 ((decide (n2_0 = 12)) = false →
 ((decide (n2_0 = 1)) = true →
 ((decide (n2_0 = 1)) = true →
 ∃ q9 : Bool, ((decide (n2_1 = 0)) = true →
 (Trip Tryz.prog 132 #[.agg #[x0_0.val, x0_1.val], x_1.val, x2_2.val, .int .i64 2] v fun r10 w11 => r10 = .bool q9 ∧ Sub v w11)) ∧
 (((decide (n2_1 = 0)) && q9) = true →
 Q (.int .i64 0) v) ∧
 (((decide (n2_1 = 0)) && q9) = false →
 Q (.int .i64 (-1)) v)) ∧
 ((decide (n2_0 = 1)) = false →
 ((decide (n2_0 = 5)) = true →
 ∃ q12 : Bool, ((decide (n2_1 = 0)) = true →
 (Trip Tryz.prog 132 #[.agg #[x0_0.val, x0_1.val], x_1.val, x2_2.val, .int .i64 1] v fun r13 w14 => r13 = .bool q12 ∧ Sub v w14)) ∧
 (((decide (n2_1 = 0)) && q12) = true →
 Q (.int .i64 0) v) ∧
 (((decide (n2_1 = 0)) && q12) = false →
 Q (.int .i64 (-1)) v)) ∧
 ((decide (n2_0 = 5)) = false →
 ((decide (n2_0 = 6)) = true →
 ∃ n15 : Int, (Trip Tryz.prog 133 #[x0_0.val, .int .i64 n2_1] v fun r16 w17 => r16 = .int .i64 n15 ∧ Sub v w17) ∧
 ((decide (n15 > 0)) = true →
 Trip Tryz.prog 135 #[x0_0.val, .int .i64 n2_1] v fun r18 w19 =>
 ∃ x20 : Sl, r18 = x20.val ∧
 Sub v w19 ∧
 ∃ q21 : Bool, (Trip Tryz.prog 134 #[.agg #[x0_0.val, x0_1.val], x_1.val, x2_2.val, x20.val] w19 fun r22 w23 => r22 = .bool q21 ∧ Sub w19 w23) ∧
 (q21 = true →
 ∃ n24 : Int, (Trip Tryz.prog 133 #[x0_0.val, .int .i64 n2_1] w19 fun r25 w26 => r25 = .int .i64 n24 ∧ Sub w19 w26) ∧
 Q (.int .i64 n24) w19) ∧
 (q21 = false →
 Q (.int .i64 (-1)) w19)) ∧
 ((decide (n15 > 0)) = false →
 Sub v v ∧
 Q (.int .i64 (-1)) v)) ∧
 ((decide (n2_0 = 6)) = false →
 ((decide (n2_0 = 13)) = true →
 (((decide (n2_1 = 0)) && (decide ((x2_2.n : Int) = 2))) = true →
 IxOk x2_2 0 ∧
 ldT v x2_2 0 fun n27 n28 x29 =>
 ∃ n30 : Int, (Trip Tryz.prog 74 #[.agg #[x0_0.val, x0_1.val], x_1.val, .agg #[.int .i64 n27, .int .i64 n28, x29.val]] v fun r31 w32 => r31 = .int .i64 n30 ∧ Sub v w32) ∧
 ((decide (n30 ≥ 0)) = true →
 IxOk x2_2 1 ∧
 ldT v x2_2 1 fun n33 n34 x35 =>
 StepT Tryz.prog (Instr.buildSlice 68 1 #[(0, (.int .i64 n30))]) v fun r36 w37 =>
 ∃ x38 : Sl, r36 = x38.val ∧
 Sub v w37 ∧
 Trip Tryz.prog 136 #[x_1.val, x38.val] w37 fun r39 w40 =>
 ∃ x41 : Sl, r39 = x41.val ∧
 Sub w37 w40 ∧
 ∃ n42 : Int, (Trip Tryz.prog 74 #[.agg #[x0_0.val, x0_1.val], x41.val, .agg #[.int .i64 n33, .int .i64 n34, x35.val]] w40 fun r43 w44 => r43 = .int .i64 n42 ∧ Sub w40 w44) ∧
 Q (.int .i64 n42) w40) ∧
 ((decide (n30 ≥ 0)) = false →
 Q (.int .i64 (-1)) v)) ∧
 (((decide (n2_1 = 0)) && (decide ((x2_2.n : Int) = 2))) = false →
 Q (.int .i64 (-1)) v)) ∧
 ((decide (n2_0 = 13)) = false →
 ((decide (n2_0 = 7)) = true →
 (((decide (n2_1 = 0)) && (decide ((x2_2.n : Int) = 3))) = true →
 IxOk x2_2 0) ∧
 ∃ n45 : Int, ∃ n46 : Int, ∃ x47 : Sl, (((decide (n2_1 = 0)) && (decide ((x2_2.n : Int) = 3))) = true →
 v.cell? ((elA x2_2 0 3).add 0) = some (.int .i64 n45) ∧
 v.cell? ((elA x2_2 0 3).add 1) = some (.int .i64 n46) ∧
 v.cell? ((elA x2_2 0 3).add 2) = some (x47.val)) ∧
 ∃ n48 : Int, (((decide (n2_1 = 0)) && (decide ((x2_2.n : Int) = 3))) = true →
 (Trip Tryz.prog 74 #[.agg #[x0_0.val, x0_1.val], x_1.val, .agg #[.int .i64 n45, .int .i64 n46, x47.val]] v fun r49 w50 => r49 = .int .i64 n48 ∧ Sub v w50)) ∧
 ((((decide (n2_1 = 0)) && (decide ((x2_2.n : Int) = 3))) && (decide (n48 = 0))) = true →
 IxOk x2_2 1 ∧
 ldT v x2_2 1 fun n51 n52 x53 =>
 ∃ n54 : Int, (Trip Tryz.prog 74 #[.agg #[x0_0.val, x0_1.val], x_1.val, .agg #[.int .i64 n51, .int .i64 n52, x53.val]] v fun r55 w56 => r55 = .int .i64 n54 ∧ Sub v w56) ∧
 IxOk x2_2 2 ∧
 ldT v x2_2 2 fun n57 n58 x59 =>
 ∃ n60 : Int, (Trip Tryz.prog 74 #[.agg #[x0_0.val, x0_1.val], x_1.val, .agg #[.int .i64 n57, .int .i64 n58, x59.val]] v fun r61 w62 => r61 = .int .i64 n60 ∧ Sub v w62) ∧
 ((decide (n60 = n54)) = true →
 Q (.int .i64 n54) v) ∧
 ((decide (n60 = n54)) = false →
 Q (.int .i64 (-1)) v)) ∧
 ((((decide (n2_1 = 0)) && (decide ((x2_2.n : Int) = 3))) && (decide (n48 = 0))) = false →
 Q (.int .i64 (-1)) v)) ∧
 ((decide (n2_0 = 7)) = false →
 ((decide (n2_0 = 8)) = true →
 ∃ n63 : Int, (Trip Tryz.prog 137 #[.agg #[x0_0.val, x0_1.val], x_1.val, .agg #[.int .i64 n2_0, .int .i64 n2_1, x2_2.val]] v fun r64 w65 => r64 = .int .i64 n63 ∧ Sub v w65) ∧
 Q (.int .i64 n63) v) ∧
 ((decide (n2_0 = 8)) = false →
 ((decide (n2_0 = 9)) = true →
 ((decide (n2_0 = 9)) = true →
 ∃ n66 : Int, (Trip Tryz.prog 138 #[.agg #[x0_0.val, x0_1.val], x_1.val, .agg #[.int .i64 n2_0, .int .i64 n2_1, x2_2.val]] v fun r67 w68 => r67 = .int .i64 n66 ∧ Sub v w68) ∧
 Q (.int .i64 n66) v) ∧
 ((decide (n2_0 = 9)) = false →
 ((decide (n2_0 = 11)) = true →
 (((decide (n2_1 = 0)) && (decide ((x2_2.n : Int) = 2))) = true →
 IxOk x2_2 0 ∧
 ldT v x2_2 0 fun n69 n70 x71 =>
 ∃ n72 : Int, (Trip Tryz.prog 74 #[.agg #[x0_0.val, x0_1.val], x_1.val, .agg #[.int .i64 n69, .int .i64 n70, x71.val]] v fun r73 w74 => r73 = .int .i64 n72 ∧ Sub v w74) ∧
 ∃ q75 : Bool, (Trip Tryz.prog 139 #[x0_0.val, .int .i64 n72] v fun r76 w77 => r76 = .bool q75 ∧ Sub v w77) ∧
 (q75 = true →
 IxOk x2_2 1) ∧
 ∃ n78 : Int, ∃ n79 : Int, ∃ x80 : Sl, (q75 = true →
 v.cell? ((elA x2_2 1 3).add 0) = some (.int .i64 n78) ∧
 v.cell? ((elA x2_2 1 3).add 1) = some (.int .i64 n79) ∧
 v.cell? ((elA x2_2 1 3).add 2) = some (x80.val)) ∧
 ∃ n81 : Int, (q75 = true →
 (Trip Tryz.prog 74 #[.agg #[x0_0.val, x0_1.val], x_1.val, .agg #[.int .i64 n78, .int .i64 n79, x80.val]] v fun r82 w83 => r82 = .int .i64 n81 ∧ Sub v w83)) ∧
 ∃ n84 : Int, (q75 = true →
 Wr .i64 (n72 - 1) n84) ∧
 (q75 = true →
 IxOk x0_0 n84) ∧
 ∃ n85 : Int, (q75 = true →
 v.cell? ((elA x0_0 n84 3).add 0) = some (.int .i64 n85)) ∧
 ((q75 && (decide (n81 = n85))) = true →
 ∃ n86 : Int, Wr .i64 (n72 - 1) n86 ∧
 IxOk x0_0 n86 ∧
 ∃ n87 : Int, v.cell? ((elA x0_0 n86 3).add 1) = some (.int .i64 n87) ∧
 Q (.int .i64 n87) v) ∧
 ((q75 && (decide (n81 = n85))) = false →
 Q (.int .i64 (-1)) v)) ∧
 (((decide (n2_1 = 0)) && (decide ((x2_2.n : Int) = 2))) = false →
 Q (.int .i64 (-1)) v)) ∧
 ((decide (n2_0 = 11)) = false →
 Q (.int .i64 (-1)) v))) ∧
 ((decide (n2_0 = 9)) = false →
 ((decide (n2_0 = 10)) = true →
 ∃ n88 : Int, (Trip Tryz.prog 138 #[.agg #[x0_0.val, x0_1.val], x_1.val, .agg #[.int .i64 n2_0, .int .i64 n2_1, x2_2.val]] v fun r89 w90 => r89 = .int .i64 n88 ∧ Sub v w90) ∧
 Q (.int .i64 n88) v) ∧
 ((decide (n2_0 = 10)) = false →
 ((decide (n2_0 = 11)) = true →
 (((decide (n2_1 = 0)) && (decide ((x2_2.n : Int) = 2))) = true →
 IxOk x2_2 0 ∧
 ldT v x2_2 0 fun n91 n92 x93 =>
 ∃ n94 : Int, (Trip Tryz.prog 74 #[.agg #[x0_0.val, x0_1.val], x_1.val, .agg #[.int .i64 n91, .int .i64 n92, x93.val]] v fun r95 w96 => r95 = .int .i64 n94 ∧ Sub v w96) ∧
 ∃ q97 : Bool, (Trip Tryz.prog 139 #[x0_0.val, .int .i64 n94] v fun r98 w99 => r98 = .bool q97 ∧ Sub v w99) ∧
 (q97 = true →
 IxOk x2_2 1) ∧
 ∃ n100 : Int, ∃ n101 : Int, ∃ x102 : Sl, (q97 = true →
 v.cell? ((elA x2_2 1 3).add 0) = some (.int .i64 n100) ∧
 v.cell? ((elA x2_2 1 3).add 1) = some (.int .i64 n101) ∧
 v.cell? ((elA x2_2 1 3).add 2) = some (x102.val)) ∧
 ∃ n103 : Int, (q97 = true →
 (Trip Tryz.prog 74 #[.agg #[x0_0.val, x0_1.val], x_1.val, .agg #[.int .i64 n100, .int .i64 n101, x102.val]] v fun r104 w105 => r104 = .int .i64 n103 ∧ Sub v w105)) ∧
 ∃ n106 : Int, (q97 = true →
 Wr .i64 (n94 - 1) n106) ∧
 (q97 = true →
 IxOk x0_0 n106) ∧
 ∃ n107 : Int, (q97 = true →
 v.cell? ((elA x0_0 n106 3).add 0) = some (.int .i64 n107)) ∧
 ((q97 && (decide (n103 = n107))) = true →
 ∃ n108 : Int, Wr .i64 (n94 - 1) n108 ∧
 IxOk x0_0 n108 ∧
 ∃ n109 : Int, v.cell? ((elA x0_0 n108 3).add 1) = some (.int .i64 n109) ∧
 Q (.int .i64 n109) v) ∧
 ((q97 && (decide (n103 = n107))) = false →
 Q (.int .i64 (-1)) v)) ∧
 (((decide (n2_1 = 0)) && (decide ((x2_2.n : Int) = 2))) = false →
 Q (.int .i64 (-1)) v)) ∧
 ((decide (n2_0 = 11)) = false →
 Q (.int .i64 (-1)) v)))))))))) ∧
 ((decide (n2_0 = 1)) = false →
 ((decide (n2_0 = 2)) = true →
 ((decide (n2_0 = 2)) = true →
 ∃ q110 : Bool, ((decide (n2_1 = 0)) = true →
 (Trip Tryz.prog 132 #[.agg #[x0_0.val, x0_1.val], x_1.val, x2_2.val, .int .i64 2] v fun r111 w112 => r111 = .bool q110 ∧ Sub v w112)) ∧
 (((decide (n2_1 = 0)) && q110) = true →
 Q (.int .i64 0) v) ∧
 (((decide (n2_1 = 0)) && q110) = false →
 Q (.int .i64 (-1)) v)) ∧
 ((decide (n2_0 = 2)) = false →
 ((decide (n2_0 = 5)) = true →
 ∃ q113 : Bool, ((decide (n2_1 = 0)) = true →
 (Trip Tryz.prog 132 #[.agg #[x0_0.val, x0_1.val], x_1.val, x2_2.val, .int .i64 1] v fun r114 w115 => r114 = .bool q113 ∧ Sub v w115)) ∧
 (((decide (n2_1 = 0)) && q113) = true →
 Q (.int .i64 0) v) ∧
 (((decide (n2_1 = 0)) && q113) = false →
 Q (.int .i64 (-1)) v)) ∧
 ((decide (n2_0 = 5)) = false →
 ((decide (n2_0 = 6)) = true →
 ∃ n116 : Int, (Trip Tryz.prog 133 #[x0_0.val, .int .i64 n2_1] v fun r117 w118 => r117 = .int .i64 n116 ∧ Sub v w118) ∧
 ((decide (n116 > 0)) = true →
 Trip Tryz.prog 135 #[x0_0.val, .int .i64 n2_1] v fun r119 w120 =>
 ∃ x121 : Sl, r119 = x121.val ∧
 Sub v w120 ∧
 ∃ q122 : Bool, (Trip Tryz.prog 134 #[.agg #[x0_0.val, x0_1.val], x_1.val, x2_2.val, x121.val] w120 fun r123 w124 => r123 = .bool q122 ∧ Sub w120 w124) ∧
 (q122 = true →
 ∃ n125 : Int, (Trip Tryz.prog 133 #[x0_0.val, .int .i64 n2_1] w120 fun r126 w127 => r126 = .int .i64 n125 ∧ Sub w120 w127) ∧
 Q (.int .i64 n125) w120) ∧
 (q122 = false →
 Q (.int .i64 (-1)) w120)) ∧
 ((decide (n116 > 0)) = false →
 Sub v v ∧
 Q (.int .i64 (-1)) v)) ∧
 ((decide (n2_0 = 6)) = false →
 ((decide (n2_0 = 13)) = true →
 (((decide (n2_1 = 0)) && (decide ((x2_2.n : Int) = 2))) = true →
 IxOk x2_2 0 ∧
 ldT v x2_2 0 fun n128 n129 x130 =>
 ∃ n131 : Int, (Trip Tryz.prog 74 #[.agg #[x0_0.val, x0_1.val], x_1.val, .agg #[.int .i64 n128, .int .i64 n129, x130.val]] v fun r132 w133 => r132 = .int .i64 n131 ∧ Sub v w133) ∧
 ((decide (n131 ≥ 0)) = true →
 IxOk x2_2 1 ∧
 ldT v x2_2 1 fun n134 n135 x136 =>
 StepT Tryz.prog (Instr.buildSlice 68 1 #[(0, (.int .i64 n131))]) v fun r137 w138 =>
 ∃ x139 : Sl, r137 = x139.val ∧
 Sub v w138 ∧
 Trip Tryz.prog 136 #[x_1.val, x139.val] w138 fun r140 w141 =>
 ∃ x142 : Sl, r140 = x142.val ∧
 Sub w138 w141 ∧
 ∃ n143 : Int, (Trip Tryz.prog 74 #[.agg #[x0_0.val, x0_1.val], x142.val, .agg #[.int .i64 n134, .int .i64 n135, x136.val]] w141 fun r144 w145 => r144 = .int .i64 n143 ∧ Sub w141 w145) ∧
 Q (.int .i64 n143) w141) ∧
 ((decide (n131 ≥ 0)) = false →
 Q (.int .i64 (-1)) v)) ∧
 (((decide (n2_1 = 0)) && (decide ((x2_2.n : Int) = 2))) = false →
 Q (.int .i64 (-1)) v)) ∧
 ((decide (n2_0 = 13)) = false →
 ((decide (n2_0 = 7)) = true →
 (((decide (n2_1 = 0)) && (decide ((x2_2.n : Int) = 3))) = true →
 IxOk x2_2 0) ∧
 ∃ n146 : Int, ∃ n147 : Int, ∃ x148 : Sl, (((decide (n2_1 = 0)) && (decide ((x2_2.n : Int) = 3))) = true →
 v.cell? ((elA x2_2 0 3).add 0) = some (.int .i64 n146) ∧
 v.cell? ((elA x2_2 0 3).add 1) = some (.int .i64 n147) ∧
 v.cell? ((elA x2_2 0 3).add 2) = some (x148.val)) ∧
 ∃ n149 : Int, (((decide (n2_1 = 0)) && (decide ((x2_2.n : Int) = 3))) = true →
 (Trip Tryz.prog 74 #[.agg #[x0_0.val, x0_1.val], x_1.val, .agg #[.int .i64 n146, .int .i64 n147, x148.val]] v fun r150 w151 => r150 = .int .i64 n149 ∧ Sub v w151)) ∧
 ((((decide (n2_1 = 0)) && (decide ((x2_2.n : Int) = 3))) && (decide (n149 = 0))) = true →
 IxOk x2_2 1 ∧
 ldT v x2_2 1 fun n152 n153 x154 =>
 ∃ n155 : Int, (Trip Tryz.prog 74 #[.agg #[x0_0.val, x0_1.val], x_1.val, .agg #[.int .i64 n152, .int .i64 n153, x154.val]] v fun r156 w157 => r156 = .int .i64 n155 ∧ Sub v w157) ∧
 IxOk x2_2 2 ∧
 ldT v x2_2 2 fun n158 n159 x160 =>
 ∃ n161 : Int, (Trip Tryz.prog 74 #[.agg #[x0_0.val, x0_1.val], x_1.val, .agg #[.int .i64 n158, .int .i64 n159, x160.val]] v fun r162 w163 => r162 = .int .i64 n161 ∧ Sub v w163) ∧
 ((decide (n161 = n155)) = true →
 Q (.int .i64 n155) v) ∧
 ((decide (n161 = n155)) = false →
 Q (.int .i64 (-1)) v)) ∧
 ((((decide (n2_1 = 0)) && (decide ((x2_2.n : Int) = 3))) && (decide (n149 = 0))) = false →
 Q (.int .i64 (-1)) v)) ∧
 ((decide (n2_0 = 7)) = false →
 ((decide (n2_0 = 8)) = true →
 ∃ n164 : Int, (Trip Tryz.prog 137 #[.agg #[x0_0.val, x0_1.val], x_1.val, .agg #[.int .i64 n2_0, .int .i64 n2_1, x2_2.val]] v fun r165 w166 => r165 = .int .i64 n164 ∧ Sub v w166) ∧
 Q (.int .i64 n164) v) ∧
 ((decide (n2_0 = 8)) = false →
 ((decide (n2_0 = 9)) = true →
 ((decide (n2_0 = 9)) = true →
 ∃ n167 : Int, (Trip Tryz.prog 138 #[.agg #[x0_0.val, x0_1.val], x_1.val, .agg #[.int .i64 n2_0, .int .i64 n2_1, x2_2.val]] v fun r168 w169 => r168 = .int .i64 n167 ∧ Sub v w169) ∧
 Q (.int .i64 n167) v) ∧
 ((decide (n2_0 = 9)) = false →
 ((decide (n2_0 = 11)) = true →
 (((decide (n2_1 = 0)) && (decide ((x2_2.n : Int) = 2))) = true →
 IxOk x2_2 0 ∧
 ldT v x2_2 0 fun n170 n171 x172 =>
 ∃ n173 : Int, (Trip Tryz.prog 74 #[.agg #[x0_0.val, x0_1.val], x_1.val, .agg #[.int .i64 n170, .int .i64 n171, x172.val]] v fun r174 w175 => r174 = .int .i64 n173 ∧ Sub v w175) ∧
 ∃ q176 : Bool, (Trip Tryz.prog 139 #[x0_0.val, .int .i64 n173] v fun r177 w178 => r177 = .bool q176 ∧ Sub v w178) ∧
 (q176 = true →
 IxOk x2_2 1) ∧
 ∃ n179 : Int, ∃ n180 : Int, ∃ x181 : Sl, (q176 = true →
 v.cell? ((elA x2_2 1 3).add 0) = some (.int .i64 n179) ∧
 v.cell? ((elA x2_2 1 3).add 1) = some (.int .i64 n180) ∧
 v.cell? ((elA x2_2 1 3).add 2) = some (x181.val)) ∧
 ∃ n182 : Int, (q176 = true →
 (Trip Tryz.prog 74 #[.agg #[x0_0.val, x0_1.val], x_1.val, .agg #[.int .i64 n179, .int .i64 n180, x181.val]] v fun r183 w184 => r183 = .int .i64 n182 ∧ Sub v w184)) ∧
 ∃ n185 : Int, (q176 = true →
 Wr .i64 (n173 - 1) n185) ∧
 (q176 = true →
 IxOk x0_0 n185) ∧
 ∃ n186 : Int, (q176 = true →
 v.cell? ((elA x0_0 n185 3).add 0) = some (.int .i64 n186)) ∧
 ((q176 && (decide (n182 = n186))) = true →
 ∃ n187 : Int, Wr .i64 (n173 - 1) n187 ∧
 IxOk x0_0 n187 ∧
 ∃ n188 : Int, v.cell? ((elA x0_0 n187 3).add 1) = some (.int .i64 n188) ∧
 Q (.int .i64 n188) v) ∧
 ((q176 && (decide (n182 = n186))) = false →
 Q (.int .i64 (-1)) v)) ∧
 (((decide (n2_1 = 0)) && (decide ((x2_2.n : Int) = 2))) = false →
 Q (.int .i64 (-1)) v)) ∧
 ((decide (n2_0 = 11)) = false →
 Q (.int .i64 (-1)) v))) ∧
 ((decide (n2_0 = 9)) = false →
 ((decide (n2_0 = 10)) = true →
 ∃ n189 : Int, (Trip Tryz.prog 138 #[.agg #[x0_0.val, x0_1.val], x_1.val, .agg #[.int .i64 n2_0, .int .i64 n2_1, x2_2.val]] v fun r190 w191 => r190 = .int .i64 n189 ∧ Sub v w191) ∧
 Q (.int .i64 n189) v) ∧
 ((decide (n2_0 = 10)) = false →
 ((decide (n2_0 = 11)) = true →
 (((decide (n2_1 = 0)) && (decide ((x2_2.n : Int) = 2))) = true →
 IxOk x2_2 0 ∧
 ldT v x2_2 0 fun n192 n193 x194 =>
 ∃ n195 : Int, (Trip Tryz.prog 74 #[.agg #[x0_0.val, x0_1.val], x_1.val, .agg #[.int .i64 n192, .int .i64 n193, x194.val]] v fun r196 w197 => r196 = .int .i64 n195 ∧ Sub v w197) ∧
 ∃ q198 : Bool, (Trip Tryz.prog 139 #[x0_0.val, .int .i64 n195] v fun r199 w200 => r199 = .bool q198 ∧ Sub v w200) ∧
 (q198 = true →
 IxOk x2_2 1) ∧
 ∃ n201 : Int, ∃ n202 : Int, ∃ x203 : Sl, (q198 = true →
 v.cell? ((elA x2_2 1 3).add 0) = some (.int .i64 n201) ∧
 v.cell? ((elA x2_2 1 3).add 1) = some (.int .i64 n202) ∧
 v.cell? ((elA x2_2 1 3).add 2) = some (x203.val)) ∧
 ∃ n204 : Int, (q198 = true →
 (Trip Tryz.prog 74 #[.agg #[x0_0.val, x0_1.val], x_1.val, .agg #[.int .i64 n201, .int .i64 n202, x203.val]] v fun r205 w206 => r205 = .int .i64 n204 ∧ Sub v w206)) ∧
 ∃ n207 : Int, (q198 = true →
 Wr .i64 (n195 - 1) n207) ∧
 (q198 = true →
 IxOk x0_0 n207) ∧
 ∃ n208 : Int, (q198 = true →
 v.cell? ((elA x0_0 n207 3).add 0) = some (.int .i64 n208)) ∧
 ((q198 && (decide (n204 = n208))) = true →
 ∃ n209 : Int, Wr .i64 (n195 - 1) n209 ∧
 IxOk x0_0 n209 ∧
 ∃ n210 : Int, v.cell? ((elA x0_0 n209 3).add 1) = some (.int .i64 n210) ∧
 Q (.int .i64 n210) v) ∧
 ((q198 && (decide (n204 = n208))) = false →
 Q (.int .i64 (-1)) v)) ∧
 (((decide (n2_1 = 0)) && (decide ((x2_2.n : Int) = 2))) = false →
 Q (.int .i64 (-1)) v)) ∧
 ((decide (n2_0 = 11)) = false →
 Q (.int .i64 (-1)) v)))))))))) ∧
 ((decide (n2_0 = 2)) = false →
 ((decide (n2_0 = 3)) = true →
 ((decide (n2_0 = 3)) = true →
 ∃ q211 : Bool, ((decide (n2_1 = 0)) = true →
 (Trip Tryz.prog 132 #[.agg #[x0_0.val, x0_1.val], x_1.val, x2_2.val, .int .i64 2] v fun r212 w213 => r212 = .bool q211 ∧ Sub v w213)) ∧
 (((decide (n2_1 = 0)) && q211) = true →
 Q (.int .i64 0) v) ∧
 (((decide (n2_1 = 0)) && q211) = false →
 Q (.int .i64 (-1)) v)) ∧
 ((decide (n2_0 = 3)) = false →
 ((decide (n2_0 = 5)) = true →
 ∃ q214 : Bool, ((decide (n2_1 = 0)) = true →
 (Trip Tryz.prog 132 #[.agg #[x0_0.val, x0_1.val], x_1.val, x2_2.val, .int .i64 1] v fun r215 w216 => r215 = .bool q214 ∧ Sub v w216)) ∧
 (((decide (n2_1 = 0)) && q214) = true →
 Q (.int .i64 0) v) ∧
 (((decide (n2_1 = 0)) && q214) = false →
 Q (.int .i64 (-1)) v)) ∧
 ((decide (n2_0 = 5)) = false →
 ((decide (n2_0 = 6)) = true →
 ∃ n217 : Int, (Trip Tryz.prog 133 #[x0_0.val, .int .i64 n2_1] v fun r218 w219 => r218 = .int .i64 n217 ∧ Sub v w219) ∧
 ((decide (n217 > 0)) = true →
 Trip Tryz.prog 135 #[x0_0.val, .int .i64 n2_1] v fun r220 w221 =>
 ∃ x222 : Sl, r220 = x222.val ∧
 Sub v w221 ∧
 ∃ q223 : Bool, (Trip Tryz.prog 134 #[.agg #[x0_0.val, x0_1.val], x_1.val, x2_2.val, x222.val] w221 fun r224 w225 => r224 = .bool q223 ∧ Sub w221 w225) ∧
 (q223 = true →
 ∃ n226 : Int, (Trip Tryz.prog 133 #[x0_0.val, .int .i64 n2_1] w221 fun r227 w228 => r227 = .int .i64 n226 ∧ Sub w221 w228) ∧
 Q (.int .i64 n226) w221) ∧
 (q223 = false →
 Q (.int .i64 (-1)) w221)) ∧
 ((decide (n217 > 0)) = false →
 Sub v v ∧
 Q (.int .i64 (-1)) v)) ∧
 ((decide (n2_0 = 6)) = false →
 ((decide (n2_0 = 13)) = true →
 (((decide (n2_1 = 0)) && (decide ((x2_2.n : Int) = 2))) = true →
 IxOk x2_2 0 ∧
 ldT v x2_2 0 fun n229 n230 x231 =>
 ∃ n232 : Int, (Trip Tryz.prog 74 #[.agg #[x0_0.val, x0_1.val], x_1.val, .agg #[.int .i64 n229, .int .i64 n230, x231.val]] v fun r233 w234 => r233 = .int .i64 n232 ∧ Sub v w234) ∧
 ((decide (n232 ≥ 0)) = true →
 IxOk x2_2 1 ∧
 ldT v x2_2 1 fun n235 n236 x237 =>
 StepT Tryz.prog (Instr.buildSlice 68 1 #[(0, (.int .i64 n232))]) v fun r238 w239 =>
 ∃ x240 : Sl, r238 = x240.val ∧
 Sub v w239 ∧
 Trip Tryz.prog 136 #[x_1.val, x240.val] w239 fun r241 w242 =>
 ∃ x243 : Sl, r241 = x243.val ∧
 Sub w239 w242 ∧
 ∃ n244 : Int, (Trip Tryz.prog 74 #[.agg #[x0_0.val, x0_1.val], x243.val, .agg #[.int .i64 n235, .int .i64 n236, x237.val]] w242 fun r245 w246 => r245 = .int .i64 n244 ∧ Sub w242 w246) ∧
 Q (.int .i64 n244) w242) ∧
 ((decide (n232 ≥ 0)) = false →
 Q (.int .i64 (-1)) v)) ∧
 (((decide (n2_1 = 0)) && (decide ((x2_2.n : Int) = 2))) = false →
 Q (.int .i64 (-1)) v)) ∧
 ((decide (n2_0 = 13)) = false →
 ((decide (n2_0 = 7)) = true →
 (((decide (n2_1 = 0)) && (decide ((x2_2.n : Int) = 3))) = true →
 IxOk x2_2 0) ∧
 ∃ n247 : Int, ∃ n248 : Int, ∃ x249 : Sl, (((decide (n2_1 = 0)) && (decide ((x2_2.n : Int) = 3))) = true →
 v.cell? ((elA x2_2 0 3).add 0) = some (.int .i64 n247) ∧
 v.cell? ((elA x2_2 0 3).add 1) = some (.int .i64 n248) ∧
 v.cell? ((elA x2_2 0 3).add 2) = some (x249.val)) ∧
 ∃ n250 : Int, (((decide (n2_1 = 0)) && (decide ((x2_2.n : Int) = 3))) = true →
 (Trip Tryz.prog 74 #[.agg #[x0_0.val, x0_1.val], x_1.val, .agg #[.int .i64 n247, .int .i64 n248, x249.val]] v fun r251 w252 => r251 = .int .i64 n250 ∧ Sub v w252)) ∧
 ((((decide (n2_1 = 0)) && (decide ((x2_2.n : Int) = 3))) && (decide (n250 = 0))) = true →
 IxOk x2_2 1 ∧
 ldT v x2_2 1 fun n253 n254 x255 =>
 ∃ n256 : Int, (Trip Tryz.prog 74 #[.agg #[x0_0.val, x0_1.val], x_1.val, .agg #[.int .i64 n253, .int .i64 n254, x255.val]] v fun r257 w258 => r257 = .int .i64 n256 ∧ Sub v w258) ∧
 IxOk x2_2 2 ∧
 ldT v x2_2 2 fun n259 n260 x261 =>
 ∃ n262 : Int, (Trip Tryz.prog 74 #[.agg #[x0_0.val, x0_1.val], x_1.val, .agg #[.int .i64 n259, .int .i64 n260, x261.val]] v fun r263 w264 => r263 = .int .i64 n262 ∧ Sub v w264) ∧
 ((decide (n262 = n256)) = true →
 Q (.int .i64 n256) v) ∧
 ((decide (n262 = n256)) = false →
 Q (.int .i64 (-1)) v)) ∧
 ((((decide (n2_1 = 0)) && (decide ((x2_2.n : Int) = 3))) && (decide (n250 = 0))) = false →
 Q (.int .i64 (-1)) v)) ∧
 ((decide (n2_0 = 7)) = false →
 ((decide (n2_0 = 8)) = true →
 ∃ n265 : Int, (Trip Tryz.prog 137 #[.agg #[x0_0.val, x0_1.val], x_1.val, .agg #[.int .i64 n2_0, .int .i64 n2_1, x2_2.val]] v fun r266 w267 => r266 = .int .i64 n265 ∧ Sub v w267) ∧
 Q (.int .i64 n265) v) ∧
 ((decide (n2_0 = 8)) = false →
 ((decide (n2_0 = 9)) = true →
 ((decide (n2_0 = 9)) = true →
 ∃ n268 : Int, (Trip Tryz.prog 138 #[.agg #[x0_0.val, x0_1.val], x_1.val, .agg #[.int .i64 n2_0, .int .i64 n2_1, x2_2.val]] v fun r269 w270 => r269 = .int .i64 n268 ∧ Sub v w270) ∧
 Q (.int .i64 n268) v) ∧
 ((decide (n2_0 = 9)) = false →
 ((decide (n2_0 = 11)) = true →
 (((decide (n2_1 = 0)) && (decide ((x2_2.n : Int) = 2))) = true →
 IxOk x2_2 0 ∧
 ldT v x2_2 0 fun n271 n272 x273 =>
 ∃ n274 : Int, (Trip Tryz.prog 74 #[.agg #[x0_0.val, x0_1.val], x_1.val, .agg #[.int .i64 n271, .int .i64 n272, x273.val]] v fun r275 w276 => r275 = .int .i64 n274 ∧ Sub v w276) ∧
 ∃ q277 : Bool, (Trip Tryz.prog 139 #[x0_0.val, .int .i64 n274] v fun r278 w279 => r278 = .bool q277 ∧ Sub v w279) ∧
 (q277 = true →
 IxOk x2_2 1) ∧
 ∃ n280 : Int, ∃ n281 : Int, ∃ x282 : Sl, (q277 = true →
 v.cell? ((elA x2_2 1 3).add 0) = some (.int .i64 n280) ∧
 v.cell? ((elA x2_2 1 3).add 1) = some (.int .i64 n281) ∧
 v.cell? ((elA x2_2 1 3).add 2) = some (x282.val)) ∧
 ∃ n283 : Int, (q277 = true →
 (Trip Tryz.prog 74 #[.agg #[x0_0.val, x0_1.val], x_1.val, .agg #[.int .i64 n280, .int .i64 n281, x282.val]] v fun r284 w285 => r284 = .int .i64 n283 ∧ Sub v w285)) ∧
 ∃ n286 : Int, (q277 = true →
 Wr .i64 (n274 - 1) n286) ∧
 (q277 = true →
 IxOk x0_0 n286) ∧
 ∃ n287 : Int, (q277 = true →
 v.cell? ((elA x0_0 n286 3).add 0) = some (.int .i64 n287)) ∧
 ((q277 && (decide (n283 = n287))) = true →
 ∃ n288 : Int, Wr .i64 (n274 - 1) n288 ∧
 IxOk x0_0 n288 ∧
 ∃ n289 : Int, v.cell? ((elA x0_0 n288 3).add 1) = some (.int .i64 n289) ∧
 Q (.int .i64 n289) v) ∧
 ((q277 && (decide (n283 = n287))) = false →
 Q (.int .i64 (-1)) v)) ∧
 (((decide (n2_1 = 0)) && (decide ((x2_2.n : Int) = 2))) = false →
 Q (.int .i64 (-1)) v)) ∧
 ((decide (n2_0 = 11)) = false →
 Q (.int .i64 (-1)) v))) ∧
 ((decide (n2_0 = 9)) = false →
 ((decide (n2_0 = 10)) = true →
 ∃ n290 : Int, (Trip Tryz.prog 138 #[.agg #[x0_0.val, x0_1.val], x_1.val, .agg #[.int .i64 n2_0, .int .i64 n2_1, x2_2.val]] v fun r291 w292 => r291 = .int .i64 n290 ∧ Sub v w292) ∧
 Q (.int .i64 n290) v) ∧
 ((decide (n2_0 = 10)) = false →
 ((decide (n2_0 = 11)) = true →
 (((decide (n2_1 = 0)) && (decide ((x2_2.n : Int) = 2))) = true →
 IxOk x2_2 0 ∧
 ldT v x2_2 0 fun n293 n294 x295 =>
 ∃ n296 : Int, (Trip Tryz.prog 74 #[.agg #[x0_0.val, x0_1.val], x_1.val, .agg #[.int .i64 n293, .int .i64 n294, x295.val]] v fun r297 w298 => r297 = .int .i64 n296 ∧ Sub v w298) ∧
 ∃ q299 : Bool, (Trip Tryz.prog 139 #[x0_0.val, .int .i64 n296] v fun r300 w301 => r300 = .bool q299 ∧ Sub v w301) ∧
 (q299 = true →
 IxOk x2_2 1) ∧
 ∃ n302 : Int, ∃ n303 : Int, ∃ x304 : Sl, (q299 = true →
 v.cell? ((elA x2_2 1 3).add 0) = some (.int .i64 n302) ∧
 v.cell? ((elA x2_2 1 3).add 1) = some (.int .i64 n303) ∧
 v.cell? ((elA x2_2 1 3).add 2) = some (x304.val)) ∧
 ∃ n305 : Int, (q299 = true →
 (Trip Tryz.prog 74 #[.agg #[x0_0.val, x0_1.val], x_1.val, .agg #[.int .i64 n302, .int .i64 n303, x304.val]] v fun r306 w307 => r306 = .int .i64 n305 ∧ Sub v w307)) ∧
 ∃ n308 : Int, (q299 = true →
 Wr .i64 (n296 - 1) n308) ∧
 (q299 = true →
 IxOk x0_0 n308) ∧
 ∃ n309 : Int, (q299 = true →
 v.cell? ((elA x0_0 n308 3).add 0) = some (.int .i64 n309)) ∧
 ((q299 && (decide (n305 = n309))) = true →
 ∃ n310 : Int, Wr .i64 (n296 - 1) n310 ∧
 IxOk x0_0 n310 ∧
 ∃ n311 : Int, v.cell? ((elA x0_0 n310 3).add 1) = some (.int .i64 n311) ∧
 Q (.int .i64 n311) v) ∧
 ((q299 && (decide (n305 = n309))) = false →
 Q (.int .i64 (-1)) v)) ∧
 (((decide (n2_1 = 0)) && (decide ((x2_2.n : Int) = 2))) = false →
 Q (.int .i64 (-1)) v)) ∧
 ((decide (n2_0 = 11)) = false →
 Q (.int .i64 (-1)) v)))))))))) ∧
 ((decide (n2_0 = 3)) = false →
 ((decide (n2_0 = 4)) = true →
 ∃ q312 : Bool, ((decide (n2_1 = 0)) = true →
 (Trip Tryz.prog 132 #[.agg #[x0_0.val, x0_1.val], x_1.val, x2_2.val, .int .i64 2] v fun r313 w314 => r313 = .bool q312 ∧ Sub v w314)) ∧
 (((decide (n2_1 = 0)) && q312) = true →
 Q (.int .i64 0) v) ∧
 (((decide (n2_1 = 0)) && q312) = false →
 Q (.int .i64 (-1)) v)) ∧
 ((decide (n2_0 = 4)) = false →
 ((decide (n2_0 = 5)) = true →
 ∃ q315 : Bool, ((decide (n2_1 = 0)) = true →
 (Trip Tryz.prog 132 #[.agg #[x0_0.val, x0_1.val], x_1.val, x2_2.val, .int .i64 1] v fun r316 w317 => r316 = .bool q315 ∧ Sub v w317)) ∧
 (((decide (n2_1 = 0)) && q315) = true →
 Q (.int .i64 0) v) ∧
 (((decide (n2_1 = 0)) && q315) = false →
 Q (.int .i64 (-1)) v)) ∧
 ((decide (n2_0 = 5)) = false →
 ((decide (n2_0 = 6)) = true →
 ∃ n318 : Int, (Trip Tryz.prog 133 #[x0_0.val, .int .i64 n2_1] v fun r319 w320 => r319 = .int .i64 n318 ∧ Sub v w320) ∧
 ((decide (n318 > 0)) = true →
 Trip Tryz.prog 135 #[x0_0.val, .int .i64 n2_1] v fun r321 w322 =>
 ∃ x323 : Sl, r321 = x323.val ∧
 Sub v w322 ∧
 ∃ q324 : Bool, (Trip Tryz.prog 134 #[.agg #[x0_0.val, x0_1.val], x_1.val, x2_2.val, x323.val] w322 fun r325 w326 => r325 = .bool q324 ∧ Sub w322 w326) ∧
 (q324 = true →
 ∃ n327 : Int, (Trip Tryz.prog 133 #[x0_0.val, .int .i64 n2_1] w322 fun r328 w329 => r328 = .int .i64 n327 ∧ Sub w322 w329) ∧
 Q (.int .i64 n327) w322) ∧
 (q324 = false →
 Q (.int .i64 (-1)) w322)) ∧
 ((decide (n318 > 0)) = false →
 Sub v v ∧
 Q (.int .i64 (-1)) v)) ∧
 ((decide (n2_0 = 6)) = false →
 ((decide (n2_0 = 13)) = true →
 (((decide (n2_1 = 0)) && (decide ((x2_2.n : Int) = 2))) = true →
 IxOk x2_2 0 ∧
 ldT v x2_2 0 fun n330 n331 x332 =>
 ∃ n333 : Int, (Trip Tryz.prog 74 #[.agg #[x0_0.val, x0_1.val], x_1.val, .agg #[.int .i64 n330, .int .i64 n331, x332.val]] v fun r334 w335 => r334 = .int .i64 n333 ∧ Sub v w335) ∧
 ((decide (n333 ≥ 0)) = true →
 IxOk x2_2 1 ∧
 ldT v x2_2 1 fun n336 n337 x338 =>
 StepT Tryz.prog (Instr.buildSlice 68 1 #[(0, (.int .i64 n333))]) v fun r339 w340 =>
 ∃ x341 : Sl, r339 = x341.val ∧
 Sub v w340 ∧
 Trip Tryz.prog 136 #[x_1.val, x341.val] w340 fun r342 w343 =>
 ∃ x344 : Sl, r342 = x344.val ∧
 Sub w340 w343 ∧
 ∃ n345 : Int, (Trip Tryz.prog 74 #[.agg #[x0_0.val, x0_1.val], x344.val, .agg #[.int .i64 n336, .int .i64 n337, x338.val]] w343 fun r346 w347 => r346 = .int .i64 n345 ∧ Sub w343 w347) ∧
 Q (.int .i64 n345) w343) ∧
 ((decide (n333 ≥ 0)) = false →
 Q (.int .i64 (-1)) v)) ∧
 (((decide (n2_1 = 0)) && (decide ((x2_2.n : Int) = 2))) = false →
 Q (.int .i64 (-1)) v)) ∧
 ((decide (n2_0 = 13)) = false →
 ((decide (n2_0 = 7)) = true →
 (((decide (n2_1 = 0)) && (decide ((x2_2.n : Int) = 3))) = true →
 IxOk x2_2 0) ∧
 ∃ n348 : Int, ∃ n349 : Int, ∃ x350 : Sl, (((decide (n2_1 = 0)) && (decide ((x2_2.n : Int) = 3))) = true →
 v.cell? ((elA x2_2 0 3).add 0) = some (.int .i64 n348) ∧
 v.cell? ((elA x2_2 0 3).add 1) = some (.int .i64 n349) ∧
 v.cell? ((elA x2_2 0 3).add 2) = some (x350.val)) ∧
 ∃ n351 : Int, (((decide (n2_1 = 0)) && (decide ((x2_2.n : Int) = 3))) = true →
 (Trip Tryz.prog 74 #[.agg #[x0_0.val, x0_1.val], x_1.val, .agg #[.int .i64 n348, .int .i64 n349, x350.val]] v fun r352 w353 => r352 = .int .i64 n351 ∧ Sub v w353)) ∧
 ((((decide (n2_1 = 0)) && (decide ((x2_2.n : Int) = 3))) && (decide (n351 = 0))) = true →
 IxOk x2_2 1 ∧
 ldT v x2_2 1 fun n354 n355 x356 =>
 ∃ n357 : Int, (Trip Tryz.prog 74 #[.agg #[x0_0.val, x0_1.val], x_1.val, .agg #[.int .i64 n354, .int .i64 n355, x356.val]] v fun r358 w359 => r358 = .int .i64 n357 ∧ Sub v w359) ∧
 IxOk x2_2 2 ∧
 ldT v x2_2 2 fun n360 n361 x362 =>
 ∃ n363 : Int, (Trip Tryz.prog 74 #[.agg #[x0_0.val, x0_1.val], x_1.val, .agg #[.int .i64 n360, .int .i64 n361, x362.val]] v fun r364 w365 => r364 = .int .i64 n363 ∧ Sub v w365) ∧
 ((decide (n363 = n357)) = true →
 Q (.int .i64 n357) v) ∧
 ((decide (n363 = n357)) = false →
 Q (.int .i64 (-1)) v)) ∧
 ((((decide (n2_1 = 0)) && (decide ((x2_2.n : Int) = 3))) && (decide (n351 = 0))) = false →
 Q (.int .i64 (-1)) v)) ∧
 ((decide (n2_0 = 7)) = false →
 ((decide (n2_0 = 8)) = true →
 ∃ n366 : Int, (Trip Tryz.prog 137 #[.agg #[x0_0.val, x0_1.val], x_1.val, .agg #[.int .i64 n2_0, .int .i64 n2_1, x2_2.val]] v fun r367 w368 => r367 = .int .i64 n366 ∧ Sub v w368) ∧
 Q (.int .i64 n366) v) ∧
 ((decide (n2_0 = 8)) = false →
 ((decide (n2_0 = 9)) = true →
 ((decide (n2_0 = 9)) = true →
 ∃ n369 : Int, (Trip Tryz.prog 138 #[.agg #[x0_0.val, x0_1.val], x_1.val, .agg #[.int .i64 n2_0, .int .i64 n2_1, x2_2.val]] v fun r370 w371 => r370 = .int .i64 n369 ∧ Sub v w371) ∧
 Q (.int .i64 n369) v) ∧
 ((decide (n2_0 = 9)) = false →
 ((decide (n2_0 = 11)) = true →
 (((decide (n2_1 = 0)) && (decide ((x2_2.n : Int) = 2))) = true →
 IxOk x2_2 0 ∧
 ldT v x2_2 0 fun n372 n373 x374 =>
 ∃ n375 : Int, (Trip Tryz.prog 74 #[.agg #[x0_0.val, x0_1.val], x_1.val, .agg #[.int .i64 n372, .int .i64 n373, x374.val]] v fun r376 w377 => r376 = .int .i64 n375 ∧ Sub v w377) ∧
 ∃ q378 : Bool, (Trip Tryz.prog 139 #[x0_0.val, .int .i64 n375] v fun r379 w380 => r379 = .bool q378 ∧ Sub v w380) ∧
 (q378 = true →
 IxOk x2_2 1) ∧
 ∃ n381 : Int, ∃ n382 : Int, ∃ x383 : Sl, (q378 = true →
 v.cell? ((elA x2_2 1 3).add 0) = some (.int .i64 n381) ∧
 v.cell? ((elA x2_2 1 3).add 1) = some (.int .i64 n382) ∧
 v.cell? ((elA x2_2 1 3).add 2) = some (x383.val)) ∧
 ∃ n384 : Int, (q378 = true →
 (Trip Tryz.prog 74 #[.agg #[x0_0.val, x0_1.val], x_1.val, .agg #[.int .i64 n381, .int .i64 n382, x383.val]] v fun r385 w386 => r385 = .int .i64 n384 ∧ Sub v w386)) ∧
 ∃ n387 : Int, (q378 = true →
 Wr .i64 (n375 - 1) n387) ∧
 (q378 = true →
 IxOk x0_0 n387) ∧
 ∃ n388 : Int, (q378 = true →
 v.cell? ((elA x0_0 n387 3).add 0) = some (.int .i64 n388)) ∧
 ((q378 && (decide (n384 = n388))) = true →
 ∃ n389 : Int, Wr .i64 (n375 - 1) n389 ∧
 IxOk x0_0 n389 ∧
 ∃ n390 : Int, v.cell? ((elA x0_0 n389 3).add 1) = some (.int .i64 n390) ∧
 Q (.int .i64 n390) v) ∧
 ((q378 && (decide (n384 = n388))) = false →
 Q (.int .i64 (-1)) v)) ∧
 (((decide (n2_1 = 0)) && (decide ((x2_2.n : Int) = 2))) = false →
 Q (.int .i64 (-1)) v)) ∧
 ((decide (n2_0 = 11)) = false →
 Q (.int .i64 (-1)) v))) ∧
 ((decide (n2_0 = 9)) = false →
 ((decide (n2_0 = 10)) = true →
 ∃ n391 : Int, (Trip Tryz.prog 138 #[.agg #[x0_0.val, x0_1.val], x_1.val, .agg #[.int .i64 n2_0, .int .i64 n2_1, x2_2.val]] v fun r392 w393 => r392 = .int .i64 n391 ∧ Sub v w393) ∧
 Q (.int .i64 n391) v) ∧
 ((decide (n2_0 = 10)) = false →
 ((decide (n2_0 = 11)) = true →
 (((decide (n2_1 = 0)) && (decide ((x2_2.n : Int) = 2))) = true →
 IxOk x2_2 0 ∧
 ldT v x2_2 0 fun n394 n395 x396 =>
 ∃ n397 : Int, (Trip Tryz.prog 74 #[.agg #[x0_0.val, x0_1.val], x_1.val, .agg #[.int .i64 n394, .int .i64 n395, x396.val]] v fun r398 w399 => r398 = .int .i64 n397 ∧ Sub v w399) ∧
 ∃ q400 : Bool, (Trip Tryz.prog 139 #[x0_0.val, .int .i64 n397] v fun r401 w402 => r401 = .bool q400 ∧ Sub v w402) ∧
 (q400 = true →
 IxOk x2_2 1) ∧
 ∃ n403 : Int, ∃ n404 : Int, ∃ x405 : Sl, (q400 = true →
 v.cell? ((elA x2_2 1 3).add 0) = some (.int .i64 n403) ∧
 v.cell? ((elA x2_2 1 3).add 1) = some (.int .i64 n404) ∧
 v.cell? ((elA x2_2 1 3).add 2) = some (x405.val)) ∧
 ∃ n406 : Int, (q400 = true →
 (Trip Tryz.prog 74 #[.agg #[x0_0.val, x0_1.val], x_1.val, .agg #[.int .i64 n403, .int .i64 n404, x405.val]] v fun r407 w408 => r407 = .int .i64 n406 ∧ Sub v w408)) ∧
 ∃ n409 : Int, (q400 = true →
 Wr .i64 (n397 - 1) n409) ∧
 (q400 = true →
 IxOk x0_0 n409) ∧
 ∃ n410 : Int, (q400 = true →
 v.cell? ((elA x0_0 n409 3).add 0) = some (.int .i64 n410)) ∧
 ((q400 && (decide (n406 = n410))) = true →
 ∃ n411 : Int, Wr .i64 (n397 - 1) n411 ∧
 IxOk x0_0 n411 ∧
 ∃ n412 : Int, v.cell? ((elA x0_0 n411 3).add 1) = some (.int .i64 n412) ∧
 Q (.int .i64 n412) v) ∧
 ((q400 && (decide (n406 = n410))) = false →
 Q (.int .i64 (-1)) v)) ∧
 (((decide (n2_1 = 0)) && (decide ((x2_2.n : Int) = 2))) = false →
 Q (.int .i64 (-1)) v)) ∧
 ((decide (n2_0 = 11)) = false →
 Q (.int .i64 (-1)) v))))))))))))))
theorem of74 (x0_0 : Sl) (x0_1 : Sl) (x_1 : Sl) (n2_0 : Int) (n2_1 : Int) (x2_2 : Sl) (v : World) (Q : Value → World → Prop) (h : vc74 x0_0 x0_1 x_1 n2_0 n2_1 x2_2 v Q) : Trip Tryz.prog 74 #[.agg #[x0_0.val, x0_1.val], x_1.val, .agg #[.int .i64 n2_0, .int .i64 n2_1, x2_2.val]] v Q :=
 trip_of_eq (args := [.ag [.sl x0_0, .sl x0_1], .sl x_1, .ag [.num .i64 n2_0, .num .i64 n2_1, .sl x2_2]]) (A := ⟨[], [], [(19, [15]), (25, [3, 4])], [], psG⟩) Tryz.func74 (by kernel_rfl) (by kernel_rfl) (by kernel_rfl : vc74 x0_0 x0_1 x_1 n2_0 n2_1 x2_2 v Q = _) h

def vc75 (n0_0 : Int) (n0_1 : Int) (x0_2 : Sl) (v : World) (Q : Value → World → Prop) : Prop :=
 ((decide ((x0_2.n : Int) = 0)) = true →
 ∃ s1 : ByteArray, (Trip Tryz.prog 77 #[.int .i64 n0_0] v fun r2 w3 => r2 = .string s1 ∧ Sub v w3) ∧
 (((ByteArray.mk #[97, 114, 114, 111, 119, 32]).size + s1.size : Nat) : Int) ≤ 9223372036854775807 ∧
 ((((ByteArray.mk #[97, 114, 114, 111, 119, 32]) ++ s1).size + (ByteArray.mk #[32]).size : Nat) : Int) ≤ 9223372036854775807 ∧
 ∃ s4 : ByteArray, (Trip Tryz.prog 77 #[.int .i64 n0_1] v fun r5 w6 => r5 = .string s4 ∧ Sub v w6) ∧
 (((((ByteArray.mk #[97, 114, 114, 111, 119, 32]) ++ s1) ++ (ByteArray.mk #[32])).size + s4.size : Nat) : Int) ≤ 9223372036854775807 ∧
 ((((((ByteArray.mk #[97, 114, 114, 111, 119, 32]) ++ s1) ++ (ByteArray.mk #[32])) ++ s4).size + (ByteArray.mk #[10]).size : Nat) : Int) ≤ 9223372036854775807 ∧
 Q (.string (((((ByteArray.mk #[97, 114, 114, 111, 119, 32]) ++ s1) ++ (ByteArray.mk #[32])) ++ s4) ++ (ByteArray.mk #[10]))) v) ∧
 ((decide ((x0_2.n : Int) = 0)) = false →
 ∃ I7 : ByteArray → Int → World → Prop, ∃ m8 : ByteArray → Int → World → Nat, I7 (ByteArray.mk #[100, 97, 116, 97]) 0 v ∧
 ∀ s9 : ByteArray, ∀ n10 : Int, ∀ w11 : World, I7 s9 n10 w11 →
 ((decide (n10 < (x0_2.n : Int))) = true →
 ((s9.size + (ByteArray.mk #[32]).size : Nat) : Int) ≤ 9223372036854775807 ∧
 IxOk x0_2 n10 ∧
 ∃ x12 : Sl, w11.cell? ((elA x0_2 n10 1).add 0) = some (x12.val) ∧
 ∃ s13 : ByteArray, (Trip Tryz.prog 76 #[x12.val] w11 fun r14 w15 => r14 = .string s13 ∧ Sub w11 w15) ∧
 (((s9 ++ (ByteArray.mk #[32])).size + s13.size : Nat) : Int) ≤ 9223372036854775807 ∧
 ∃ n16 : Int, Wr .i64 (n10 + 1) n16 ∧
 eqS (.num .i64 n0_0) ∧
 eqS (.num .i64 n0_1) ∧
 eqS (.sl x0_2) ∧
 I7 ((s9 ++ (ByteArray.mk #[32])) ++ s13) n16 w11 ∧
 m8 ((s9 ++ (ByteArray.mk #[32])) ++ s13) n16 w11 < m8 s9 n10 w11) ∧
 ((decide (n10 < (x0_2.n : Int))) = false →
 ((s9.size + (ByteArray.mk #[10]).size : Nat) : Int) ≤ 9223372036854775807 ∧
 Q (.string (s9 ++ (ByteArray.mk #[10]))) w11))
theorem of75 (n0_0 : Int) (n0_1 : Int) (x0_2 : Sl) (v : World) (Q : Value → World → Prop) (h : vc75 n0_0 n0_1 x0_2 v Q) : Trip Tryz.prog 75 #[.agg #[.int .i64 n0_0, .int .i64 n0_1, x0_2.val]] v Q :=
 trip_of_eq (args := [.ag [.num .i64 n0_0, .num .i64 n0_1, .sl x0_2]]) (A := ⟨[(5, [(3, .str), (4, .int .i64)], [])], [], [], [], psG⟩) Tryz.func75 (by kernel_rfl) (by kernel_rfl) (by kernel_rfl : vc75 n0_0 n0_1 x0_2 v Q = _) h

def vc76 (x_0 : Sl) (v : World) (Q : Value → World → Prop) : Prop :=
 ∃ I1 : ByteArray → Int → World → Prop, ∃ m2 : ByteArray → Int → World → Nat, I1 (ByteArray.mk #[40]) 0 v ∧
 ∀ s3 : ByteArray, ∀ n4 : Int, ∀ w5 : World, I1 s3 n4 w5 →
 ((decide (n4 < (x_0.n : Int))) = true →
 ((decide (n4 > 0)) = true →
 ((s3.size + (ByteArray.mk #[44]).size : Nat) : Int) ≤ 9223372036854775807 ∧
 IxOk x_0 n4 ∧
 ∃ n6 : Int, w5.cell? ((elA x_0 n4 1).add 0) = some (.int .i64 n6) ∧
 ∃ s7 : ByteArray, (Trip Tryz.prog 77 #[.int .i64 n6] w5 fun r8 w9 => r8 = .string s7 ∧ Sub w5 w9) ∧
 (((s3 ++ (ByteArray.mk #[44])).size + s7.size : Nat) : Int) ≤ 9223372036854775807 ∧
 ∃ n10 : Int, Wr .i64 (n4 + 1) n10 ∧
 I1 ((s3 ++ (ByteArray.mk #[44])) ++ s7) n10 w5 ∧
 m2 ((s3 ++ (ByteArray.mk #[44])) ++ s7) n10 w5 < m2 s3 n4 w5) ∧
 ((decide (n4 > 0)) = false →
 IxOk x_0 n4 ∧
 ∃ n11 : Int, w5.cell? ((elA x_0 n4 1).add 0) = some (.int .i64 n11) ∧
 ∃ s12 : ByteArray, (Trip Tryz.prog 77 #[.int .i64 n11] w5 fun r13 w14 => r13 = .string s12 ∧ Sub w5 w14) ∧
 ((s3.size + s12.size : Nat) : Int) ≤ 9223372036854775807 ∧
 ∃ n15 : Int, Wr .i64 (n4 + 1) n15 ∧
 I1 (s3 ++ s12) n15 w5 ∧
 m2 (s3 ++ s12) n15 w5 < m2 s3 n4 w5)) ∧
 ((decide (n4 < (x_0.n : Int))) = false →
 ((s3.size + (ByteArray.mk #[41]).size : Nat) : Int) ≤ 9223372036854775807 ∧
 Q (.string (s3 ++ (ByteArray.mk #[41]))) w5)
theorem of76 (x_0 : Sl) (v : World) (Q : Value → World → Prop) (h : vc76 x_0 v Q) : Trip Tryz.prog 76 #[x_0.val] v Q :=
 trip_of_eq (args := [.sl x_0]) (A := ⟨[(3, [(3, .str), (4, .int .i64)], [])], [], [], [], psG⟩) Tryz.func76 (by kernel_rfl) (by kernel_rfl) (by kernel_rfl : vc76 x_0 v Q = _) h

def vc77 (n_0 : Int) (v : World) (Q : Value → World → Prop) : Prop :=
 ∃ n1 : Int, ((decide (n_0 < 0)) = true →
 Wr .i64 (0 - n_0) n1) ∧
 (((decide (n_0 < 0)) && (decide (n_0 = n1))) = true →
 Q (.string (ByteArray.mk #[45, 57, 50, 50, 51, 51, 55, 50, 48, 51, 54, 56, 53, 52, 55, 55, 53, 56, 48, 56])) v) ∧
 (((decide (n_0 < 0)) && (decide (n_0 = n1))) = false →
 ((decide (n_0 < 0)) = true →
 ∃ n2 : Int, Wr .i64 (0 - n_0) n2 ∧
 ∃ s3 : ByteArray, (Trip Tryz.prog 77 #[.int .i64 n2] v fun r4 w5 => r4 = .string s3 ∧ Sub v w5) ∧
 (((ByteArray.mk #[45]).size + s3.size : Nat) : Int) ≤ 9223372036854775807 ∧
 Q (.string ((ByteArray.mk #[45]) ++ s3)) v) ∧
 ((decide (n_0 < 0)) = false →
 ((decide (n_0 < 10)) = true →
 ∃ n6 : Int, Wr .i64 (n_0 + 1) n6 ∧
 StrOk (ByteArray.mk #[48, 49, 50, 51, 52, 53, 54, 55, 56, 57]) n_0 n6 ∧
 Q (.string (strCut (ByteArray.mk #[48, 49, 50, 51, 52, 53, 54, 55, 56, 57]) n_0 n6)) v) ∧
 ((decide (n_0 < 10)) = false →
 ∃ n7 : Int, ((10 : Int) ≠ 0 ∧ Wr .i64 (Int.tdiv n_0 10) n7) ∧
 ∃ s8 : ByteArray, (Trip Tryz.prog 77 #[.int .i64 n7] v fun r9 w10 => r9 = .string s8 ∧ Sub v w10) ∧
 (10 : Int) ≠ 0 ∧
 ∃ s11 : ByteArray, (Trip Tryz.prog 77 #[.int .i64 (Int.tmod n_0 10)] v fun r12 w13 => r12 = .string s11 ∧ Sub v w13) ∧
 ((s8.size + s11.size : Nat) : Int) ≤ 9223372036854775807 ∧
 Q (.string (s8 ++ s11)) v)))
theorem of77 (n_0 : Int) (v : World) (Q : Value → World → Prop) (h : vc77 n_0 v Q) : Trip Tryz.prog 77 #[.int .i64 n_0] v Q :=
 trip_of_eq (args := [.num .i64 n_0]) (A := ⟨[], [], [], [], psG⟩) Tryz.func77 (by kernel_rfl) (by kernel_rfl) (by kernel_rfl : vc77 n_0 v Q = _) h

def vc83 (n0_0 : Int) (n0_1 : Int) (x0_2 : Sl) (n1_0 : Int) (n1_1 : Int) (x1_2 : Sl) (v : World) (Q : Value → World → Prop) : Prop :=
 ((!decide (n0_0 = n1_0)) = true →
 Q (.bool false) v) ∧
 ((!decide (n0_0 = n1_0)) = false →
 ((!decide (n0_1 = n1_1)) = true →
 Q (.bool false) v) ∧
 ((!decide (n0_1 = n1_1)) = false →
 ∃ q1 : Bool, (Trip Tryz.prog 146 #[x0_2.val, x1_2.val] v fun r2 w3 => r2 = .bool q1 ∧ Sub v w3) ∧
 ((!q1) = true →
 Q (.bool false) v) ∧
 ((!q1) = false →
 Q (.bool true) v)))
theorem of83 (n0_0 : Int) (n0_1 : Int) (x0_2 : Sl) (n1_0 : Int) (n1_1 : Int) (x1_2 : Sl) (v : World) (Q : Value → World → Prop) (h : vc83 n0_0 n0_1 x0_2 n1_0 n1_1 x1_2 v Q) : Trip Tryz.prog 83 #[.agg #[.int .i64 n0_0, .int .i64 n0_1, x0_2.val], .agg #[.int .i64 n1_0, .int .i64 n1_1, x1_2.val]] v Q :=
 trip_of_eq (args := [.ag [.num .i64 n0_0, .num .i64 n0_1, .sl x0_2], .ag [.num .i64 n1_0, .num .i64 n1_1, .sl x1_2]]) (A := ⟨[], [], [], [], psG⟩) Tryz.func83 (by kernel_rfl) (by kernel_rfl) (by kernel_rfl : vc83 n0_0 n0_1 x0_2 n1_0 n1_1 x1_2 v Q = _) h

def vc84 (x0_0 : Sl) (n0_1 : Int) (n0_2 : Int) (n0_3 : Int) (x0_4 : Sl) (x1_0 : Sl) (n1_1 : Int) (n1_2 : Int) (n1_3 : Int) (x1_4 : Sl) (v : World) (Q : Value → World → Prop) : Prop :=
 ∃ q1 : Bool, (Trip Tryz.prog 147 #[x0_0.val, x1_0.val] v fun r2 w3 => r2 = .bool q1 ∧ Sub v w3) ∧
 ((!q1) = true →
 Q (.bool false) v) ∧
 ((!q1) = false →
 ((!decide (n0_1 = n1_1)) = true →
 Q (.bool false) v) ∧
 ((!decide (n0_1 = n1_1)) = false →
 ∃ q4 : Bool, (Trip Tryz.prog 148 #[.agg #[.int .i64 n0_2, .int .i64 n0_3, x0_4.val], .agg #[.int .i64 n1_2, .int .i64 n1_3, x1_4.val]] v fun r5 w6 => r5 = .bool q4 ∧ Sub v w6) ∧
 ((!q4) = true →
 Q (.bool false) v) ∧
 ((!q4) = false →
 Q (.bool true) v)))
theorem of84 (x0_0 : Sl) (n0_1 : Int) (n0_2 : Int) (n0_3 : Int) (x0_4 : Sl) (x1_0 : Sl) (n1_1 : Int) (n1_2 : Int) (n1_3 : Int) (x1_4 : Sl) (v : World) (Q : Value → World → Prop) (h : vc84 x0_0 n0_1 n0_2 n0_3 x0_4 x1_0 n1_1 n1_2 n1_3 x1_4 v Q) : Trip Tryz.prog 84 #[.agg #[x0_0.val, .int .i64 n0_1, .int .i64 n0_2, .int .i64 n0_3, x0_4.val], .agg #[x1_0.val, .int .i64 n1_1, .int .i64 n1_2, .int .i64 n1_3, x1_4.val]] v Q :=
 trip_of_eq (args := [.ag [.sl x0_0, .num .i64 n0_1, .num .i64 n0_2, .num .i64 n0_3, .sl x0_4], .ag [.sl x1_0, .num .i64 n1_1, .num .i64 n1_2, .num .i64 n1_3, .sl x1_4]]) (A := ⟨[], [], [], [], psG⟩) Tryz.func84 (by kernel_rfl) (by kernel_rfl) (by kernel_rfl : vc84 x0_0 n0_1 n0_2 n0_3 x0_4 x1_0 n1_1 n1_2 n1_3 x1_4 v Q = _) h

def vc85 (a_0 : Addr) (s_1 : ByteArray) (v : World) (Q : Value → World → Prop) : Prop :=
 ∃ n1 : Int, v.cell? (a_0.add 1) = some (.int .i64 n1) ∧
 ∃ n2 : Int, Wr .i64 (n1 + (s_1.size : Int)) n2 ∧
 ∃ s3 : ByteArray, v.cell? (a_0.add 0) = some (.string s3) ∧
 ∃ s4 : ByteArray, ((decide (n2 ≤ (s3.size : Int))) = true →
 v.cell? (a_0.add 0) = some (.string s4)) ∧
 ∃ n5 : Int, ((decide (n2 ≤ (s3.size : Int))) = true →
 v.cell? (a_0.add 1) = some (.int .i64 n5)) ∧
 ∃ n6 : Int, ((decide (n2 ≤ (s3.size : Int))) = true →
 v.cell? (a_0.add 1) = some (.int .i64 n6)) ∧
 ∃ n7 : Int, ((decide (n2 ≤ (s3.size : Int))) = true →
 Wr .i64 (n6 + (s_1.size : Int)) n7) ∧
 ((decide (n2 ≤ (s3.size : Int))) = true →
 StrOk s4 n5 n7) ∧
 Q (.bool ((decide (n2 ≤ (s3.size : Int))) && ((strCut s4 n5 n7).toList == s_1.toList))) v
theorem of85 (a_0 : Addr) (s_1 : ByteArray) (v : World) (Q : Value → World → Prop) (h : vc85 a_0 s_1 v Q) : Trip Tryz.prog 85 #[.pointer (some (a_0.add 0)), .string s_1] v Q :=
 trip_of_eq (args := [.pt a_0 0, .st s_1]) (A := ⟨[], [], [], [], psG⟩) Tryz.func85 (by kernel_rfl) (by kernel_rfl) (by kernel_rfl : vc85 a_0 s_1 v Q = _) h

def vc86 (a_0 : Addr) (s_1 : ByteArray) (v : World) (Q : Value → World → Prop) : Prop :=
 ∃ n1 : Int, v.cell? (a_0.add 1) = some (.int .i64 n1) ∧
 ∃ n2 : Int, Wr .i64 (n1 + (s_1.size : Int)) n2 ∧
 ∃ s3 : ByteArray, v.cell? (a_0.add 0) = some (.string s3) ∧
 ∃ s4 : ByteArray, ((decide (n2 > (s3.size : Int))) = false →
 v.cell? (a_0.add 0) = some (.string s4)) ∧
 ∃ n5 : Int, ((decide (n2 > (s3.size : Int))) = false →
 v.cell? (a_0.add 1) = some (.int .i64 n5)) ∧
 ∃ n6 : Int, ((decide (n2 > (s3.size : Int))) = false →
 v.cell? (a_0.add 1) = some (.int .i64 n6)) ∧
 ∃ n7 : Int, ((decide (n2 > (s3.size : Int))) = false →
 Wr .i64 (n6 + (s_1.size : Int)) n7) ∧
 ((decide (n2 > (s3.size : Int))) = false →
 StrOk s4 n5 n7) ∧
 (((decide (n2 > (s3.size : Int))) || (!((strCut s4 n5 n7).toList == s_1.toList))) = true →
 StoreAt v a_0 3 [.bool true] fun w8 =>
 Q (.tuple #[]) w8) ∧
 (((decide (n2 > (s3.size : Int))) || (!((strCut s4 n5 n7).toList == s_1.toList))) = false →
 ∃ n9 : Int, v.cell? (a_0.add 1) = some (.int .i64 n9) ∧
 ∃ n10 : Int, Wr .i64 (n9 + (s_1.size : Int)) n10 ∧
 StoreAt v a_0 1 [.int .i64 n10] fun w11 =>
 Q (.tuple #[]) w11)
theorem of86 (a_0 : Addr) (s_1 : ByteArray) (v : World) (Q : Value → World → Prop) (h : vc86 a_0 s_1 v Q) : Trip Tryz.prog 86 #[.pointer (some (a_0.add 0)), .string s_1] v Q :=
 trip_of_eq (args := [.pt a_0 0, .st s_1]) (A := ⟨[], [], [], [], psG⟩) Tryz.func86 (by kernel_rfl) (by kernel_rfl) (by kernel_rfl : vc86 a_0 s_1 v Q = _) h

def vc87 (a_0 : Addr) (v : World) (Q : Value → World → Prop) : Prop :=
 ∃ I1 : Int → Int → World → Prop, ∃ m2 : Int → Int → World → Nat, I1 0 0 v ∧
 ∀ n3 : Int, ∀ n4 : Int, ∀ w5 : World, I1 n3 n4 w5 →
 ∃ n6 : Int, (Trip Tryz.prog 43 #[.pointer (some (a_0.add 0))] w5 fun r7 w8 => r7 = .int .i64 n6 ∧ Sub w5 w8) ∧
 ∃ q9 : Bool, (Trip Tryz.prog 107 #[.int .i64 n6, .int .i64 48, .int .i64 57] w5 fun r10 w11 => r10 = .bool q9 ∧ Sub w5 w11) ∧
 ((q9 && (decide (n4 < 4))) = true →
 ∃ n12 : Int, Wr .i64 (n3 * 10) n12 ∧
 ∃ n13 : Int, (Trip Tryz.prog 43 #[.pointer (some (a_0.add 0))] w5 fun r14 w15 => r14 = .int .i64 n13 ∧ Sub w5 w15) ∧
 ∃ n16 : Int, Wr .i64 (n12 + n13) n16 ∧
 ∃ n17 : Int, Wr .i64 (n16 - 48) n17 ∧
 ∃ n18 : Int, w5.cell? (a_0.add 1) = some (.int .i64 n18) ∧
 ∃ n19 : Int, Wr .i64 (n18 + 1) n19 ∧
 StoreAt w5 a_0 1 [.int .i64 n19] fun w20 =>
 ∃ n21 : Int, Wr .i64 (n4 + 1) n21 ∧
 I1 n17 n21 w20 ∧
 m2 n17 n21 w20 < m2 n3 n4 w5) ∧
 ((q9 && (decide (n4 < 4))) = false →
 (((decide (n4 = 0)) || (decide (n4 > 3))) = true →
 StoreAt w5 a_0 3 [.bool true] fun w22 =>
 Q (.int .i64 n3) w22) ∧
 (((decide (n4 = 0)) || (decide (n4 > 3))) = false →
 Q (.int .i64 n3) w5))
theorem of87 (a_0 : Addr) (v : World) (Q : Value → World → Prop) (h : vc87 a_0 v Q) : Trip Tryz.prog 87 #[.pointer (some (a_0.add 0))] v Q :=
 trip_of_eq (args := [.pt a_0 0]) (A := ⟨[(3, [(3, .int .i64), (4, .int .i64)], [])], [], [], [], psG⟩) Tryz.func87 (by kernel_rfl) (by kernel_rfl) (by kernel_rfl : vc87 a_0 v Q = _) h

def vc88 (a_0 : Addr) (v : World) (Q : Value → World → Prop) : Prop :=
 StepT Tryz.prog (Instr.buildSlice 68 0 #[]) v fun r1 w2 =>
 ∃ x3 : Sl, r1 = x3.val ∧
 Trip Tryz.prog 86 #[.pointer (some (a_0.add 0)), .string (ByteArray.mk #[40])] w2 fun r4 w5 =>
 r4 = .tuple #[] ∧
 ∃ I6 : Sl → World → Prop, ∃ m7 : Sl → World → Nat, I6 x3 w5 ∧
 ∀ x8 : Sl, ∀ w9 : World, I6 x8 w9 →
 ∃ q10 : Bool, w9.cell? (a_0.add 3) = some (.bool q10) ∧
 ∃ n11 : Int, ((!q10) = true →
 (Trip Tryz.prog 43 #[.pointer (some (a_0.add 0))] w9 fun r12 w13 => r12 = .int .i64 n11 ∧ Sub w9 w13)) ∧
 (((!q10) && (!decide (n11 = 41))) = true →
 ((decide ((x8.n : Int) > 0)) = true →
 Trip Tryz.prog 86 #[.pointer (some (a_0.add 0)), .string (ByteArray.mk #[44])] w9 fun r14 w15 =>
 r14 = .tuple #[] ∧
 Trip Tryz.prog 87 #[.pointer (some (a_0.add 0))] w15 fun r16 w17 =>
 ∃ n18 : Int, r16 = .int .i64 n18 ∧
 StepT Tryz.prog (Instr.buildSlice 68 1 #[(0, (.int .i64 n18))]) w17 fun r19 w20 =>
 ∃ x21 : Sl, r19 = x21.val ∧
 StepT Tryz.prog (Builtin.append_ #[68, 68] 68 #[(x8.val), (x21.val)]) w20 fun r22 w23 =>
 ∃ x24 : Sl, r22 = x24.val ∧
 I6 x24 w23 ∧
 m7 x24 w23 < m7 x8 w9) ∧
 ((decide ((x8.n : Int) > 0)) = false →
 Trip Tryz.prog 87 #[.pointer (some (a_0.add 0))] w9 fun r25 w26 =>
 ∃ n27 : Int, r25 = .int .i64 n27 ∧
 StepT Tryz.prog (Instr.buildSlice 68 1 #[(0, (.int .i64 n27))]) w26 fun r28 w29 =>
 ∃ x30 : Sl, r28 = x30.val ∧
 StepT Tryz.prog (Builtin.append_ #[68, 68] 68 #[(x8.val), (x30.val)]) w29 fun r31 w32 =>
 ∃ x33 : Sl, r31 = x33.val ∧
 I6 x33 w32 ∧
 m7 x33 w32 < m7 x8 w9)) ∧
 (((!q10) && (!decide (n11 = 41))) = false →
 Trip Tryz.prog 86 #[.pointer (some (a_0.add 0)), .string (ByteArray.mk #[41])] w9 fun r34 w35 =>
 r34 = .tuple #[] ∧
 Q (x8.val) w35)
theorem of88 (a_0 : Addr) (v : World) (Q : Value → World → Prop) (h : vc88 a_0 v Q) : Trip Tryz.prog 88 #[.pointer (some (a_0.add 0))] v Q :=
 trip_of_eq (args := [.pt a_0 0]) (A := ⟨[(3, [(3, .sl)], [])], [], [], [], psG⟩) Tryz.func88 (by kernel_rfl) (by kernel_rfl) (by kernel_rfl : vc88 a_0 v Q = _) h

def vc91 (a_0 : Addr) (x_1 : Sl) (v : World) (Q : Value → World → Prop) : Prop :=
 ∃ I1 : Int → Sl → World → Prop, ∃ m2 : Int → Sl → World → Nat, I1 0 (Sl.mk none 0 0) v ∧
 ∀ n3 : Int, ∀ x4 : Sl, ∀ w5 : World, I1 n3 x4 w5 →
 ((decide (n3 < (x_1.n : Int))) = true →
 IxOk x_1 n3 ∧
 ∃ s6 : ByteArray, w5.cell? ((elA x_1 n3 1).add 0) = some (.string s6) ∧
 Trip Tryz.prog 94 #[.string s6] w5 fun r7 w8 =>
 ∃ x9 : Sl, ∃ q10 : Bool, r7 = .tuple #[x9.val, .bool q10] ∧
 ((!q10) = true →
 Q (.bool false) w8) ∧
 ((!q10) = false →
 StepT Tryz.prog (Instr.buildSlice 60 1 #[(0, (.agg #[x9.val]))]) w8 fun r11 w12 =>
 ∃ x13 : Sl, r11 = x13.val ∧
 StepT Tryz.prog (Builtin.append_ #[60, 60] 60 #[(x4.val), (x13.val)]) w12 fun r14 w15 =>
 ∃ x16 : Sl, r14 = x16.val ∧
 ∃ n17 : Int, Wr .i64 (n3 + 1) n17 ∧
 eqS (.num .i64 0) ∧
 eqS (.num .i64 0) ∧
 I1 n17 x16 w15 ∧
 m2 n17 x16 w15 < m2 n3 x4 w5)) ∧
 ((decide (n3 < (x_1.n : Int))) = false →
 ∃ x18 : Sl, w5.cell? (a_0.add 0) = some (x18.val) ∧
 StepT Tryz.prog (Instr.buildSlice 28 1 #[(0, (.agg #[.int .i64 0, .int .i64 0, x4.val]))]) w5 fun r19 w20 =>
 ∃ x21 : Sl, r19 = x21.val ∧
 Sub w5 w20 ∧
 StepT Tryz.prog (Builtin.append_ #[28, 28] 28 #[(x18.val), (x21.val)]) w20 fun r22 w23 =>
 ∃ x24 : Sl, r22 = x24.val ∧
 StoreAt w23 a_0 0 [x24.val] fun w25 =>
 Q (.bool true) w25)
theorem of91 (a_0 : Addr) (x_1 : Sl) (v : World) (Q : Value → World → Prop) (h : vc91 a_0 x_1 v Q) : Trip Tryz.prog 91 #[.pointer (some (a_0.add 0)), x_1.val] v Q :=
 trip_of_eq (args := [.pt a_0 0, .sl x_1]) (A := ⟨[(3, [(12, .int .i64)], [(0, 2, .sl)])], [], [(10, [6])], [], psG⟩) Tryz.func91 (by kernel_rfl) (by kernel_rfl) (by kernel_rfl : vc91 a_0 x_1 v Q = _) h

def vc94 (s_0 : ByteArray) (v : World) (Q : Value → World → Prop) : Prop :=
 ((decide ((s_0.size : Int) < 2)) = true →
 Q (.tuple #[.slice none 0 0, .bool false]) v) ∧
 ((decide ((s_0.size : Int) < 2)) = false →
 ∃ n1 : Int, Wr .i64 ((s_0.size : Int) - 1) n1 ∧
 StrOk s_0 1 n1 ∧
 (((strCut s_0 1 n1).toList == (ByteArray.mk #[]).toList) = true →
 Q (.tuple #[.slice none 0 0, .bool true]) v) ∧
 (((strCut s_0 1 n1).toList == (ByteArray.mk #[]).toList) = false →
 Trip Tryz.prog 92 #[.string (strCut s_0 1 n1), .string (ByteArray.mk #[44])] v fun r2 w3 =>
 ∃ x4 : Sl, r2 = x4.val ∧
 ∃ I5 : Sl → Int → World → Prop, ∃ m6 : Sl → Int → World → Nat, I5 (Sl.mk none 0 0) 0 w3 ∧
 ∀ x7 : Sl, ∀ n8 : Int, ∀ w9 : World, I5 x7 n8 w9 →
 ((decide (n8 < (x4.n : Int))) = true →
 IxOk x4 n8 ∧
 ∃ s10 : ByteArray, w9.cell? ((elA x4 n8 1).add 0) = some (.string s10) ∧
 Trip Tryz.prog 93 #[.string s10] w9 fun r11 w12 =>
 ∃ n13 : Int, ∃ y14 : Vl, r11 = .tuple #[.int .i64 n13, y14.x] ∧
 ∃ q15 : Bool, PureT Tryz.prog (do eqGuard .neq 64 (.tmp 32) (.const (.nilIface)) (y14.x) ((Vl.mk Value.nilIface rfl).x); binOp .neq 64 (y14.x) ((Vl.mk Value.nilIface rfl).x)) w12 (.bool q15) ∧
 (q15 = true →
 Q (.tuple #[.slice none 0 0, .bool false]) w12) ∧
 (q15 = false →
 StepT Tryz.prog (Instr.buildSlice 68 1 #[(0, (.int .i64 n13))]) w12 fun r16 w17 =>
 ∃ x18 : Sl, r16 = x18.val ∧
 StepT Tryz.prog (Builtin.append_ #[68, 68] 68 #[(x7.val), (x18.val)]) w17 fun r19 w20 =>
 ∃ x21 : Sl, r19 = x21.val ∧
 ∃ n22 : Int, Wr .i64 (n8 + 1) n22 ∧
 I5 x21 n22 w20 ∧
 m6 x21 n22 w20 < m6 x7 n8 w9)) ∧
 ((decide (n8 < (x4.n : Int))) = false →
 Q (.tuple #[x7.val, .bool true]) w9)))
theorem of94 (s_0 : ByteArray) (v : World) (Q : Value → World → Prop) (h : vc94 s_0 v Q) : Trip Tryz.prog 94 #[.string s_0] v Q :=
 trip_of_eq (args := [.st s_0]) (A := ⟨[(8, [(5, .sl), (23, .int .i64)], [])], [], [], [], psG⟩) Tryz.func94 (by kernel_rfl) (by kernel_rfl) (by kernel_rfl : vc94 s_0 v Q = _) h

def vc96 (x_0 : Sl) (n_1 : Int) (v : World) (Q : Value → World → Prop) : Prop :=
 ∃ I1 : Int → Int → World → Prop, ∃ m2 : Int → Int → World → Nat, I1 n_1 0 v ∧
 ∀ n3 : Int, ∀ n4 : Int, ∀ w5 : World, I1 n3 n4 w5 →
 ((decide (n4 < (x_0.n : Int))) = true →
 IxOk x_0 n4 ∧
 ∃ x6 : Sl, w5.cell? ((elA x_0 n4 1).add 0) = some (x6.val) ∧
 Trip Tryz.prog 97 #[x6.val, .int .i64 n3] w5 fun r7 w8 =>
 ∃ n9 : Int, r7 = .int .i64 n9 ∧
 ∃ n10 : Int, Wr .i64 (n4 + 1) n10 ∧
 I1 n9 n10 w8 ∧
 m2 n9 n10 w8 < m2 n3 n4 w5) ∧
 ((decide (n4 < (x_0.n : Int))) = false →
 Q (.int .i64 n3) w5)
theorem of96 (x_0 : Sl) (n_1 : Int) (v : World) (Q : Value → World → Prop) (h : vc96 x_0 n_1 v Q) : Trip Tryz.prog 96 #[x_0.val, .int .i64 n_1] v Q :=
 trip_of_eq (args := [.sl x_0, .num .i64 n_1]) (A := ⟨[(2, [(1, .int .i64), (5, .int .i64)], [])], [], [], [], psG⟩) Tryz.func96 (by kernel_rfl) (by kernel_rfl) (by kernel_rfl : vc96 x_0 n_1 v Q = _) h

def vc97 (x_0 : Sl) (n_1 : Int) (v : World) (Q : Value → World → Prop) : Prop :=
 ∃ I1 : Int → Int → World → Prop, ∃ m2 : Int → Int → World → Nat, I1 n_1 0 v ∧
 ∀ n3 : Int, ∀ n4 : Int, ∀ w5 : World, I1 n3 n4 w5 →
 ((decide (n4 < (x_0.n : Int))) = true →
 IxOk x_0 n4 ∧
 StoreAt w5 (elA x_0 n4 1) 0 [.int .i64 n3] fun w6 =>
 ∃ n7 : Int, Wr .i64 (n3 + 1) n7 ∧
 ∃ n8 : Int, Wr .i64 (n4 + 1) n8 ∧
 I1 n7 n8 w6 ∧
 m2 n7 n8 w6 < m2 n3 n4 w5) ∧
 ((decide (n4 < (x_0.n : Int))) = false →
 Q (.int .i64 n3) w5)
theorem of97 (x_0 : Sl) (n_1 : Int) (v : World) (Q : Value → World → Prop) (h : vc97 x_0 n_1 v Q) : Trip Tryz.prog 97 #[x_0.val, .int .i64 n_1] v Q :=
 trip_of_eq (args := [.sl x_0, .num .i64 n_1]) (A := ⟨[(2, [(1, .int .i64), (5, .int .i64)], [])], [], [], [], psG⟩) Tryz.func97 (by kernel_rfl) (by kernel_rfl) (by kernel_rfl : vc97 x_0 n_1 v Q = _) h

def vc98 (x_0 : Sl) (n_1 : Int) (v : World) (Q : Value → World → Prop) : Prop :=
 ∃ I1 : Int → Int → World → Prop, ∃ m2 : Int → Int → World → Nat, I1 n_1 0 v ∧
 ∀ n3 : Int, ∀ n4 : Int, ∀ w5 : World, I1 n3 n4 w5 →
 ((decide (n4 < (x_0.n : Int))) = true →
 IxOk x_0 n4 ∧
 StoreAt w5 (elA x_0 n4 3) 0 [.int .i64 n3] fun w6 =>
 ∃ n7 : Int, Wr .i64 (n3 + 1) n7 ∧
 IxOk x_0 n4 ∧
 StoreAt w6 (elA x_0 n4 3) 1 [.int .i64 n7] fun w8 =>
 ∃ n9 : Int, Wr .i64 (n7 + 1) n9 ∧
 IxOk x_0 n4 ∧
 ∃ x10 : Sl, w8.cell? ((elA x_0 n4 3).add 2) = some (x10.val) ∧
 Trip Tryz.prog 98 #[x10.val, .int .i64 n9] w8 fun r11 w12 =>
 ∃ n13 : Int, r11 = .int .i64 n13 ∧
 ∃ n14 : Int, Wr .i64 (n4 + 1) n14 ∧
 I1 n13 n14 w12 ∧
 m2 n13 n14 w12 < m2 n3 n4 w5) ∧
 ((decide (n4 < (x_0.n : Int))) = false →
 Q (.int .i64 n3) w5)
theorem of98 (x_0 : Sl) (n_1 : Int) (v : World) (Q : Value → World → Prop) (h : vc98 x_0 n_1 v Q) : Trip Tryz.prog 98 #[x_0.val, .int .i64 n_1] v Q :=
 trip_of_eq (args := [.sl x_0, .num .i64 n_1]) (A := ⟨[(2, [(1, .int .i64), (5, .int .i64)], [])], [], [], [], psG⟩) Tryz.func98 (by kernel_rfl) (by kernel_rfl) (by kernel_rfl : vc98 x_0 n_1 v Q = _) h

def vc99 (x_0 : Sl) (n_1 : Int) (v : World) (Q : Value → World → Prop) : Prop :=
 ∃ I1 : Int → Int → World → Prop, ∃ m2 : Int → Int → World → Nat, I1 n_1 0 v ∧
 ∀ n3 : Int, ∀ n4 : Int, ∀ w5 : World, I1 n3 n4 w5 →
 ((decide (n4 < (x_0.n : Int))) = true →
 IxOk x_0 n4 ∧
 ∃ x6 : Sl, w5.cell? ((elA x_0 n4 1).add 0) = some (x6.val) ∧
 ∃ n7 : Int, (Trip Tryz.prog 100 #[x6.val, .int .i64 n3] w5 fun r8 w9 => r8 = .int .i64 n7 ∧ Sub w5 w9) ∧
 ((decide (n7 < 0)) = true →
 Q (.int .i64 (-1)) w5) ∧
 ((decide (n7 < 0)) = false →
 ∃ n10 : Int, Wr .i64 (n4 + 1) n10 ∧
 I1 n7 n10 w5 ∧
 m2 n7 n10 w5 < m2 n3 n4 w5)) ∧
 ((decide (n4 < (x_0.n : Int))) = false →
 Q (.int .i64 n3) w5)
theorem of99 (x_0 : Sl) (n_1 : Int) (v : World) (Q : Value → World → Prop) (h : vc99 x_0 n_1 v Q) : Trip Tryz.prog 99 #[x_0.val, .int .i64 n_1] v Q :=
 trip_of_eq (args := [.sl x_0, .num .i64 n_1]) (A := ⟨[(2, [(1, .int .i64), (5, .int .i64)], [])], [], [], [], psG⟩) Tryz.func99 (by kernel_rfl) (by kernel_rfl) (by kernel_rfl : vc99 x_0 n_1 v Q = _) h

def vc100 (x_0 : Sl) (n_1 : Int) (v : World) (Q : Value → World → Prop) : Prop :=
 ∃ I1 : Int → Int → World → Prop, ∃ m2 : Int → Int → World → Nat, I1 n_1 0 v ∧
 ∀ n3 : Int, ∀ n4 : Int, ∀ w5 : World, I1 n3 n4 w5 →
 ((decide (n4 < (x_0.n : Int))) = true →
 IxOk x_0 n4 ∧
 ∃ n6 : Int, w5.cell? ((elA x_0 n4 1).add 0) = some (.int .i64 n6) ∧
 ((!decide (n6 = n3)) = true →
 Q (.int .i64 (-1)) w5) ∧
 ((!decide (n6 = n3)) = false →
 ∃ n7 : Int, Wr .i64 (n3 + 1) n7 ∧
 ∃ n8 : Int, Wr .i64 (n4 + 1) n8 ∧
 I1 n7 n8 w5 ∧
 m2 n7 n8 w5 < m2 n3 n4 w5)) ∧
 ((decide (n4 < (x_0.n : Int))) = false →
 Q (.int .i64 n3) w5)
theorem of100 (x_0 : Sl) (n_1 : Int) (v : World) (Q : Value → World → Prop) (h : vc100 x_0 n_1 v Q) : Trip Tryz.prog 100 #[x_0.val, .int .i64 n_1] v Q :=
 trip_of_eq (args := [.sl x_0, .num .i64 n_1]) (A := ⟨[(2, [(1, .int .i64), (5, .int .i64)], [])], [], [], [], psG⟩) Tryz.func100 (by kernel_rfl) (by kernel_rfl) (by kernel_rfl : vc100 x_0 n_1 v Q = _) h

def vc101 (x_0 : Sl) (n_1 : Int) (v : World) (Q : Value → World → Prop) : Prop :=
 ∃ I1 : Int → Int → World → Prop, ∃ m2 : Int → Int → World → Nat, I1 n_1 0 v ∧
 ∀ n3 : Int, ∀ n4 : Int, ∀ w5 : World, I1 n3 n4 w5 →
 ((decide (n4 < (x_0.n : Int))) = true →
 IxOk x_0 n4 ∧
 ∃ n6 : Int, w5.cell? ((elA x_0 n4 3).add 0) = some (.int .i64 n6) ∧
 ((!decide (n6 = n3)) = true →
 Q (.int .i64 (-1)) w5) ∧
 ((!decide (n6 = n3)) = false →
 ∃ n7 : Int, Wr .i64 (n3 + 1) n7 ∧
 IxOk x_0 n4 ∧
 ∃ n8 : Int, w5.cell? ((elA x_0 n4 3).add 1) = some (.int .i64 n8) ∧
 ((!decide (n8 = n7)) = true →
 Q (.int .i64 (-1)) w5) ∧
 ((!decide (n8 = n7)) = false →
 ∃ n9 : Int, Wr .i64 (n7 + 1) n9 ∧
 IxOk x_0 n4 ∧
 ∃ x10 : Sl, w5.cell? ((elA x_0 n4 3).add 2) = some (x10.val) ∧
 ∃ n11 : Int, (Trip Tryz.prog 101 #[x10.val, .int .i64 n9] w5 fun r12 w13 => r12 = .int .i64 n11 ∧ Sub w5 w13) ∧
 ((decide (n11 < 0)) = true →
 Q (.int .i64 (-1)) w5) ∧
 ((decide (n11 < 0)) = false →
 ∃ n14 : Int, Wr .i64 (n4 + 1) n14 ∧
 I1 n11 n14 w5 ∧
 m2 n11 n14 w5 < m2 n3 n4 w5)))) ∧
 ((decide (n4 < (x_0.n : Int))) = false →
 Q (.int .i64 n3) w5)
theorem of101 (x_0 : Sl) (n_1 : Int) (v : World) (Q : Value → World → Prop) (h : vc101 x_0 n_1 v Q) : Trip Tryz.prog 101 #[x_0.val, .int .i64 n_1] v Q :=
 trip_of_eq (args := [.sl x_0, .num .i64 n_1]) (A := ⟨[(2, [(1, .int .i64), (5, .int .i64)], [])], [], [], [], psG⟩) Tryz.func101 (by kernel_rfl) (by kernel_rfl) (by kernel_rfl : vc101 x_0 n_1 v Q = _) h

def vc104 (n_0 : Int) (v : World) (Q : Value → World → Prop) : Prop :=
 Q (.bool ((decide (n_0 ≥ (-999))) && (decide (n_0 ≤ 999)))) v
theorem of104 (n_0 : Int) (v : World) (Q : Value → World → Prop) (h : vc104 n_0 v Q) : Trip Tryz.prog 104 #[.int .i64 n_0] v Q :=
 trip_of_eq (args := [.num .i64 n_0]) (A := ⟨[], [], [], [], psG⟩) Tryz.func104 (by kernel_rfl) (by kernel_rfl) (by kernel_rfl : vc104 n_0 v Q = _) h

def vc105 (n_0 : Int) (v : World) (Q : Value → World → Prop) : Prop :=
 ((decide (n_0 = 1)) = true →
 Q (.tuple #[.string (ByteArray.mk #[97, 100, 100]), .bool false]) v) ∧
 ((decide (n_0 = 1)) = false →
 ((decide (n_0 = 2)) = true →
 Q (.tuple #[.string (ByteArray.mk #[115, 117, 98]), .bool false]) v) ∧
 ((decide (n_0 = 2)) = false →
 ((decide (n_0 = 3)) = true →
 Q (.tuple #[.string (ByteArray.mk #[109, 117, 108]), .bool false]) v) ∧
 ((decide (n_0 = 3)) = false →
 ((decide (n_0 = 4)) = true →
 Q (.tuple #[.string (ByteArray.mk #[108, 101, 115, 115]), .bool false]) v) ∧
 ((decide (n_0 = 4)) = false →
 ((decide (n_0 = 5)) = true →
 Q (.tuple #[.string (ByteArray.mk #[112, 114, 105, 110, 116]), .bool false]) v) ∧
 ((decide (n_0 = 5)) = false →
 ((decide (n_0 = 6)) = true →
 Q (.tuple #[.string (ByteArray.mk #[99, 111, 110]), .bool true]) v) ∧
 ((decide (n_0 = 6)) = false →
 ((decide (n_0 = 7)) = true →
 Q (.tuple #[.string (ByteArray.mk #[105, 102]), .bool false]) v) ∧
 ((decide (n_0 = 7)) = false →
 ((decide (n_0 = 8)) = true →
 Q (.tuple #[.string (ByteArray.mk #[109, 97, 116, 99, 104]), .bool true]) v) ∧
 ((decide (n_0 = 8)) = false →
 ((decide (n_0 = 9)) = true →
 Q (.tuple #[.string (ByteArray.mk #[99, 97, 108, 108]), .bool true]) v) ∧
 ((decide (n_0 = 9)) = false →
 ((decide (n_0 = 10)) = true →
 Q (.tuple #[.string (ByteArray.mk #[99, 108, 111, 115, 101]), .bool true]) v) ∧
 ((decide (n_0 = 10)) = false →
 ((decide (n_0 = 11)) = true →
 Q (.tuple #[.string (ByteArray.mk #[97, 112, 112, 108, 121]), .bool false]) v) ∧
 ((decide (n_0 = 11)) = false →
 ((decide (n_0 = 13)) = true →
 Q (.tuple #[.string (ByteArray.mk #[108, 101, 116]), .bool false]) v) ∧
 ((decide (n_0 = 13)) = false →
 Q (.tuple #[.string (ByteArray.mk #[]), .bool false]) v))))))))))))
theorem of105 (n_0 : Int) (v : World) (Q : Value → World → Prop) (h : vc105 n_0 v Q) : Trip Tryz.prog 105 #[.int .i64 n_0] v Q :=
 trip_of_eq (args := [.num .i64 n_0]) (A := ⟨[], [], [], [], psG⟩) Tryz.func105 (by kernel_rfl) (by kernel_rfl) (by kernel_rfl : vc105 n_0 v Q = _) h

def vc106 (n0_0 : Int) (n0_1 : Int) (x0_2 : Sl) (n_1 : Int) (v : World) (Q : Value → World → Prop) : Prop :=
 ((decide (n_1 < 1)) = true →
 Q (.int .i64 (-1)) v) ∧
 ((decide (n_1 < 1)) = false →
 ∃ n1 : Int, Wr .i64 (n_1 - 1) n1 ∧
 ∃ I2 : Int → Int → World → Prop, ∃ m3 : Int → Int → World → Nat, I2 n1 0 v ∧
 ∀ n4 : Int, ∀ n5 : Int, ∀ w6 : World, I2 n4 n5 w6 →
 ((decide (n5 < (x0_2.n : Int))) = true →
 IxOk x0_2 n5 ∧
 ldT w6 x0_2 n5 fun n7 n8 x9 =>
 ∃ n10 : Int, (Trip Tryz.prog 106 #[.agg #[.int .i64 n7, .int .i64 n8, x9.val], .int .i64 n4] w6 fun r11 w12 => r11 = .int .i64 n10 ∧ Sub w6 w12) ∧
 ((decide (n10 < 0)) = true →
 Q (.int .i64 (-1)) w6) ∧
 ((decide (n10 < 0)) = false →
 ∃ n13 : Int, Wr .i64 (n5 + 1) n13 ∧
 eqS (.num .i64 n0_0) ∧
 eqS (.num .i64 n0_1) ∧
 eqS (.sl x0_2) ∧
 I2 n10 n13 w6 ∧
 m3 n10 n13 w6 < m3 n4 n5 w6)) ∧
 ((decide (n5 < (x0_2.n : Int))) = false →
 Q (.int .i64 n4) w6))
theorem of106 (n0_0 : Int) (n0_1 : Int) (x0_2 : Sl) (n_1 : Int) (v : World) (Q : Value → World → Prop) (h : vc106 n0_0 n0_1 x0_2 n_1 v Q) : Trip Tryz.prog 106 #[.agg #[.int .i64 n0_0, .int .i64 n0_1, x0_2.val], .int .i64 n_1] v Q :=
 trip_of_eq (args := [.ag [.num .i64 n0_0, .num .i64 n0_1, .sl x0_2], .num .i64 n_1]) (A := ⟨[(5, [(1, .int .i64), (5, .int .i64)], [])], [], [], [], psG⟩) Tryz.func106 (by kernel_rfl) (by kernel_rfl) (by kernel_rfl : vc106 n0_0 n0_1 x0_2 n_1 v Q = _) h

def vc107 (n_0 : Int) (n_1 : Int) (n_2 : Int) (v : World) (Q : Value → World → Prop) : Prop :=
 Q (.bool ((decide (n_1 ≤ n_0)) && (decide (n_0 ≤ n_2)))) v
theorem of107 (n_0 : Int) (n_1 : Int) (n_2 : Int) (v : World) (Q : Value → World → Prop) (h : vc107 n_0 n_1 n_2 v Q) : Trip Tryz.prog 107 #[.int .i64 n_0, .int .i64 n_1, .int .i64 n_2] v Q :=
 trip_of_eq (args := [.num .i64 n_0, .num .i64 n_1, .num .i64 n_2]) (A := ⟨[], [], [], [], psG⟩) Tryz.func107 (by kernel_rfl) (by kernel_rfl) (by kernel_rfl : vc107 n_0 n_1 n_2 v Q = _) h

def vc108 (n_0 : Int) (v : World) (Q : Value → World → Prop) : Prop :=
 Q (.bool ((((decide (n_0 = 6)) || (decide (n_0 = 8))) || (decide (n_0 = 9))) || (decide (n_0 = 10)))) v
theorem of108 (n_0 : Int) (v : World) (Q : Value → World → Prop) (h : vc108 n_0 v Q) : Trip Tryz.prog 108 #[.int .i64 n_0] v Q :=
 trip_of_eq (args := [.num .i64 n_0]) (A := ⟨[], [], [], [], psG⟩) Tryz.func108 (by kernel_rfl) (by kernel_rfl) (by kernel_rfl : vc108 n_0 v Q = _) h

def vc109 (n_0 : Int) (v : World) (Q : Value → World → Prop) : Prop :=
 StepT Tryz.prog (Instr.buildSlice 83 14 #[(0, (.string (ByteArray.mk #[]))), (1, (.string (ByteArray.mk #[97, 100, 100]))), (2, (.string (ByteArray.mk #[115, 117, 98]))), (3, (.string (ByteArray.mk #[109, 117, 108]))), (4, (.string (ByteArray.mk #[108, 101, 115, 115]))), (5, (.string (ByteArray.mk #[112, 114, 105, 110, 116]))), (6, (.string (ByteArray.mk #[99, 111, 110]))), (7, (.string (ByteArray.mk #[105, 102]))), (8, (.string (ByteArray.mk #[109, 97, 116, 99, 104]))), (9, (.string (ByteArray.mk #[99, 97, 108, 108]))), (10, (.string (ByteArray.mk #[99, 108, 111, 115, 101]))), (11, (.string (ByteArray.mk #[97, 112, 112, 108, 121]))), (12, (.string (ByteArray.mk #[]))), (13, (.string (ByteArray.mk #[108, 101, 116])))]) v fun r1 w2 =>
 ∃ x3 : Sl, r1 = x3.val ∧
 IxOk x3 n_0 ∧
 ∃ s4 : ByteArray, w2.cell? ((elA x3 n_0 1).add 0) = some (.string s4) ∧
 Q (.string s4) w2
theorem of109 (n_0 : Int) (v : World) (Q : Value → World → Prop) (h : vc109 n_0 v Q) : Trip Tryz.prog 109 #[.int .i64 n_0] v Q :=
 trip_of_eq (args := [.num .i64 n_0]) (A := ⟨[], [], [], [], psG⟩) Tryz.func109 (by kernel_rfl) (by kernel_rfl) (by kernel_rfl : vc109 n_0 v Q = _) h

def vc110 (a_0 : Addr) (n_1 : Int) (v : World) (Q : Value → World → Prop) : Prop :=
 ∃ s1 : ByteArray, v.cell? (a_0.add 0) = some (.string s1) ∧
 ∃ s2 : ByteArray, ((s1.toList == (ByteArray.mk #[]).toList) = false →
 v.cell? (a_0.add 0) = some (.string s2)) ∧
 ((s1.toList == (ByteArray.mk #[]).toList) = false →
 StrIxOk s2 0) ∧
 (((s1.toList == (ByteArray.mk #[]).toList) || (!decide (strIx s2 0 = n_1))) = true →
 Q (.bool false) v) ∧
 (((s1.toList == (ByteArray.mk #[]).toList) || (!decide (strIx s2 0 = n_1))) = false →
 ∃ s3 : ByteArray, v.cell? (a_0.add 0) = some (.string s3) ∧
 ((0 : Int) ≤ 1 ∧ 1 ≤ (s3.size : Int)) ∧
 StoreAt v a_0 0 [.string (strCut s3 1 (s3.size : Int))] fun w4 =>
 Q (.bool true) w4)
theorem of110 (a_0 : Addr) (n_1 : Int) (v : World) (Q : Value → World → Prop) (h : vc110 a_0 n_1 v Q) : Trip Tryz.prog 110 #[.pointer (some (a_0.add 0)), .int .u8 n_1] v Q :=
 trip_of_eq (args := [.pt a_0 0, .num .u8 n_1]) (A := ⟨[], [], [], [], psG⟩) Tryz.func110 (by kernel_rfl) (by kernel_rfl) (by kernel_rfl : vc110 a_0 n_1 v Q = _) h

def vc111 (a_0 : Addr) (v : World) (Q : Value → World → Prop) : Prop :=
 ∃ s1 : ByteArray, v.cell? (a_0.add 0) = some (.string s1) ∧
 ∃ n2 : Int, (Trip Tryz.prog 158 #[.string s1, .string (ByteArray.mk #[32, 41])] v fun r3 w4 => r3 = .int .i64 n2 ∧ Sub v w4) ∧
 ((decide (n2 < 0)) = true →
 ∃ s5 : ByteArray, v.cell? (a_0.add 0) = some (.string s5) ∧
 ∃ s6 : ByteArray, v.cell? (a_0.add 0) = some (.string s6) ∧
 StrOk s6 0 (s5.size : Int) ∧
 ∃ s7 : ByteArray, v.cell? (a_0.add 0) = some (.string s7) ∧
 ((0 : Int) ≤ (s5.size : Int) ∧ (s5.size : Int) ≤ (s7.size : Int)) ∧
 StoreAt v a_0 0 [.string (strCut s7 (s5.size : Int) (s7.size : Int))] fun w8 =>
 Q (.string (strCut s6 0 (s5.size : Int))) w8) ∧
 ((decide (n2 < 0)) = false →
 ∃ s9 : ByteArray, v.cell? (a_0.add 0) = some (.string s9) ∧
 StrOk s9 0 n2 ∧
 ∃ s10 : ByteArray, v.cell? (a_0.add 0) = some (.string s10) ∧
 ((0 : Int) ≤ n2 ∧ n2 ≤ (s10.size : Int)) ∧
 StoreAt v a_0 0 [.string (strCut s10 n2 (s10.size : Int))] fun w11 =>
 Q (.string (strCut s9 0 n2)) w11)
theorem of111 (a_0 : Addr) (v : World) (Q : Value → World → Prop) (h : vc111 a_0 v Q) : Trip Tryz.prog 111 #[.pointer (some (a_0.add 0))] v Q :=
 trip_of_eq (args := [.pt a_0 0]) (A := ⟨[], [], [], [], psG⟩) Tryz.func111 (by kernel_rfl) (by kernel_rfl) (by kernel_rfl : vc111 a_0 v Q = _) h

def vc113 (s_0 : ByteArray) (v : World) (Q : Value → World → Prop) : Prop :=
 ∃ s1 : ByteArray, (Trip Tryz.prog 160 #[.string s_0, .string (ByteArray.mk #[48, 49, 50, 51, 52, 53, 54, 55, 56, 57])] v fun r2 w3 => r2 = .string s1 ∧ Sub v w3) ∧
 ∃ I4 : Int → World → Prop, ∃ m5 : Int → World → Nat, I4 1 v ∧
 ∀ n6 : Int, ∀ w7 : World, I4 n6 w7 →
 ((decide (n6 ≤ 13)) = true →
 ∃ s8 : ByteArray, ∃ q9 : Bool, (Trip Tryz.prog 105 #[.int .i64 n6] w7 fun r10 w11 => r10 = .tuple #[.string s8, .bool q9] ∧ Sub w7 w11) ∧
 (((s8.toList == (ByteArray.mk #[]).toList) || (!(s8.toList == s1.toList))) = true →
 ∃ n12 : Int, Wr .i64 (n6 + 1) n12 ∧
 eqS (.num .i64 0) ∧
 eqS (.num .i64 0) ∧
 eqS (.sl (Sl.mk none 0 0)) ∧
 I4 n12 w7 ∧
 m5 n12 w7 < m5 n6 w7) ∧
 (((s8.toList == (ByteArray.mk #[]).toList) || (!(s8.toList == s1.toList))) = false →
 ((!q9) = true →
 Q (.tuple #[.agg #[.int .i64 n6, .int .i64 0, .slice none 0 0], .bool (s_0.toList == s1.toList)]) w7) ∧
 ((!q9) = false →
 ((0 : Int) ≤ (s1.size : Int) ∧ (s1.size : Int) ≤ (s_0.size : Int)) ∧
 Trip Tryz.prog 93 #[.string (strCut s_0 (s1.size : Int) (s_0.size : Int))] w7 fun r13 w14 =>
 ∃ n15 : Int, ∃ y16 : Vl, r13 = .tuple #[.int .i64 n15, y16.x] ∧
 (∃ q17 : Bool, PureT Tryz.prog (do eqGuard .eql 64 (.tmp 46) (.const (.nilIface)) (y16.x) ((Vl.mk Value.nilIface rfl).x); binOp .eql 64 (y16.x) ((Vl.mk Value.nilIface rfl).x)) w14 (.bool q17) ∧
 Q (.tuple #[.agg #[.int .i64 n6, .int .i64 n15, .slice none 0 0], .bool q17]) w14) ∧
 ∃ q18 : Bool, PureT Tryz.prog (do eqGuard .eql 64 (.tmp 46) (.const (.nilIface)) (y16.x) ((Vl.mk Value.nilIface rfl).x); binOp .eql 64 (y16.x) ((Vl.mk Value.nilIface rfl).x)) w14 (.bool q18) ∧
 Q (.tuple #[.agg #[.int .i64 n6, .int .i64 n15, .slice none 0 0], .bool q18]) w14))) ∧
 ((decide (n6 ≤ 13)) = false →
 Q (.tuple #[.agg #[.int .i64 0, .int .i64 0, .slice none 0 0], .bool false]) w7)
theorem of113 (s_0 : ByteArray) (v : World) (Q : Value → World → Prop) (h : vc113 s_0 v Q) : Trip Tryz.prog 113 #[.string s_0] v Q :=
 trip_of_eq (args := [.st s_0]) (A := ⟨[(3, [(5, .int .i64)], [])], [], [(10, [])], [], psG⟩) Tryz.func113 (by kernel_rfl) (by kernel_rfl) (by kernel_rfl : vc113 s_0 v Q = _) h

def vc115 (s_0 : ByteArray) (v : World) (Q : Value → World → Prop) : Prop :=
 ∃ I1 : Int → World → Prop, ∃ m2 : Int → World → Nat, I1 1 v ∧
 ∀ n3 : Int, ∀ w4 : World, I1 n3 w4 →
 ((decide (n3 ≤ 13)) = true →
 ∃ s5 : ByteArray, ((!(s_0.toList == (ByteArray.mk #[]).toList)) = true →
 (Trip Tryz.prog 109 #[.int .i64 n3] w4 fun r6 w7 => r6 = .string s5 ∧ Sub w4 w7)) ∧
 (((!(s_0.toList == (ByteArray.mk #[]).toList)) && (s5.toList == s_0.toList)) = true →
 Q (.int .i64 n3) w4) ∧
 (((!(s_0.toList == (ByteArray.mk #[]).toList)) && (s5.toList == s_0.toList)) = false →
 ∃ n8 : Int, Wr .i64 (n3 + 1) n8 ∧
 I1 n8 w4 ∧
 m2 n8 w4 < m2 n3 w4)) ∧
 ((decide (n3 ≤ 13)) = false →
 Q (.int .i64 (-1)) w4)
theorem of115 (s_0 : ByteArray) (v : World) (Q : Value → World → Prop) (h : vc115 s_0 v Q) : Trip Tryz.prog 115 #[.string s_0] v Q :=
 trip_of_eq (args := [.st s_0]) (A := ⟨[(2, [(3, .int .i64)], [])], [], [], [], psG⟩) Tryz.func115 (by kernel_rfl) (by kernel_rfl) (by kernel_rfl : vc115 s_0 v Q = _) h

def vc116 (a_0 : Addr) (v : World) (Q : Value → World → Prop) : Prop :=
 ∃ n1 : Int, v.cell? (a_0.add 1) = some (.int .i64 n1) ∧
 ∃ I2 : World → Prop, ∃ m3 : World → Nat, I2 v ∧
 ∀ w4 : World, I2 w4 →
 ∃ n5 : Int, (Trip Tryz.prog 43 #[.pointer (some (a_0.add 0))] w4 fun r6 w7 => r6 = .int .i64 n5 ∧ Sub w4 w7) ∧
 ∃ q8 : Bool, (Trip Tryz.prog 107 #[.int .i64 n5, .int .i64 97, .int .i64 122] w4 fun r9 w10 => r9 = .bool q8 ∧ Sub w4 w10) ∧
 (q8 = true →
 ∃ n11 : Int, w4.cell? (a_0.add 1) = some (.int .i64 n11) ∧
 ∃ n12 : Int, Wr .i64 (n11 + 1) n12 ∧
 StoreAt w4 a_0 1 [.int .i64 n12] fun w13 =>
 I2 w13 ∧
 m3 w13 < m3 w4) ∧
 (q8 = false →
 ∃ s14 : ByteArray, w4.cell? (a_0.add 0) = some (.string s14) ∧
 ∃ n15 : Int, w4.cell? (a_0.add 1) = some (.int .i64 n15) ∧
 StrOk s14 n1 n15 ∧
 Q (.string (strCut s14 n1 n15)) w4)
theorem of116 (a_0 : Addr) (v : World) (Q : Value → World → Prop) (h : vc116 a_0 v Q) : Trip Tryz.prog 116 #[.pointer (some (a_0.add 0))] v Q :=
 trip_of_eq (args := [.pt a_0 0]) (A := ⟨[(2, [], [])], [], [], [], psG⟩) Tryz.func116 (by kernel_rfl) (by kernel_rfl) (by kernel_rfl : vc116 a_0 v Q = _) h

def vc122 (x_0 : Sl) (x_1 : Sl) (v : World) (Q : Value → World → Prop) : Prop :=
 ∃ q1 : Bool, (Trip Tryz.prog 169 #[x_0.val] v fun r2 w3 => r2 = .bool q1 ∧ Sub v w3) ∧
 ((((!q1) || (decide ((x_1.n : Int) < 1))) || (decide ((x_1.n : Int) > 4))) = false →
 IxOk x_1 0) ∧
 ∃ x4 : Sl, ((((!q1) || (decide ((x_1.n : Int) < 1))) || (decide ((x_1.n : Int) > 4))) = false →
 v.cell? ((elA x_1 0 3).add 0) = some (x4.val)) ∧
 (((((!q1) || (decide ((x_1.n : Int) < 1))) || (decide ((x_1.n : Int) > 4))) || (decide ((x4.n : Int) > 0))) = false →
 IxOk x_1 0) ∧
 ∃ n5 : Int, (((((!q1) || (decide ((x_1.n : Int) < 1))) || (decide ((x_1.n : Int) > 4))) || (decide ((x4.n : Int) > 0))) = false →
 v.cell? ((elA x_1 0 3).add 2) = some (.int .i64 n5)) ∧
 ((((((!q1) || (decide ((x_1.n : Int) < 1))) || (decide ((x_1.n : Int) > 4))) || (decide ((x4.n : Int) > 0))) || (!decide (n5 = 0))) = true →
 Q (.bool false) v) ∧
 ((((((!q1) || (decide ((x_1.n : Int) < 1))) || (decide ((x_1.n : Int) > 4))) || (decide ((x4.n : Int) > 0))) || (!decide (n5 = 0))) = false →
 ∃ I6 : Int → World → Prop, ∃ m7 : Int → World → Nat, I6 0 v ∧
 ∀ n8 : Int, ∀ w9 : World, I6 n8 w9 →
 ((decide (n8 < (x_1.n : Int))) = true →
 IxOk x_1 n8 ∧
 ∃ x10 : Sl, ∃ x11 : Sl, ∃ n12 : Int, (w9.cell? ((elA x_1 n8 3).add 0) = some (x10.val) ∧
 w9.cell? ((elA x_1 n8 3).add 1) = some (x11.val) ∧
 w9.cell? ((elA x_1 n8 3).add 2) = some (.int .i64 n12)) ∧
 ∃ q13 : Bool, ((decide ((x10.n : Int) > 3)) = false →
 (Trip Tryz.prog 123 #[x_0.val, x10.val] w9 fun r14 w15 => r14 = .bool q13 ∧ Sub w9 w15)) ∧
 ∃ q16 : Bool, (((decide ((x10.n : Int) > 3)) || (!q13)) = false →
 (Trip Tryz.prog 170 #[x_0.val, .int .i64 n12] w9 fun r17 w18 => r17 = .bool q16 ∧ Sub w9 w18)) ∧
 ((((decide ((x10.n : Int) > 3)) || (!q13)) || (!q16)) = true →
 Q (.bool false) w9) ∧
 ((((decide ((x10.n : Int) > 3)) || (!q13)) || (!q16)) = false →
 ∃ I19 : Int → World → Prop, ∃ m20 : Int → World → Nat, I19 0 w9 ∧
 ∀ n21 : Int, ∀ w22 : World, I19 n21 w22 →
 ((decide (n21 < (x11.n : Int))) = true →
 IxOk x11 n21 ∧
 ∃ n23 : Int, w22.cell? ((elA x11 n21 1).add 0) = some (.int .i64 n23) ∧
 (((decide (n23 < 0)) || (decide (n23 ≥ (x10.n : Int)))) = false →
 IxOk x10 n23) ∧
 ∃ n24 : Int, (((decide (n23 < 0)) || (decide (n23 ≥ (x10.n : Int)))) = false →
 w22.cell? ((elA x10 n23 1).add 0) = some (.int .i64 n24)) ∧
 ∃ n25 : Int, ((decide (n21 > 0)) = true →
 (((decide (n23 < 0)) || (decide (n23 ≥ (x10.n : Int)))) || (decide (n24 = 0))) = false →
 Wr .i64 (n21 - 1) n25) ∧
 ((decide (n21 > 0)) = true →
 (((decide (n23 < 0)) || (decide (n23 ≥ (x10.n : Int)))) || (decide (n24 = 0))) = false →
 IxOk x11 n25) ∧
 ∃ n26 : Int, ((decide (n21 > 0)) = true →
 (((decide (n23 < 0)) || (decide (n23 ≥ (x10.n : Int)))) || (decide (n24 = 0))) = false →
 w22.cell? ((elA x11 n25 1).add 0) = some (.int .i64 n26)) ∧
 (((((decide (n23 < 0)) || (decide (n23 ≥ (x10.n : Int)))) || (decide (n24 = 0))) || ((decide (n21 > 0)) && (decide (n23 ≤ n26)))) = true →
 Q (.bool false) w22) ∧
 (((((decide (n23 < 0)) || (decide (n23 ≥ (x10.n : Int)))) || (decide (n24 = 0))) || ((decide (n21 > 0)) && (decide (n23 ≤ n26)))) = false →
 ∃ n27 : Int, Wr .i64 (n21 + 1) n27 ∧
 eqS (.sl x10) ∧
 eqS (.sl x11) ∧
 eqS (.num .i64 n12) ∧
 I19 n27 w22 ∧
 m20 n27 w22 < m20 n21 w22)) ∧
 ((decide (n21 < (x11.n : Int))) = false →
 ∃ n28 : Int, Wr .i64 (n8 + 1) n28 ∧
 I6 n28 w22 ∧
 m7 n28 w22 < m7 n8 w9))) ∧
 ((decide (n8 < (x_1.n : Int))) = false →
 Q (.bool true) w9))
theorem of122 (x_0 : Sl) (x_1 : Sl) (v : World) (Q : Value → World → Prop) (h : vc122 x_0 x_1 v Q) : Trip Tryz.prog 122 #[x_0.val, x_1.val] v Q :=
 trip_of_eq (args := [.sl x_0, .sl x_1]) (A := ⟨[(4, [(39, .int .i64)], []), (9, [(64, .int .i64)], [])], [], [], [], psG⟩) Tryz.func122 (by kernel_rfl) (by kernel_rfl) (by kernel_rfl : vc122 x_0 x_1 v Q = _) h

def vc123 (x_0 : Sl) (x_1 : Sl) (v : World) (Q : Value → World → Prop) : Prop :=
 ∃ I1 : Int → World → Prop, ∃ m2 : Int → World → Nat, I1 0 v ∧
 ∀ n3 : Int, ∀ w4 : World, I1 n3 w4 →
 ((decide (n3 < (x_1.n : Int))) = true →
 IxOk x_1 n3 ∧
 ∃ n5 : Int, w4.cell? ((elA x_1 n3 1).add 0) = some (.int .i64 n5) ∧
 ∃ q6 : Bool, (Trip Tryz.prog 170 #[x_0.val, .int .i64 n5] w4 fun r7 w8 => r7 = .bool q6 ∧ Sub w4 w8) ∧
 ((!q6) = true →
 Q (.bool false) w4) ∧
 ((!q6) = false →
 ∃ n9 : Int, Wr .i64 (n3 + 1) n9 ∧
 I1 n9 w4 ∧
 m2 n9 w4 < m2 n3 w4)) ∧
 ((decide (n3 < (x_1.n : Int))) = false →
 Q (.bool true) w4)
theorem of123 (x_0 : Sl) (x_1 : Sl) (v : World) (Q : Value → World → Prop) (h : vc123 x_0 x_1 v Q) : Trip Tryz.prog 123 #[x_0.val, x_1.val] v Q :=
 trip_of_eq (args := [.sl x_0, .sl x_1]) (A := ⟨[(2, [(9, .int .i64)], [])], [], [], [], psG⟩) Tryz.func123 (by kernel_rfl) (by kernel_rfl) (by kernel_rfl : vc123 x_0 x_1 v Q = _) h

def vc124 (x0_0 : Sl) (x0_1 : Sl) (v : World) (Q : Value → World → Prop) : Prop :=
 ∃ I1 : Int → Sl → World → Prop, ∃ m2 : Int → Sl → World → Nat, I1 0 (Sl.mk none 0 0) v ∧
 ∀ n3 : Int, ∀ x4 : Sl, ∀ w5 : World, I1 n3 x4 w5 →
 ((decide (n3 < (x0_1.n : Int))) = true →
 IxOk x0_1 n3 ∧
 ldF w5 x0_1 n3 fun x6 n7 n8 n9 x10 =>
 StepT Tryz.prog (Instr.buildSlice 153 1 #[(0, (.agg #[x6.val, .slice none 0 0, .int .i64 n7]))]) w5 fun r11 w12 =>
 ∃ x13 : Sl, r11 = x13.val ∧
 StepT Tryz.prog (Builtin.append_ #[153, 153] 153 #[(x4.val), (x13.val)]) w12 fun r14 w15 =>
 ∃ x16 : Sl, r14 = x16.val ∧
 ∃ n17 : Int, Wr .i64 (n3 + 1) n17 ∧
 eqS (.sl x0_0) ∧
 eqS (.sl x0_1) ∧
 eqS (.sl (Sl.mk none 0 0)) ∧
 eqS (.sl (Sl.mk none 0 0)) ∧
 eqS (.sl x0_0) ∧
 I1 n17 x16 w15 ∧
 m2 n17 x16 w15 < m2 n3 x4 w5) ∧
 ((decide (n3 < (x0_1.n : Int))) = false →
 Q (.agg #[x0_0.val, x4.val]) w5)
theorem of124 (x0_0 : Sl) (x0_1 : Sl) (v : World) (Q : Value → World → Prop) (h : vc124 x0_0 x0_1 v Q) : Trip Tryz.prog 124 #[.agg #[x0_0.val, x0_1.val]] v Q :=
 trip_of_eq (args := [.ag [.sl x0_0, .sl x0_1]]) (A := ⟨[(3, [(12, .int .i64)], [(2, 1, .sl)])], [], [], [], psG⟩) Tryz.func124 (by kernel_rfl) (by kernel_rfl) (by kernel_rfl : vc124 x0_0 x0_1 v Q = _) h

def vc125 (x0_0 : Sl) (x0_1 : Sl) (x_1 : Sl) (n2_0 : Int) (n2_1 : Int) (x2_2 : Sl) (v : World) (Q : Value → World → Prop) : Prop :=
 ((decide (n2_0 = 12)) = true →
 ((((decide ((x2_2.n : Int) > 0)) || (decide (n2_1 < 0))) || (decide (n2_1 ≥ (x_1.n : Int)))) = true →
 Q (.int .i64 (-1)) v) ∧
 ((((decide ((x2_2.n : Int) > 0)) || (decide (n2_1 < 0))) || (decide (n2_1 ≥ (x_1.n : Int)))) = false →
 IxOk x_1 n2_1 ∧
 ∃ n1 : Int, v.cell? ((elA x_1 n2_1 1).add 0) = some (.int .i64 n1) ∧
 Q (.int .i64 n1) v)) ∧
 ((decide (n2_0 = 12)) = false →
 ((decide (n2_0 = 13)) = true →
 (((!decide ((x2_2.n : Int) = 2)) || (!decide (n2_1 = 0))) = true →
 Q (.int .i64 (-1)) v) ∧
 (((!decide ((x2_2.n : Int) = 2)) || (!decide (n2_1 = 0))) = false →
 IxOk x2_2 0 ∧
 ldT v x2_2 0 fun n2 n3 x4 =>
 Trip Tryz.prog 125 #[.agg #[x0_0.val, x0_1.val], x_1.val, .agg #[.int .i64 n2, .int .i64 n3, x4.val]] v fun r5 w6 =>
 ∃ n7 : Int, r5 = .int .i64 n7 ∧
 ((decide (n7 < 0)) = true →
 Q (.int .i64 (-1)) w6) ∧
 ((decide (n7 < 0)) = false →
 (StepT Tryz.prog (Instr.buildSlice 68 1 #[(0, (.int .i64 n7))]) w6 fun r8 w9 =>
 ∃ x10 : Sl, r8 = x10.val ∧
 (StepT Tryz.prog (Builtin.append_ #[68, 68] 68 #[(x_1.val), (x10.val)]) w9 fun r11 w12 =>
 ∃ x13 : Sl, r11 = x13.val ∧
 IxOk x2_2 1 ∧
 ldT w12 x2_2 1 fun n14 n15 x16 =>
 Trip Tryz.prog 125 #[.agg #[x0_0.val, x0_1.val], x13.val, .agg #[.int .i64 n14, .int .i64 n15, x16.val]] w12 fun r17 w18 =>
 ∃ n19 : Int, r17 = .int .i64 n19 ∧
 Q (.int .i64 n19) w18) ∧
 IxOk x2_2 1 ∧
 (StepT Tryz.prog (Builtin.append_ #[68, 68] 68 #[(x_1.val), (x10.val)]) w9 fun r20 w21 =>
 ∃ x22 : Sl, r20 = x22.val ∧
 ldT w21 x2_2 1 fun n23 n24 x25 =>
 Trip Tryz.prog 125 #[.agg #[x0_0.val, x0_1.val], x22.val, .agg #[.int .i64 n23, .int .i64 n24, x25.val]] w21 fun r26 w27 =>
 ∃ n28 : Int, r26 = .int .i64 n28 ∧
 Q (.int .i64 n28) w27) ∧
 ldT w9 x2_2 1 fun n29 n30 x31 =>
 StepT Tryz.prog (Builtin.append_ #[68, 68] 68 #[(x_1.val), (x10.val)]) w9 fun r32 w33 =>
 ∃ x34 : Sl, r32 = x34.val ∧
 Trip Tryz.prog 125 #[.agg #[x0_0.val, x0_1.val], x34.val, .agg #[.int .i64 n29, .int .i64 n30, x31.val]] w33 fun r35 w36 =>
 ∃ n37 : Int, r35 = .int .i64 n37 ∧
 Q (.int .i64 n37) w36) ∧
 IxOk x2_2 1 ∧
 (StepT Tryz.prog (Instr.buildSlice 68 1 #[(0, (.int .i64 n7))]) w6 fun r38 w39 =>
 ∃ x40 : Sl, r38 = x40.val ∧
 (StepT Tryz.prog (Builtin.append_ #[68, 68] 68 #[(x_1.val), (x40.val)]) w39 fun r41 w42 =>
 ∃ x43 : Sl, r41 = x43.val ∧
 ldT w42 x2_2 1 fun n44 n45 x46 =>
 Trip Tryz.prog 125 #[.agg #[x0_0.val, x0_1.val], x43.val, .agg #[.int .i64 n44, .int .i64 n45, x46.val]] w42 fun r47 w48 =>
 ∃ n49 : Int, r47 = .int .i64 n49 ∧
 Q (.int .i64 n49) w48) ∧
 ldT w39 x2_2 1 fun n50 n51 x52 =>
 StepT Tryz.prog (Builtin.append_ #[68, 68] 68 #[(x_1.val), (x40.val)]) w39 fun r53 w54 =>
 ∃ x55 : Sl, r53 = x55.val ∧
 Trip Tryz.prog 125 #[.agg #[x0_0.val, x0_1.val], x55.val, .agg #[.int .i64 n50, .int .i64 n51, x52.val]] w54 fun r56 w57 =>
 ∃ n58 : Int, r56 = .int .i64 n58 ∧
 Q (.int .i64 n58) w57) ∧
 ldT w6 x2_2 1 fun n59 n60 x61 =>
 StepT Tryz.prog (Instr.buildSlice 68 1 #[(0, (.int .i64 n7))]) w6 fun r62 w63 =>
 ∃ x64 : Sl, r62 = x64.val ∧
 StepT Tryz.prog (Builtin.append_ #[68, 68] 68 #[(x_1.val), (x64.val)]) w63 fun r65 w66 =>
 ∃ x67 : Sl, r65 = x67.val ∧
 Trip Tryz.prog 125 #[.agg #[x0_0.val, x0_1.val], x67.val, .agg #[.int .i64 n59, .int .i64 n60, x61.val]] w66 fun r68 w69 =>
 ∃ n70 : Int, r68 = .int .i64 n70 ∧
 Q (.int .i64 n70) w69))) ∧
 ((decide (n2_0 = 13)) = false →
 ((decide (n2_0 = 7)) = true →
 (((!decide ((x2_2.n : Int) = 3)) || (!decide (n2_1 = 0))) = false →
 IxOk x2_2 0) ∧
 ∃ n71 : Int, ∃ n72 : Int, ∃ x73 : Sl, (((!decide ((x2_2.n : Int) = 3)) || (!decide (n2_1 = 0))) = false →
 v.cell? ((elA x2_2 0 3).add 0) = some (.int .i64 n71) ∧
 v.cell? ((elA x2_2 0 3).add 1) = some (.int .i64 n72) ∧
 v.cell? ((elA x2_2 0 3).add 2) = some (x73.val)) ∧
 (((!decide ((x2_2.n : Int) = 3)) || (!decide (n2_1 = 0))) = false →
 Trip Tryz.prog 125 #[.agg #[x0_0.val, x0_1.val], x_1.val, .agg #[.int .i64 n71, .int .i64 n72, x73.val]] v fun r74 w75 =>
 ∃ n76 : Int, r74 = .int .i64 n76 ∧
 ((!decide (n76 = 0)) = true →
 Q (.int .i64 (-1)) w75) ∧
 ((!decide (n76 = 0)) = false →
 ((0 : Int) ≤ 1 ∧ 1 ≤ (x2_2.n : Int)) ∧
 StepT Tryz.prog (Instr.makeSlice 189 (.int .i64 2) (.int .i64 2)) w75 fun r77 w78 =>
 ∃ x79 : Sl, r77 = x79.val ∧
 Sub w75 w78 ∧
 Trip Tryz.prog 171 #[.agg #[x0_0.val, x0_1.val], x_1.val, (x2_2.cut 1 (x2_2.n : Int) 3).val, x79.val] w78 fun r80 w81 =>
 ∃ n82 : Int, r80 = .int .i64 n82 ∧
 Q (.int .i64 n82) w81)) ∧
 (((!decide ((x2_2.n : Int) = 3)) || (!decide (n2_1 = 0))) = true →
 Q (.int .i64 (-1)) v)) ∧
 ((decide (n2_0 = 7)) = false →
 ((decide (n2_0 = 8)) = true →
 Trip Tryz.prog 172 #[x0_0.val, .int .i64 n2_1] v fun r83 w84 =>
 ∃ x85 : Sl, r83 = x85.val ∧
 ∃ n86 : Int, ((decide ((x85.n : Int) = 0)) = false →
 Wr .i64 (1 + (x85.n : Int)) n86) ∧
 (((decide ((x85.n : Int) = 0)) || (!decide ((x2_2.n : Int) = n86))) = false →
 IxOk x2_2 0) ∧
 ∃ n87 : Int, ∃ n88 : Int, ∃ x89 : Sl, (((decide ((x85.n : Int) = 0)) || (!decide ((x2_2.n : Int) = n86))) = false →
 w84.cell? ((elA x2_2 0 3).add 0) = some (.int .i64 n87) ∧
 w84.cell? ((elA x2_2 0 3).add 1) = some (.int .i64 n88) ∧
 w84.cell? ((elA x2_2 0 3).add 2) = some (x89.val)) ∧
 ((((decide ((x85.n : Int) = 0)) || (!decide ((x2_2.n : Int) = n86))) = false →
 Trip Tryz.prog 125 #[.agg #[x0_0.val, x0_1.val], x_1.val, .agg #[.int .i64 n87, .int .i64 n88, x89.val]] w84 fun r90 w91 =>
 ∃ n92 : Int, r90 = .int .i64 n92 ∧
 ((!decide (n92 = n2_1)) = true →
 Q (.int .i64 (-1)) w91) ∧
 ((!decide (n92 = n2_1)) = false →
 StepT Tryz.prog (Instr.makeSlice 189 (.int .i64 (x85.n : Int)) (.int .i64 (x85.n : Int))) w91 fun r93 w94 =>
 ∃ x95 : Sl, r93 = x95.val ∧
 ∃ I96 : Int → World → Prop, ∃ m97 : Int → World → Nat, I96 0 w94 ∧
 ∀ n98 : Int, ∀ w99 : World, I96 n98 w99 →
 ((decide (n98 < (x85.n : Int))) = true →
 IxOk x85 n98 ∧
 ∃ n100 : Int, w99.cell? ((elA x85 n98 1).add 0) = some (.int .i64 n100) ∧
 ∃ x101 : Sl, (Trip Tryz.prog 173 #[x0_0.val, .int .i64 n100] w99 fun r102 w103 => r102 = x101.val ∧ Sub w99 w103) ∧
 IxOk x95 n98 ∧
 StoreAt w99 (elA x95 n98 1) 0 [x101.val] fun w104 =>
 ∃ n105 : Int, Wr .i64 (n98 + 1) n105 ∧
 eqS (.sl x0_0) ∧
 eqS (.sl x0_1) ∧
 eqS (.num .i64 n2_0) ∧
 eqS (.num .i64 n2_1) ∧
 eqS (.sl x2_2) ∧
 I96 n105 w104 ∧
 m97 n105 w104 < m97 n98 w99) ∧
 ((decide (n98 < (x85.n : Int))) = false →
 ((0 : Int) ≤ 1 ∧ 1 ≤ (x2_2.n : Int)) ∧
 Trip Tryz.prog 171 #[.agg #[x0_0.val, x0_1.val], x_1.val, (x2_2.cut 1 (x2_2.n : Int) 3).val, x95.val] w99 fun r106 w107 =>
 ∃ n108 : Int, r106 = .int .i64 n108 ∧
 Q (.int .i64 n108) w107))) ∧
 (((decide ((x85.n : Int) = 0)) || (!decide ((x2_2.n : Int) = n86))) = true →
 Q (.int .i64 (-1)) w84)) ∧
 ((((decide ((x85.n : Int) = 0)) || (!decide ((x2_2.n : Int) = n86))) = false →
 Trip Tryz.prog 125 #[.agg #[x0_0.val, x0_1.val], x_1.val, .agg #[.int .i64 n87, .int .i64 n88, x89.val]] w84 fun r109 w110 =>
 ∃ n111 : Int, r109 = .int .i64 n111 ∧
 ((!decide (n111 = n2_1)) = true →
 Q (.int .i64 (-1)) w110) ∧
 ((!decide (n111 = n2_1)) = false →
 StepT Tryz.prog (Instr.makeSlice 189 (.int .i64 (x85.n : Int)) (.int .i64 (x85.n : Int))) w110 fun r112 w113 =>
 ∃ x114 : Sl, r112 = x114.val ∧
 ∃ I115 : Int → World → Prop, ∃ m116 : Int → World → Nat, I115 0 w113 ∧
 ∀ n117 : Int, ∀ w118 : World, I115 n117 w118 →
 ((decide (n117 < (x85.n : Int))) = true →
 IxOk x85 n117 ∧
 ∃ n119 : Int, w118.cell? ((elA x85 n117 1).add 0) = some (.int .i64 n119) ∧
 ∃ x120 : Sl, (Trip Tryz.prog 173 #[x0_0.val, .int .i64 n119] w118 fun r121 w122 => r121 = x120.val ∧ Sub w118 w122) ∧
 IxOk x114 n117 ∧
 StoreAt w118 (elA x114 n117 1) 0 [x120.val] fun w123 =>
 ∃ n124 : Int, Wr .i64 (n117 + 1) n124 ∧
 eqS (.sl x0_0) ∧
 eqS (.sl x0_1) ∧
 eqS (.num .i64 n2_0) ∧
 eqS (.num .i64 n2_1) ∧
 eqS (.sl x2_2) ∧
 I115 n124 w123 ∧
 m116 n124 w123 < m116 n117 w118) ∧
 ((decide (n117 < (x85.n : Int))) = false →
 ((0 : Int) ≤ 1 ∧ 1 ≤ (x2_2.n : Int)) ∧
 Trip Tryz.prog 171 #[.agg #[x0_0.val, x0_1.val], x_1.val, (x2_2.cut 1 (x2_2.n : Int) 3).val, x114.val] w118 fun r125 w126 =>
 ∃ n127 : Int, r125 = .int .i64 n127 ∧
 Q (.int .i64 n127) w126))) ∧
 (((decide ((x85.n : Int) = 0)) || (!decide ((x2_2.n : Int) = n86))) = true →
 Q (.int .i64 (-1)) w84)) ∧
 (((decide ((x85.n : Int) = 0)) || (!decide ((x2_2.n : Int) = n86))) = false →
 Trip Tryz.prog 125 #[.agg #[x0_0.val, x0_1.val], x_1.val, .agg #[.int .i64 n87, .int .i64 n88, x89.val]] w84 fun r128 w129 =>
 ∃ n130 : Int, r128 = .int .i64 n130 ∧
 ((!decide (n130 = n2_1)) = true →
 Q (.int .i64 (-1)) w129) ∧
 ((!decide (n130 = n2_1)) = false →
 StepT Tryz.prog (Instr.makeSlice 189 (.int .i64 (x85.n : Int)) (.int .i64 (x85.n : Int))) w129 fun r131 w132 =>
 ∃ x133 : Sl, r131 = x133.val ∧
 ∃ I134 : Int → World → Prop, ∃ m135 : Int → World → Nat, I134 0 w132 ∧
 ∀ n136 : Int, ∀ w137 : World, I134 n136 w137 →
 ((decide (n136 < (x85.n : Int))) = true →
 IxOk x85 n136 ∧
 ∃ n138 : Int, w137.cell? ((elA x85 n136 1).add 0) = some (.int .i64 n138) ∧
 ∃ x139 : Sl, (Trip Tryz.prog 173 #[x0_0.val, .int .i64 n138] w137 fun r140 w141 => r140 = x139.val ∧ Sub w137 w141) ∧
 IxOk x133 n136 ∧
 StoreAt w137 (elA x133 n136 1) 0 [x139.val] fun w142 =>
 ∃ n143 : Int, Wr .i64 (n136 + 1) n143 ∧
 eqS (.sl x0_0) ∧
 eqS (.sl x0_1) ∧
 eqS (.num .i64 n2_0) ∧
 eqS (.num .i64 n2_1) ∧
 eqS (.sl x2_2) ∧
 I134 n143 w142 ∧
 m135 n143 w142 < m135 n136 w137) ∧
 ((decide (n136 < (x85.n : Int))) = false →
 ((0 : Int) ≤ 1 ∧ 1 ≤ (x2_2.n : Int)) ∧
 Trip Tryz.prog 171 #[.agg #[x0_0.val, x0_1.val], x_1.val, (x2_2.cut 1 (x2_2.n : Int) 3).val, x133.val] w137 fun r144 w145 =>
 ∃ n146 : Int, r144 = .int .i64 n146 ∧
 Q (.int .i64 n146) w145))) ∧
 (((decide ((x85.n : Int) = 0)) || (!decide ((x2_2.n : Int) = n86))) = true →
 Q (.int .i64 (-1)) w84)) ∧
 ((decide (n2_0 = 8)) = false →
 StepT Tryz.prog (Instr.makeSlice 68 (.int .i64 (x2_2.n : Int)) (.int .i64 (x2_2.n : Int))) v fun r147 w148 =>
 ∃ x149 : Sl, r147 = x149.val ∧
 ∃ I150 : Int → World → Prop, ∃ m151 : Int → World → Nat, I150 0 w148 ∧
 ∀ n152 : Int, ∀ w153 : World, I150 n152 w153 →
 ((decide (n152 < (x2_2.n : Int))) = true →
 IxOk x2_2 n152 ∧
 ldT w153 x2_2 n152 fun n154 n155 x156 =>
 Trip Tryz.prog 125 #[.agg #[x0_0.val, x0_1.val], x_1.val, .agg #[.int .i64 n154, .int .i64 n155, x156.val]] w153 fun r157 w158 =>
 ∃ n159 : Int, r157 = .int .i64 n159 ∧
 IxOk x149 n152 ∧
 StoreAt w158 (elA x149 n152 1) 0 [.int .i64 n159] fun w160 =>
 IxOk x149 n152 ∧
 ∃ n161 : Int, w160.cell? ((elA x149 n152 1).add 0) = some (.int .i64 n161) ∧
 ((decide (n161 < 0)) = true →
 Q (.int .i64 (-1)) w160) ∧
 ((decide (n161 < 0)) = false →
 ∃ n162 : Int, Wr .i64 (n152 + 1) n162 ∧
 eqS (.sl x0_0) ∧
 eqS (.sl x0_1) ∧
 eqS (.num .i64 n2_0) ∧
 eqS (.num .i64 n2_1) ∧
 eqS (.sl x2_2) ∧
 I150 n162 w160 ∧
 m151 n162 w160 < m151 n152 w153)) ∧
 ((decide (n152 < (x2_2.n : Int))) = false →
 ∃ n163 : Int, ∃ q164 : Bool, (Trip Tryz.prog 174 #[.agg #[x0_0.val, x0_1.val], .int .i64 n2_0, .int .i64 n2_1, x149.val] w153 fun r165 w166 => r165 = .tuple #[.int .i64 n163, .bool q164] ∧ Sub w153 w166) ∧
 ((!q164) = true →
 Q (.int .i64 (-1)) w153) ∧
 ((!q164) = false →
 Q (.int .i64 n163) w153))))))
theorem of125 (x0_0 : Sl) (x0_1 : Sl) (x_1 : Sl) (n2_0 : Int) (n2_1 : Int) (x2_2 : Sl) (v : World) (Q : Value → World → Prop) (h : vc125 x0_0 x0_1 x_1 n2_0 n2_1 x2_2 v Q) : Trip Tryz.prog 125 #[.agg #[x0_0.val, x0_1.val], x_1.val, .agg #[.int .i64 n2_0, .int .i64 n2_1, x2_2.val]] v Q :=
 trip_of_eq (args := [.ag [.sl x0_0, .sl x0_1], .sl x_1, .ag [.num .i64 n2_0, .num .i64 n2_1, .sl x2_2]]) (A := ⟨[(23, [(136, .int .i64)], []), (30, [(163, .int .i64)], [])], [], [(9, []), (12, []), (14, []), (16, [5]), (19, []), (27, [])], [], psG⟩) Tryz.func125 (by kernel_rfl) (by kernel_rfl) (by kernel_rfl : vc125 x0_0 x0_1 x_1 n2_0 n2_1 x2_2 v Q = _) h

def vc126 (x_0 : Sl) (v : World) (Q : Value → World → Prop) : Prop :=
 ∃ q1 : Bool, PureT Tryz.prog (do eqGuard .eql 68 (.tmp 3) (.const (.slice none 0 0)) (x_0.val) (.slice none 0 0); binOp .eql 68 (x_0.val) (.slice none 0 0)) v (.bool q1) ∧
 (q1 = true →
 Q (.slice none 0 0) v) ∧
 (q1 = false →
 StepT Tryz.prog (Instr.buildSlice 68 0 #[]) v fun r2 w3 =>
 ∃ x4 : Sl, r2 = x4.val ∧
 StepT Tryz.prog (Builtin.append_ #[68, 68] 68 #[(x4.val), (x_0.val)]) w3 fun r5 w6 =>
 ∃ x7 : Sl, r5 = x7.val ∧
 Q (x7.val) w6)
theorem of126 (x_0 : Sl) (v : World) (Q : Value → World → Prop) (h : vc126 x_0 v Q) : Trip Tryz.prog 126 #[x_0.val] v Q :=
 trip_of_eq (args := [.sl x_0]) (A := ⟨[], [], [], [], psG⟩) Tryz.func126 (by kernel_rfl) (by kernel_rfl) (by kernel_rfl : vc126 x_0 v Q = _) h

def vc130 (x_0 : Sl) (v : World) (Q : Value → World → Prop) : Prop :=
 ((decide ((x_0.n : Int) > 4)) = true →
 Q (.bool false) v) ∧
 ((decide ((x_0.n : Int) > 4)) = false →
 ∃ I1 : Int → World → Prop, ∃ m2 : Int → World → Nat, I1 0 v ∧
 ∀ n3 : Int, ∀ w4 : World, I1 n3 w4 →
 ((decide (n3 < (x_0.n : Int))) = true →
 ∃ q5 : Bool, (Trip Tryz.prog 177 #[x_0.val, .int .i64 n3] w4 fun r6 w7 => r6 = .bool q5 ∧ Sub w4 w7) ∧
 ((!q5) = true →
 Q (.bool false) w4) ∧
 ((!q5) = false →
 ∃ n8 : Int, Wr .i64 (n3 + 1) n8 ∧
 I1 n8 w4 ∧
 m2 n8 w4 < m2 n3 w4)) ∧
 ((decide (n3 < (x_0.n : Int))) = false →
 Q (.bool true) w4))
theorem of130 (x_0 : Sl) (v : World) (Q : Value → World → Prop) (h : vc130 x_0 v Q) : Trip Tryz.prog 130 #[x_0.val] v Q :=
 trip_of_eq (args := [.sl x_0]) (A := ⟨[(4, [(3, .int .i64)], [])], [], [], [], psG⟩) Tryz.func130 (by kernel_rfl) (by kernel_rfl) (by kernel_rfl : vc130 x_0 v Q = _) h

def vc131 (x_0 : Sl) (x_1 : Sl) (v : World) (Q : Value → World → Prop) : Prop :=
 ∃ I1 : Int → World → Prop, ∃ m2 : Int → World → Nat, I1 0 v ∧
 ∀ n3 : Int, ∀ w4 : World, I1 n3 w4 →
 ((decide (n3 < (x_1.n : Int))) = true →
 IxOk x_1 n3 ∧
 ∃ n5 : Int, w4.cell? ((elA x_1 n3 1).add 0) = some (.int .i64 n5) ∧
 ∃ q6 : Bool, (Trip Tryz.prog 107 #[.int .i64 n5, .int .i64 0, .int .i64 (x_0.n : Int)] w4 fun r7 w8 => r7 = .bool q6 ∧ Sub w4 w8) ∧
 ((!q6) = true →
 Q (.bool false) w4) ∧
 ((!q6) = false →
 ∃ n9 : Int, Wr .i64 (n3 + 1) n9 ∧
 I1 n9 w4 ∧
 m2 n9 w4 < m2 n3 w4)) ∧
 ((decide (n3 < (x_1.n : Int))) = false →
 Q (.bool true) w4)
theorem of131 (x_0 : Sl) (x_1 : Sl) (v : World) (Q : Value → World → Prop) (h : vc131 x_0 x_1 v Q) : Trip Tryz.prog 131 #[x_0.val, x_1.val] v Q :=
 trip_of_eq (args := [.sl x_0, .sl x_1]) (A := ⟨[(2, [(5, .int .i64)], [])], [], [], [], psG⟩) Tryz.func131 (by kernel_rfl) (by kernel_rfl) (by kernel_rfl : vc131 x_0 x_1 v Q = _) h

def vc132 (x0_0 : Sl) (x0_1 : Sl) (x_1 : Sl) (x_2 : Sl) (n_3 : Int) (v : World) (Q : Value → World → Prop) : Prop :=
 ((!decide ((x_2.n : Int) = n_3)) = true →
 Q (.bool false) v) ∧
 ((!decide ((x_2.n : Int) = n_3)) = false →
 ∃ I1 : Int → World → Prop, ∃ m2 : Int → World → Nat, I1 0 v ∧
 ∀ n3 : Int, ∀ w4 : World, I1 n3 w4 →
 ((decide (n3 < n_3)) = true →
 IxOk x_2 n3 ∧
 ldT w4 x_2 n3 fun n5 n6 x7 =>
 ∃ n8 : Int, (Trip Tryz.prog 74 #[.agg #[x0_0.val, x0_1.val], x_1.val, .agg #[.int .i64 n5, .int .i64 n6, x7.val]] w4 fun r9 w10 => r9 = .int .i64 n8 ∧ Sub w4 w10) ∧
 ((!decide (n8 = 0)) = true →
 Q (.bool false) w4) ∧
 ((!decide (n8 = 0)) = false →
 ∃ n11 : Int, Wr .i64 (n3 + 1) n11 ∧
 eqS (.sl x0_0) ∧
 eqS (.sl x0_1) ∧
 I1 n11 w4 ∧
 m2 n11 w4 < m2 n3 w4)) ∧
 ((decide (n3 < n_3)) = false →
 Q (.bool true) w4))
theorem of132 (x0_0 : Sl) (x0_1 : Sl) (x_1 : Sl) (x_2 : Sl) (n_3 : Int) (v : World) (Q : Value → World → Prop) (h : vc132 x0_0 x0_1 x_1 x_2 n_3 v Q) : Trip Tryz.prog 132 #[.agg #[x0_0.val, x0_1.val], x_1.val, x_2.val, .int .i64 n_3] v Q :=
 trip_of_eq (args := [.ag [.sl x0_0, .sl x0_1], .sl x_1, .sl x_2, .num .i64 n_3]) (A := ⟨[(4, [(9, .int .i64)], [])], [], [], [], psG⟩) Tryz.func132 (by kernel_rfl) (by kernel_rfl) (by kernel_rfl : vc132 x0_0 x0_1 x_1 x_2 n_3 v Q = _) h

def vc133 (x_0 : Sl) (n_1 : Int) (v : World) (Q : Value → World → Prop) : Prop :=
 ∃ I1 : Int → World → Prop, ∃ m2 : Int → World → Nat, I1 0 v ∧
 ∀ n3 : Int, ∀ w4 : World, I1 n3 w4 →
 ((decide (n3 < (x_0.n : Int))) = true →
 ∃ n5 : Int, (Trip Tryz.prog 178 #[x_0.val, .int .i64 n3] w4 fun r6 w7 => r6 = .int .i64 n5 ∧ Sub w4 w7) ∧
 IxOk x_0 n3 ∧
 ∃ x8 : Sl, w4.cell? ((elA x_0 n3 3).add 2) = some (x8.val) ∧
 ∃ n9 : Int, Wr .i64 (n5 + (x8.n : Int)) n9 ∧
 ∃ n10 : Int, Wr .i64 (n9 - 1) n10 ∧
 ∃ q11 : Bool, (Trip Tryz.prog 107 #[.int .i64 n_1, .int .i64 n5, .int .i64 n10] w4 fun r12 w13 => r12 = .bool q11 ∧ Sub w4 w13) ∧
 (q11 = true →
 ∃ n14 : Int, Wr .i64 (n3 + 1) n14 ∧
 Q (.int .i64 n14) w4) ∧
 (q11 = false →
 ∃ n15 : Int, Wr .i64 (n3 + 1) n15 ∧
 I1 n15 w4 ∧
 m2 n15 w4 < m2 n3 w4)) ∧
 ((decide (n3 < (x_0.n : Int))) = false →
 Q (.int .i64 (-1)) w4)
theorem of133 (x_0 : Sl) (n_1 : Int) (v : World) (Q : Value → World → Prop) (h : vc133 x_0 n_1 v Q) : Trip Tryz.prog 133 #[x_0.val, .int .i64 n_1] v Q :=
 trip_of_eq (args := [.sl x_0, .num .i64 n_1]) (A := ⟨[(2, [(5, .int .i64)], [])], [], [], [], psG⟩) Tryz.func133 (by kernel_rfl) (by kernel_rfl) (by kernel_rfl : vc133 x_0 n_1 v Q = _) h

def vc134 (x0_0 : Sl) (x0_1 : Sl) (x_1 : Sl) (x_2 : Sl) (x_3 : Sl) (v : World) (Q : Value → World → Prop) : Prop :=
 ((!decide ((x_2.n : Int) = (x_3.n : Int))) = true →
 Q (.bool false) v) ∧
 ((!decide ((x_2.n : Int) = (x_3.n : Int))) = false →
 ∃ I1 : Int → World → Prop, ∃ m2 : Int → World → Nat, I1 0 v ∧
 ∀ n3 : Int, ∀ w4 : World, I1 n3 w4 →
 ((decide (n3 < (x_3.n : Int))) = true →
 IxOk x_2 n3 ∧
 ldT w4 x_2 n3 fun n5 n6 x7 =>
 ∃ n8 : Int, (Trip Tryz.prog 74 #[.agg #[x0_0.val, x0_1.val], x_1.val, .agg #[.int .i64 n5, .int .i64 n6, x7.val]] w4 fun r9 w10 => r9 = .int .i64 n8 ∧ Sub w4 w10) ∧
 IxOk x_3 n3 ∧
 ∃ n11 : Int, w4.cell? ((elA x_3 n3 1).add 0) = some (.int .i64 n11) ∧
 ((!decide (n8 = n11)) = true →
 Q (.bool false) w4) ∧
 ((!decide (n8 = n11)) = false →
 ∃ n12 : Int, Wr .i64 (n3 + 1) n12 ∧
 eqS (.sl x0_0) ∧
 eqS (.sl x0_1) ∧
 I1 n12 w4 ∧
 m2 n12 w4 < m2 n3 w4)) ∧
 ((decide (n3 < (x_3.n : Int))) = false →
 Q (.bool true) w4))
theorem of134 (x0_0 : Sl) (x0_1 : Sl) (x_1 : Sl) (x_2 : Sl) (x_3 : Sl) (v : World) (Q : Value → World → Prop) (h : vc134 x0_0 x0_1 x_1 x_2 x_3 v Q) : Trip Tryz.prog 134 #[.agg #[x0_0.val, x0_1.val], x_1.val, x_2.val, x_3.val] v Q :=
 trip_of_eq (args := [.ag [.sl x0_0, .sl x0_1], .sl x_1, .sl x_2, .sl x_3]) (A := ⟨[(4, [(9, .int .i64)], [])], [], [], [], psG⟩) Tryz.func134 (by kernel_rfl) (by kernel_rfl) (by kernel_rfl : vc134 x0_0 x0_1 x_1 x_2 x_3 v Q = _) h

def vc135 (x_0 : Sl) (n_1 : Int) (v : World) (Q : Value → World → Prop) : Prop :=
 ∃ n1 : Int, (Trip Tryz.prog 133 #[x_0.val, .int .i64 n_1] v fun r2 w3 => r2 = .int .i64 n1 ∧ Sub v w3) ∧
 ((decide (n1 < 1)) = true →
 StepT Tryz.prog (Instr.buildSlice 68 0 #[]) v fun r4 w5 =>
 ∃ x6 : Sl, r4 = x6.val ∧
 Q (x6.val) w5) ∧
 ((decide (n1 < 1)) = false →
 ∃ n7 : Int, Wr .i64 (n1 - 1) n7 ∧
 IxOk x_0 n7 ∧
 ∃ x8 : Sl, v.cell? ((elA x_0 n7 3).add 2) = some (x8.val) ∧
 ∃ n9 : Int, Wr .i64 (n1 - 1) n9 ∧
 ∃ n10 : Int, (Trip Tryz.prog 178 #[x_0.val, .int .i64 n9] v fun r11 w12 => r11 = .int .i64 n10 ∧ Sub v w12) ∧
 ∃ n13 : Int, Wr .i64 (n_1 - n10) n13 ∧
 IxOk x8 n13 ∧
 ∃ x14 : Sl, v.cell? ((elA x8 n13 1).add 0) = some (x14.val) ∧
 Q (x14.val) v)
theorem of135 (x_0 : Sl) (n_1 : Int) (v : World) (Q : Value → World → Prop) (h : vc135 x_0 n_1 v Q) : Trip Tryz.prog 135 #[x_0.val, .int .i64 n_1] v Q :=
 trip_of_eq (args := [.sl x_0, .num .i64 n_1]) (A := ⟨[], [], [], [], psG⟩) Tryz.func135 (by kernel_rfl) (by kernel_rfl) (by kernel_rfl : vc135 x_0 n_1 v Q = _) h

def vc136 (x_0 : Sl) (x_1 : Sl) (v : World) (Q : Value → World → Prop) : Prop :=
 Trip Tryz.prog 179 #[x_0.val] v fun r1 w2 =>
 ∃ x3 : Sl, r1 = x3.val ∧
 StepT Tryz.prog (Builtin.append_ #[68, 68] 68 #[(x3.val), (x_1.val)]) w2 fun r4 w5 =>
 ∃ x6 : Sl, r4 = x6.val ∧
 Q (x6.val) w5
theorem of136 (x_0 : Sl) (x_1 : Sl) (v : World) (Q : Value → World → Prop) (h : vc136 x_0 x_1 v Q) : Trip Tryz.prog 136 #[x_0.val, x_1.val] v Q :=
 trip_of_eq (args := [.sl x_0, .sl x_1]) (A := ⟨[], [], [], [], psG⟩) Tryz.func136 (by kernel_rfl) (by kernel_rfl) (by kernel_rfl : vc136 x_0 x_1 v Q = _) h

def vc137 (x0_0 : Sl) (x0_1 : Sl) (x_1 : Sl) (n2_0 : Int) (n2_1 : Int) (x2_2 : Sl) (v : World) (Q : Value → World → Prop) : Prop :=
 Trip Tryz.prog 180 #[x0_0.val, .int .i64 n2_1] v fun r1 w2 =>
 ∃ x3 : Sl, r1 = x3.val ∧
 ∃ n4 : Int, ((decide ((x3.n : Int) = 0)) = false →
 Wr .i64 (1 + (x3.n : Int)) n4) ∧
 (((decide ((x3.n : Int) = 0)) || (!decide ((x2_2.n : Int) = n4))) = false →
 IxOk x2_2 0) ∧
 ∃ n5 : Int, ∃ n6 : Int, ∃ x7 : Sl, (((decide ((x3.n : Int) = 0)) || (!decide ((x2_2.n : Int) = n4))) = false →
 w2.cell? ((elA x2_2 0 3).add 0) = some (.int .i64 n5) ∧
 w2.cell? ((elA x2_2 0 3).add 1) = some (.int .i64 n6) ∧
 w2.cell? ((elA x2_2 0 3).add 2) = some (x7.val)) ∧
 ∃ n8 : Int, (((decide ((x3.n : Int) = 0)) || (!decide ((x2_2.n : Int) = n4))) = false →
 (Trip Tryz.prog 74 #[.agg #[x0_0.val, x0_1.val], x_1.val, .agg #[.int .i64 n5, .int .i64 n6, x7.val]] w2 fun r9 w10 => r9 = .int .i64 n8 ∧ Sub w2 w10)) ∧
 ((((decide ((x3.n : Int) = 0)) || (!decide ((x2_2.n : Int) = n4))) || (!decide (n8 = n2_1))) = true →
 Q (.int .i64 (-1)) w2) ∧
 ((((decide ((x3.n : Int) = 0)) || (!decide ((x2_2.n : Int) = n4))) || (!decide (n8 = n2_1))) = false →
 IxOk x3 0 ∧
 ∃ n11 : Int, w2.cell? ((elA x3 0 1).add 0) = some (.int .i64 n11) ∧
 IxOk x2_2 1 ∧
 ldT w2 x2_2 1 fun n12 n13 x14 =>
 Trip Tryz.prog 135 #[x0_0.val, .int .i64 n11] w2 fun r15 w16 =>
 ∃ x17 : Sl, r15 = x17.val ∧
 Sub w2 w16 ∧
 Trip Tryz.prog 136 #[x_1.val, x17.val] w16 fun r18 w19 =>
 ∃ x20 : Sl, r18 = x20.val ∧
 Sub w16 w19 ∧
 ∃ n21 : Int, (Trip Tryz.prog 74 #[.agg #[x0_0.val, x0_1.val], x20.val, .agg #[.int .i64 n12, .int .i64 n13, x14.val]] w19 fun r22 w23 => r22 = .int .i64 n21 ∧ Sub w19 w23) ∧
 ∃ I24 : Int → World → Prop, ∃ m25 : Int → World → Nat, I24 1 w19 ∧
 ∀ n26 : Int, ∀ w27 : World, I24 n26 w27 →
 ((decide (n26 < (x3.n : Int))) = true →
 IxOk x3 n26 ∧
 ∃ n28 : Int, w27.cell? ((elA x3 n26 1).add 0) = some (.int .i64 n28) ∧
 ∃ n29 : Int, Wr .i64 (1 + n26) n29 ∧
 IxOk x2_2 n29 ∧
 ldT w27 x2_2 n29 fun n30 n31 x32 =>
 Trip Tryz.prog 135 #[x0_0.val, .int .i64 n28] w27 fun r33 w34 =>
 ∃ x35 : Sl, r33 = x35.val ∧
 Sub w27 w34 ∧
 Trip Tryz.prog 136 #[x_1.val, x35.val] w34 fun r36 w37 =>
 ∃ x38 : Sl, r36 = x38.val ∧
 Sub w34 w37 ∧
 ∃ n39 : Int, (Trip Tryz.prog 74 #[.agg #[x0_0.val, x0_1.val], x38.val, .agg #[.int .i64 n30, .int .i64 n31, x32.val]] w37 fun r40 w41 => r40 = .int .i64 n39 ∧ Sub w37 w41) ∧
 ((!decide (n39 = n21)) = true →
 Q (.int .i64 (-1)) w37) ∧
 ((!decide (n39 = n21)) = false →
 ∃ n42 : Int, Wr .i64 (n26 + 1) n42 ∧
 eqS (.sl x0_0) ∧
 eqS (.sl x0_1) ∧
 eqS (.num .i64 n2_0) ∧
 eqS (.num .i64 n2_1) ∧
 eqS (.sl x2_2) ∧
 I24 n42 w37 ∧
 m25 n42 w37 < m25 n26 w27)) ∧
 ((decide (n26 < (x3.n : Int))) = false →
 Q (.int .i64 n21) w27))
theorem of137 (x0_0 : Sl) (x0_1 : Sl) (x_1 : Sl) (n2_0 : Int) (n2_1 : Int) (x2_2 : Sl) (v : World) (Q : Value → World → Prop) (h : vc137 x0_0 x0_1 x_1 n2_0 n2_1 x2_2 v Q) : Trip Tryz.prog 137 #[.agg #[x0_0.val, x0_1.val], x_1.val, .agg #[.int .i64 n2_0, .int .i64 n2_1, x2_2.val]] v Q :=
 trip_of_eq (args := [.ag [.sl x0_0, .sl x0_1], .sl x_1, .ag [.num .i64 n2_0, .num .i64 n2_1, .sl x2_2]]) (A := ⟨[(6, [(9, .int .i64)], [])], [], [(4, [7, 8]), (8, [8, 9])], [], psG⟩) Tryz.func137 (by kernel_rfl) (by kernel_rfl) (by kernel_rfl : vc137 x0_0 x0_1 x_1 n2_0 n2_1 x2_2 v Q = _) h

def vc138 (x0_0 : Sl) (x0_1 : Sl) (x_1 : Sl) (n2_0 : Int) (n2_1 : Int) (x2_2 : Sl) (v : World) (Q : Value → World → Prop) : Prop :=
 ∃ n1 : Int, Wr .i64 ((x0_1.n : Int) - 1) n1 ∧
 ∃ q2 : Bool, (Trip Tryz.prog 107 #[.int .i64 n2_1, .int .i64 0, .int .i64 n1] v fun r3 w4 => r3 = .bool q2 ∧ Sub v w4) ∧
 ((!q2) = true →
 Q (.int .i64 (-1)) v) ∧
 ((!q2) = false →
 IxOk x0_1 n2_1 ∧
 ldF v x0_1 n2_1 fun x5 n6 n7 n8 x9 =>
 ((decide (n2_0 = 9)) = true →
 ∃ q10 : Bool, (Trip Tryz.prog 134 #[.agg #[x0_0.val, x0_1.val], x_1.val, x2_2.val, x5.val] v fun r11 w12 => r11 = .bool q10 ∧ Sub v w12) ∧
 ((!q10) = true →
 Q (.int .i64 (-1)) v) ∧
 ((!q10) = false →
 Q (.int .i64 n6) v)) ∧
 ((decide (n2_0 = 9)) = false →
 ∃ n13 : Int, ((decide ((x5.n : Int) = 0)) = false →
 Wr .i64 ((x5.n : Int) - 1) n13) ∧
 ((decide ((x5.n : Int) = 0)) = false →
 CutOk x5 0 n13) ∧
 ∃ q14 : Bool, ((decide ((x5.n : Int) = 0)) = false →
 (Trip Tryz.prog 134 #[.agg #[x0_0.val, x0_1.val], x_1.val, x2_2.val, (x5.cut 0 n13 1).val] v fun r15 w16 => r15 = .bool q14 ∧ Sub v w16)) ∧
 (((decide ((x5.n : Int) = 0)) || (!q14)) = true →
 Q (.int .i64 (-1)) v) ∧
 (((decide ((x5.n : Int) = 0)) || (!q14)) = false →
 ∃ n17 : Int, Wr .i64 ((x5.n : Int) - 1) n17 ∧
 IxOk x5 n17 ∧
 ∃ n18 : Int, v.cell? ((elA x5 n17 1).add 0) = some (.int .i64 n18) ∧
 ∃ n19 : Int, (Trip Tryz.prog 181 #[x0_0.val, .int .i64 n18, .int .i64 n6] v fun r20 w21 => r20 = .int .i64 n19 ∧ Sub v w21) ∧
 Q (.int .i64 n19) v)))
theorem of138 (x0_0 : Sl) (x0_1 : Sl) (x_1 : Sl) (n2_0 : Int) (n2_1 : Int) (x2_2 : Sl) (v : World) (Q : Value → World → Prop) (h : vc138 x0_0 x0_1 x_1 n2_0 n2_1 x2_2 v Q) : Trip Tryz.prog 138 #[.agg #[x0_0.val, x0_1.val], x_1.val, .agg #[.int .i64 n2_0, .int .i64 n2_1, x2_2.val]] v Q :=
 trip_of_eq (args := [.ag [.sl x0_0, .sl x0_1], .sl x_1, .ag [.num .i64 n2_0, .num .i64 n2_1, .sl x2_2]]) (A := ⟨[], [], [], [], psG⟩) Tryz.func138 (by kernel_rfl) (by kernel_rfl) (by kernel_rfl : vc138 x0_0 x0_1 x_1 n2_0 n2_1 x2_2 v Q = _) h

def vc139 (x_0 : Sl) (n_1 : Int) (v : World) (Q : Value → World → Prop) : Prop :=
 ∃ q1 : Bool, (Trip Tryz.prog 107 #[.int .i64 n_1, .int .i64 1, .int .i64 (x_0.n : Int)] v fun r2 w3 => r2 = .bool q1 ∧ Sub v w3) ∧
 ∃ n4 : Int, (q1 = true →
 Wr .i64 (n_1 - 1) n4) ∧
 (q1 = true →
 IxOk x_0 n4) ∧
 ∃ x5 : Sl, (q1 = true →
 v.cell? ((elA x_0 n4 3).add 2) = some (x5.val)) ∧
 Q (.bool (q1 && (decide ((x5.n : Int) = 0)))) v
theorem of139 (x_0 : Sl) (n_1 : Int) (v : World) (Q : Value → World → Prop) (h : vc139 x_0 n_1 v Q) : Trip Tryz.prog 139 #[x_0.val, .int .i64 n_1] v Q :=
 trip_of_eq (args := [.sl x_0, .num .i64 n_1]) (A := ⟨[], [], [], [], psG⟩) Tryz.func139 (by kernel_rfl) (by kernel_rfl) (by kernel_rfl : vc139 x_0 n_1 v Q = _) h

def vc146 (x_0 : Sl) (x_1 : Sl) (v : World) (Q : Value → World → Prop) : Prop :=
 ((!decide ((x_0.n : Int) = (x_1.n : Int))) = true →
 Q (.bool false) v) ∧
 ((!decide ((x_0.n : Int) = (x_1.n : Int))) = false →
 ∃ I1 : Int → World → Prop, ∃ m2 : Int → World → Nat, I1 0 v ∧
 ∀ n3 : Int, ∀ w4 : World, I1 n3 w4 →
 ((decide (n3 < (x_0.n : Int))) = true →
 IxOk x_0 n3 ∧
 ∃ x5 : Sl, w4.cell? ((elA x_0 n3 1).add 0) = some (x5.val) ∧
 IxOk x_1 n3 ∧
 ∃ x6 : Sl, w4.cell? ((elA x_1 n3 1).add 0) = some (x6.val) ∧
 ∃ q7 : Bool, (Trip Tryz.prog 189 #[.agg #[x5.val], .agg #[x6.val]] w4 fun r8 w9 => r8 = .bool q7 ∧ Sub w4 w9) ∧
 ((!q7) = true →
 Q (.bool false) w4) ∧
 ((!q7) = false →
 ∃ n10 : Int, Wr .i64 (n3 + 1) n10 ∧
 I1 n10 w4 ∧
 m2 n10 w4 < m2 n3 w4)) ∧
 ((decide (n3 < (x_0.n : Int))) = false →
 Q (.bool true) w4))
theorem of146 (x_0 : Sl) (x_1 : Sl) (v : World) (Q : Value → World → Prop) (h : vc146 x_0 x_1 v Q) : Trip Tryz.prog 146 #[x_0.val, x_1.val] v Q :=
 trip_of_eq (args := [.sl x_0, .sl x_1]) (A := ⟨[(4, [(5, .int .i64)], [])], [], [], [], psG⟩) Tryz.func146 (by kernel_rfl) (by kernel_rfl) (by kernel_rfl : vc146 x_0 x_1 v Q = _) h

def vc147 (x_0 : Sl) (x_1 : Sl) (v : World) (Q : Value → World → Prop) : Prop :=
 ((!decide ((x_0.n : Int) = (x_1.n : Int))) = true →
 Q (.bool false) v) ∧
 ((!decide ((x_0.n : Int) = (x_1.n : Int))) = false →
 ∃ I1 : Int → World → Prop, ∃ m2 : Int → World → Nat, I1 0 v ∧
 ∀ n3 : Int, ∀ w4 : World, I1 n3 w4 →
 ((decide (n3 < (x_0.n : Int))) = true →
 IxOk x_0 n3 ∧
 ∃ n5 : Int, w4.cell? ((elA x_0 n3 1).add 0) = some (.int .i64 n5) ∧
 IxOk x_1 n3 ∧
 ∃ n6 : Int, w4.cell? ((elA x_1 n3 1).add 0) = some (.int .i64 n6) ∧
 ((!decide (n5 = n6)) = true →
 Q (.bool false) w4) ∧
 ((!decide (n5 = n6)) = false →
 ∃ n7 : Int, Wr .i64 (n3 + 1) n7 ∧
 I1 n7 w4 ∧
 m2 n7 w4 < m2 n3 w4)) ∧
 ((decide (n3 < (x_0.n : Int))) = false →
 Q (.bool true) w4))
theorem of147 (x_0 : Sl) (x_1 : Sl) (v : World) (Q : Value → World → Prop) (h : vc147 x_0 x_1 v Q) : Trip Tryz.prog 147 #[x_0.val, x_1.val] v Q :=
 trip_of_eq (args := [.sl x_0, .sl x_1]) (A := ⟨[(4, [(5, .int .i64)], [])], [], [], [], psG⟩) Tryz.func147 (by kernel_rfl) (by kernel_rfl) (by kernel_rfl : vc147 x_0 x_1 v Q = _) h

def vc148 (n0_0 : Int) (n0_1 : Int) (x0_2 : Sl) (n1_0 : Int) (n1_1 : Int) (x1_2 : Sl) (v : World) (Q : Value → World → Prop) : Prop :=
 ((!decide (n0_0 = n1_0)) = true →
 Q (.bool false) v) ∧
 ((!decide (n0_0 = n1_0)) = false →
 ((!decide (n0_1 = n1_1)) = true →
 Q (.bool false) v) ∧
 ((!decide (n0_1 = n1_1)) = false →
 ∃ q1 : Bool, (Trip Tryz.prog 190 #[x0_2.val, x1_2.val] v fun r2 w3 => r2 = .bool q1 ∧ Sub v w3) ∧
 ((!q1) = true →
 Q (.bool false) v) ∧
 ((!q1) = false →
 Q (.bool true) v)))
theorem of148 (n0_0 : Int) (n0_1 : Int) (x0_2 : Sl) (n1_0 : Int) (n1_1 : Int) (x1_2 : Sl) (v : World) (Q : Value → World → Prop) (h : vc148 n0_0 n0_1 x0_2 n1_0 n1_1 x1_2 v Q) : Trip Tryz.prog 148 #[.agg #[.int .i64 n0_0, .int .i64 n0_1, x0_2.val], .agg #[.int .i64 n1_0, .int .i64 n1_1, x1_2.val]] v Q :=
 trip_of_eq (args := [.ag [.num .i64 n0_0, .num .i64 n0_1, .sl x0_2], .ag [.num .i64 n1_0, .num .i64 n1_1, .sl x1_2]]) (A := ⟨[], [], [], [], psG⟩) Tryz.func148 (by kernel_rfl) (by kernel_rfl) (by kernel_rfl : vc148 n0_0 n0_1 x0_2 n1_0 n1_1 x1_2 v Q = _) h

def vc169 (x_0 : Sl) (v : World) (Q : Value → World → Prop) : Prop :=
 ((decide ((x_0.n : Int) > 4)) = true →
 Q (.bool false) v) ∧
 ((decide ((x_0.n : Int) > 4)) = false →
 ∃ I1 : Int → World → Prop, ∃ m2 : Int → World → Nat, I1 0 v ∧
 ∀ n3 : Int, ∀ w4 : World, I1 n3 w4 →
 ((decide (n3 < (x_0.n : Int))) = true →
 IxOk x_0 n3 ∧
 ldT w4 x_0 n3 fun n5 n6 x7 =>
 ∃ q8 : Bool, (Trip Tryz.prog 170 #[x_0.val, .int .i64 n5] w4 fun r9 w10 => r9 = .bool q8 ∧ Sub w4 w10) ∧
 ∃ q11 : Bool, ((!q8) = false →
 (Trip Tryz.prog 170 #[x_0.val, .int .i64 n6] w4 fun r12 w13 => r12 = .bool q11 ∧ Sub w4 w13)) ∧
 (((((!q8) || (!q11)) || (decide ((x7.n : Int) > 3))) || ((decide ((x7.n : Int) > 0)) && ((!decide (n5 = 0)) || (!decide (n6 = 0))))) = true →
 Q (.bool false) w4) ∧
 (((((!q8) || (!q11)) || (decide ((x7.n : Int) > 3))) || ((decide ((x7.n : Int) > 0)) && ((!decide (n5 = 0)) || (!decide (n6 = 0))))) = false →
 ∃ I14 : Int → World → Prop, ∃ m15 : Int → World → Nat, I14 0 w4 ∧
 ∀ n16 : Int, ∀ w17 : World, I14 n16 w17 →
 ((decide (n16 < (x7.n : Int))) = true →
 IxOk x7 n16 ∧
 ∃ x18 : Sl, w17.cell? ((elA x7 n16 1).add 0) = some (x18.val) ∧
 ∃ q19 : Bool, ((decide ((x18.n : Int) > 3)) = false →
 (Trip Tryz.prog 123 #[x_0.val, x18.val] w17 fun r20 w21 => r20 = .bool q19 ∧ Sub w17 w21)) ∧
 (((decide ((x18.n : Int) > 3)) || (!q19)) = true →
 Q (.bool false) w17) ∧
 (((decide ((x18.n : Int) > 3)) || (!q19)) = false →
 ∃ n22 : Int, Wr .i64 (n16 + 1) n22 ∧
 eqS (.num .i64 n5) ∧
 eqS (.num .i64 n6) ∧
 eqS (.sl x7) ∧
 I14 n22 w17 ∧
 m15 n22 w17 < m15 n16 w17)) ∧
 ((decide (n16 < (x7.n : Int))) = false →
 CutOk x_0 0 n3 ∧
 ∃ I23 : Int → World → Prop, ∃ m24 : Int → World → Nat, I23 0 w17 ∧
 ∀ n25 : Int, ∀ w26 : World, I23 n25 w26 →
 ((decide (n25 < ((x_0.cut 0 n3 3).n : Int))) = true →
 IxOk (x_0.cut 0 n3 3) n25 ∧
 ldT w26 (x_0.cut 0 n3 3) n25 fun n27 n28 x29 =>
 (((((decide ((x7.n : Int) = 0)) && (decide ((x29.n : Int) = 0))) && (decide (n27 = n5))) && (decide (n28 = n6))) = true →
 Q (.bool false) w26) ∧
 (((((decide ((x7.n : Int) = 0)) && (decide ((x29.n : Int) = 0))) && (decide (n27 = n5))) && (decide (n28 = n6))) = false →
 ∃ n30 : Int, Wr .i64 (n25 + 1) n30 ∧
 eqS (.num .i64 n5) ∧
 eqS (.num .i64 n6) ∧
 eqS (.sl x7) ∧
 I23 n30 w26 ∧
 m24 n30 w26 < m24 n25 w26)) ∧
 ((decide (n25 < ((x_0.cut 0 n3 3).n : Int))) = false →
 ∃ n31 : Int, Wr .i64 (n3 + 1) n31 ∧
 I1 n31 w26 ∧
 m2 n31 w26 < m2 n3 w4)))) ∧
 ((decide (n3 < (x_0.n : Int))) = false →
 Q (.bool true) w4))
theorem of169 (x_0 : Sl) (v : World) (Q : Value → World → Prop) (h : vc169 x_0 v Q) : Trip Tryz.prog 169 #[x_0.val] v Q :=
 trip_of_eq (args := [.sl x_0]) (A := ⟨[(4, [(14, .int .i64)], []), (9, [(56, .int .i64)], []), (15, [(76, .int .i64)], [])], [], [], [], psG⟩) Tryz.func169 (by kernel_rfl) (by kernel_rfl) (by kernel_rfl : vc169 x_0 v Q = _) h

def vc170 (x_0 : Sl) (n_1 : Int) (v : World) (Q : Value → World → Prop) : Prop :=
 Q (.bool ((decide (n_1 ≥ 0)) && (decide (n_1 ≤ (x_0.n : Int))))) v
theorem of170 (x_0 : Sl) (n_1 : Int) (v : World) (Q : Value → World → Prop) (h : vc170 x_0 n_1 v Q) : Trip Tryz.prog 170 #[x_0.val, .int .i64 n_1] v Q :=
 trip_of_eq (args := [.sl x_0, .num .i64 n_1]) (A := ⟨[], [], [], [], psG⟩) Tryz.func170 (by kernel_rfl) (by kernel_rfl) (by kernel_rfl : vc170 x_0 n_1 v Q = _) h

def vc171 (x0_0 : Sl) (x0_1 : Sl) (x_1 : Sl) (x_2 : Sl) (x_3 : Sl) (v : World) (Q : Value → World → Prop) : Prop :=
 ∃ I1 : Int → Int → World → Prop, ∃ m2 : Int → Int → World → Nat, I1 (-1) 0 v ∧
 ∀ n3 : Int, ∀ n4 : Int, ∀ w5 : World, I1 n3 n4 w5 →
 ((decide (n4 < (x_2.n : Int))) = true →
 IxOk x_2 n4 ∧
 ldT w5 x_2 n4 fun n6 n7 x8 =>
 IxOk x_3 n4 ∧
 ∃ x9 : Sl, w5.cell? ((elA x_3 n4 1).add 0) = some (x9.val) ∧
 StepT Tryz.prog (Instr.buildSlice 189 2 #[(0, (x_1.val)), (1, (x9.val))]) w5 fun r10 w11 =>
 ∃ x12 : Sl, r10 = x12.val ∧
 Sub w5 w11 ∧
 Trip Tryz.prog 212 #[x12.val] w11 fun r13 w14 =>
 ∃ x15 : Sl, r13 = x15.val ∧
 Sub w11 w14 ∧
 Trip Tryz.prog 125 #[.agg #[x0_0.val, x0_1.val], x15.val, .agg #[.int .i64 n6, .int .i64 n7, x8.val]] w14 fun r16 w17 =>
 ∃ n18 : Int, r16 = .int .i64 n18 ∧
 (((decide (n18 < 0)) || ((decide (n4 > 0)) && (!decide (n18 = n3)))) = true →
 Q (.int .i64 (-1)) w17) ∧
 (((decide (n18 < 0)) || ((decide (n4 > 0)) && (!decide (n18 = n3)))) = false →
 ∃ n19 : Int, Wr .i64 (n4 + 1) n19 ∧
 eqS (.sl x0_0) ∧
 eqS (.sl x0_1) ∧
 I1 n18 n19 w17 ∧
 m2 n18 n19 w17 < m2 n3 n4 w5)) ∧
 ((decide (n4 < (x_2.n : Int))) = false →
 Q (.int .i64 n3) w5)
theorem of171 (x0_0 : Sl) (x0_1 : Sl) (x_1 : Sl) (x_2 : Sl) (x_3 : Sl) (v : World) (Q : Value → World → Prop) (h : vc171 x0_0 x0_1 x_1 x_2 x_3 v Q) : Trip Tryz.prog 171 #[.agg #[x0_0.val, x0_1.val], x_1.val, x_2.val, x_3.val] v Q :=
 trip_of_eq (args := [.ag [.sl x0_0, .sl x0_1], .sl x_1, .sl x_2, .sl x_3]) (A := ⟨[(3, [(9, .int .i64), (15, .int .i64)], [])], [], [(5, [6, 7])], [], psG⟩) Tryz.func171 (by kernel_rfl) (by kernel_rfl) (by kernel_rfl : vc171 x0_0 x0_1 x_1 x_2 x_3 v Q = _) h

def vc172 (x_0 : Sl) (n_1 : Int) (v : World) (Q : Value → World → Prop) : Prop :=
 (((decide (n_1 < 1)) || (decide (n_1 > (x_0.n : Int)))) = true →
 Q (.slice none 0 0) v) ∧
 (((decide (n_1 < 1)) || (decide (n_1 > (x_0.n : Int)))) = false →
 ∃ n1 : Int, Wr .i64 (n_1 - 1) n1 ∧
 CutOk x_0 0 n1 ∧
 ∃ n2 : Int, (Trip Tryz.prog 213 #[(x_0.cut 0 n1 3).val] v fun r3 w4 => r3 = .int .i64 n2 ∧ Sub v w4) ∧
 ∃ n5 : Int, Wr .i64 (n_1 - 1) n5 ∧
 IxOk x_0 n5 ∧
 ∃ x6 : Sl, v.cell? ((elA x_0 n5 3).add 2) = some (x6.val) ∧
 ∃ I7 : Sl → Int → World → Prop, ∃ m8 : Sl → Int → World → Nat, I7 (Sl.mk none 0 0) 0 v ∧
 ∀ x9 : Sl, ∀ n10 : Int, ∀ w11 : World, I7 x9 n10 w11 →
 ((decide (n10 < (x6.n : Int))) = true →
 ∃ n12 : Int, Wr .i64 (n2 + n10) n12 ∧
 StepT Tryz.prog (Instr.buildSlice 68 1 #[(0, (.int .i64 n12))]) w11 fun r13 w14 =>
 ∃ x15 : Sl, r13 = x15.val ∧
 StepT Tryz.prog (Builtin.append_ #[68, 68] 68 #[(x9.val), (x15.val)]) w14 fun r16 w17 =>
 ∃ x18 : Sl, r16 = x18.val ∧
 ∃ n19 : Int, Wr .i64 (n10 + 1) n19 ∧
 I7 x18 n19 w17 ∧
 m8 x18 n19 w17 < m8 x9 n10 w11) ∧
 ((decide (n10 < (x6.n : Int))) = false →
 Q (x9.val) w11))
theorem of172 (x_0 : Sl) (n_1 : Int) (v : World) (Q : Value → World → Prop) (h : vc172 x_0 n_1 v Q) : Trip Tryz.prog 172 #[x_0.val, .int .i64 n_1] v Q :=
 trip_of_eq (args := [.sl x_0, .num .i64 n_1]) (A := ⟨[(6, [(6, .sl), (28, .int .i64)], [])], [], [], [], psG⟩) Tryz.func172 (by kernel_rfl) (by kernel_rfl) (by kernel_rfl : vc172 x_0 n_1 v Q = _) h

def vc173 (x_0 : Sl) (n_1 : Int) (v : World) (Q : Value → World → Prop) : Prop :=
 ∃ n1 : Int, ∃ x2 : Sl, (Trip Tryz.prog 214 #[x_0.val, .int .i64 n_1] v fun r3 w4 => r3 = .tuple #[.int .i64 n1, .agg #[x2.val]] ∧ Sub v w4) ∧
 Q (x2.val) v
theorem of173 (x_0 : Sl) (n_1 : Int) (v : World) (Q : Value → World → Prop) (h : vc173 x_0 n_1 v Q) : Trip Tryz.prog 173 #[x_0.val, .int .i64 n_1] v Q :=
 trip_of_eq (args := [.sl x_0, .num .i64 n_1]) (A := ⟨[], [], [], [], psG⟩) Tryz.func173 (by kernel_rfl) (by kernel_rfl) (by kernel_rfl : vc173 x_0 n_1 v Q = _) h

def vc174 (x0_0 : Sl) (x0_1 : Sl) (n_1 : Int) (n_2 : Int) (x_3 : Sl) (v : World) (Q : Value → World → Prop) : Prop :=
 ((decide (n_1 = 0)) = true →
 Q (.tuple #[.int .i64 0, .bool (((decide (n_2 ≥ (-999))) && (decide (n_2 ≤ 999))) && (decide ((x_3.n : Int) = 0)))]) v) ∧
 ((decide (n_1 = 0)) = false →
 ((decide (n_1 = 1)) = true →
 StepT Tryz.prog (Instr.buildSlice 68 2 #[(0, (.int .i64 0)), (1, (.int .i64 0))]) v fun r1 w2 =>
 ∃ x3 : Sl, r1 = x3.val ∧
 ∃ q4 : Bool, ((decide (n_2 = 0)) = true →
 (Trip Tryz.prog 216 #[x_3.val, x3.val] w2 fun r5 w6 => r5 = .bool q4 ∧ Sub w2 w6)) ∧
 Q (.tuple #[.int .i64 0, .bool ((decide (n_2 = 0)) && q4)]) w2) ∧
 ((decide (n_1 = 1)) = false →
 ((decide (n_1 = 2)) = true →
 StepT Tryz.prog (Instr.buildSlice 68 2 #[(0, (.int .i64 0)), (1, (.int .i64 0))]) v fun r7 w8 =>
 ∃ x9 : Sl, r7 = x9.val ∧
 ∃ q10 : Bool, ((decide (n_2 = 0)) = true →
 (Trip Tryz.prog 216 #[x_3.val, x9.val] w8 fun r11 w12 => r11 = .bool q10 ∧ Sub w8 w12)) ∧
 Q (.tuple #[.int .i64 0, .bool ((decide (n_2 = 0)) && q10)]) w8) ∧
 ((decide (n_1 = 2)) = false →
 ((decide (n_1 = 3)) = true →
 StepT Tryz.prog (Instr.buildSlice 68 2 #[(0, (.int .i64 0)), (1, (.int .i64 0))]) v fun r13 w14 =>
 ∃ x15 : Sl, r13 = x15.val ∧
 ∃ q16 : Bool, ((decide (n_2 = 0)) = true →
 (Trip Tryz.prog 216 #[x_3.val, x15.val] w14 fun r17 w18 => r17 = .bool q16 ∧ Sub w14 w18)) ∧
 Q (.tuple #[.int .i64 0, .bool ((decide (n_2 = 0)) && q16)]) w14) ∧
 ((decide (n_1 = 3)) = false →
 ((decide (n_1 = 4)) = true →
 StepT Tryz.prog (Instr.buildSlice 68 2 #[(0, (.int .i64 0)), (1, (.int .i64 0))]) v fun r19 w20 =>
 ∃ x21 : Sl, r19 = x21.val ∧
 ∃ q22 : Bool, ((decide (n_2 = 0)) = true →
 (Trip Tryz.prog 216 #[x_3.val, x21.val] w20 fun r23 w24 => r23 = .bool q22 ∧ Sub w20 w24)) ∧
 Q (.tuple #[.int .i64 0, .bool ((decide (n_2 = 0)) && q22)]) w20) ∧
 ((decide (n_1 = 4)) = false →
 ((decide (n_1 = 5)) = true →
 StepT Tryz.prog (Instr.buildSlice 68 1 #[(0, (.int .i64 0))]) v fun r25 w26 =>
 ∃ x27 : Sl, r25 = x27.val ∧
 ∃ q28 : Bool, ((decide (n_2 = 0)) = true →
 (Trip Tryz.prog 216 #[x_3.val, x27.val] w26 fun r29 w30 => r29 = .bool q28 ∧ Sub w26 w30)) ∧
 Q (.tuple #[.int .i64 0, .bool ((decide (n_2 = 0)) && q28)]) w26) ∧
 ((decide (n_1 = 5)) = false →
 ((decide (n_1 = 11)) = true →
 ((!decide ((x_3.n : Int) = 2)) = true →
 Q (.tuple #[.int .i64 (-1), .bool false]) v) ∧
 ((!decide ((x_3.n : Int) = 2)) = false →
 IxOk x_3 0 ∧
 ∃ n31 : Int, v.cell? ((elA x_3 0 1).add 0) = some (.int .i64 n31) ∧
 ∃ n32 : Int, ∃ n33 : Int, ∃ x34 : Sl, ∃ q35 : Bool, (Trip Tryz.prog 215 #[x0_0.val, .int .i64 n31] v fun r36 w37 => r36 = .tuple #[.agg #[.int .i64 n32, .int .i64 n33, x34.val], .bool q35] ∧ Sub v w37) ∧
 Sub v v ∧
 (q35 = true →
 IxOk x_3 1) ∧
 ∃ n38 : Int, (q35 = true →
 v.cell? ((elA x_3 1 1).add 0) = some (.int .i64 n38)) ∧
 Q (.tuple #[.int .i64 n33, .bool ((q35 && (decide (n38 = n32))) && (decide (n_2 = 0)))]) v)) ∧
 ((decide (n_1 = 11)) = false →
 ((decide (n_1 = 6)) = true →
 ∃ n39 : Int, ∃ x40 : Sl, (Trip Tryz.prog 214 #[x0_0.val, .int .i64 n_2] v fun r41 w42 => r41 = .tuple #[.int .i64 n39, .agg #[x40.val]] ∧ Sub v w42) ∧
 ∃ q43 : Bool, ((decide (n39 ≥ 0)) = true →
 (Trip Tryz.prog 216 #[x_3.val, x40.val] v fun r44 w45 => r44 = .bool q43 ∧ Sub v w45)) ∧
 Q (.tuple #[.int .i64 n39, .bool ((decide (n39 ≥ 0)) && q43)]) v) ∧
 ((decide (n_1 = 6)) = false →
 ((decide (n_1 = 9)) = true →
 (((decide (n_2 < 0)) || (decide (n_2 ≥ (x0_1.n : Int)))) = true →
 Q (.tuple #[.int .i64 (-1), .bool false]) v) ∧
 (((decide (n_2 < 0)) || (decide (n_2 ≥ (x0_1.n : Int)))) = false →
 IxOk x0_1 n_2 ∧
 ∃ x46 : Sl, v.cell? ((elA x0_1 n_2 3).add 0) = some (x46.val) ∧
 IxOk x0_1 n_2 ∧
 ∃ n47 : Int, v.cell? ((elA x0_1 n_2 3).add 2) = some (.int .i64 n47) ∧
 ((decide (n_1 = 9)) = true →
 ∃ q48 : Bool, (Trip Tryz.prog 216 #[x_3.val, x46.val] v fun r49 w50 => r49 = .bool q48 ∧ Sub v w50) ∧
 Q (.tuple #[.int .i64 n47, .bool q48]) v) ∧
 ((decide (n_1 = 9)) = false →
 ∃ n51 : Int, Wr .i64 ((x46.n : Int) - 1) n51 ∧
 ((decide (n51 < 0)) = true →
 Q (.tuple #[.int .i64 (-1), .bool false]) v) ∧
 ((decide (n51 < 0)) = false →
 IxOk x46 n51 ∧
 ∃ n52 : Int, v.cell? ((elA x46 n51 1).add 0) = some (.int .i64 n52) ∧
 ∃ n53 : Int, (Trip Tryz.prog 217 #[x0_0.val, .int .i64 n52, .int .i64 n47] v fun r54 w55 => r54 = .int .i64 n53 ∧ Sub v w55) ∧
 ((decide (n53 ≥ 0)) = true →
 CutOk x46 0 n51) ∧
 ∃ q56 : Bool, ((decide (n53 ≥ 0)) = true →
 (Trip Tryz.prog 216 #[x_3.val, (x46.cut 0 n51 1).val] v fun r57 w58 => r57 = .bool q56 ∧ Sub v w58)) ∧
 Q (.tuple #[.int .i64 n53, .bool ((decide (n53 ≥ 0)) && q56)]) v)))) ∧
 ((decide (n_1 = 9)) = false →
 ((decide (n_1 = 10)) = true →
 (((decide (n_2 < 0)) || (decide (n_2 ≥ (x0_1.n : Int)))) = true →
 Q (.tuple #[.int .i64 (-1), .bool false]) v) ∧
 (((decide (n_2 < 0)) || (decide (n_2 ≥ (x0_1.n : Int)))) = false →
 IxOk x0_1 n_2 ∧
 ∃ x59 : Sl, v.cell? ((elA x0_1 n_2 3).add 0) = some (x59.val) ∧
 IxOk x0_1 n_2 ∧
 ∃ n60 : Int, v.cell? ((elA x0_1 n_2 3).add 2) = some (.int .i64 n60) ∧
 ((decide (n_1 = 9)) = true →
 ∃ q61 : Bool, (Trip Tryz.prog 216 #[x_3.val, x59.val] v fun r62 w63 => r62 = .bool q61 ∧ Sub v w63) ∧
 Q (.tuple #[.int .i64 n60, .bool q61]) v) ∧
 ((decide (n_1 = 9)) = false →
 ∃ n64 : Int, Wr .i64 ((x59.n : Int) - 1) n64 ∧
 ((decide (n64 < 0)) = true →
 Q (.tuple #[.int .i64 (-1), .bool false]) v) ∧
 ((decide (n64 < 0)) = false →
 IxOk x59 n64 ∧
 ∃ n65 : Int, v.cell? ((elA x59 n64 1).add 0) = some (.int .i64 n65) ∧
 ∃ n66 : Int, (Trip Tryz.prog 217 #[x0_0.val, .int .i64 n65, .int .i64 n60] v fun r67 w68 => r67 = .int .i64 n66 ∧ Sub v w68) ∧
 ((decide (n66 ≥ 0)) = true →
 CutOk x59 0 n64) ∧
 ∃ q69 : Bool, ((decide (n66 ≥ 0)) = true →
 (Trip Tryz.prog 216 #[x_3.val, (x59.cut 0 n64 1).val] v fun r70 w71 => r70 = .bool q69 ∧ Sub v w71)) ∧
 Q (.tuple #[.int .i64 n66, .bool ((decide (n66 ≥ 0)) && q69)]) v)))) ∧
 ((decide (n_1 = 10)) = false →
 Q (.tuple #[.int .i64 (-1), .bool false]) v))))))))))
theorem of174 (x0_0 : Sl) (x0_1 : Sl) (n_1 : Int) (n_2 : Int) (x_3 : Sl) (v : World) (Q : Value → World → Prop) (h : vc174 x0_0 x0_1 n_1 n_2 x_3 v Q) : Trip Tryz.prog 174 #[.agg #[x0_0.val, x0_1.val], .int .i64 n_1, .int .i64 n_2, x_3.val] v Q :=
 trip_of_eq (args := [.ag [.sl x0_0, .sl x0_1], .num .i64 n_1, .num .i64 n_2, .sl x_3]) (A := ⟨[], [], [(16, [9])], [999999], psG⟩) Tryz.func174 (by kernel_rfl) (by kernel_rfl) (by kernel_rfl : vc174 x0_0 x0_1 n_1 n_2 x_3 v Q = _) h

def vc177 (x_0 : Sl) (n_1 : Int) (v : World) (Q : Value → World → Prop) : Prop :=
 IxOk x_0 n_1 ∧
 ldT v x_0 n_1 fun n1 n2 x3 =>
 ((decide ((x3.n : Int) > 0)) = true →
 ((((decide ((x3.n : Int) > 3)) || (!decide (n1 = 0))) || (!decide (n2 = 0))) = true →
 Q (.bool false) v) ∧
 ((((decide ((x3.n : Int) > 3)) || (!decide (n1 = 0))) || (!decide (n2 = 0))) = false →
 ∃ I4 : Int → World → Prop, ∃ m5 : Int → World → Nat, I4 0 v ∧
 ∀ n6 : Int, ∀ w7 : World, I4 n6 w7 →
 ((decide (n6 < (x3.n : Int))) = true →
 IxOk x3 n6 ∧
 ∃ x8 : Sl, w7.cell? ((elA x3 n6 1).add 0) = some (x8.val) ∧
 ((decide ((x8.n : Int) > 3)) = false →
 IxOk x3 n6) ∧
 ∃ x9 : Sl, ((decide ((x8.n : Int) > 3)) = false →
 w7.cell? ((elA x3 n6 1).add 0) = some (x9.val)) ∧
 ∃ q10 : Bool, ((decide ((x8.n : Int) > 3)) = false →
 (Trip Tryz.prog 131 #[x_0.val, x9.val] w7 fun r11 w12 => r11 = .bool q10 ∧ Sub w7 w12)) ∧
 (((decide ((x8.n : Int) > 3)) || (!q10)) = true →
 Q (.bool false) w7) ∧
 (((decide ((x8.n : Int) > 3)) || (!q10)) = false →
 ∃ n13 : Int, Wr .i64 (n6 + 1) n13 ∧
 eqS (.num .i64 n1) ∧
 eqS (.num .i64 n2) ∧
 eqS (.sl x3) ∧
 I4 n13 w7 ∧
 m5 n13 w7 < m5 n6 w7)) ∧
 ((decide (n6 < (x3.n : Int))) = false →
 Q (.bool true) w7))) ∧
 ((decide ((x3.n : Int) > 0)) = false →
 ∃ I14 : Int → World → Prop, ∃ m15 : Int → World → Nat, I14 0 v ∧
 ∀ n16 : Int, ∀ w17 : World, I14 n16 w17 →
 ((decide (n16 < n_1)) = true →
 IxOk x_0 n16 ∧
 ∃ x18 : Sl, w17.cell? ((elA x_0 n16 3).add 2) = some (x18.val) ∧
 ((decide ((x18.n : Int) = 0)) = true →
 IxOk x_0 n16) ∧
 ∃ n19 : Int, ((decide ((x18.n : Int) = 0)) = true →
 w17.cell? ((elA x_0 n16 3).add 0) = some (.int .i64 n19)) ∧
 (((decide ((x18.n : Int) = 0)) && (decide (n19 = n1))) = true →
 IxOk x_0 n16) ∧
 ∃ n20 : Int, (((decide ((x18.n : Int) = 0)) && (decide (n19 = n1))) = true →
 w17.cell? ((elA x_0 n16 3).add 1) = some (.int .i64 n20)) ∧
 ((((decide ((x18.n : Int) = 0)) && (decide (n19 = n1))) && (decide (n20 = n2))) = true →
 Q (.bool false) w17) ∧
 ((((decide ((x18.n : Int) = 0)) && (decide (n19 = n1))) && (decide (n20 = n2))) = false →
 ∃ n21 : Int, Wr .i64 (n16 + 1) n21 ∧
 eqS (.num .i64 n1) ∧
 eqS (.num .i64 n2) ∧
 eqS (.sl x3) ∧
 I14 n21 w17 ∧
 m15 n21 w17 < m15 n16 w17)) ∧
 ((decide (n16 < n_1)) = false →
 ∃ q22 : Bool, (Trip Tryz.prog 107 #[.int .i64 n1, .int .i64 0, .int .i64 (x_0.n : Int)] w17 fun r23 w24 => r23 = .bool q22 ∧ Sub w17 w24) ∧
 ∃ q25 : Bool, (q22 = true →
 (Trip Tryz.prog 107 #[.int .i64 n2, .int .i64 0, .int .i64 (x_0.n : Int)] w17 fun r26 w27 => r26 = .bool q25 ∧ Sub w17 w27)) ∧
 Q (.bool (q22 && q25)) w17))
theorem of177 (x_0 : Sl) (n_1 : Int) (v : World) (Q : Value → World → Prop) (h : vc177 x_0 n_1 v Q) : Trip Tryz.prog 177 #[x_0.val, .int .i64 n_1] v Q :=
 trip_of_eq (args := [.sl x_0, .num .i64 n_1]) (A := ⟨[(6, [(6, .int .i64)], []), (12, [(7, .int .i64)], [])], [], [], [], psG⟩) Tryz.func177 (by kernel_rfl) (by kernel_rfl) (by kernel_rfl : vc177 x_0 n_1 v Q = _) h

def vc178 (x_0 : Sl) (n_1 : Int) (v : World) (Q : Value → World → Prop) : Prop :=
 ∃ I1 : Int → Int → World → Prop, ∃ m2 : Int → Int → World → Nat, I1 0 0 v ∧
 ∀ n3 : Int, ∀ n4 : Int, ∀ w5 : World, I1 n3 n4 w5 →
 ((decide (n4 < n_1)) = true →
 IxOk x_0 n4 ∧
 ∃ x6 : Sl, w5.cell? ((elA x_0 n4 3).add 2) = some (x6.val) ∧
 ∃ n7 : Int, Wr .i64 (n3 + (x6.n : Int)) n7 ∧
 ∃ n8 : Int, Wr .i64 (n4 + 1) n8 ∧
 I1 n7 n8 w5 ∧
 m2 n7 n8 w5 < m2 n3 n4 w5) ∧
 ((decide (n4 < n_1)) = false →
 Q (.int .i64 n3) w5)
theorem of178 (x_0 : Sl) (n_1 : Int) (v : World) (Q : Value → World → Prop) (h : vc178 x_0 n_1 v Q) : Trip Tryz.prog 178 #[x_0.val, .int .i64 n_1] v Q :=
 trip_of_eq (args := [.sl x_0, .num .i64 n_1]) (A := ⟨[(3, [(5, .int .i64), (6, .int .i64)], [])], [], [], [], psG⟩) Tryz.func178 (by kernel_rfl) (by kernel_rfl) (by kernel_rfl : vc178 x_0 n_1 v Q = _) h

def vc179 (x_0 : Sl) (v : World) (Q : Value → World → Prop) : Prop :=
 StepT Tryz.prog (Instr.buildSlice 68 0 #[]) v fun r1 w2 =>
 ∃ x3 : Sl, r1 = x3.val ∧
 StepT Tryz.prog (Builtin.append_ #[68, 68] 68 #[(x3.val), (x_0.val)]) w2 fun r4 w5 =>
 ∃ x6 : Sl, r4 = x6.val ∧
 Q (x6.val) w5
theorem of179 (x_0 : Sl) (v : World) (Q : Value → World → Prop) (h : vc179 x_0 v Q) : Trip Tryz.prog 179 #[x_0.val] v Q :=
 trip_of_eq (args := [.sl x_0]) (A := ⟨[], [], [], [], psG⟩) Tryz.func179 (by kernel_rfl) (by kernel_rfl) (by kernel_rfl : vc179 x_0 v Q = _) h

def vc180 (x_0 : Sl) (n_1 : Int) (v : World) (Q : Value → World → Prop) : Prop :=
 StepT Tryz.prog (Instr.buildSlice 68 0 #[]) v fun r1 w2 =>
 ∃ x3 : Sl, r1 = x3.val ∧
 ∃ q4 : Bool, (Trip Tryz.prog 107 #[.int .i64 n_1, .int .i64 1, .int .i64 (x_0.n : Int)] w2 fun r5 w6 => r5 = .bool q4 ∧ Sub w2 w6) ∧
 ((!q4) = true →
 Q (x3.val) w2) ∧
 ((!q4) = false →
 ∃ I7 : Sl → Int → World → Prop, ∃ m8 : Sl → Int → World → Nat, I7 x3 0 w2 ∧
 ∀ x9 : Sl, ∀ n10 : Int, ∀ w11 : World, I7 x9 n10 w11 →
 ∃ n12 : Int, Wr .i64 (n_1 - 1) n12 ∧
 IxOk x_0 n12 ∧
 ∃ x13 : Sl, w11.cell? ((elA x_0 n12 3).add 2) = some (x13.val) ∧
 ((decide (n10 < (x13.n : Int))) = true →
 ∃ n14 : Int, Wr .i64 (n_1 - 1) n14 ∧
 ∃ n15 : Int, (Trip Tryz.prog 178 #[x_0.val, .int .i64 n14] w11 fun r16 w17 => r16 = .int .i64 n15 ∧ Sub w11 w17) ∧
 ∃ n18 : Int, Wr .i64 (n15 + n10) n18 ∧
 StepT Tryz.prog (Instr.buildSlice 68 1 #[(0, (.int .i64 n18))]) w11 fun r19 w20 =>
 ∃ x21 : Sl, r19 = x21.val ∧
 StepT Tryz.prog (Builtin.append_ #[68, 68] 68 #[(x9.val), (x21.val)]) w20 fun r22 w23 =>
 ∃ x24 : Sl, r22 = x24.val ∧
 ∃ n25 : Int, Wr .i64 (n10 + 1) n25 ∧
 I7 x24 n25 w23 ∧
 m8 x24 n25 w23 < m8 x9 n10 w11) ∧
 ((decide (n10 < (x13.n : Int))) = false →
 Q (x9.val) w11))
theorem of180 (x_0 : Sl) (n_1 : Int) (v : World) (Q : Value → World → Prop) (h : vc180 x_0 n_1 v Q) : Trip Tryz.prog 180 #[x_0.val, .int .i64 n_1] v Q :=
 trip_of_eq (args := [.sl x_0, .num .i64 n_1]) (A := ⟨[(5, [(5, .sl), (6, .int .i64)], [])], [], [], [], psG⟩) Tryz.func180 (by kernel_rfl) (by kernel_rfl) (by kernel_rfl : vc180 x_0 n_1 v Q = _) h

def vc181 (x_0 : Sl) (n_1 : Int) (n_2 : Int) (v : World) (Q : Value → World → Prop) : Prop :=
 ∃ I1 : Int → World → Prop, ∃ m2 : Int → World → Nat, I1 0 v ∧
 ∀ n3 : Int, ∀ w4 : World, I1 n3 w4 →
 ((decide (n3 < (x_0.n : Int))) = true →
 IxOk x_0 n3 ∧
 ∃ x5 : Sl, w4.cell? ((elA x_0 n3 3).add 2) = some (x5.val) ∧
 ((decide ((x5.n : Int) = 0)) = true →
 IxOk x_0 n3) ∧
 ∃ n6 : Int, ((decide ((x5.n : Int) = 0)) = true →
 w4.cell? ((elA x_0 n3 3).add 0) = some (.int .i64 n6)) ∧
 (((decide ((x5.n : Int) = 0)) && (decide (n6 = n_1))) = true →
 IxOk x_0 n3) ∧
 ∃ n7 : Int, (((decide ((x5.n : Int) = 0)) && (decide (n6 = n_1))) = true →
 w4.cell? ((elA x_0 n3 3).add 1) = some (.int .i64 n7)) ∧
 ((((decide ((x5.n : Int) = 0)) && (decide (n6 = n_1))) && (decide (n7 = n_2))) = true →
 ∃ n8 : Int, Wr .i64 (n3 + 1) n8 ∧
 Q (.int .i64 n8) w4) ∧
 ((((decide ((x5.n : Int) = 0)) && (decide (n6 = n_1))) && (decide (n7 = n_2))) = false →
 ∃ n9 : Int, Wr .i64 (n3 + 1) n9 ∧
 I1 n9 w4 ∧
 m2 n9 w4 < m2 n3 w4)) ∧
 ((decide (n3 < (x_0.n : Int))) = false →
 Q (.int .i64 (-1)) w4)
theorem of181 (x_0 : Sl) (n_1 : Int) (n_2 : Int) (v : World) (Q : Value → World → Prop) (h : vc181 x_0 n_1 n_2 v Q) : Trip Tryz.prog 181 #[x_0.val, .int .i64 n_1, .int .i64 n_2] v Q :=
 trip_of_eq (args := [.sl x_0, .num .i64 n_1, .num .i64 n_2]) (A := ⟨[(2, [(7, .int .i64)], [])], [], [], [], psG⟩) Tryz.func181 (by kernel_rfl) (by kernel_rfl) (by kernel_rfl : vc181 x_0 n_1 n_2 v Q = _) h

def vc189 (x0_0 : Sl) (x1_0 : Sl) (v : World) (Q : Value → World → Prop) : Prop :=
 ∃ q1 : Bool, (Trip Tryz.prog 147 #[x0_0.val, x1_0.val] v fun r2 w3 => r2 = .bool q1 ∧ Sub v w3) ∧
 ((!q1) = true →
 Q (.bool false) v) ∧
 ((!q1) = false →
 Q (.bool true) v)
theorem of189 (x0_0 : Sl) (x1_0 : Sl) (v : World) (Q : Value → World → Prop) (h : vc189 x0_0 x1_0 v Q) : Trip Tryz.prog 189 #[.agg #[x0_0.val], .agg #[x1_0.val]] v Q :=
 trip_of_eq (args := [.ag [.sl x0_0], .ag [.sl x1_0]]) (A := ⟨[], [], [], [], psG⟩) Tryz.func189 (by kernel_rfl) (by kernel_rfl) (by kernel_rfl : vc189 x0_0 x1_0 v Q = _) h

def vc190 (x_0 : Sl) (x_1 : Sl) (v : World) (Q : Value → World → Prop) : Prop :=
 ((!decide ((x_0.n : Int) = (x_1.n : Int))) = true →
 Q (.bool false) v) ∧
 ((!decide ((x_0.n : Int) = (x_1.n : Int))) = false →
 ∃ I1 : Int → World → Prop, ∃ m2 : Int → World → Nat, I1 0 v ∧
 ∀ n3 : Int, ∀ w4 : World, I1 n3 w4 →
 ((decide (n3 < (x_0.n : Int))) = true →
 IxOk x_0 n3 ∧
 ldT w4 x_0 n3 fun n5 n6 x7 =>
 IxOk x_1 n3 ∧
 ldT w4 x_1 n3 fun n8 n9 x10 =>
 ∃ q11 : Bool, (Trip Tryz.prog 148 #[.agg #[.int .i64 n5, .int .i64 n6, x7.val], .agg #[.int .i64 n8, .int .i64 n9, x10.val]] w4 fun r12 w13 => r12 = .bool q11 ∧ Sub w4 w13) ∧
 ((!q11) = true →
 Q (.bool false) w4) ∧
 ((!q11) = false →
 ∃ n14 : Int, Wr .i64 (n3 + 1) n14 ∧
 I1 n14 w4 ∧
 m2 n14 w4 < m2 n3 w4)) ∧
 ((decide (n3 < (x_0.n : Int))) = false →
 Q (.bool true) w4))
theorem of190 (x_0 : Sl) (x_1 : Sl) (v : World) (Q : Value → World → Prop) (h : vc190 x_0 x_1 v Q) : Trip Tryz.prog 190 #[x_0.val, x_1.val] v Q :=
 trip_of_eq (args := [.sl x_0, .sl x_1]) (A := ⟨[(4, [(5, .int .i64)], [])], [], [], [], psG⟩) Tryz.func190 (by kernel_rfl) (by kernel_rfl) (by kernel_rfl : vc190 x_0 x_1 v Q = _) h

def vc212 (x_0 : Sl) (v : World) (Q : Value → World → Prop) : Prop :=
 ∃ I1 : Int → Int → World → Prop, ∃ m2 : Int → Int → World → Nat, I1 0 0 v ∧
 ∀ n3 : Int, ∀ n4 : Int, ∀ w5 : World, I1 n3 n4 w5 →
 ((decide (n4 < (x_0.n : Int))) = true →
 IxOk x_0 n4 ∧
 ∃ x6 : Sl, w5.cell? ((elA x_0 n4 1).add 0) = some (x6.val) ∧
 ∃ n7 : Int, Wr .i64 (n3 + (x6.n : Int)) n7 ∧
 ((decide (n7 < 0)) = true →
 False) ∧
 ((decide (n7 < 0)) = false →
 ∃ n8 : Int, Wr .i64 (n4 + 1) n8 ∧
 I1 n7 n8 w5 ∧
 m2 n7 n8 w5 < m2 n3 n4 w5)) ∧
 ((decide (n4 < (x_0.n : Int))) = false →
 Trip Tryz.prog 245 #[.slice none 0 0, .int .i64 n3] w5 fun r9 w10 =>
 ∃ x11 : Sl, r9 = x11.val ∧
 ∃ I12 : Sl → Int → World → Prop, ∃ m13 : Sl → Int → World → Nat, I12 x11 0 w10 ∧
 ∀ x14 : Sl, ∀ n15 : Int, ∀ w16 : World, I12 x14 n15 w16 →
 ((decide (n15 < (x_0.n : Int))) = true →
 IxOk x_0 n15 ∧
 ∃ x17 : Sl, w16.cell? ((elA x_0 n15 1).add 0) = some (x17.val) ∧
 StepT Tryz.prog (Builtin.append_ #[68, 68] 68 #[(x14.val), (x17.val)]) w16 fun r18 w19 =>
 ∃ x20 : Sl, r18 = x20.val ∧
 ∃ n21 : Int, Wr .i64 (n15 + 1) n21 ∧
 I12 x20 n21 w19 ∧
 m13 x20 n21 w19 < m13 x14 n15 w16) ∧
 ((decide (n15 < (x_0.n : Int))) = false →
 Q (x14.val) w16))
theorem of212 (x_0 : Sl) (v : World) (Q : Value → World → Prop) (h : vc212 x_0 v Q) : Trip Tryz.prog 212 #[x_0.val] v Q :=
 trip_of_eq (args := [.sl x_0]) (A := ⟨[(3, [(3, .int .i64), (11, .int .i64)], []), (11, [(6, .sl), (27, .int .i64)], [])], [], [], [], psG⟩) Tryz.func212 (by kernel_rfl) (by kernel_rfl) (by kernel_rfl : vc212 x_0 v Q = _) h

def vc213 (x_0 : Sl) (v : World) (Q : Value → World → Prop) : Prop :=
 ∃ I1 : Int → Int → World → Prop, ∃ m2 : Int → Int → World → Nat, I1 0 0 v ∧
 ∀ n3 : Int, ∀ n4 : Int, ∀ w5 : World, I1 n3 n4 w5 →
 ((decide (n4 < (x_0.n : Int))) = true →
 IxOk x_0 n4 ∧
 ldT w5 x_0 n4 fun n6 n7 x8 =>
 ∃ n9 : Int, Wr .i64 (n3 + (x8.n : Int)) n9 ∧
 ∃ n10 : Int, Wr .i64 (n4 + 1) n10 ∧
 I1 n9 n10 w5 ∧
 m2 n9 n10 w5 < m2 n3 n4 w5) ∧
 ((decide (n4 < (x_0.n : Int))) = false →
 Q (.int .i64 n3) w5)
theorem of213 (x_0 : Sl) (v : World) (Q : Value → World → Prop) (h : vc213 x_0 v Q) : Trip Tryz.prog 213 #[x_0.val] v Q :=
 trip_of_eq (args := [.sl x_0]) (A := ⟨[(3, [(3, .int .i64), (8, .int .i64)], [])], [], [], [], psG⟩) Tryz.func213 (by kernel_rfl) (by kernel_rfl) (by kernel_rfl : vc213 x_0 v Q = _) h

def vc214 (x_0 : Sl) (n_1 : Int) (v : World) (Q : Value → World → Prop) : Prop :=
 ∃ I1 : Int → Int → World → Prop, ∃ m2 : Int → Int → World → Nat, I1 n_1 0 v ∧
 ∀ n3 : Int, ∀ n4 : Int, ∀ w5 : World, I1 n3 n4 w5 →
 ((decide (n4 < (x_0.n : Int))) = true →
 IxOk x_0 n4 ∧
 ldT w5 x_0 n4 fun n6 n7 x8 =>
 (((decide (n3 ≥ 0)) && (decide (n3 < (x8.n : Int)))) = true →
 ∃ n9 : Int, Wr .i64 (n4 + 1) n9 ∧
 IxOk x8 n3 ∧
 ∃ x10 : Sl, w5.cell? ((elA x8 n3 1).add 0) = some (x10.val) ∧
 Q (.tuple #[.int .i64 n9, .agg #[x10.val]]) w5) ∧
 (((decide (n3 ≥ 0)) && (decide (n3 < (x8.n : Int)))) = false →
 ∃ n11 : Int, Wr .i64 (n3 - (x8.n : Int)) n11 ∧
 ∃ n12 : Int, Wr .i64 (n4 + 1) n12 ∧
 eqS (.sl (Sl.mk none 0 0)) ∧
 I1 n11 n12 w5 ∧
 m2 n11 n12 w5 < m2 n3 n4 w5)) ∧
 ((decide (n4 < (x_0.n : Int))) = false →
 Q (.tuple #[.int .i64 (-1), .agg #[.slice none 0 0]]) w5)
theorem of214 (x_0 : Sl) (n_1 : Int) (v : World) (Q : Value → World → Prop) (h : vc214 x_0 n_1 v Q) : Trip Tryz.prog 214 #[x_0.val, .int .i64 n_1] v Q :=
 trip_of_eq (args := [.sl x_0, .num .i64 n_1]) (A := ⟨[(2, [(1, .int .i64), (10, .int .i64)], [])], [], [(5, [])], [], psG⟩) Tryz.func214 (by kernel_rfl) (by kernel_rfl) (by kernel_rfl : vc214 x_0 n_1 v Q = _) h

def vc215 (x_0 : Sl) (n_1 : Int) (v : World) (Q : Value → World → Prop) : Prop :=
 ∃ n1 : Int, (((decide (n_1 < 1)) || (decide (n_1 > (x_0.n : Int)))) = false →
 Wr .i64 (n_1 - 1) n1) ∧
 (((decide (n_1 < 1)) || (decide (n_1 > (x_0.n : Int)))) = false →
 IxOk x_0 n1) ∧
 ∃ x2 : Sl, (((decide (n_1 < 1)) || (decide (n_1 > (x_0.n : Int)))) = false →
 v.cell? ((elA x_0 n1 3).add 2) = some (x2.val)) ∧
 ((((decide (n_1 < 1)) || (decide (n_1 > (x_0.n : Int)))) || (decide ((x2.n : Int) > 0))) = true →
 Q (.tuple #[.agg #[.int .i64 0, .int .i64 0, .slice none 0 0], .bool false]) v) ∧
 ((((decide (n_1 < 1)) || (decide (n_1 > (x_0.n : Int)))) || (decide ((x2.n : Int) > 0))) = false →
 ∃ n3 : Int, Wr .i64 (n_1 - 1) n3 ∧
 IxOk x_0 n3 ∧
 ldT v x_0 n3 fun n4 n5 x6 =>
 Q (.tuple #[.agg #[.int .i64 n4, .int .i64 n5, x6.val], .bool true]) v)
theorem of215 (x_0 : Sl) (n_1 : Int) (v : World) (Q : Value → World → Prop) (h : vc215 x_0 n_1 v Q) : Trip Tryz.prog 215 #[x_0.val, .int .i64 n_1] v Q :=
 trip_of_eq (args := [.sl x_0, .num .i64 n_1]) (A := ⟨[], [], [], [], psG⟩) Tryz.func215 (by kernel_rfl) (by kernel_rfl) (by kernel_rfl : vc215 x_0 n_1 v Q = _) h

def vc216 (x_0 : Sl) (x_1 : Sl) (v : World) (Q : Value → World → Prop) : Prop :=
 ((!decide ((x_0.n : Int) = (x_1.n : Int))) = true →
 Q (.bool false) v) ∧
 ((!decide ((x_0.n : Int) = (x_1.n : Int))) = false →
 ∃ I1 : Int → World → Prop, ∃ m2 : Int → World → Nat, I1 0 v ∧
 ∀ n3 : Int, ∀ w4 : World, I1 n3 w4 →
 ((decide (n3 < (x_0.n : Int))) = true →
 IxOk x_0 n3 ∧
 ∃ n5 : Int, w4.cell? ((elA x_0 n3 1).add 0) = some (.int .i64 n5) ∧
 IxOk x_1 n3 ∧
 ∃ n6 : Int, w4.cell? ((elA x_1 n3 1).add 0) = some (.int .i64 n6) ∧
 ((!decide (n5 = n6)) = true →
 Q (.bool false) w4) ∧
 ((!decide (n5 = n6)) = false →
 ∃ n7 : Int, Wr .i64 (n3 + 1) n7 ∧
 I1 n7 w4 ∧
 m2 n7 w4 < m2 n3 w4)) ∧
 ((decide (n3 < (x_0.n : Int))) = false →
 Q (.bool true) w4))
theorem of216 (x_0 : Sl) (x_1 : Sl) (v : World) (Q : Value → World → Prop) (h : vc216 x_0 x_1 v Q) : Trip Tryz.prog 216 #[x_0.val, x_1.val] v Q :=
 trip_of_eq (args := [.sl x_0, .sl x_1]) (A := ⟨[(4, [(13, .int .i64)], [])], [], [], [], psG⟩) Tryz.func216 (by kernel_rfl) (by kernel_rfl) (by kernel_rfl : vc216 x_0 x_1 v Q = _) h

def vc217 (x_0 : Sl) (n_1 : Int) (n_2 : Int) (v : World) (Q : Value → World → Prop) : Prop :=
 ∃ I1 : Int → World → Prop, ∃ m2 : Int → World → Nat, I1 0 v ∧
 ∀ n3 : Int, ∀ w4 : World, I1 n3 w4 →
 ((decide (n3 < (x_0.n : Int))) = true →
 IxOk x_0 n3 ∧
 ldT w4 x_0 n3 fun n5 n6 x7 =>
 ((((decide ((x7.n : Int) = 0)) && (decide (n5 = n_1))) && (decide (n6 = n_2))) = true →
 ∃ n8 : Int, Wr .i64 (n3 + 1) n8 ∧
 Q (.int .i64 n8) w4) ∧
 ((((decide ((x7.n : Int) = 0)) && (decide (n5 = n_1))) && (decide (n6 = n_2))) = false →
 ∃ n9 : Int, Wr .i64 (n3 + 1) n9 ∧
 I1 n9 w4 ∧
 m2 n9 w4 < m2 n3 w4)) ∧
 ((decide (n3 < (x_0.n : Int))) = false →
 Q (.int .i64 (-1)) w4)
theorem of217 (x_0 : Sl) (n_1 : Int) (n_2 : Int) (v : World) (Q : Value → World → Prop) (h : vc217 x_0 n_1 n_2 v Q) : Trip Tryz.prog 217 #[x_0.val, .int .i64 n_1, .int .i64 n_2] v Q :=
 trip_of_eq (args := [.sl x_0, .num .i64 n_1, .num .i64 n_2]) (A := ⟨[(2, [(11, .int .i64)], [])], [], [], [], psG⟩) Tryz.func217 (by kernel_rfl) (by kernel_rfl) (by kernel_rfl : vc217 x_0 n_1 n_2 v Q = _) h

def vc245 (x_0 : Sl) (n_1 : Int) (v : World) (Q : Value → World → Prop) : Prop :=
 ((decide (n_1 < 0)) = true →
 False) ∧
 ((decide (n_1 < 0)) = false →
 StepT Tryz.prog (Builtin.cap_ #[68] 3 #[(x_0.val)]) v fun r1 w2 =>
 ∃ n3 : Int, r1 = .int .i64 n3 ∧
 ∃ n4 : Int, Wr .i64 (n3 - (x_0.n : Int)) n4 ∧
 ∃ n5 : Int, Wr .i64 (n_1 - n4) n5 ∧
 ((decide (n5 > 0)) = true →
 StepT Tryz.prog (Builtin.cap_ #[68] 3 #[(x_0.val)]) w2 fun r6 w7 =>
 ∃ n8 : Int, r6 = .int .i64 n8 ∧
 CutOk x_0 0 n8 ∧
 StepT Tryz.prog (Builtin.append_ #[68, 3] 68 #[((x_0.cut 0 n8 1).val), (.int .i64 n5)]) w7 fun r9 w10 =>
 ∃ x11 : Sl, r9 = x11.val ∧
 CutOk x11 0 (x_0.n : Int) ∧
 Q ((x11.cut 0 (x_0.n : Int) 1).val) w10) ∧
 ((decide (n5 > 0)) = false →
 Q (x_0.val) w2))
theorem of245 (x_0 : Sl) (n_1 : Int) (v : World) (Q : Value → World → Prop) (h : vc245 x_0 n_1 v Q) : Trip Tryz.prog 245 #[x_0.val, .int .i64 n_1] v Q :=
 trip_of_eq (args := [.sl x_0, .num .i64 n_1]) (A := ⟨[], [], [], [], psG⟩) Tryz.func245 (by kernel_rfl) (by kernel_rfl) (by kernel_rfl : vc245 x_0 n_1 v Q = _) h

end Go.Vc
