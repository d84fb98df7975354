/- Part of the proofs about the heaps and memories: a law is joined in the text whose name ends in W and the law. -/
import Derived.Test.YtelgbndeeccblaaGreatDoorEVcFn
import Derived.Test.YtelgbndeeccblaaGreatDoorProg
import Derived.KernelRfl
namespace Go.Vc
open Go Go.Proofs
set_option linter.all false
abbrev psG : List Nat := [10, 11, 13, 14, 18, 20, 21, 23, 26, 28, 30, 31, 32, 33, 34, 38, 39, 41, 42, 43, 48, 51, 52, 56, 57, 58, 66, 67, 69, 70, 71, 72, 73, 74, 75, 76, 77, 83, 84, 85, 99, 100, 100, 101, 104, 105, 106, 107, 108, 109, 112, 113, 115, 122, 123, 127, 128, 129, 130, 131, 132, 133, 134, 137, 138, 139, 146, 147, 148, 158, 160, 163, 169, 170, 173, 174, 175, 176, 177, 178, 181, 189, 190, 213, 214, 215, 216, 217, 243, 254]
def vc3 (x0_0 : Sl) (x0_1 : Sl) (v : World) (Q : Value → World → Prop) : Prop :=
 ∃ n1 : Int, (Trip Tryz.prog 10 #[.agg #[x0_0.val, x0_1.val], .int .i64 1048576] v fun r2 w3 => r2 = .int .i64 n1 ∧ Sub v w3) ∧
 ((decide (n1 < 0)) = true →
 Q (.bool true) v) ∧
 ((decide (n1 < 0)) = false →
 Trip Tryz.prog 12 #[.agg #[x0_0.val, x0_1.val]] v fun r4 w5 =>
 ∃ x6 : Sl, ∃ x7 : Sl, r4 = .agg #[x6.val, x7.val] ∧
 ∃ s8 : ByteArray, (Trip Tryz.prog 11 #[.agg #[x6.val, x7.val]] w5 fun r9 w10 => r9 = .string s8 ∧ Sub w5 w10) ∧
 Trip Tryz.prog 12 #[.agg #[x0_0.val, x0_1.val]] w5 fun r11 w12 =>
 ∃ x13 : Sl, ∃ x14 : Sl, r11 = .agg #[x13.val, x14.val] ∧
 ∃ s15 : ByteArray, (Trip Tryz.prog 13 #[.agg #[x13.val, x14.val]] w12 fun r16 w17 => r16 = .string s15 ∧ Sub w12 w17) ∧
 ((!(s15.toList == s8.toList)) = true →
 Q (.bool false) w12) ∧
 ((!(s15.toList == s8.toList)) = false →
 Trip Tryz.prog 12 #[.agg #[x0_0.val, x0_1.val]] w12 fun r18 w19 =>
 ∃ x20 : Sl, ∃ x21 : Sl, r18 = .agg #[x20.val, x21.val] ∧
 Sub w12 w19 ∧
 ∃ q22 : Bool, (Trip Tryz.prog 14 #[.agg #[x13.val, x14.val], .agg #[x20.val, x21.val]] w19 fun r23 w24 => r23 = .bool q22 ∧ Sub w19 w24) ∧
 ((!q22) = true →
 Q (.bool false) w19) ∧
 ((!q22) = false →
 Q (.bool true) w19)))
theorem of3 (x0_0 : Sl) (x0_1 : Sl) (v : World) (Q : Value → World → Prop) (h : vc3 x0_0 x0_1 v Q) : Trip Tryz.prog 3 #[.agg #[x0_0.val, x0_1.val]] v Q :=
 trip_of_eq (args := [.ag [.sl x0_0, .sl x0_1]]) (A := ⟨[], [], [(10, [2])], [], psG⟩) Tryz.func3 (by kernel_rfl) (by kernel_rfl) (by kernel_rfl : vc3 x0_0 x0_1 v Q = _) h

def vc10 (x0_0 : Sl) (x0_1 : Sl) (n_1 : Int) (v : World) (Q : Value → World → Prop) : Prop :=
 ∃ n1 : Int, (Trip Tryz.prog 31 #[x0_0.val, .int .i64 n_1] v fun r2 w3 => r2 = .int .i64 n1 ∧ Sub v w3) ∧
 ((decide (n1 < 0)) = true →
 Q (.int .i64 (-1)) v) ∧
 ((decide (n1 < 0)) = false →
 ∃ n4 : Int, (Trip Tryz.prog 32 #[x0_1.val, .int .i64 n1] v fun r5 w6 => r5 = .int .i64 n4 ∧ Sub v w6) ∧
 ((decide (n4 < 0)) = true →
 Q (.int .i64 (-1)) v) ∧
 ((decide (n4 < 0)) = false →
 Q (.int .i64 n4) v))
theorem of10 (x0_0 : Sl) (x0_1 : Sl) (n_1 : Int) (v : World) (Q : Value → World → Prop) (h : vc10 x0_0 x0_1 n_1 v Q) : Trip Tryz.prog 10 #[.agg #[x0_0.val, x0_1.val], .int .i64 n_1] v Q :=
 trip_of_eq (args := [.ag [.sl x0_0, .sl x0_1], .num .i64 n_1]) (A := ⟨[], [], [], [], psG⟩) Tryz.func10 (by kernel_rfl) (by kernel_rfl) (by kernel_rfl : vc10 x0_0 x0_1 n_1 v Q = _) h

def vc11 (x0_0 : Sl) (x0_1 : Sl) (v : World) (Q : Value → World → Prop) : Prop :=
 ∃ q1 : Bool, (Trip Tryz.prog 33 #[.agg #[x0_0.val, x0_1.val]] v fun r2 w3 => r2 = .bool q1 ∧ Sub v w3) ∧
 ((!q1) = true →
 Q (.string (ByteArray.mk #[])) v) ∧
 ((!q1) = false →
 ∃ s4 : ByteArray, (Trip Tryz.prog 34 #[.agg #[x0_0.val, x0_1.val]] v fun r5 w6 => r5 = .string s4 ∧ Sub v w6) ∧
 Q (.string s4) v)
theorem of11 (x0_0 : Sl) (x0_1 : Sl) (v : World) (Q : Value → World → Prop) (h : vc11 x0_0 x0_1 v Q) : Trip Tryz.prog 11 #[.agg #[x0_0.val, x0_1.val]] v Q :=
 trip_of_eq (args := [.ag [.sl x0_0, .sl x0_1]]) (A := ⟨[], [], [], [], psG⟩) Tryz.func11 (by kernel_rfl) (by kernel_rfl) (by kernel_rfl : vc11 x0_0 x0_1 v Q = _) h

def vc12 (x0_0 : Sl) (x0_1 : Sl) (v : World) (Q : Value → World → Prop) : Prop :=
 Trip Tryz.prog 35 #[x0_0.val] v fun r1 w2 =>
 ∃ x3 : Sl, r1 = x3.val ∧
 Trip Tryz.prog 36 #[x0_1.val] w2 fun r4 w5 =>
 ∃ x6 : Sl, r4 = x6.val ∧
 Q (.agg #[x3.val, x6.val]) w5
theorem of12 (x0_0 : Sl) (x0_1 : Sl) (v : World) (Q : Value → World → Prop) (h : vc12 x0_0 x0_1 v Q) : Trip Tryz.prog 12 #[.agg #[x0_0.val, x0_1.val]] v Q :=
 trip_of_eq (args := [.ag [.sl x0_0, .sl x0_1]]) (A := ⟨[], [], [], [], psG⟩) Tryz.func12 (by kernel_rfl) (by kernel_rfl) (by kernel_rfl : vc12 x0_0 x0_1 v Q = _) h

def vc13 (x0_0 : Sl) (x0_1 : Sl) (v : World) (Q : Value → World → Prop) : Prop :=
 ∃ q1 : Bool, (Trip Tryz.prog 30 #[.agg #[x0_0.val, x0_1.val]] v fun r2 w3 => r2 = .bool q1 ∧ Sub v w3) ∧
 ((!q1) = true →
 Q (.string (ByteArray.mk #[])) v) ∧
 ((!q1) = false →
 NewAt v (.cells #[(Vl.mk (Value.pointer none) rfl).x, .slice none 0 0] 59 (0, 0)) fun a4 w5 =>
 ∃ I6 : Int → World → Prop, ∃ m7 : Int → World → Nat, I6 0 w5 ∧
 ∀ n8 : Int, ∀ w9 : World, I6 n8 w9 →
 ((decide (n8 < (x0_0.n : Int))) = true →
 IxOk x0_0 n8 ∧
 ∃ n10 : Int, ∃ n11 : Int, ∃ x12 : Sl, (w9.cell? ((elA x0_0 n8 3).add 0) = some (.int .i64 n10) ∧
 w9.cell? ((elA x0_0 n8 3).add 1) = some (.int .i64 n11) ∧
 w9.cell? ((elA x0_0 n8 3).add 2) = some (x12.val)) ∧
 ((decide ((x12.n : Int) = 0)) = true →
 ∃ s13 : ByteArray, (Trip Tryz.prog 38 #[.int .i64 n10] w9 fun r14 w15 => r14 = .string s13 ∧ Sub w9 w15) ∧
 (((ByteArray.mk #[97, 114, 114, 111, 119, 32]).size + s13.size : Nat) : Int) ≤ 9223372036854775807 ∧
 ((((ByteArray.mk #[97, 114, 114, 111, 119, 32]) ++ s13).size + (ByteArray.mk #[32]).size : Nat) : Int) ≤ 9223372036854775807 ∧
 ∃ s16 : ByteArray, (Trip Tryz.prog 38 #[.int .i64 n11] w9 fun r17 w18 => r17 = .string s16 ∧ Sub w9 w18) ∧
 (((((ByteArray.mk #[97, 114, 114, 111, 119, 32]) ++ s13) ++ (ByteArray.mk #[32])).size + s16.size : Nat) : Int) ≤ 9223372036854775807 ∧
 ((((((ByteArray.mk #[97, 114, 114, 111, 119, 32]) ++ s13) ++ (ByteArray.mk #[32])) ++ s16).size + (ByteArray.mk #[10]).size : Nat) : Int) ≤ 9223372036854775807 ∧
 Trip Tryz.prog 37 #[.pointer (some (a4.add 0)), .string (((((ByteArray.mk #[97, 114, 114, 111, 119, 32]) ++ s13) ++ (ByteArray.mk #[32])) ++ s16) ++ (ByteArray.mk #[10]))] w9 fun r19 w20 =>
 ∃ n21 : Int, ∃ y22 : Vl, r19 = .tuple #[.int .i64 n21, y22.x] ∧
 ∃ n23 : Int, Wr .i64 (n8 + 1) n23 ∧
 ((.sl x0_0 : SV) = .sl x0_0) ∧
 ((.sl x0_1 : SV) = .sl x0_1) ∧
 I6 n23 w20 ∧
 m7 n23 w20 < m7 n8 w9) ∧
 ((decide ((x12.n : Int) = 0)) = false →
 Trip Tryz.prog 37 #[.pointer (some (a4.add 0)), .string (ByteArray.mk #[100, 97, 116, 97])] w9 fun r24 w25 =>
 ∃ n26 : Int, ∃ y27 : Vl, r24 = .tuple #[.int .i64 n26, y27.x] ∧
 ∃ I28 : Int → World → Prop, ∃ m29 : Int → World → Nat, I28 0 w25 ∧
 ∀ n30 : Int, ∀ w31 : World, I28 n30 w31 →
 ((decide (n30 < (x12.n : Int))) = true →
 IxOk x12 n30 ∧
 ∃ x32 : Sl, w31.cell? ((elA x12 n30 1).add 0) = some (x32.val) ∧
 ∃ s33 : ByteArray, (Trip Tryz.prog 39 #[x32.val] w31 fun r34 w35 => r34 = .string s33 ∧ Sub w31 w35) ∧
 (((ByteArray.mk #[32]).size + s33.size : Nat) : Int) ≤ 9223372036854775807 ∧
 Trip Tryz.prog 37 #[.pointer (some (a4.add 0)), .string ((ByteArray.mk #[32]) ++ s33)] w31 fun r36 w37 =>
 ∃ n38 : Int, ∃ y39 : Vl, r36 = .tuple #[.int .i64 n38, y39.x] ∧
 ∃ n40 : Int, Wr .i64 (n30 + 1) n40 ∧
 ((.sl x0_0 : SV) = .sl x0_0) ∧
 ((.sl x0_1 : SV) = .sl x0_1) ∧
 ((.num .i64 n10 : SV) = .num .i64 n10) ∧
 ((.num .i64 n11 : SV) = .num .i64 n11) ∧
 ((.sl x12 : SV) = .sl x12) ∧
 I28 n40 w37 ∧
 m29 n40 w37 < m29 n30 w31) ∧
 ((decide (n30 < (x12.n : Int))) = false →
 Trip Tryz.prog 37 #[.pointer (some (a4.add 0)), .string (ByteArray.mk #[10])] w31 fun r41 w42 =>
 ∃ n43 : Int, ∃ y44 : Vl, r41 = .tuple #[.int .i64 n43, y44.x] ∧
 ∃ n45 : Int, Wr .i64 (n8 + 1) n45 ∧
 ((.sl x0_0 : SV) = .sl x0_0) ∧
 ((.sl x0_1 : SV) = .sl x0_1) ∧
 I6 n45 w42 ∧
 m7 n45 w42 < m7 n8 w9))) ∧
 ((decide (n8 < (x0_0.n : Int))) = false →
 ∃ I46 : Int → World → Prop, ∃ m47 : Int → World → Nat, I46 0 w9 ∧
 ∀ n48 : Int, ∀ w49 : World, I46 n48 w49 →
 ((decide (n48 < (x0_1.n : Int))) = true →
 IxOk x0_1 n48 ∧
 ∃ x50 : Sl, ∃ n51 : Int, ∃ n52 : Int, ∃ n53 : Int, ∃ x54 : Sl, (w49.cell? ((elA x0_1 n48 5).add 0) = some (x50.val) ∧
 w49.cell? ((elA x0_1 n48 5).add 1) = some (.int .i64 n51) ∧
 w49.cell? ((elA x0_1 n48 5).add 2) = some (.int .i64 n52) ∧
 w49.cell? ((elA x0_1 n48 5).add 3) = some (.int .i64 n53) ∧
 w49.cell? ((elA x0_1 n48 5).add 4) = some (x54.val)) ∧
 ∃ s55 : ByteArray, (Trip Tryz.prog 39 #[x50.val] w49 fun r56 w57 => r56 = .string s55 ∧ Sub w49 w57) ∧
 (((ByteArray.mk #[102, 117, 110, 32]).size + s55.size : Nat) : Int) ≤ 9223372036854775807 ∧
 ((((ByteArray.mk #[102, 117, 110, 32]) ++ s55).size + (ByteArray.mk #[32]).size : Nat) : Int) ≤ 9223372036854775807 ∧
 ∃ s58 : ByteArray, (Trip Tryz.prog 38 #[.int .i64 n51] w49 fun r59 w60 => r59 = .string s58 ∧ Sub w49 w60) ∧
 (((((ByteArray.mk #[102, 117, 110, 32]) ++ s55) ++ (ByteArray.mk #[32])).size + s58.size : Nat) : Int) ≤ 9223372036854775807 ∧
 ((((((ByteArray.mk #[102, 117, 110, 32]) ++ s55) ++ (ByteArray.mk #[32])) ++ s58).size + (ByteArray.mk #[32]).size : Nat) : Int) ≤ 9223372036854775807 ∧
 ∃ s61 : ByteArray, (Trip Tryz.prog 20 #[.agg #[.int .i64 n52, .int .i64 n53, x54.val]] w49 fun r62 w63 => r62 = .string s61 ∧ Sub w49 w63) ∧
 (((((((ByteArray.mk #[102, 117, 110, 32]) ++ s55) ++ (ByteArray.mk #[32])) ++ s58) ++ (ByteArray.mk #[32])).size + s61.size : Nat) : Int) ≤ 9223372036854775807 ∧
 ((((((((ByteArray.mk #[102, 117, 110, 32]) ++ s55) ++ (ByteArray.mk #[32])) ++ s58) ++ (ByteArray.mk #[32])) ++ s61).size + (ByteArray.mk #[10]).size : Nat) : Int) ≤ 9223372036854775807 ∧
 Trip Tryz.prog 37 #[.pointer (some (a4.add 0)), .string (((((((ByteArray.mk #[102, 117, 110, 32]) ++ s55) ++ (ByteArray.mk #[32])) ++ s58) ++ (ByteArray.mk #[32])) ++ s61) ++ (ByteArray.mk #[10]))] w49 fun r64 w65 =>
 ∃ n66 : Int, ∃ y67 : Vl, r64 = .tuple #[.int .i64 n66, y67.x] ∧
 ∃ n68 : Int, Wr .i64 (n48 + 1) n68 ∧
 ((.sl x0_0 : SV) = .sl x0_0) ∧
 ((.sl x0_1 : SV) = .sl x0_1) ∧
 I46 n68 w65 ∧
 m47 n68 w65 < m47 n48 w49) ∧
 ((decide (n48 < (x0_1.n : Int))) = false →
 Trip Tryz.prog 40 #[.pointer (some (a4.add 0))] w49 fun r69 w70 =>
 ∃ s71 : ByteArray, r69 = .string s71 ∧
 Q (.string s71) w70)))
theorem of13 (x0_0 : Sl) (x0_1 : Sl) (v : World) (Q : Value → World → Prop) (h : vc13 x0_0 x0_1 v Q) : Trip Tryz.prog 13 #[.agg #[x0_0.val, x0_1.val]] v Q :=
 trip_of_eq (args := [.ag [.sl x0_0, .sl x0_1]]) (A := ⟨[(5, [(16, .int .i64)], []), (11, [(39, .int .i64)], []), (18, [(54, .int .i64)], [])], [], [(8, []), (20, [])], [3], psG⟩) Tryz.func13 (by kernel_rfl) (by kernel_rfl) (by kernel_rfl : vc13 x0_0 x0_1 v Q = _) h

def vc14 (x0_0 : Sl) (x0_1 : Sl) (x1_0 : Sl) (x1_1 : Sl) (v : World) (Q : Value → World → Prop) : Prop :=
 ∃ q1 : Bool, (Trip Tryz.prog 41 #[x0_0.val, x1_0.val] v fun r2 w3 => r2 = .bool q1 ∧ Sub v w3) ∧
 ((!q1) = true →
 Q (.bool false) v) ∧
 ((!q1) = false →
 ∃ q4 : Bool, (Trip Tryz.prog 42 #[x0_1.val, x1_1.val] v fun r5 w6 => r5 = .bool q4 ∧ Sub v w6) ∧
 ((!q4) = true →
 Q (.bool false) v) ∧
 ((!q4) = false →
 Q (.bool true) v))
theorem of14 (x0_0 : Sl) (x0_1 : Sl) (x1_0 : Sl) (x1_1 : Sl) (v : World) (Q : Value → World → Prop) (h : vc14 x0_0 x0_1 x1_0 x1_1 v Q) : Trip Tryz.prog 14 #[.agg #[x0_0.val, x0_1.val], .agg #[x1_0.val, x1_1.val]] v Q :=
 trip_of_eq (args := [.ag [.sl x0_0, .sl x0_1], .ag [.sl x1_0, .sl x1_1]]) (A := ⟨[], [], [], [], psG⟩) Tryz.func14 (by kernel_rfl) (by kernel_rfl) (by kernel_rfl : vc14 x0_0 x0_1 x1_0 x1_1 v Q = _) h

def vc20 (n0_0 : Int) (n0_1 : Int) (x0_2 : Sl) (v : World) (Q : Value → World → Prop) : Prop :=
 ∃ n1 : Int, (Trip Tryz.prog 26 #[.agg #[.int .i64 n0_0, .int .i64 n0_1, x0_2.val]] v fun r2 w3 => r2 = .int .i64 n1 ∧ Sub v w3) ∧
 ((decide (n1 < 0)) = true →
 Q (.string (ByteArray.mk #[])) v) ∧
 ((decide (n1 < 0)) = false →
 NewAt v (.cells #[(Vl.mk (Value.pointer none) rfl).x, .slice none 0 0] 59 (0, 0)) fun a4 w5 =>
 Trip Tryz.prog 55 #[.pointer (some (a4.add 0)), .agg #[.int .i64 n0_0, .int .i64 n0_1, x0_2.val]] w5 fun r6 w7 =>
 ∃ q8 : Bool, r6 = .bool q8 ∧
 ((!q8) = true →
 Q (.string (ByteArray.mk #[])) w7) ∧
 ((!q8) = false →
 Trip Tryz.prog 40 #[.pointer (some (a4.add 0))] w7 fun r9 w10 =>
 ∃ s11 : ByteArray, r9 = .string s11 ∧
 Q (.string s11) w10))
theorem of20 (n0_0 : Int) (n0_1 : Int) (x0_2 : Sl) (v : World) (Q : Value → World → Prop) (h : vc20 n0_0 n0_1 x0_2 v Q) : Trip Tryz.prog 20 #[.agg #[.int .i64 n0_0, .int .i64 n0_1, x0_2.val]] v Q :=
 trip_of_eq (args := [.ag [.num .i64 n0_0, .num .i64 n0_1, .sl x0_2]]) (A := ⟨[], [], [], [3], psG⟩) Tryz.func20 (by kernel_rfl) (by kernel_rfl) (by kernel_rfl : vc20 n0_0 n0_1 x0_2 v Q = _) h

def vc26 (n0_0 : Int) (n0_1 : Int) (x0_2 : Sl) (v : World) (Q : Value → World → Prop) : Prop :=
 NewAt v (.cells #[.int .i64 0] 3 (0, 0)) fun a1 w2 =>
 StoreAt w2 a1 0 [.int .i64 0] fun w3 =>
 Trip Tryz.prog 64 #[.agg #[.int .i64 n0_0, .int .i64 n0_1, x0_2.val], .pointer (some (a1.add 0))] w3 fun r4 w5 =>
 ∃ q6 : Bool, r4 = .bool q6 ∧
 ((!q6) = true →
 Q (.int .i64 (-1)) w5) ∧
 ((!q6) = false →
 ∃ n7 : Int, w5.cell? (a1.add 0) = some (.int .i64 n7) ∧
 Q (.int .i64 n7) w5)
theorem of26 (n0_0 : Int) (n0_1 : Int) (x0_2 : Sl) (v : World) (Q : Value → World → Prop) (h : vc26 n0_0 n0_1 x0_2 v Q) : Trip Tryz.prog 26 #[.agg #[.int .i64 n0_0, .int .i64 n0_1, x0_2.val]] v Q :=
 trip_of_eq (args := [.ag [.num .i64 n0_0, .num .i64 n0_1, .sl x0_2]]) (A := ⟨[], [], [], [3], psG⟩) Tryz.func26 (by kernel_rfl) (by kernel_rfl) (by kernel_rfl : vc26 n0_0 n0_1 x0_2 v Q = _) h

def vc30 (x0_0 : Sl) (x0_1 : Sl) (v : World) (Q : Value → World → Prop) : Prop :=
 ∃ q1 : Bool, (Trip Tryz.prog 69 #[.agg #[x0_0.val, x0_1.val]] v fun r2 w3 => r2 = .bool q1 ∧ Sub v w3) ∧
 ((!q1) = true →
 Q (.bool false) v) ∧
 ((!q1) = false →
 ∃ I4 : Int → World → Prop, ∃ m5 : Int → World → Nat, I4 0 v ∧
 ∀ n6 : Int, ∀ w7 : World, I4 n6 w7 →
 ((decide (n6 < (x0_1.n : Int))) = true →
 IxOk x0_1 n6 ∧
 ∃ x8 : Sl, ∃ n9 : Int, ∃ n10 : Int, ∃ n11 : Int, ∃ x12 : Sl, (w7.cell? ((elA x0_1 n6 5).add 0) = some (x8.val) ∧
 w7.cell? ((elA x0_1 n6 5).add 1) = some (.int .i64 n9) ∧
 w7.cell? ((elA x0_1 n6 5).add 2) = some (.int .i64 n10) ∧
 w7.cell? ((elA x0_1 n6 5).add 3) = some (.int .i64 n11) ∧
 w7.cell? ((elA x0_1 n6 5).add 4) = some (x12.val)) ∧
 ∃ n13 : Int, (Trip Tryz.prog 70 #[.agg #[x0_0.val, x0_1.val], x8.val, .agg #[.int .i64 n10, .int .i64 n11, x12.val]] w7 fun r14 w15 => r14 = .int .i64 n13 ∧ Sub w7 w15) ∧
 ((!decide (n13 = n9)) = true →
 Q (.bool false) w7) ∧
 ((!decide (n13 = n9)) = false →
 ∃ n16 : Int, Wr .i64 (n6 + 1) n16 ∧
 ((.sl x0_0 : SV) = .sl x0_0) ∧
 ((.sl x0_1 : SV) = .sl x0_1) ∧
 I4 n16 w7 ∧
 m5 n16 w7 < m5 n6 w7)) ∧
 ((decide (n6 < (x0_1.n : Int))) = false →
 Q (.bool true) w7))
theorem of30 (x0_0 : Sl) (x0_1 : Sl) (v : World) (Q : Value → World → Prop) (h : vc30 x0_0 x0_1 v Q) : Trip Tryz.prog 30 #[.agg #[x0_0.val, x0_1.val]] v Q :=
 trip_of_eq (args := [.ag [.sl x0_0, .sl x0_1]]) (A := ⟨[(4, [(11, .int .i64)], [])], [], [], [], psG⟩) Tryz.func30 (by kernel_rfl) (by kernel_rfl) (by kernel_rfl : vc30 x0_0 x0_1 v Q = _) h

def vc31 (x_0 : Sl) (n_1 : Int) (v : World) (Q : Value → World → Prop) : Prop :=
 ∃ n1 : Int, Wr .i64 (n_1 - (x_0.n : Int)) n1 ∧
 ((decide (n1 < 0)) = true →
 Q (.int .i64 (-1)) v) ∧
 ((decide (n1 < 0)) = false →
 ∃ I2 : Int → Int → World → Prop, ∃ m3 : Int → Int → World → Nat, I2 n1 0 v ∧
 ∀ n4 : Int, ∀ n5 : Int, ∀ w6 : World, I2 n4 n5 w6 →
 ((decide (n5 < (x_0.n : Int))) = true →
 IxOk x_0 n5 ∧
 ∃ n7 : Int, ∃ n8 : Int, ∃ x9 : Sl, (w6.cell? ((elA x_0 n5 3).add 0) = some (.int .i64 n7) ∧
 w6.cell? ((elA x_0 n5 3).add 1) = some (.int .i64 n8) ∧
 w6.cell? ((elA x_0 n5 3).add 2) = some (x9.val)) ∧
 ∃ n10 : Int, (Trip Tryz.prog 71 #[.agg #[.int .i64 n7, .int .i64 n8, x9.val], .int .i64 n4] w6 fun r11 w12 => r11 = .int .i64 n10 ∧ Sub w6 w12) ∧
 ((decide (n10 < 0)) = true →
 Q (.int .i64 (-1)) w6) ∧
 ((decide (n10 < 0)) = false →
 ∃ n13 : Int, Wr .i64 (n5 + 1) n13 ∧
 I2 n10 n13 w6 ∧
 m3 n10 n13 w6 < m3 n4 n5 w6)) ∧
 ((decide (n5 < (x_0.n : Int))) = false →
 Q (.int .i64 n4) w6))
theorem of31 (x_0 : Sl) (n_1 : Int) (v : World) (Q : Value → World → Prop) (h : vc31 x_0 n_1 v Q) : Trip Tryz.prog 31 #[x_0.val, .int .i64 n_1] v Q :=
 trip_of_eq (args := [.sl x_0, .num .i64 n_1]) (A := ⟨[(5, [(1, .int .i64), (5, .int .i64)], [])], [], [], [], psG⟩) Tryz.func31 (by kernel_rfl) (by kernel_rfl) (by kernel_rfl : vc31 x_0 n_1 v Q = _) h

def vc32 (x_0 : Sl) (n_1 : Int) (v : World) (Q : Value → World → Prop) : Prop :=
 ∃ n1 : Int, Wr .i64 (n_1 - (x_0.n : Int)) n1 ∧
 ((decide (n1 < 0)) = true →
 Q (.int .i64 (-1)) v) ∧
 ((decide (n1 < 0)) = false →
 ∃ I2 : Int → Int → World → Prop, ∃ m3 : Int → Int → World → Nat, I2 n1 0 v ∧
 ∀ n4 : Int, ∀ n5 : Int, ∀ w6 : World, I2 n4 n5 w6 →
 ((decide (n5 < (x_0.n : Int))) = true →
 IxOk x_0 n5 ∧
 ∃ x7 : Sl, ∃ n8 : Int, ∃ n9 : Int, ∃ n10 : Int, ∃ x11 : Sl, (w6.cell? ((elA x_0 n5 5).add 0) = some (x7.val) ∧
 w6.cell? ((elA x_0 n5 5).add 1) = some (.int .i64 n8) ∧
 w6.cell? ((elA x_0 n5 5).add 2) = some (.int .i64 n9) ∧
 w6.cell? ((elA x_0 n5 5).add 3) = some (.int .i64 n10) ∧
 w6.cell? ((elA x_0 n5 5).add 4) = some (x11.val)) ∧
 ∃ n12 : Int, (Trip Tryz.prog 72 #[.agg #[x7.val, .int .i64 n8, .int .i64 n9, .int .i64 n10, x11.val], .int .i64 n4] w6 fun r13 w14 => r13 = .int .i64 n12 ∧ Sub w6 w14) ∧
 ((decide (n12 < 0)) = true →
 Q (.int .i64 (-1)) w6) ∧
 ((decide (n12 < 0)) = false →
 ∃ n15 : Int, Wr .i64 (n5 + 1) n15 ∧
 I2 n12 n15 w6 ∧
 m3 n12 n15 w6 < m3 n4 n5 w6)) ∧
 ((decide (n5 < (x_0.n : Int))) = false →
 Q (.int .i64 n4) w6))
theorem of32 (x_0 : Sl) (n_1 : Int) (v : World) (Q : Value → World → Prop) (h : vc32 x_0 n_1 v Q) : Trip Tryz.prog 32 #[x_0.val, .int .i64 n_1] v Q :=
 trip_of_eq (args := [.sl x_0, .num .i64 n_1]) (A := ⟨[(5, [(1, .int .i64), (5, .int .i64)], [])], [], [], [], psG⟩) Tryz.func32 (by kernel_rfl) (by kernel_rfl) (by kernel_rfl : vc32 x_0 n_1 v Q = _) h

def vc33 (x0_0 : Sl) (x0_1 : Sl) (v : World) (Q : Value → World → Prop) : Prop :=
 ∃ q1 : Bool, (Trip Tryz.prog 73 #[.agg #[x0_0.val, x0_1.val]] v fun r2 w3 => r2 = .bool q1 ∧ Sub v w3) ∧
 ((!q1) = true →
 Q (.bool false) v) ∧
 ((!q1) = false →
 ∃ I4 : Int → World → Prop, ∃ m5 : Int → World → Nat, I4 0 v ∧
 ∀ n6 : Int, ∀ w7 : World, I4 n6 w7 →
 ((decide (n6 < (x0_1.n : Int))) = true →
 IxOk x0_1 n6 ∧
 ∃ n8 : Int, ∃ n9 : Int, ∃ x10 : Sl, (w7.cell? ((elA x0_1 n6 5).add 2) = some (.int .i64 n8) ∧
 w7.cell? ((elA x0_1 n6 5).add 3) = some (.int .i64 n9) ∧
 w7.cell? ((elA x0_1 n6 5).add 4) = some (x10.val)) ∧
 ∃ n11 : Int, (Trip Tryz.prog 56 #[.agg #[.int .i64 n8, .int .i64 n9, x10.val]] w7 fun r12 w13 => r12 = .int .i64 n11 ∧ Sub w7 w13) ∧
 ((decide (n11 < 0)) = false →
 IxOk x0_1 n6) ∧
 ∃ x14 : Sl, ((decide (n11 < 0)) = false →
 w7.cell? ((elA x0_1 n6 5).add 0) = some (x14.val)) ∧
 ((decide (n11 < 0)) = false →
 IxOk x0_1 n6) ∧
 ∃ n15 : Int, ∃ n16 : Int, ∃ x17 : Sl, ((decide (n11 < 0)) = false →
 w7.cell? ((elA x0_1 n6 5).add 2) = some (.int .i64 n15) ∧
 w7.cell? ((elA x0_1 n6 5).add 3) = some (.int .i64 n16) ∧
 w7.cell? ((elA x0_1 n6 5).add 4) = some (x17.val)) ∧
 ∃ n18 : Int, ((decide (n11 < 0)) = false →
 (Trip Tryz.prog 74 #[.agg #[x0_0.val, x0_1.val], x14.val, .agg #[.int .i64 n15, .int .i64 n16, x17.val]] w7 fun r19 w20 => r19 = .int .i64 n18 ∧ Sub w7 w20)) ∧
 ((decide (n11 < 0)) = false →
 IxOk x0_1 n6) ∧
 ∃ n21 : Int, ((decide (n11 < 0)) = false →
 w7.cell? ((elA x0_1 n6 5).add 1) = some (.int .i64 n21)) ∧
 (((decide (n11 < 0)) || (!decide (n18 = n21))) = true →
 Q (.bool false) w7) ∧
 (((decide (n11 < 0)) || (!decide (n18 = n21))) = false →
 ∃ n22 : Int, Wr .i64 (n6 + 1) n22 ∧
 ((.sl x0_0 : SV) = .sl x0_0) ∧
 ((.sl x0_1 : SV) = .sl x0_1) ∧
 I4 n22 w7 ∧
 m5 n22 w7 < m5 n6 w7)) ∧
 ((decide (n6 < (x0_1.n : Int))) = false →
 Q (.bool true) w7))
theorem of33 (x0_0 : Sl) (x0_1 : Sl) (v : World) (Q : Value → World → Prop) (h : vc33 x0_0 x0_1 v Q) : Trip Tryz.prog 33 #[.agg #[x0_0.val, x0_1.val]] v Q :=
 trip_of_eq (args := [.ag [.sl x0_0, .sl x0_1]]) (A := ⟨[(4, [(3, .int .i64)], [])], [], [], [], psG⟩) Tryz.func33 (by kernel_rfl) (by kernel_rfl) (by kernel_rfl : vc33 x0_0 x0_1 v Q = _) h

def vc34 (x0_0 : Sl) (x0_1 : Sl) (v : World) (Q : Value → World → Prop) : Prop :=
 ∃ I1 : ByteArray → Int → World → Prop, ∃ m2 : ByteArray → Int → World → Nat, I1 (ByteArray.mk #[]) 0 v ∧
 ∀ s3 : ByteArray, ∀ n4 : Int, ∀ w5 : World, I1 s3 n4 w5 →
 ((decide (n4 < (x0_0.n : Int))) = true →
 IxOk x0_0 n4 ∧
 ∃ n6 : Int, ∃ n7 : Int, ∃ x8 : Sl, (w5.cell? ((elA x0_0 n4 3).add 0) = some (.int .i64 n6) ∧
 w5.cell? ((elA x0_0 n4 3).add 1) = some (.int .i64 n7) ∧
 w5.cell? ((elA x0_0 n4 3).add 2) = some (x8.val)) ∧
 ∃ s9 : ByteArray, (Trip Tryz.prog 75 #[.agg #[.int .i64 n6, .int .i64 n7, x8.val]] w5 fun r10 w11 => r10 = .string s9 ∧ Sub w5 w11) ∧
 ((s3.size + s9.size : Nat) : Int) ≤ 9223372036854775807 ∧
 ∃ n12 : Int, Wr .i64 (n4 + 1) n12 ∧
 ((.sl x0_0 : SV) = .sl x0_0) ∧
 ((.sl x0_1 : SV) = .sl x0_1) ∧
 I1 (s3 ++ s9) n12 w5 ∧
 m2 (s3 ++ s9) n12 w5 < m2 s3 n4 w5) ∧
 ((decide (n4 < (x0_0.n : Int))) = false →
 ∃ I13 : ByteArray → Int → World → Prop, ∃ m14 : ByteArray → Int → World → Nat, I13 s3 0 w5 ∧
 ∀ s15 : ByteArray, ∀ n16 : Int, ∀ w17 : World, I13 s15 n16 w17 →
 ((decide (n16 < (x0_1.n : Int))) = true →
 IxOk x0_1 n16 ∧
 ∃ x18 : Sl, ∃ n19 : Int, ∃ n20 : Int, ∃ n21 : Int, ∃ x22 : Sl, (w17.cell? ((elA x0_1 n16 5).add 0) = some (x18.val) ∧
 w17.cell? ((elA x0_1 n16 5).add 1) = some (.int .i64 n19) ∧
 w17.cell? ((elA x0_1 n16 5).add 2) = some (.int .i64 n20) ∧
 w17.cell? ((elA x0_1 n16 5).add 3) = some (.int .i64 n21) ∧
 w17.cell? ((elA x0_1 n16 5).add 4) = some (x22.val)) ∧
 ((s15.size + (ByteArray.mk #[102, 117, 110, 32]).size : Nat) : Int) ≤ 9223372036854775807 ∧
 ∃ s23 : ByteArray, (Trip Tryz.prog 76 #[x18.val] w17 fun r24 w25 => r24 = .string s23 ∧ Sub w17 w25) ∧
 (((s15 ++ (ByteArray.mk #[102, 117, 110, 32])).size + s23.size : Nat) : Int) ≤ 9223372036854775807 ∧
 ((((s15 ++ (ByteArray.mk #[102, 117, 110, 32])) ++ s23).size + (ByteArray.mk #[32]).size : Nat) : Int) ≤ 9223372036854775807 ∧
 ∃ s26 : ByteArray, (Trip Tryz.prog 77 #[.int .i64 n19] w17 fun r27 w28 => r27 = .string s26 ∧ Sub w17 w28) ∧
 (((((s15 ++ (ByteArray.mk #[102, 117, 110, 32])) ++ s23) ++ (ByteArray.mk #[32])).size + s26.size : Nat) : Int) ≤ 9223372036854775807 ∧
 ((((((s15 ++ (ByteArray.mk #[102, 117, 110, 32])) ++ s23) ++ (ByteArray.mk #[32])) ++ s26).size + (ByteArray.mk #[32]).size : Nat) : Int) ≤ 9223372036854775807 ∧
 ∃ s29 : ByteArray, (Trip Tryz.prog 58 #[.agg #[.int .i64 n20, .int .i64 n21, x22.val]] w17 fun r30 w31 => r30 = .string s29 ∧ Sub w17 w31) ∧
 (((((((s15 ++ (ByteArray.mk #[102, 117, 110, 32])) ++ s23) ++ (ByteArray.mk #[32])) ++ s26) ++ (ByteArray.mk #[32])).size + s29.size : Nat) : Int) ≤ 9223372036854775807 ∧
 ((((((((s15 ++ (ByteArray.mk #[102, 117, 110, 32])) ++ s23) ++ (ByteArray.mk #[32])) ++ s26) ++ (ByteArray.mk #[32])) ++ s29).size + (ByteArray.mk #[10]).size : Nat) : Int) ≤ 9223372036854775807 ∧
 ∃ n32 : Int, Wr .i64 (n16 + 1) n32 ∧
 ((.sl x0_0 : SV) = .sl x0_0) ∧
 ((.sl x0_1 : SV) = .sl x0_1) ∧
 I13 (((((((s15 ++ (ByteArray.mk #[102, 117, 110, 32])) ++ s23) ++ (ByteArray.mk #[32])) ++ s26) ++ (ByteArray.mk #[32])) ++ s29) ++ (ByteArray.mk #[10])) n32 w17 ∧
 m14 (((((((s15 ++ (ByteArray.mk #[102, 117, 110, 32])) ++ s23) ++ (ByteArray.mk #[32])) ++ s26) ++ (ByteArray.mk #[32])) ++ s29) ++ (ByteArray.mk #[10])) n32 w17 < m14 s15 n16 w17) ∧
 ((decide (n16 < (x0_1.n : Int))) = false →
 Q (.string s15) w17))
theorem of34 (x0_0 : Sl) (x0_1 : Sl) (v : World) (Q : Value → World → Prop) (h : vc34 x0_0 x0_1 v Q) : Trip Tryz.prog 34 #[.agg #[x0_0.val, x0_1.val]] v Q :=
 trip_of_eq (args := [.ag [.sl x0_0, .sl x0_1]]) (A := ⟨[(3, [(3, .str), (4, .int .i64)], []), (7, [(3, .str), (5, .int .i64)], [])], [], [], [], psG⟩) Tryz.func34 (by kernel_rfl) (by kernel_rfl) (by kernel_rfl : vc34 x0_0 x0_1 v Q = _) h

def vc35 (x_0 : Sl) (v : World) (Q : Value → World → Prop) : Prop :=
 StepT Tryz.prog (Instr.makeSlice 28 (.int .i64 (x_0.n : Int)) (.int .i64 (x_0.n : Int))) v fun r1 w2 =>
 ∃ x3 : Sl, r1 = x3.val ∧
 ∃ I4 : Int → World → Prop, ∃ m5 : Int → World → Nat, I4 0 w2 ∧
 ∀ n6 : Int, ∀ w7 : World, I4 n6 w7 →
 ((decide (n6 < (x_0.n : Int))) = true →
 IxOk x_0 n6 ∧
 ∃ n8 : Int, ∃ n9 : Int, ∃ x10 : Sl, (w7.cell? ((elA x_0 n6 3).add 0) = some (.int .i64 n8) ∧
 w7.cell? ((elA x_0 n6 3).add 1) = some (.int .i64 n9) ∧
 w7.cell? ((elA x_0 n6 3).add 2) = some (x10.val)) ∧
 Trip Tryz.prog 78 #[.agg #[.int .i64 n8, .int .i64 n9, x10.val]] w7 fun r11 w12 =>
 ∃ n13 : Int, ∃ n14 : Int, ∃ x15 : Sl, r11 = .agg #[.int .i64 n13, .int .i64 n14, x15.val] ∧
 IxOk x3 n6 ∧
 StoreAt w12 (elA x3 n6 3) 0 [.int .i64 n13, .int .i64 n14, x15.val] fun w16 =>
 ∃ n17 : Int, Wr .i64 (n6 + 1) n17 ∧
 I4 n17 w16 ∧
 m5 n17 w16 < m5 n6 w7) ∧
 ((decide (n6 < (x_0.n : Int))) = false →
 Q (x3.val) w7)
theorem of35 (x_0 : Sl) (v : World) (Q : Value → World → Prop) (h : vc35 x_0 v Q) : Trip Tryz.prog 35 #[x_0.val] v Q :=
 trip_of_eq (args := [.sl x_0]) (A := ⟨[(3, [(4, .int .i64)], [])], [], [], [], psG⟩) Tryz.func35 (by kernel_rfl) (by kernel_rfl) (by kernel_rfl : vc35 x_0 v Q = _) h

def vc36 (x_0 : Sl) (v : World) (Q : Value → World → Prop) : Prop :=
 StepT Tryz.prog (Instr.makeSlice 29 (.int .i64 (x_0.n : Int)) (.int .i64 (x_0.n : Int))) v fun r1 w2 =>
 ∃ x3 : Sl, r1 = x3.val ∧
 ∃ I4 : Int → World → Prop, ∃ m5 : Int → World → Nat, I4 0 w2 ∧
 ∀ n6 : Int, ∀ w7 : World, I4 n6 w7 →
 ((decide (n6 < (x_0.n : Int))) = true →
 IxOk x_0 n6 ∧
 ∃ x8 : Sl, ∃ n9 : Int, ∃ n10 : Int, ∃ n11 : Int, ∃ x12 : Sl, (w7.cell? ((elA x_0 n6 5).add 0) = some (x8.val) ∧
 w7.cell? ((elA x_0 n6 5).add 1) = some (.int .i64 n9) ∧
 w7.cell? ((elA x_0 n6 5).add 2) = some (.int .i64 n10) ∧
 w7.cell? ((elA x_0 n6 5).add 3) = some (.int .i64 n11) ∧
 w7.cell? ((elA x_0 n6 5).add 4) = some (x12.val)) ∧
 Trip Tryz.prog 79 #[.agg #[x8.val, .int .i64 n9, .int .i64 n10, .int .i64 n11, x12.val]] w7 fun r13 w14 =>
 ∃ x15 : Sl, ∃ n16 : Int, ∃ n17 : Int, ∃ n18 : Int, ∃ x19 : Sl, r13 = .agg #[x15.val, .int .i64 n16, .int .i64 n17, .int .i64 n18, x19.val] ∧
 IxOk x3 n6 ∧
 StoreAt w14 (elA x3 n6 5) 0 [x15.val, .int .i64 n16, .int .i64 n17, .int .i64 n18, x19.val] fun w20 =>
 ∃ n21 : Int, Wr .i64 (n6 + 1) n21 ∧
 I4 n21 w20 ∧
 m5 n21 w20 < m5 n6 w7) ∧
 ((decide (n6 < (x_0.n : Int))) = false →
 Q (x3.val) w7)
theorem of36 (x_0 : Sl) (v : World) (Q : Value → World → Prop) (h : vc36 x_0 v Q) : Trip Tryz.prog 36 #[x_0.val] v Q :=
 trip_of_eq (args := [.sl x_0]) (A := ⟨[(3, [(4, .int .i64)], [])], [], [], [], psG⟩) Tryz.func36 (by kernel_rfl) (by kernel_rfl) (by kernel_rfl : vc36 x_0 v Q = _) h

def vc39 (x_0 : Sl) (v : World) (Q : Value → World → Prop) : Prop :=
 StepT Tryz.prog (Instr.makeSlice 83 (.int .i64 0) (.int .i64 (x_0.n : Int))) v fun r1 w2 =>
 ∃ x3 : Sl, r1 = x3.val ∧
 ∃ I4 : Sl → Int → World → Prop, ∃ m5 : Sl → Int → World → Nat, I4 x3 0 w2 ∧
 ∀ x6 : Sl, ∀ n7 : Int, ∀ w8 : World, I4 x6 n7 w8 →
 ((decide (n7 < (x_0.n : Int))) = true →
 IxOk x_0 n7 ∧
 ∃ n9 : Int, w8.cell? ((elA x_0 n7 1).add 0) = some (.int .i64 n9) ∧
 ∃ s10 : ByteArray, (Trip Tryz.prog 38 #[.int .i64 n9] w8 fun r11 w12 => r11 = .string s10 ∧ Sub w8 w12) ∧
 StepT Tryz.prog (Instr.buildSlice 83 1 #[(0, (.string s10))]) w8 fun r13 w14 =>
 ∃ x15 : Sl, r13 = x15.val ∧
 StepT Tryz.prog (Builtin.append_ #[83, 83] 83 #[(x6.val), (x15.val)]) w14 fun r16 w17 =>
 ∃ x18 : Sl, r16 = x18.val ∧
 ∃ n19 : Int, Wr .i64 (n7 + 1) n19 ∧
 I4 x18 n19 w17 ∧
 m5 x18 n19 w17 < m5 x6 n7 w8) ∧
 ((decide (n7 < (x_0.n : Int))) = false →
 Trip Tryz.prog 82 #[x6.val, .string (ByteArray.mk #[44])] w8 fun r20 w21 =>
 ∃ s22 : ByteArray, r20 = .string s22 ∧
 (((ByteArray.mk #[40]).size + s22.size : Nat) : Int) ≤ 9223372036854775807 ∧
 ((((ByteArray.mk #[40]) ++ s22).size + (ByteArray.mk #[41]).size : Nat) : Int) ≤ 9223372036854775807 ∧
 Q (.string (((ByteArray.mk #[40]) ++ s22) ++ (ByteArray.mk #[41]))) w21)
theorem of39 (x_0 : Sl) (v : World) (Q : Value → World → Prop) (h : vc39 x_0 v Q) : Trip Tryz.prog 39 #[x_0.val] v Q :=
 trip_of_eq (args := [.sl x_0]) (A := ⟨[(3, [(3, .sl), (11, .int .i64)], [])], [], [], [], psG⟩) Tryz.func39 (by kernel_rfl) (by kernel_rfl) (by kernel_rfl : vc39 x_0 v Q = _) h

def vc41 (x_0 : Sl) (x_1 : Sl) (v : World) (Q : Value → World → Prop) : Prop :=
 ((!decide ((x_0.n : Int) = (x_1.n : Int))) = true →
 Q (.bool false) v) ∧
 ((!decide ((x_0.n : Int) = (x_1.n : Int))) = false →
 ∃ I1 : Int → World → Prop, ∃ m2 : Int → World → Nat, I1 0 v ∧
 ∀ n3 : Int, ∀ w4 : World, I1 n3 w4 →
 ((decide (n3 < (x_0.n : Int))) = true →
 IxOk x_0 n3 ∧
 ∃ n5 : Int, ∃ n6 : Int, ∃ x7 : Sl, (w4.cell? ((elA x_0 n3 3).add 0) = some (.int .i64 n5) ∧
 w4.cell? ((elA x_0 n3 3).add 1) = some (.int .i64 n6) ∧
 w4.cell? ((elA x_0 n3 3).add 2) = some (x7.val)) ∧
 IxOk x_1 n3 ∧
 ∃ n8 : Int, ∃ n9 : Int, ∃ x10 : Sl, (w4.cell? ((elA x_1 n3 3).add 0) = some (.int .i64 n8) ∧
 w4.cell? ((elA x_1 n3 3).add 1) = some (.int .i64 n9) ∧
 w4.cell? ((elA x_1 n3 3).add 2) = some (x10.val)) ∧
 ∃ q11 : Bool, (Trip Tryz.prog 83 #[.agg #[.int .i64 n5, .int .i64 n6, x7.val], .agg #[.int .i64 n8, .int .i64 n9, x10.val]] w4 fun r12 w13 => r12 = .bool q11 ∧ Sub w4 w13) ∧
 ((!q11) = true →
 Q (.bool false) w4) ∧
 ((!q11) = false →
 ∃ n14 : Int, Wr .i64 (n3 + 1) n14 ∧
 I1 n14 w4 ∧
 m2 n14 w4 < m2 n3 w4)) ∧
 ((decide (n3 < (x_0.n : Int))) = false →
 Q (.bool true) w4))
theorem of41 (x_0 : Sl) (x_1 : Sl) (v : World) (Q : Value → World → Prop) (h : vc41 x_0 x_1 v Q) : Trip Tryz.prog 41 #[x_0.val, x_1.val] v Q :=
 trip_of_eq (args := [.sl x_0, .sl x_1]) (A := ⟨[(4, [(5, .int .i64)], [])], [], [], [], psG⟩) Tryz.func41 (by kernel_rfl) (by kernel_rfl) (by kernel_rfl : vc41 x_0 x_1 v Q = _) h

def vc42 (x_0 : Sl) (x_1 : Sl) (v : World) (Q : Value → World → Prop) : Prop :=
 ((!decide ((x_0.n : Int) = (x_1.n : Int))) = true →
 Q (.bool false) v) ∧
 ((!decide ((x_0.n : Int) = (x_1.n : Int))) = false →
 ∃ I1 : Int → World → Prop, ∃ m2 : Int → World → Nat, I1 0 v ∧
 ∀ n3 : Int, ∀ w4 : World, I1 n3 w4 →
 ((decide (n3 < (x_0.n : Int))) = true →
 IxOk x_0 n3 ∧
 ∃ x5 : Sl, ∃ n6 : Int, ∃ n7 : Int, ∃ n8 : Int, ∃ x9 : Sl, (w4.cell? ((elA x_0 n3 5).add 0) = some (x5.val) ∧
 w4.cell? ((elA x_0 n3 5).add 1) = some (.int .i64 n6) ∧
 w4.cell? ((elA x_0 n3 5).add 2) = some (.int .i64 n7) ∧
 w4.cell? ((elA x_0 n3 5).add 3) = some (.int .i64 n8) ∧
 w4.cell? ((elA x_0 n3 5).add 4) = some (x9.val)) ∧
 IxOk x_1 n3 ∧
 ∃ x10 : Sl, ∃ n11 : Int, ∃ n12 : Int, ∃ n13 : Int, ∃ x14 : Sl, (w4.cell? ((elA x_1 n3 5).add 0) = some (x10.val) ∧
 w4.cell? ((elA x_1 n3 5).add 1) = some (.int .i64 n11) ∧
 w4.cell? ((elA x_1 n3 5).add 2) = some (.int .i64 n12) ∧
 w4.cell? ((elA x_1 n3 5).add 3) = some (.int .i64 n13) ∧
 w4.cell? ((elA x_1 n3 5).add 4) = some (x14.val)) ∧
 ∃ q15 : Bool, (Trip Tryz.prog 84 #[.agg #[x5.val, .int .i64 n6, .int .i64 n7, .int .i64 n8, x9.val], .agg #[x10.val, .int .i64 n11, .int .i64 n12, .int .i64 n13, x14.val]] w4 fun r16 w17 => r16 = .bool q15 ∧ Sub w4 w17) ∧
 ((!q15) = true →
 Q (.bool false) w4) ∧
 ((!q15) = false →
 ∃ n18 : Int, Wr .i64 (n3 + 1) n18 ∧
 I1 n18 w4 ∧
 m2 n18 w4 < m2 n3 w4)) ∧
 ((decide (n3 < (x_0.n : Int))) = false →
 Q (.bool true) w4))
theorem of42 (x_0 : Sl) (x_1 : Sl) (v : World) (Q : Value → World → Prop) (h : vc42 x_0 x_1 v Q) : Trip Tryz.prog 42 #[x_0.val, x_1.val] v Q :=
 trip_of_eq (args := [.sl x_0, .sl x_1]) (A := ⟨[(4, [(5, .int .i64)], [])], [], [], [], psG⟩) Tryz.func42 (by kernel_rfl) (by kernel_rfl) (by kernel_rfl : vc42 x_0 x_1 v Q = _) h

def vc55 (a_0 : Addr) (n1_0 : Int) (n1_1 : Int) (x1_2 : Sl) (v : World) (Q : Value → World → Prop) : Prop :=
 ((decide (n1_0 = 0)) = true →
 ∃ s1 : ByteArray, (Trip Tryz.prog 38 #[.int .i64 n1_1] v fun r2 w3 => r2 = .string s1 ∧ Sub v w3) ∧
 Trip Tryz.prog 37 #[.pointer (some (a_0.add 0)), .string s1] v fun r4 w5 =>
 ∃ n6 : Int, ∃ y7 : Vl, r4 = .tuple #[.int .i64 n6, y7.x] ∧
 ∃ q8 : Bool, ((decide ((x1_2.n : Int) = 0)) = true →
 (Trip Tryz.prog 104 #[.int .i64 n1_1] w5 fun r9 w10 => r9 = .bool q8 ∧ Sub w5 w10)) ∧
 Q (.bool ((decide ((x1_2.n : Int) = 0)) && q8)) w5) ∧
 ((decide (n1_0 = 0)) = false →
 ((decide (n1_0 = 12)) = true →
 ∃ s11 : ByteArray, (Trip Tryz.prog 38 #[.int .i64 n1_1] v fun r12 w13 => r12 = .string s11 ∧ Sub v w13) ∧
 (((ByteArray.mk #[118]).size + s11.size : Nat) : Int) ≤ 9223372036854775807 ∧
 Trip Tryz.prog 37 #[.pointer (some (a_0.add 0)), .string ((ByteArray.mk #[118]) ++ s11)] v fun r14 w15 =>
 ∃ n16 : Int, ∃ y17 : Vl, r14 = .tuple #[.int .i64 n16, y17.x] ∧
 Q (.bool ((decide ((x1_2.n : Int) = 0)) && ((decide (n1_1 ≥ 0)) && (decide (n1_1 ≤ 99))))) w15) ∧
 ((decide (n1_0 = 12)) = false →
 ∃ s18 : ByteArray, ∃ q19 : Bool, (Trip Tryz.prog 105 #[.int .i64 n1_0] v fun r20 w21 => r20 = .tuple #[.string s18, .bool q19] ∧ Sub v w21) ∧
 (((ByteArray.mk #[40]).size + s18.size : Nat) : Int) ≤ 9223372036854775807 ∧
 Trip Tryz.prog 37 #[.pointer (some (a_0.add 0)), .string ((ByteArray.mk #[40]) ++ s18)] v fun r22 w23 =>
 ∃ n24 : Int, ∃ y25 : Vl, r22 = .tuple #[.int .i64 n24, y25.x] ∧
 ((((s18.toList == (ByteArray.mk #[]).toList) || (q19 && (!((decide (n1_1 ≥ 0)) && (decide (n1_1 ≤ 99)))))) || ((!q19) && (!decide (n1_1 = 0)))) = true →
 Q (.bool false) w23) ∧
 ((((s18.toList == (ByteArray.mk #[]).toList) || (q19 && (!((decide (n1_1 ≥ 0)) && (decide (n1_1 ≤ 99)))))) || ((!q19) && (!decide (n1_1 = 0)))) = false →
 (q19 = true →
 ∃ s26 : ByteArray, (Trip Tryz.prog 38 #[.int .i64 n1_1] w23 fun r27 w28 => r27 = .string s26 ∧ Sub w23 w28) ∧
 Trip Tryz.prog 37 #[.pointer (some (a_0.add 0)), .string s26] w23 fun r29 w30 =>
 ∃ n31 : Int, ∃ y32 : Vl, r29 = .tuple #[.int .i64 n31, y32.x] ∧
 ∃ I33 : Int → World → Prop, ∃ m34 : Int → World → Nat, I33 0 w30 ∧
 ∀ n35 : Int, ∀ w36 : World, I33 n35 w36 →
 ((decide (n35 < (x1_2.n : Int))) = true →
 IxOk x1_2 n35 ∧
 ∃ n37 : Int, ∃ n38 : Int, ∃ x39 : Sl, (w36.cell? ((elA x1_2 n35 3).add 0) = some (.int .i64 n37) ∧
 w36.cell? ((elA x1_2 n35 3).add 1) = some (.int .i64 n38) ∧
 w36.cell? ((elA x1_2 n35 3).add 2) = some (x39.val)) ∧
 Trip Tryz.prog 37 #[.pointer (some (a_0.add 0)), .string (ByteArray.mk #[32])] w36 fun r40 w41 =>
 ∃ n42 : Int, ∃ y43 : Vl, r40 = .tuple #[.int .i64 n42, y43.x] ∧
 Trip Tryz.prog 55 #[.pointer (some (a_0.add 0)), .agg #[.int .i64 n37, .int .i64 n38, x39.val]] w41 fun r44 w45 =>
 ∃ q46 : Bool, r44 = .bool q46 ∧
 ((!q46) = true →
 Q (.bool false) w45) ∧
 ((!q46) = false →
 ∃ n47 : Int, Wr .i64 (n35 + 1) n47 ∧
 ((.num .i64 n1_0 : SV) = .num .i64 n1_0) ∧
 ((.num .i64 n1_1 : SV) = .num .i64 n1_1) ∧
 ((.sl x1_2 : SV) = .sl x1_2) ∧
 I33 n47 w45 ∧
 m34 n47 w45 < m34 n35 w36)) ∧
 ((decide (n35 < (x1_2.n : Int))) = false →
 Trip Tryz.prog 37 #[.pointer (some (a_0.add 0)), .string (ByteArray.mk #[41])] w36 fun r48 w49 =>
 ∃ n50 : Int, ∃ y51 : Vl, r48 = .tuple #[.int .i64 n50, y51.x] ∧
 Q (.bool true) w49)) ∧
 (q19 = false →
 ∃ I52 : Int → World → Prop, ∃ m53 : Int → World → Nat, I52 0 w23 ∧
 ∀ n54 : Int, ∀ w55 : World, I52 n54 w55 →
 ((decide (n54 < (x1_2.n : Int))) = true →
 IxOk x1_2 n54 ∧
 ∃ n56 : Int, ∃ n57 : Int, ∃ x58 : Sl, (w55.cell? ((elA x1_2 n54 3).add 0) = some (.int .i64 n56) ∧
 w55.cell? ((elA x1_2 n54 3).add 1) = some (.int .i64 n57) ∧
 w55.cell? ((elA x1_2 n54 3).add 2) = some (x58.val)) ∧
 Trip Tryz.prog 37 #[.pointer (some (a_0.add 0)), .string (ByteArray.mk #[32])] w55 fun r59 w60 =>
 ∃ n61 : Int, ∃ y62 : Vl, r59 = .tuple #[.int .i64 n61, y62.x] ∧
 Trip Tryz.prog 55 #[.pointer (some (a_0.add 0)), .agg #[.int .i64 n56, .int .i64 n57, x58.val]] w60 fun r63 w64 =>
 ∃ q65 : Bool, r63 = .bool q65 ∧
 ((!q65) = true →
 Q (.bool false) w64) ∧
 ((!q65) = false →
 ∃ n66 : Int, Wr .i64 (n54 + 1) n66 ∧
 ((.num .i64 n1_0 : SV) = .num .i64 n1_0) ∧
 ((.num .i64 n1_1 : SV) = .num .i64 n1_1) ∧
 ((.sl x1_2 : SV) = .sl x1_2) ∧
 I52 n66 w64 ∧
 m53 n66 w64 < m53 n54 w55)) ∧
 ((decide (n54 < (x1_2.n : Int))) = false →
 Trip Tryz.prog 37 #[.pointer (some (a_0.add 0)), .string (ByteArray.mk #[41])] w55 fun r67 w68 =>
 ∃ n69 : Int, ∃ y70 : Vl, r67 = .tuple #[.int .i64 n69, y70.x] ∧
 Q (.bool true) w68)))))
theorem of55 (a_0 : Addr) (n1_0 : Int) (n1_1 : Int) (x1_2 : Sl) (v : World) (Q : Value → World → Prop) (h : vc55 a_0 n1_0 n1_1 x1_2 v Q) : Trip Tryz.prog 55 #[.pointer (some (a_0.add 0)), .agg #[.int .i64 n1_0, .int .i64 n1_1, x1_2.val]] v Q :=
 trip_of_eq (args := [.pt a_0 0, .ag [.num .i64 n1_0, .num .i64 n1_1, .sl x1_2]]) (A := ⟨[(16, [(90, .int .i64)], [])], [], [], [], psG⟩) Tryz.func55 (by kernel_rfl) (by kernel_rfl) (by kernel_rfl : vc55 a_0 n1_0 n1_1 x1_2 v Q = _) h

def vc56 (n0_0 : Int) (n0_1 : Int) (x0_2 : Sl) (v : World) (Q : Value → World → Prop) : Prop :=
 ∃ n1 : Int, (Trip Tryz.prog 106 #[.agg #[.int .i64 n0_0, .int .i64 n0_1, x0_2.val], .int .i64 30] v fun r2 w3 => r2 = .int .i64 n1 ∧ Sub v w3) ∧
 ((decide (n1 < 0)) = true →
 Q (.int .i64 (-1)) v) ∧
 ((decide (n1 < 0)) = false →
 ∃ n4 : Int, Wr .i64 (30 - n1) n4 ∧
 Q (.int .i64 n4) v)
theorem of56 (n0_0 : Int) (n0_1 : Int) (x0_2 : Sl) (v : World) (Q : Value → World → Prop) (h : vc56 n0_0 n0_1 x0_2 v Q) : Trip Tryz.prog 56 #[.agg #[.int .i64 n0_0, .int .i64 n0_1, x0_2.val]] v Q :=
 trip_of_eq (args := [.ag [.num .i64 n0_0, .num .i64 n0_1, .sl x0_2]]) (A := ⟨[], [], [], [], psG⟩) Tryz.func56 (by kernel_rfl) (by kernel_rfl) (by kernel_rfl : vc56 n0_0 n0_1 x0_2 v Q = _) h

def vc58 (n0_0 : Int) (n0_1 : Int) (x0_2 : Sl) (v : World) (Q : Value → World → Prop) : Prop :=
 ((decide (n0_0 = 0)) = true →
 ∃ s1 : ByteArray, (Trip Tryz.prog 77 #[.int .i64 n0_1] v fun r2 w3 => r2 = .string s1 ∧ Sub v w3) ∧
 Q (.string s1) v) ∧
 ((decide (n0_0 = 0)) = false →
 ((decide (n0_0 = 12)) = true →
 ∃ s4 : ByteArray, (Trip Tryz.prog 77 #[.int .i64 n0_1] v fun r5 w6 => r5 = .string s4 ∧ Sub v w6) ∧
 (((ByteArray.mk #[118]).size + s4.size : Nat) : Int) ≤ 9223372036854775807 ∧
 Q (.string ((ByteArray.mk #[118]) ++ s4)) v) ∧
 ((decide (n0_0 = 12)) = false →
 ∃ s7 : ByteArray, (Trip Tryz.prog 109 #[.int .i64 n0_0] v fun r8 w9 => r8 = .string s7 ∧ Sub v w9) ∧
 (((ByteArray.mk #[40]).size + s7.size : Nat) : Int) ≤ 9223372036854775807 ∧
 ∃ q10 : Bool, (Trip Tryz.prog 108 #[.int .i64 n0_0] v fun r11 w12 => r11 = .bool q10 ∧ Sub v w12) ∧
 (q10 = true →
 ∃ s13 : ByteArray, (Trip Tryz.prog 77 #[.int .i64 n0_1] v fun r14 w15 => r14 = .string s13 ∧ Sub v w15) ∧
 ((((ByteArray.mk #[40]) ++ s7).size + s13.size : Nat) : Int) ≤ 9223372036854775807 ∧
 ∃ I16 : ByteArray → Int → World → Prop, ∃ m17 : ByteArray → Int → World → Nat, I16 (((ByteArray.mk #[40]) ++ s7) ++ s13) 0 v ∧
 ∀ s18 : ByteArray, ∀ n19 : Int, ∀ w20 : World, I16 s18 n19 w20 →
 ((decide (n19 < (x0_2.n : Int))) = true →
 ((s18.size + (ByteArray.mk #[32]).size : Nat) : Int) ≤ 9223372036854775807 ∧
 IxOk x0_2 n19 ∧
 ∃ n21 : Int, ∃ n22 : Int, ∃ x23 : Sl, (w20.cell? ((elA x0_2 n19 3).add 0) = some (.int .i64 n21) ∧
 w20.cell? ((elA x0_2 n19 3).add 1) = some (.int .i64 n22) ∧
 w20.cell? ((elA x0_2 n19 3).add 2) = some (x23.val)) ∧
 ∃ s24 : ByteArray, (Trip Tryz.prog 58 #[.agg #[.int .i64 n21, .int .i64 n22, x23.val]] w20 fun r25 w26 => r25 = .string s24 ∧ Sub w20 w26) ∧
 (((s18 ++ (ByteArray.mk #[32])).size + s24.size : Nat) : Int) ≤ 9223372036854775807 ∧
 ∃ n27 : Int, Wr .i64 (n19 + 1) n27 ∧
 ((.num .i64 n0_0 : SV) = .num .i64 n0_0) ∧
 ((.num .i64 n0_1 : SV) = .num .i64 n0_1) ∧
 ((.sl x0_2 : SV) = .sl x0_2) ∧
 I16 ((s18 ++ (ByteArray.mk #[32])) ++ s24) n27 w20 ∧
 m17 ((s18 ++ (ByteArray.mk #[32])) ++ s24) n27 w20 < m17 s18 n19 w20) ∧
 ((decide (n19 < (x0_2.n : Int))) = false →
 ((s18.size + (ByteArray.mk #[41]).size : Nat) : Int) ≤ 9223372036854775807 ∧
 Q (.string (s18 ++ (ByteArray.mk #[41]))) w20)) ∧
 (q10 = false →
 ∃ I28 : ByteArray → Int → World → Prop, ∃ m29 : ByteArray → Int → World → Nat, I28 ((ByteArray.mk #[40]) ++ s7) 0 v ∧
 ∀ s30 : ByteArray, ∀ n31 : Int, ∀ w32 : World, I28 s30 n31 w32 →
 ((decide (n31 < (x0_2.n : Int))) = true →
 ((s30.size + (ByteArray.mk #[32]).size : Nat) : Int) ≤ 9223372036854775807 ∧
 IxOk x0_2 n31 ∧
 ∃ n33 : Int, ∃ n34 : Int, ∃ x35 : Sl, (w32.cell? ((elA x0_2 n31 3).add 0) = some (.int .i64 n33) ∧
 w32.cell? ((elA x0_2 n31 3).add 1) = some (.int .i64 n34) ∧
 w32.cell? ((elA x0_2 n31 3).add 2) = some (x35.val)) ∧
 ∃ s36 : ByteArray, (Trip Tryz.prog 58 #[.agg #[.int .i64 n33, .int .i64 n34, x35.val]] w32 fun r37 w38 => r37 = .string s36 ∧ Sub w32 w38) ∧
 (((s30 ++ (ByteArray.mk #[32])).size + s36.size : Nat) : Int) ≤ 9223372036854775807 ∧
 ∃ n39 : Int, Wr .i64 (n31 + 1) n39 ∧
 ((.num .i64 n0_0 : SV) = .num .i64 n0_0) ∧
 ((.num .i64 n0_1 : SV) = .num .i64 n0_1) ∧
 ((.sl x0_2 : SV) = .sl x0_2) ∧
 I28 ((s30 ++ (ByteArray.mk #[32])) ++ s36) n39 w32 ∧
 m29 ((s30 ++ (ByteArray.mk #[32])) ++ s36) n39 w32 < m29 s30 n31 w32) ∧
 ((decide (n31 < (x0_2.n : Int))) = false →
 ((s30.size + (ByteArray.mk #[41]).size : Nat) : Int) ≤ 9223372036854775807 ∧
 Q (.string (s30 ++ (ByteArray.mk #[41]))) w32))))
theorem of58 (n0_0 : Int) (n0_1 : Int) (x0_2 : Sl) (v : World) (Q : Value → World → Prop) (h : vc58 n0_0 n0_1 x0_2 v Q) : Trip Tryz.prog 58 #[.agg #[.int .i64 n0_0, .int .i64 n0_1, x0_2.val]] v Q :=
 trip_of_eq (args := [.ag [.num .i64 n0_0, .num .i64 n0_1, .sl x0_2]]) (A := ⟨[(9, [(3, .str), (4, .int .i64)], [])], [], [], [], psG⟩) Tryz.func58 (by kernel_rfl) (by kernel_rfl) (by kernel_rfl : vc58 n0_0 n0_1 x0_2 v Q = _) h

def vc64 (n0_0 : Int) (n0_1 : Int) (x0_2 : Sl) (a_1 : Addr) (v : World) (Q : Value → World → Prop) : Prop :=
 ∃ n1 : Int, v.cell? (a_1.add 0) = some (.int .i64 n1) ∧
 ∃ n2 : Int, Wr .i64 (n1 + 1) n2 ∧
 StoreAt v a_1 0 [.int .i64 n2] fun w3 =>
 ∃ n4 : Int, w3.cell? (a_1.add 0) = some (.int .i64 n4) ∧
 ((decide (n4 > 30)) = true →
 Q (.bool false) w3) ∧
 ((decide (n4 > 30)) = false →
 ∃ I5 : Int → World → Prop, ∃ m6 : Int → World → Nat, I5 0 w3 ∧
 ∀ n7 : Int, ∀ w8 : World, I5 n7 w8 →
 ((decide (n7 < (x0_2.n : Int))) = true →
 IxOk x0_2 n7 ∧
 ∃ n9 : Int, ∃ n10 : Int, ∃ x11 : Sl, (w8.cell? ((elA x0_2 n7 3).add 0) = some (.int .i64 n9) ∧
 w8.cell? ((elA x0_2 n7 3).add 1) = some (.int .i64 n10) ∧
 w8.cell? ((elA x0_2 n7 3).add 2) = some (x11.val)) ∧
 Trip Tryz.prog 64 #[.agg #[.int .i64 n9, .int .i64 n10, x11.val], .pointer (some (a_1.add 0))] w8 fun r12 w13 =>
 ∃ q14 : Bool, r12 = .bool q14 ∧
 ((!q14) = true →
 Q (.bool false) w13) ∧
 ((!q14) = false →
 ∃ n15 : Int, Wr .i64 (n7 + 1) n15 ∧
 ((.num .i64 n0_0 : SV) = .num .i64 n0_0) ∧
 ((.num .i64 n0_1 : SV) = .num .i64 n0_1) ∧
 ((.sl x0_2 : SV) = .sl x0_2) ∧
 I5 n15 w13 ∧
 m6 n15 w13 < m6 n7 w8)) ∧
 ((decide (n7 < (x0_2.n : Int))) = false →
 Q (.bool true) w8))
theorem of64 (n0_0 : Int) (n0_1 : Int) (x0_2 : Sl) (a_1 : Addr) (v : World) (Q : Value → World → Prop) (h : vc64 n0_0 n0_1 x0_2 a_1 v Q) : Trip Tryz.prog 64 #[.agg #[.int .i64 n0_0, .int .i64 n0_1, x0_2.val], .pointer (some (a_1.add 0))] v Q :=
 trip_of_eq (args := [.ag [.num .i64 n0_0, .num .i64 n0_1, .sl x0_2], .pt a_1 0]) (A := ⟨[(5, [(19, .int .i64)], [])], [], [], [], psG⟩) Tryz.func64 (by kernel_rfl) (by kernel_rfl) (by kernel_rfl : vc64 n0_0 n0_1 x0_2 a_1 v Q = _) h

def vc69 (x0_0 : Sl) (x0_1 : Sl) (v : World) (Q : Value → World → Prop) : Prop :=
 StepT Tryz.prog (Instr.makeSlice 153 (.int .i64 0) (.int .i64 4)) v fun r1 w2 =>
 ∃ x3 : Sl, r1 = x3.val ∧
 ((decide ((x0_1.n : Int) > 4)) = true →
 Q (.bool false) w2) ∧
 ((decide ((x0_1.n : Int) > 4)) = false →
 ∃ I4 : Sl → Int → World → Prop, ∃ m5 : Sl → Int → World → Nat, I4 x3 0 w2 ∧
 ∀ x6 : Sl, ∀ n7 : Int, ∀ w8 : World, I4 x6 n7 w8 →
 ((decide (n7 < (x0_1.n : Int))) = true →
 IxOk x0_1 n7 ∧
 ∃ x9 : Sl, ∃ n10 : Int, ∃ n11 : Int, ∃ n12 : Int, ∃ x13 : Sl, (w8.cell? ((elA x0_1 n7 5).add 0) = some (x9.val) ∧
 w8.cell? ((elA x0_1 n7 5).add 1) = some (.int .i64 n10) ∧
 w8.cell? ((elA x0_1 n7 5).add 2) = some (.int .i64 n11) ∧
 w8.cell? ((elA x0_1 n7 5).add 3) = some (.int .i64 n12) ∧
 w8.cell? ((elA x0_1 n7 5).add 4) = some (x13.val)) ∧
 StepT Tryz.prog (Instr.buildSlice 153 1 #[(0, (.agg #[x9.val, .slice none 0 0, .int .i64 n10]))]) w8 fun r14 w15 =>
 ∃ x16 : Sl, r14 = x16.val ∧
 StepT Tryz.prog (Builtin.append_ #[153, 153] 153 #[(x6.val), (x16.val)]) w15 fun r17 w18 =>
 ∃ x19 : Sl, r17 = x19.val ∧
 ∃ n20 : Int, Wr .i64 (n7 + 1) n20 ∧
 ((.sl x0_0 : SV) = .sl x0_0) ∧
 ((.sl x0_1 : SV) = .sl x0_1) ∧
 I4 x19 n20 w18 ∧
 m5 x19 n20 w18 < m5 x6 n7 w8) ∧
 ((decide (n7 < (x0_1.n : Int))) = false →
 ∃ q21 : Bool, (Trip Tryz.prog 122 #[x0_0.val, x6.val] w8 fun r22 w23 => r22 = .bool q21 ∧ Sub w8 w23) ∧
 Q (.bool q21) w8))
theorem of69 (x0_0 : Sl) (x0_1 : Sl) (v : World) (Q : Value → World → Prop) (h : vc69 x0_0 x0_1 v Q) : Trip Tryz.prog 69 #[.agg #[x0_0.val, x0_1.val]] v Q :=
 trip_of_eq (args := [.ag [.sl x0_0, .sl x0_1]]) (A := ⟨[(5, [(3, .sl), (14, .int .i64)], [])], [], [], [], psG⟩) Tryz.func69 (by kernel_rfl) (by kernel_rfl) (by kernel_rfl : vc69 x0_0 x0_1 v Q = _) h

def vc70 (x0_0 : Sl) (x0_1 : Sl) (x_1 : Sl) (n2_0 : Int) (n2_1 : Int) (x2_2 : Sl) (v : World) (Q : Value → World → Prop) : Prop :=
 ∃ q1 : Bool, (Trip Tryz.prog 69 #[.agg #[x0_0.val, x0_1.val]] v fun r2 w3 => r2 = .bool q1 ∧ Sub v w3) ∧
 ∃ n4 : Int, ((!q1) = false →
 (Trip Tryz.prog 26 #[.agg #[.int .i64 n2_0, .int .i64 n2_1, x2_2.val]] v fun r5 w6 => r5 = .int .i64 n4 ∧ Sub v w6)) ∧
 ∃ q7 : Bool, (((!q1) || (decide (n4 < 0))) = false →
 (Trip Tryz.prog 123 #[x0_0.val, x_1.val] v fun r8 w9 => r8 = .bool q7 ∧ Sub v w9)) ∧
 ((((!q1) || (decide (n4 < 0))) || (!q7)) = true →
 Q (.int .i64 (-1)) v) ∧
 ((((!q1) || (decide (n4 < 0))) || (!q7)) = false →
 Trip Tryz.prog 124 #[.agg #[x0_0.val, x0_1.val]] v fun r10 w11 =>
 ∃ x12 : Sl, ∃ x13 : Sl, r10 = .agg #[x12.val, x13.val] ∧
 Sub v w11 ∧
 Trip Tryz.prog 126 #[x_1.val] w11 fun r14 w15 =>
 ∃ x16 : Sl, r14 = x16.val ∧
 Sub w11 w15 ∧
 Trip Tryz.prog 125 #[.agg #[x12.val, x13.val], x16.val, .agg #[.int .i64 n2_0, .int .i64 n2_1, x2_2.val]] w15 fun r17 w18 =>
 ∃ n19 : Int, r17 = .int .i64 n19 ∧
 Q (.int .i64 n19) w18)
theorem of70 (x0_0 : Sl) (x0_1 : Sl) (x_1 : Sl) (n2_0 : Int) (n2_1 : Int) (x2_2 : Sl) (v : World) (Q : Value → World → Prop) (h : vc70 x0_0 x0_1 x_1 n2_0 n2_1 x2_2 v Q) : Trip Tryz.prog 70 #[.agg #[x0_0.val, x0_1.val], x_1.val, .agg #[.int .i64 n2_0, .int .i64 n2_1, x2_2.val]] v Q :=
 trip_of_eq (args := [.ag [.sl x0_0, .sl x0_1], .sl x_1, .ag [.num .i64 n2_0, .num .i64 n2_1, .sl x2_2]]) (A := ⟨[], [], [(3, [1, 3])], [], psG⟩) Tryz.func70 (by kernel_rfl) (by kernel_rfl) (by kernel_rfl : vc70 x0_0 x0_1 x_1 n2_0 n2_1 x2_2 v Q = _) h

def vc71 (n0_0 : Int) (n0_1 : Int) (x0_2 : Sl) (n_1 : Int) (v : World) (Q : Value → World → Prop) : Prop :=
 ∃ n1 : Int, (Trip Tryz.prog 127 #[x0_2.val, .int .i64 n_1] v fun r2 w3 => r2 = .int .i64 n1 ∧ Sub v w3) ∧
 ((decide (n1 < 0)) = true →
 Q (.int .i64 (-1)) v) ∧
 ((decide (n1 < 0)) = false →
 Q (.int .i64 n1) v)
theorem of71 (n0_0 : Int) (n0_1 : Int) (x0_2 : Sl) (n_1 : Int) (v : World) (Q : Value → World → Prop) (h : vc71 n0_0 n0_1 x0_2 n_1 v Q) : Trip Tryz.prog 71 #[.agg #[.int .i64 n0_0, .int .i64 n0_1, x0_2.val], .int .i64 n_1] v Q :=
 trip_of_eq (args := [.ag [.num .i64 n0_0, .num .i64 n0_1, .sl x0_2], .num .i64 n_1]) (A := ⟨[], [], [], [], psG⟩) Tryz.func71 (by kernel_rfl) (by kernel_rfl) (by kernel_rfl : vc71 n0_0 n0_1 x0_2 n_1 v Q = _) h

def vc72 (x0_0 : Sl) (n0_1 : Int) (n0_2 : Int) (n0_3 : Int) (x0_4 : Sl) (n_1 : Int) (v : World) (Q : Value → World → Prop) : Prop :=
 ∃ n1 : Int, (Trip Tryz.prog 128 #[x0_0.val, .int .i64 n_1] v fun r2 w3 => r2 = .int .i64 n1 ∧ Sub v w3) ∧
 ((decide (n1 < 0)) = true →
 Q (.int .i64 (-1)) v) ∧
 ((decide (n1 < 0)) = false →
 ∃ n4 : Int, (Trip Tryz.prog 129 #[.agg #[.int .i64 n0_2, .int .i64 n0_3, x0_4.val], .int .i64 n1] v fun r5 w6 => r5 = .int .i64 n4 ∧ Sub v w6) ∧
 ((decide (n4 < 0)) = true →
 Q (.int .i64 (-1)) v) ∧
 ((decide (n4 < 0)) = false →
 Q (.int .i64 n4) v))
theorem of72 (x0_0 : Sl) (n0_1 : Int) (n0_2 : Int) (n0_3 : Int) (x0_4 : Sl) (n_1 : Int) (v : World) (Q : Value → World → Prop) (h : vc72 x0_0 n0_1 n0_2 n0_3 x0_4 n_1 v Q) : Trip Tryz.prog 72 #[.agg #[x0_0.val, .int .i64 n0_1, .int .i64 n0_2, .int .i64 n0_3, x0_4.val], .int .i64 n_1] v Q :=
 trip_of_eq (args := [.ag [.sl x0_0, .num .i64 n0_1, .num .i64 n0_2, .num .i64 n0_3, .sl x0_4], .num .i64 n_1]) (A := ⟨[], [], [], [], psG⟩) Tryz.func72 (by kernel_rfl) (by kernel_rfl) (by kernel_rfl : vc72 x0_0 n0_1 n0_2 n0_3 x0_4 n_1 v Q = _) h

def vc73 (x0_0 : Sl) (x0_1 : Sl) (v : World) (Q : Value → World → Prop) : Prop :=
 ∃ q1 : Bool, (Trip Tryz.prog 130 #[x0_0.val] v fun r2 w3 => r2 = .bool q1 ∧ Sub v w3) ∧
 ∃ q4 : Bool, ((!q1) = false →
 (Trip Tryz.prog 107 #[.int .i64 (x0_1.n : Int), .int .i64 1, .int .i64 4] v fun r5 w6 => r5 = .bool q4 ∧ Sub v w6)) ∧
 (((!q1) || (!q4)) = true →
 Q (.bool false) v) ∧
 (((!q1) || (!q4)) = false →
 ∃ I7 : Int → World → Prop, ∃ m8 : Int → World → Nat, I7 0 v ∧
 ∀ n9 : Int, ∀ w10 : World, I7 n9 w10 →
 ((decide (n9 < (x0_1.n : Int))) = true →
 IxOk x0_1 n9 ∧
 ∃ x11 : Sl, ∃ n12 : Int, ∃ n13 : Int, ∃ n14 : Int, ∃ x15 : Sl, (w10.cell? ((elA x0_1 n9 5).add 0) = some (x11.val) ∧
 w10.cell? ((elA x0_1 n9 5).add 1) = some (.int .i64 n12) ∧
 w10.cell? ((elA x0_1 n9 5).add 2) = some (.int .i64 n13) ∧
 w10.cell? ((elA x0_1 n9 5).add 3) = some (.int .i64 n14) ∧
 w10.cell? ((elA x0_1 n9 5).add 4) = some (x15.val)) ∧
 ∃ q16 : Bool, ((decide ((x11.n : Int) > 3)) = false →
 (Trip Tryz.prog 131 #[x0_0.val, x11.val] w10 fun r17 w18 => r17 = .bool q16 ∧ Sub w10 w18)) ∧
 ∃ q19 : Bool, (((decide ((x11.n : Int) > 3)) || (!q16)) = false →
 (Trip Tryz.prog 107 #[.int .i64 n12, .int .i64 0, .int .i64 (x0_0.n : Int)] w10 fun r20 w21 => r20 = .bool q19 ∧ Sub w10 w21)) ∧
 ((((decide ((x11.n : Int) > 3)) || (!q16)) || (!q19)) = true →
 Q (.bool false) w10) ∧
 ((((decide ((x11.n : Int) > 3)) || (!q16)) || (!q19)) = false →
 ∃ n22 : Int, Wr .i64 (n9 + 1) n22 ∧
 ((.sl x0_0 : SV) = .sl x0_0) ∧
 ((.sl x0_1 : SV) = .sl x0_1) ∧
 I7 n22 w10 ∧
 m8 n22 w10 < m8 n9 w10)) ∧
 ((decide (n9 < (x0_1.n : Int))) = false →
 IxOk x0_1 0 ∧
 ∃ x23 : Sl, w10.cell? ((elA x0_1 0 5).add 0) = some (x23.val) ∧
 ((decide ((x23.n : Int) = 0)) = true →
 IxOk x0_1 0) ∧
 ∃ n24 : Int, ((decide ((x23.n : Int) = 0)) = true →
 w10.cell? ((elA x0_1 0 5).add 1) = some (.int .i64 n24)) ∧
 Q (.bool ((decide ((x23.n : Int) = 0)) && (decide (n24 = 0)))) w10))
theorem of73 (x0_0 : Sl) (x0_1 : Sl) (v : World) (Q : Value → World → Prop) (h : vc73 x0_0 x0_1 v Q) : Trip Tryz.prog 73 #[.agg #[x0_0.val, x0_1.val]] v Q :=
 trip_of_eq (args := [.ag [.sl x0_0, .sl x0_1]]) (A := ⟨[(4, [(3, .int .i64)], [])], [], [], [], psG⟩) Tryz.func73 (by kernel_rfl) (by kernel_rfl) (by kernel_rfl : vc73 x0_0 x0_1 v Q = _) h

def vc74 (x0_0 : Sl) (x0_1 : Sl) (x_1 : Sl) (n2_0 : Int) (n2_1 : Int) (x2_2 : Sl) (v : World) (Q : Value → World → Prop) : Prop :=
 ((decide (n2_0 = 0)) = true →
 ∃ q1 : Bool, ((decide ((x2_2.n : Int) = 0)) = true →
 (Trip Tryz.prog 107 #[.int .i64 n2_1, .int .i64 (-999), .int .i64 999] v fun r2 w3 => r2 = .bool q1 ∧ Sub v w3)) ∧
 (((decide ((x2_2.n : Int) = 0)) && q1) = true →
 Q (.int .i64 0) v) ∧
 (((decide ((x2_2.n : Int) = 0)) && q1) = false →
 Q (.int .i64 (-1)) v)) ∧
 ((decide (n2_0 = 0)) = false →
 ((decide (n2_0 = 12)) = true →
 ∃ n4 : Int, ((decide ((x2_2.n : Int) = 0)) = true →
 Wr .i64 ((x_1.n : Int) - 1) n4) ∧
 ∃ q5 : Bool, ((decide ((x2_2.n : Int) = 0)) = true →
 (Trip Tryz.prog 107 #[.int .i64 n2_1, .int .i64 0, .int .i64 n4] v fun r6 w7 => r6 = .bool q5 ∧ Sub v w7)) ∧
 (((decide ((x2_2.n : Int) = 0)) && q5) = true →
 IxOk x_1 n2_1 ∧
 ∃ n8 : Int, v.cell? ((elA x_1 n2_1 1).add 0) = some (.int .i64 n8) ∧
 Q (.int .i64 n8) v) ∧
 (((decide ((x2_2.n : Int) = 0)) && q5) = false →
 Q (.int .i64 (-1)) v)) ∧
 ((decide (n2_0 = 12)) = false →
 ((decide (n2_0 = 1)) = true →
 ((decide (n2_0 = 1)) = true →
 ∃ q9 : Bool, ((decide (n2_1 = 0)) = true →
 (Trip Tryz.prog 132 #[.agg #[x0_0.val, x0_1.val], x_1.val, x2_2.val, .int .i64 2] v fun r10 w11 => r10 = .bool q9 ∧ Sub v w11)) ∧
 (((decide (n2_1 = 0)) && q9) = true →
 Q (.int .i64 0) v) ∧
 (((decide (n2_1 = 0)) && q9) = false →
 Q (.int .i64 (-1)) v)) ∧
 ((decide (n2_0 = 1)) = false →
 ((decide (n2_0 = 5)) = true →
 ∃ q12 : Bool, ((decide (n2_1 = 0)) = true →
 (Trip Tryz.prog 132 #[.agg #[x0_0.val, x0_1.val], x_1.val, x2_2.val, .int .i64 1] v fun r13 w14 => r13 = .bool q12 ∧ Sub v w14)) ∧
 (((decide (n2_1 = 0)) && q12) = true →
 Q (.int .i64 0) v) ∧
 (((decide (n2_1 = 0)) && q12) = false →
 Q (.int .i64 (-1)) v)) ∧
 ((decide (n2_0 = 5)) = false →
 ((decide (n2_0 = 6)) = true →
 ∃ n15 : Int, (Trip Tryz.prog 133 #[x0_0.val, .int .i64 n2_1] v fun r16 w17 => r16 = .int .i64 n15 ∧ Sub v w17) ∧
 ((decide (n15 > 0)) = true →
 Trip Tryz.prog 135 #[x0_0.val, .int .i64 n2_1] v fun r18 w19 =>
 ∃ x20 : Sl, r18 = x20.val ∧
 Sub v w19 ∧
 ∃ q21 : Bool, (Trip Tryz.prog 134 #[.agg #[x0_0.val, x0_1.val], x_1.val, x2_2.val, x20.val] w19 fun r22 w23 => r22 = .bool q21 ∧ Sub w19 w23) ∧
 (q21 = true →
 ∃ n24 : Int, (Trip Tryz.prog 133 #[x0_0.val, .int .i64 n2_1] w19 fun r25 w26 => r25 = .int .i64 n24 ∧ Sub w19 w26) ∧
 Q (.int .i64 n24) w19) ∧
 (q21 = false →
 Q (.int .i64 (-1)) w19)) ∧
 ((decide (n15 > 0)) = false →
 Sub v v ∧
 Q (.int .i64 (-1)) v)) ∧
 ((decide (n2_0 = 6)) = false →
 ((decide (n2_0 = 13)) = true →
 (((decide (n2_1 = 0)) && (decide ((x2_2.n : Int) = 2))) = true →
 IxOk x2_2 0 ∧
 ∃ n27 : Int, ∃ n28 : Int, ∃ x29 : Sl, (v.cell? ((elA x2_2 0 3).add 0) = some (.int .i64 n27) ∧
 v.cell? ((elA x2_2 0 3).add 1) = some (.int .i64 n28) ∧
 v.cell? ((elA x2_2 0 3).add 2) = some (x29.val)) ∧
 ∃ n30 : Int, (Trip Tryz.prog 74 #[.agg #[x0_0.val, x0_1.val], x_1.val, .agg #[.int .i64 n27, .int .i64 n28, x29.val]] v fun r31 w32 => r31 = .int .i64 n30 ∧ Sub v w32) ∧
 ((decide (n30 ≥ 0)) = true →
 IxOk x2_2 1 ∧
 ∃ n33 : Int, ∃ n34 : Int, ∃ x35 : Sl, (v.cell? ((elA x2_2 1 3).add 0) = some (.int .i64 n33) ∧
 v.cell? ((elA x2_2 1 3).add 1) = some (.int .i64 n34) ∧
 v.cell? ((elA x2_2 1 3).add 2) = some (x35.val)) ∧
 StepT Tryz.prog (Instr.buildSlice 68 1 #[(0, (.int .i64 n30))]) v fun r36 w37 =>
 ∃ x38 : Sl, r36 = x38.val ∧
 Sub v w37 ∧
 Trip Tryz.prog 136 #[x_1.val, x38.val] w37 fun r39 w40 =>
 ∃ x41 : Sl, r39 = x41.val ∧
 Sub w37 w40 ∧
 ∃ n42 : Int, (Trip Tryz.prog 74 #[.agg #[x0_0.val, x0_1.val], x41.val, .agg #[.int .i64 n33, .int .i64 n34, x35.val]] w40 fun r43 w44 => r43 = .int .i64 n42 ∧ Sub w40 w44) ∧
 Q (.int .i64 n42) w40) ∧
 ((decide (n30 ≥ 0)) = false →
 Q (.int .i64 (-1)) v)) ∧
 (((decide (n2_1 = 0)) && (decide ((x2_2.n : Int) = 2))) = false →
 Q (.int .i64 (-1)) v)) ∧
 ((decide (n2_0 = 13)) = false →
 ((decide (n2_0 = 7)) = true →
 (((decide (n2_1 = 0)) && (decide ((x2_2.n : Int) = 3))) = true →
 IxOk x2_2 0) ∧
 ∃ n45 : Int, ∃ n46 : Int, ∃ x47 : Sl, (((decide (n2_1 = 0)) && (decide ((x2_2.n : Int) = 3))) = true →
 v.cell? ((elA x2_2 0 3).add 0) = some (.int .i64 n45) ∧
 v.cell? ((elA x2_2 0 3).add 1) = some (.int .i64 n46) ∧
 v.cell? ((elA x2_2 0 3).add 2) = some (x47.val)) ∧
 ∃ n48 : Int, (((decide (n2_1 = 0)) && (decide ((x2_2.n : Int) = 3))) = true →
 (Trip Tryz.prog 74 #[.agg #[x0_0.val, x0_1.val], x_1.val, .agg #[.int .i64 n45, .int .i64 n46, x47.val]] v fun r49 w50 => r49 = .int .i64 n48 ∧ Sub v w50)) ∧
 ((((decide (n2_1 = 0)) && (decide ((x2_2.n : Int) = 3))) && (decide (n48 = 0))) = true →
 IxOk x2_2 1 ∧
 ∃ n51 : Int, ∃ n52 : Int, ∃ x53 : Sl, (v.cell? ((elA x2_2 1 3).add 0) = some (.int .i64 n51) ∧
 v.cell? ((elA x2_2 1 3).add 1) = some (.int .i64 n52) ∧
 v.cell? ((elA x2_2 1 3).add 2) = some (x53.val)) ∧
 ∃ n54 : Int, (Trip Tryz.prog 74 #[.agg #[x0_0.val, x0_1.val], x_1.val, .agg #[.int .i64 n51, .int .i64 n52, x53.val]] v fun r55 w56 => r55 = .int .i64 n54 ∧ Sub v w56) ∧
 IxOk x2_2 2 ∧
 ∃ n57 : Int, ∃ n58 : Int, ∃ x59 : Sl, (v.cell? ((elA x2_2 2 3).add 0) = some (.int .i64 n57) ∧
 v.cell? ((elA x2_2 2 3).add 1) = some (.int .i64 n58) ∧
 v.cell? ((elA x2_2 2 3).add 2) = some (x59.val)) ∧
 ∃ n60 : Int, (Trip Tryz.prog 74 #[.agg #[x0_0.val, x0_1.val], x_1.val, .agg #[.int .i64 n57, .int .i64 n58, x59.val]] v fun r61 w62 => r61 = .int .i64 n60 ∧ Sub v w62) ∧
 ((decide (n60 = n54)) = true →
 Q (.int .i64 n54) v) ∧
 ((decide (n60 = n54)) = false →
 Q (.int .i64 (-1)) v)) ∧
 ((((decide (n2_1 = 0)) && (decide ((x2_2.n : Int) = 3))) && (decide (n48 = 0))) = false →
 Q (.int .i64 (-1)) v)) ∧
 ((decide (n2_0 = 7)) = false →
 ((decide (n2_0 = 8)) = true →
 ∃ n63 : Int, (Trip Tryz.prog 137 #[.agg #[x0_0.val, x0_1.val], x_1.val, .agg #[.int .i64 n2_0, .int .i64 n2_1, x2_2.val]] v fun r64 w65 => r64 = .int .i64 n63 ∧ Sub v w65) ∧
 Q (.int .i64 n63) v) ∧
 ((decide (n2_0 = 8)) = false →
 ((decide (n2_0 = 9)) = true →
 ((decide (n2_0 = 9)) = true →
 ∃ n66 : Int, (Trip Tryz.prog 138 #[.agg #[x0_0.val, x0_1.val], x_1.val, .agg #[.int .i64 n2_0, .int .i64 n2_1, x2_2.val]] v fun r67 w68 => r67 = .int .i64 n66 ∧ Sub v w68) ∧
 Q (.int .i64 n66) v) ∧
 ((decide (n2_0 = 9)) = false →
 ((decide (n2_0 = 11)) = true →
 (((decide (n2_1 = 0)) && (decide ((x2_2.n : Int) = 2))) = true →
 IxOk x2_2 0 ∧
 ∃ n69 : Int, ∃ n70 : Int, ∃ x71 : Sl, (v.cell? ((elA x2_2 0 3).add 0) = some (.int .i64 n69) ∧
 v.cell? ((elA x2_2 0 3).add 1) = some (.int .i64 n70) ∧
 v.cell? ((elA x2_2 0 3).add 2) = some (x71.val)) ∧
 ∃ n72 : Int, (Trip Tryz.prog 74 #[.agg #[x0_0.val, x0_1.val], x_1.val, .agg #[.int .i64 n69, .int .i64 n70, x71.val]] v fun r73 w74 => r73 = .int .i64 n72 ∧ Sub v w74) ∧
 ∃ q75 : Bool, (Trip Tryz.prog 139 #[x0_0.val, .int .i64 n72] v fun r76 w77 => r76 = .bool q75 ∧ Sub v w77) ∧
 (q75 = true →
 IxOk x2_2 1) ∧
 ∃ n78 : Int, ∃ n79 : Int, ∃ x80 : Sl, (q75 = true →
 v.cell? ((elA x2_2 1 3).add 0) = some (.int .i64 n78) ∧
 v.cell? ((elA x2_2 1 3).add 1) = some (.int .i64 n79) ∧
 v.cell? ((elA x2_2 1 3).add 2) = some (x80.val)) ∧
 ∃ n81 : Int, (q75 = true →
 (Trip Tryz.prog 74 #[.agg #[x0_0.val, x0_1.val], x_1.val, .agg #[.int .i64 n78, .int .i64 n79, x80.val]] v fun r82 w83 => r82 = .int .i64 n81 ∧ Sub v w83)) ∧
 ∃ n84 : Int, (q75 = true →
 Wr .i64 (n72 - 1) n84) ∧
 (q75 = true →
 IxOk x0_0 n84) ∧
 ∃ n85 : Int, (q75 = true →
 v.cell? ((elA x0_0 n84 3).add 0) = some (.int .i64 n85)) ∧
 ((q75 && (decide (n81 = n85))) = true →
 ∃ n86 : Int, Wr .i64 (n72 - 1) n86 ∧
 IxOk x0_0 n86 ∧
 ∃ n87 : Int, v.cell? ((elA x0_0 n86 3).add 1) = some (.int .i64 n87) ∧
 Q (.int .i64 n87) v) ∧
 ((q75 && (decide (n81 = n85))) = false →
 Q (.int .i64 (-1)) v)) ∧
 (((decide (n2_1 = 0)) && (decide ((x2_2.n : Int) = 2))) = false →
 Q (.int .i64 (-1)) v)) ∧
 ((decide (n2_0 = 11)) = false →
 Q (.int .i64 (-1)) v))) ∧
 ((decide (n2_0 = 9)) = false →
 ((decide (n2_0 = 10)) = true →
 ∃ n88 : Int, (Trip Tryz.prog 138 #[.agg #[x0_0.val, x0_1.val], x_1.val, .agg #[.int .i64 n2_0, .int .i64 n2_1, x2_2.val]] v fun r89 w90 => r89 = .int .i64 n88 ∧ Sub v w90) ∧
 Q (.int .i64 n88) v) ∧
 ((decide (n2_0 = 10)) = false →
 ((decide (n2_0 = 11)) = true →
 (((decide (n2_1 = 0)) && (decide ((x2_2.n : Int) = 2))) = true →
 IxOk x2_2 0 ∧
 ∃ n91 : Int, ∃ n92 : Int, ∃ x93 : Sl, (v.cell? ((elA x2_2 0 3).add 0) = some (.int .i64 n91) ∧
 v.cell? ((elA x2_2 0 3).add 1) = some (.int .i64 n92) ∧
 v.cell? ((elA x2_2 0 3).add 2) = some (x93.val)) ∧
 ∃ n94 : Int, (Trip Tryz.prog 74 #[.agg #[x0_0.val, x0_1.val], x_1.val, .agg #[.int .i64 n91, .int .i64 n92, x93.val]] v fun r95 w96 => r95 = .int .i64 n94 ∧ Sub v w96) ∧
 ∃ q97 : Bool, (Trip Tryz.prog 139 #[x0_0.val, .int .i64 n94] v fun r98 w99 => r98 = .bool q97 ∧ Sub v w99) ∧
 (q97 = true →
 IxOk x2_2 1) ∧
 ∃ n100 : Int, ∃ n101 : Int, ∃ x102 : Sl, (q97 = true →
 v.cell? ((elA x2_2 1 3).add 0) = some (.int .i64 n100) ∧
 v.cell? ((elA x2_2 1 3).add 1) = some (.int .i64 n101) ∧
 v.cell? ((elA x2_2 1 3).add 2) = some (x102.val)) ∧
 ∃ n103 : Int, (q97 = true →
 (Trip Tryz.prog 74 #[.agg #[x0_0.val, x0_1.val], x_1.val, .agg #[.int .i64 n100, .int .i64 n101, x102.val]] v fun r104 w105 => r104 = .int .i64 n103 ∧ Sub v w105)) ∧
 ∃ n106 : Int, (q97 = true →
 Wr .i64 (n94 - 1) n106) ∧
 (q97 = true →
 IxOk x0_0 n106) ∧
 ∃ n107 : Int, (q97 = true →
 v.cell? ((elA x0_0 n106 3).add 0) = some (.int .i64 n107)) ∧
 ((q97 && (decide (n103 = n107))) = true →
 ∃ n108 : Int, Wr .i64 (n94 - 1) n108 ∧
 IxOk x0_0 n108 ∧
 ∃ n109 : Int, v.cell? ((elA x0_0 n108 3).add 1) = some (.int .i64 n109) ∧
 Q (.int .i64 n109) v) ∧
 ((q97 && (decide (n103 = n107))) = false →
 Q (.int .i64 (-1)) v)) ∧
 (((decide (n2_1 = 0)) && (decide ((x2_2.n : Int) = 2))) = false →
 Q (.int .i64 (-1)) v)) ∧
 ((decide (n2_0 = 11)) = false →
 Q (.int .i64 (-1)) v)))))))))) ∧
 ((decide (n2_0 = 1)) = false →
 ((decide (n2_0 = 2)) = true →
 ((decide (n2_0 = 2)) = true →
 ∃ q110 : Bool, ((decide (n2_1 = 0)) = true →
 (Trip Tryz.prog 132 #[.agg #[x0_0.val, x0_1.val], x_1.val, x2_2.val, .int .i64 2] v fun r111 w112 => r111 = .bool q110 ∧ Sub v w112)) ∧
 (((decide (n2_1 = 0)) && q110) = true →
 Q (.int .i64 0) v) ∧
 (((decide (n2_1 = 0)) && q110) = false →
 Q (.int .i64 (-1)) v)) ∧
 ((decide (n2_0 = 2)) = false →
 ((decide (n2_0 = 5)) = true →
 ∃ q113 : Bool, ((decide (n2_1 = 0)) = true →
 (Trip Tryz.prog 132 #[.agg #[x0_0.val, x0_1.val], x_1.val, x2_2.val, .int .i64 1] v fun r114 w115 => r114 = .bool q113 ∧ Sub v w115)) ∧
 (((decide (n2_1 = 0)) && q113) = true →
 Q (.int .i64 0) v) ∧
 (((decide (n2_1 = 0)) && q113) = false →
 Q (.int .i64 (-1)) v)) ∧
 ((decide (n2_0 = 5)) = false →
 ((decide (n2_0 = 6)) = true →
 ∃ n116 : Int, (Trip Tryz.prog 133 #[x0_0.val, .int .i64 n2_1] v fun r117 w118 => r117 = .int .i64 n116 ∧ Sub v w118) ∧
 ((decide (n116 > 0)) = true →
 Trip Tryz.prog 135 #[x0_0.val, .int .i64 n2_1] v fun r119 w120 =>
 ∃ x121 : Sl, r119 = x121.val ∧
 Sub v w120 ∧
 ∃ q122 : Bool, (Trip Tryz.prog 134 #[.agg #[x0_0.val, x0_1.val], x_1.val, x2_2.val, x121.val] w120 fun r123 w124 => r123 = .bool q122 ∧ Sub w120 w124) ∧
 (q122 = true →
 ∃ n125 : Int, (Trip Tryz.prog 133 #[x0_0.val, .int .i64 n2_1] w120 fun r126 w127 => r126 = .int .i64 n125 ∧ Sub w120 w127) ∧
 Q (.int .i64 n125) w120) ∧
 (q122 = false →
 Q (.int .i64 (-1)) w120)) ∧
 ((decide (n116 > 0)) = false →
 Sub v v ∧
 Q (.int .i64 (-1)) v)) ∧
 ((decide (n2_0 = 6)) = false →
 ((decide (n2_0 = 13)) = true →
 (((decide (n2_1 = 0)) && (decide ((x2_2.n : Int) = 2))) = true →
 IxOk x2_2 0 ∧
 ∃ n128 : Int, ∃ n129 : Int, ∃ x130 : Sl, (v.cell? ((elA x2_2 0 3).add 0) = some (.int .i64 n128) ∧
 v.cell? ((elA x2_2 0 3).add 1) = some (.int .i64 n129) ∧
 v.cell? ((elA x2_2 0 3).add 2) = some (x130.val)) ∧
 ∃ n131 : Int, (Trip Tryz.prog 74 #[.agg #[x0_0.val, x0_1.val], x_1.val, .agg #[.int .i64 n128, .int .i64 n129, x130.val]] v fun r132 w133 => r132 = .int .i64 n131 ∧ Sub v w133) ∧
 ((decide (n131 ≥ 0)) = true →
 IxOk x2_2 1 ∧
 ∃ n134 : Int, ∃ n135 : Int, ∃ x136 : Sl, (v.cell? ((elA x2_2 1 3).add 0) = some (.int .i64 n134) ∧
 v.cell? ((elA x2_2 1 3).add 1) = some (.int .i64 n135) ∧
 v.cell? ((elA x2_2 1 3).add 2) = some (x136.val)) ∧
 StepT Tryz.prog (Instr.buildSlice 68 1 #[(0, (.int .i64 n131))]) v fun r137 w138 =>
 ∃ x139 : Sl, r137 = x139.val ∧
 Sub v w138 ∧
 Trip Tryz.prog 136 #[x_1.val, x139.val] w138 fun r140 w141 =>
 ∃ x142 : Sl, r140 = x142.val ∧
 Sub w138 w141 ∧
 ∃ n143 : Int, (Trip Tryz.prog 74 #[.agg #[x0_0.val, x0_1.val], x142.val, .agg #[.int .i64 n134, .int .i64 n135, x136.val]] w141 fun r144 w145 => r144 = .int .i64 n143 ∧ Sub w141 w145) ∧
 Q (.int .i64 n143) w141) ∧
 ((decide (n131 ≥ 0)) = false →
 Q (.int .i64 (-1)) v)) ∧
 (((decide (n2_1 = 0)) && (decide ((x2_2.n : Int) = 2))) = false →
 Q (.int .i64 (-1)) v)) ∧
 ((decide (n2_0 = 13)) = false →
 ((decide (n2_0 = 7)) = true →
 (((decide (n2_1 = 0)) && (decide ((x2_2.n : Int) = 3))) = true →
 IxOk x2_2 0) ∧
 ∃ n146 : Int, ∃ n147 : Int, ∃ x148 : Sl, (((decide (n2_1 = 0)) && (decide ((x2_2.n : Int) = 3))) = true →
 v.cell? ((elA x2_2 0 3).add 0) = some (.int .i64 n146) ∧
 v.cell? ((elA x2_2 0 3).add 1) = some (.int .i64 n147) ∧
 v.cell? ((elA x2_2 0 3).add 2) = some (x148.val)) ∧
 ∃ n149 : Int, (((decide (n2_1 = 0)) && (decide ((x2_2.n : Int) = 3))) = true →
 (Trip Tryz.prog 74 #[.agg #[x0_0.val, x0_1.val], x_1.val, .agg #[.int .i64 n146, .int .i64 n147, x148.val]] v fun r150 w151 => r150 = .int .i64 n149 ∧ Sub v w151)) ∧
 ((((decide (n2_1 = 0)) && (decide ((x2_2.n : Int) = 3))) && (decide (n149 = 0))) = true →
 IxOk x2_2 1 ∧
 ∃ n152 : Int, ∃ n153 : Int, ∃ x154 : Sl, (v.cell? ((elA x2_2 1 3).add 0) = some (.int .i64 n152) ∧
 v.cell? ((elA x2_2 1 3).add 1) = some (.int .i64 n153) ∧
 v.cell? ((elA x2_2 1 3).add 2) = some (x154.val)) ∧
 ∃ n155 : Int, (Trip Tryz.prog 74 #[.agg #[x0_0.val, x0_1.val], x_1.val, .agg #[.int .i64 n152, .int .i64 n153, x154.val]] v fun r156 w157 => r156 = .int .i64 n155 ∧ Sub v w157) ∧
 IxOk x2_2 2 ∧
 ∃ n158 : Int, ∃ n159 : Int, ∃ x160 : Sl, (v.cell? ((elA x2_2 2 3).add 0) = some (.int .i64 n158) ∧
 v.cell? ((elA x2_2 2 3).add 1) = some (.int .i64 n159) ∧
 v.cell? ((elA x2_2 2 3).add 2) = some (x160.val)) ∧
 ∃ n161 : Int, (Trip Tryz.prog 74 #[.agg #[x0_0.val, x0_1.val], x_1.val, .agg #[.int .i64 n158, .int .i64 n159, x160.val]] v fun r162 w163 => r162 = .int .i64 n161 ∧ Sub v w163) ∧
 ((decide (n161 = n155)) = true →
 Q (.int .i64 n155) v) ∧
 ((decide (n161 = n155)) = false →
 Q (.int .i64 (-1)) v)) ∧
 ((((decide (n2_1 = 0)) && (decide ((x2_2.n : Int) = 3))) && (decide (n149 = 0))) = false →
 Q (.int .i64 (-1)) v)) ∧
 ((decide (n2_0 = 7)) = false →
 ((decide (n2_0 = 8)) = true →
 ∃ n164 : Int, (Trip Tryz.prog 137 #[.agg #[x0_0.val, x0_1.val], x_1.val, .agg #[.int .i64 n2_0, .int .i64 n2_1, x2_2.val]] v fun r165 w166 => r165 = .int .i64 n164 ∧ Sub v w166) ∧
 Q (.int .i64 n164) v) ∧
 ((decide (n2_0 = 8)) = false →
 ((decide (n2_0 = 9)) = true →
 ((decide (n2_0 = 9)) = true →
 ∃ n167 : Int, (Trip Tryz.prog 138 #[.agg #[x0_0.val, x0_1.val], x_1.val, .agg #[.int .i64 n2_0, .int .i64 n2_1, x2_2.val]] v fun r168 w169 => r168 = .int .i64 n167 ∧ Sub v w169) ∧
 Q (.int .i64 n167) v) ∧
 ((decide (n2_0 = 9)) = false →
 ((decide (n2_0 = 11)) = true →
 (((decide (n2_1 = 0)) && (decide ((x2_2.n : Int) = 2))) = true →
 IxOk x2_2 0 ∧
 ∃ n170 : Int, ∃ n171 : Int, ∃ x172 : Sl, (v.cell? ((elA x2_2 0 3).add 0) = some (.int .i64 n170) ∧
 v.cell? ((elA x2_2 0 3).add 1) = some (.int .i64 n171) ∧
 v.cell? ((elA x2_2 0 3).add 2) = some (x172.val)) ∧
 ∃ n173 : Int, (Trip Tryz.prog 74 #[.agg #[x0_0.val, x0_1.val], x_1.val, .agg #[.int .i64 n170, .int .i64 n171, x172.val]] v fun r174 w175 => r174 = .int .i64 n173 ∧ Sub v w175) ∧
 ∃ q176 : Bool, (Trip Tryz.prog 139 #[x0_0.val, .int .i64 n173] v fun r177 w178 => r177 = .bool q176 ∧ Sub v w178) ∧
 (q176 = true →
 IxOk x2_2 1) ∧
 ∃ n179 : Int, ∃ n180 : Int, ∃ x181 : Sl, (q176 = true →
 v.cell? ((elA x2_2 1 3).add 0) = some (.int .i64 n179) ∧
 v.cell? ((elA x2_2 1 3).add 1) = some (.int .i64 n180) ∧
 v.cell? ((elA x2_2 1 3).add 2) = some (x181.val)) ∧
 ∃ n182 : Int, (q176 = true →
 (Trip Tryz.prog 74 #[.agg #[x0_0.val, x0_1.val], x_1.val, .agg #[.int .i64 n179, .int .i64 n180, x181.val]] v fun r183 w184 => r183 = .int .i64 n182 ∧ Sub v w184)) ∧
 ∃ n185 : Int, (q176 = true →
 Wr .i64 (n173 - 1) n185) ∧
 (q176 = true →
 IxOk x0_0 n185) ∧
 ∃ n186 : Int, (q176 = true →
 v.cell? ((elA x0_0 n185 3).add 0) = some (.int .i64 n186)) ∧
 ((q176 && (decide (n182 = n186))) = true →
 ∃ n187 : Int, Wr .i64 (n173 - 1) n187 ∧
 IxOk x0_0 n187 ∧
 ∃ n188 : Int, v.cell? ((elA x0_0 n187 3).add 1) = some (.int .i64 n188) ∧
 Q (.int .i64 n188) v) ∧
 ((q176 && (decide (n182 = n186))) = false →
 Q (.int .i64 (-1)) v)) ∧
 (((decide (n2_1 = 0)) && (decide ((x2_2.n : Int) = 2))) = false →
 Q (.int .i64 (-1)) v)) ∧
 ((decide (n2_0 = 11)) = false →
 Q (.int .i64 (-1)) v))) ∧
 ((decide (n2_0 = 9)) = false →
 ((decide (n2_0 = 10)) = true →
 ∃ n189 : Int, (Trip Tryz.prog 138 #[.agg #[x0_0.val, x0_1.val], x_1.val, .agg #[.int .i64 n2_0, .int .i64 n2_1, x2_2.val]] v fun r190 w191 => r190 = .int .i64 n189 ∧ Sub v w191) ∧
 Q (.int .i64 n189) v) ∧
 ((decide (n2_0 = 10)) = false →
 ((decide (n2_0 = 11)) = true →
 (((decide (n2_1 = 0)) && (decide ((x2_2.n : Int) = 2))) = true →
 IxOk x2_2 0 ∧
 ∃ n192 : Int, ∃ n193 : Int, ∃ x194 : Sl, (v.cell? ((elA x2_2 0 3).add 0) = some (.int .i64 n192) ∧
 v.cell? ((elA x2_2 0 3).add 1) = some (.int .i64 n193) ∧
 v.cell? ((elA x2_2 0 3).add 2) = some (x194.val)) ∧
 ∃ n195 : Int, (Trip Tryz.prog 74 #[.agg #[x0_0.val, x0_1.val], x_1.val, .agg #[.int .i64 n192, .int .i64 n193, x194.val]] v fun r196 w197 => r196 = .int .i64 n195 ∧ Sub v w197) ∧
 ∃ q198 : Bool, (Trip Tryz.prog 139 #[x0_0.val, .int .i64 n195] v fun r199 w200 => r199 = .bool q198 ∧ Sub v w200) ∧
 (q198 = true →
 IxOk x2_2 1) ∧
 ∃ n201 : Int, ∃ n202 : Int, ∃ x203 : Sl, (q198 = true →
 v.cell? ((elA x2_2 1 3).add 0) = some (.int .i64 n201) ∧
 v.cell? ((elA x2_2 1 3).add 1) = some (.int .i64 n202) ∧
 v.cell? ((elA x2_2 1 3).add 2) = some (x203.val)) ∧
 ∃ n204 : Int, (q198 = true →
 (Trip Tryz.prog 74 #[.agg #[x0_0.val, x0_1.val], x_1.val, .agg #[.int .i64 n201, .int .i64 n202, x203.val]] v fun r205 w206 => r205 = .int .i64 n204 ∧ Sub v w206)) ∧
 ∃ n207 : Int, (q198 = true →
 Wr .i64 (n195 - 1) n207) ∧
 (q198 = true →
 IxOk x0_0 n207) ∧
 ∃ n208 : Int, (q198 = true →
 v.cell? ((elA x0_0 n207 3).add 0) = some (.int .i64 n208)) ∧
 ((q198 && (decide (n204 = n208))) = true →
 ∃ n209 : Int, Wr .i64 (n195 - 1) n209 ∧
 IxOk x0_0 n209 ∧
 ∃ n210 : Int, v.cell? ((elA x0_0 n209 3).add 1) = some (.int .i64 n210) ∧
 Q (.int .i64 n210) v) ∧
 ((q198 && (decide (n204 = n208))) = false →
 Q (.int .i64 (-1)) v)) ∧
 (((decide (n2_1 = 0)) && (decide ((x2_2.n : Int) = 2))) = false →
 Q (.int .i64 (-1)) v)) ∧
 ((decide (n2_0 = 11)) = false →
 Q (.int .i64 (-1)) v)))))))))) ∧
 ((decide (n2_0 = 2)) = false →
 ((decide (n2_0 = 3)) = true →
 ((decide (n2_0 = 3)) = true →
 ∃ q211 : Bool, ((decide (n2_1 = 0)) = true →
 (Trip Tryz.prog 132 #[.agg #[x0_0.val, x0_1.val], x_1.val, x2_2.val, .int .i64 2] v fun r212 w213 => r212 = .bool q211 ∧ Sub v w213)) ∧
 (((decide (n2_1 = 0)) && q211) = true →
 Q (.int .i64 0) v) ∧
 (((decide (n2_1 = 0)) && q211) = false →
 Q (.int .i64 (-1)) v)) ∧
 ((decide (n2_0 = 3)) = false →
 ((decide (n2_0 = 5)) = true →
 ∃ q214 : Bool, ((decide (n2_1 = 0)) = true →
 (Trip Tryz.prog 132 #[.agg #[x0_0.val, x0_1.val], x_1.val, x2_2.val, .int .i64 1] v fun r215 w216 => r215 = .bool q214 ∧ Sub v w216)) ∧
 (((decide (n2_1 = 0)) && q214) = true →
 Q (.int .i64 0) v) ∧
 (((decide (n2_1 = 0)) && q214) = false →
 Q (.int .i64 (-1)) v)) ∧
 ((decide (n2_0 = 5)) = false →
 ((decide (n2_0 = 6)) = true →
 ∃ n217 : Int, (Trip Tryz.prog 133 #[x0_0.val, .int .i64 n2_1] v fun r218 w219 => r218 = .int .i64 n217 ∧ Sub v w219) ∧
 ((decide (n217 > 0)) = true →
 Trip Tryz.prog 135 #[x0_0.val, .int .i64 n2_1] v fun r220 w221 =>
 ∃ x222 : Sl, r220 = x222.val ∧
 Sub v w221 ∧
 ∃ q223 : Bool, (Trip Tryz.prog 134 #[.agg #[x0_0.val, x0_1.val], x_1.val, x2_2.val, x222.val] w221 fun r224 w225 => r224 = .bool q223 ∧ Sub w221 w225) ∧
 (q223 = true →
 ∃ n226 : Int, (Trip Tryz.prog 133 #[x0_0.val, .int .i64 n2_1] w221 fun r227 w228 => r227 = .int .i64 n226 ∧ Sub w221 w228) ∧
 Q (.int .i64 n226) w221) ∧
 (q223 = false →
 Q (.int .i64 (-1)) w221)) ∧
 ((decide (n217 > 0)) = false →
 Sub v v ∧
 Q (.int .i64 (-1)) v)) ∧
 ((decide (n2_0 = 6)) = false →
 ((decide (n2_0 = 13)) = true →
 (((decide (n2_1 = 0)) && (decide ((x2_2.n : Int) = 2))) = true →
 IxOk x2_2 0 ∧
 ∃ n229 : Int, ∃ n230 : Int, ∃ x231 : Sl, (v.cell? ((elA x2_2 0 3).add 0) = some (.int .i64 n229) ∧
 v.cell? ((elA x2_2 0 3).add 1) = some (.int .i64 n230) ∧
 v.cell? ((elA x2_2 0 3).add 2) = some (x231.val)) ∧
 ∃ n232 : Int, (Trip Tryz.prog 74 #[.agg #[x0_0.val, x0_1.val], x_1.val, .agg #[.int .i64 n229, .int .i64 n230, x231.val]] v fun r233 w234 => r233 = .int .i64 n232 ∧ Sub v w234) ∧
 ((decide (n232 ≥ 0)) = true →
 IxOk x2_2 1 ∧
 ∃ n235 : Int, ∃ n236 : Int, ∃ x237 : Sl, (v.cell? ((elA x2_2 1 3).add 0) = some (.int .i64 n235) ∧
 v.cell? ((elA x2_2 1 3).add 1) = some (.int .i64 n236) ∧
 v.cell? ((elA x2_2 1 3).add 2) = some (x237.val)) ∧
 StepT Tryz.prog (Instr.buildSlice 68 1 #[(0, (.int .i64 n232))]) v fun r238 w239 =>
 ∃ x240 : Sl, r238 = x240.val ∧
 Sub v w239 ∧
 Trip Tryz.prog 136 #[x_1.val, x240.val] w239 fun r241 w242 =>
 ∃ x243 : Sl, r241 = x243.val ∧
 Sub w239 w242 ∧
 ∃ n244 : Int, (Trip Tryz.prog 74 #[.agg #[x0_0.val, x0_1.val], x243.val, .agg #[.int .i64 n235, .int .i64 n236, x237.val]] w242 fun r245 w246 => r245 = .int .i64 n244 ∧ Sub w242 w246) ∧
 Q (.int .i64 n244) w242) ∧
 ((decide (n232 ≥ 0)) = false →
 Q (.int .i64 (-1)) v)) ∧
 (((decide (n2_1 = 0)) && (decide ((x2_2.n : Int) = 2))) = false →
 Q (.int .i64 (-1)) v)) ∧
 ((decide (n2_0 = 13)) = false →
 ((decide (n2_0 = 7)) = true →
 (((decide (n2_1 = 0)) && (decide ((x2_2.n : Int) = 3))) = true →
 IxOk x2_2 0) ∧
 ∃ n247 : Int, ∃ n248 : Int, ∃ x249 : Sl, (((decide (n2_1 = 0)) && (decide ((x2_2.n : Int) = 3))) = true →
 v.cell? ((elA x2_2 0 3).add 0) = some (.int .i64 n247) ∧
 v.cell? ((elA x2_2 0 3).add 1) = some (.int .i64 n248) ∧
 v.cell? ((elA x2_2 0 3).add 2) = some (x249.val)) ∧
 ∃ n250 : Int, (((decide (n2_1 = 0)) && (decide ((x2_2.n : Int) = 3))) = true →
 (Trip Tryz.prog 74 #[.agg #[x0_0.val, x0_1.val], x_1.val, .agg #[.int .i64 n247, .int .i64 n248, x249.val]] v fun r251 w252 => r251 = .int .i64 n250 ∧ Sub v w252)) ∧
 ((((decide (n2_1 = 0)) && (decide ((x2_2.n : Int) = 3))) && (decide (n250 = 0))) = true →
 IxOk x2_2 1 ∧
 ∃ n253 : Int, ∃ n254 : Int, ∃ x255 : Sl, (v.cell? ((elA x2_2 1 3).add 0) = some (.int .i64 n253) ∧
 v.cell? ((elA x2_2 1 3).add 1) = some (.int .i64 n254) ∧
 v.cell? ((elA x2_2 1 3).add 2) = some (x255.val)) ∧
 ∃ n256 : Int, (Trip Tryz.prog 74 #[.agg #[x0_0.val, x0_1.val], x_1.val, .agg #[.int .i64 n253, .int .i64 n254, x255.val]] v fun r257 w258 => r257 = .int .i64 n256 ∧ Sub v w258) ∧
 IxOk x2_2 2 ∧
 ∃ n259 : Int, ∃ n260 : Int, ∃ x261 : Sl, (v.cell? ((elA x2_2 2 3).add 0) = some (.int .i64 n259) ∧
 v.cell? ((elA x2_2 2 3).add 1) = some (.int .i64 n260) ∧
 v.cell? ((elA x2_2 2 3).add 2) = some (x261.val)) ∧
 ∃ n262 : Int, (Trip Tryz.prog 74 #[.agg #[x0_0.val, x0_1.val], x_1.val, .agg #[.int .i64 n259, .int .i64 n260, x261.val]] v fun r263 w264 => r263 = .int .i64 n262 ∧ Sub v w264) ∧
 ((decide (n262 = n256)) = true →
 Q (.int .i64 n256) v) ∧
 ((decide (n262 = n256)) = false →
 Q (.int .i64 (-1)) v)) ∧
 ((((decide (n2_1 = 0)) && (decide ((x2_2.n : Int) = 3))) && (decide (n250 = 0))) = false →
 Q (.int .i64 (-1)) v)) ∧
 ((decide (n2_0 = 7)) = false →
 ((decide (n2_0 = 8)) = true →
 ∃ n265 : Int, (Trip Tryz.prog 137 #[.agg #[x0_0.val, x0_1.val], x_1.val, .agg #[.int .i64 n2_0, .int .i64 n2_1, x2_2.val]] v fun r266 w267 => r266 = .int .i64 n265 ∧ Sub v w267) ∧
 Q (.int .i64 n265) v) ∧
 ((decide (n2_0 = 8)) = false →
 ((decide (n2_0 = 9)) = true →
 ((decide (n2_0 = 9)) = true →
 ∃ n268 : Int, (Trip Tryz.prog 138 #[.agg #[x0_0.val, x0_1.val], x_1.val, .agg #[.int .i64 n2_0, .int .i64 n2_1, x2_2.val]] v fun r269 w270 => r269 = .int .i64 n268 ∧ Sub v w270) ∧
 Q (.int .i64 n268) v) ∧
 ((decide (n2_0 = 9)) = false →
 ((decide (n2_0 = 11)) = true →
 (((decide (n2_1 = 0)) && (decide ((x2_2.n : Int) = 2))) = true →
 IxOk x2_2 0 ∧
 ∃ n271 : Int, ∃ n272 : Int, ∃ x273 : Sl, (v.cell? ((elA x2_2 0 3).add 0) = some (.int .i64 n271) ∧
 v.cell? ((elA x2_2 0 3).add 1) = some (.int .i64 n272) ∧
 v.cell? ((elA x2_2 0 3).add 2) = some (x273.val)) ∧
 ∃ n274 : Int, (Trip Tryz.prog 74 #[.agg #[x0_0.val, x0_1.val], x_1.val, .agg #[.int .i64 n271, .int .i64 n272, x273.val]] v fun r275 w276 => r275 = .int .i64 n274 ∧ Sub v w276) ∧
 ∃ q277 : Bool, (Trip Tryz.prog 139 #[x0_0.val, .int .i64 n274] v fun r278 w279 => r278 = .bool q277 ∧ Sub v w279) ∧
 (q277 = true →
 IxOk x2_2 1) ∧
 ∃ n280 : Int, ∃ n281 : Int, ∃ x282 : Sl, (q277 = true →
 v.cell? ((elA x2_2 1 3).add 0) = some (.int .i64 n280) ∧
 v.cell? ((elA x2_2 1 3).add 1) = some (.int .i64 n281) ∧
 v.cell? ((elA x2_2 1 3).add 2) = some (x282.val)) ∧
 ∃ n283 : Int, (q277 = true →
 (Trip Tryz.prog 74 #[.agg #[x0_0.val, x0_1.val], x_1.val, .agg #[.int .i64 n280, .int .i64 n281, x282.val]] v fun r284 w285 => r284 = .int .i64 n283 ∧ Sub v w285)) ∧
 ∃ n286 : Int, (q277 = true →
 Wr .i64 (n274 - 1) n286) ∧
 (q277 = true →
 IxOk x0_0 n286) ∧
 ∃ n287 : Int, (q277 = true →
 v.cell? ((elA x0_0 n286 3).add 0) = some (.int .i64 n287)) ∧
 ((q277 && (decide (n283 = n287))) = true →
 ∃ n288 : Int, Wr .i64 (n274 - 1) n288 ∧
 IxOk x0_0 n288 ∧
 ∃ n289 : Int, v.cell? ((elA x0_0 n288 3).add 1) = some (.int .i64 n289) ∧
 Q (.int .i64 n289) v) ∧
 ((q277 && (decide (n283 = n287))) = false →
 Q (.int .i64 (-1)) v)) ∧
 (((decide (n2_1 = 0)) && (decide ((x2_2.n : Int) = 2))) = false →
 Q (.int .i64 (-1)) v)) ∧
 ((decide (n2_0 = 11)) = false →
 Q (.int .i64 (-1)) v))) ∧
 ((decide (n2_0 = 9)) = false →
 ((decide (n2_0 = 10)) = true →
 ∃ n290 : Int, (Trip Tryz.prog 138 #[.agg #[x0_0.val, x0_1.val], x_1.val, .agg #[.int .i64 n2_0, .int .i64 n2_1, x2_2.val]] v fun r291 w292 => r291 = .int .i64 n290 ∧ Sub v w292) ∧
 Q (.int .i64 n290) v) ∧
 ((decide (n2_0 = 10)) = false →
 ((decide (n2_0 = 11)) = true →
 (((decide (n2_1 = 0)) && (decide ((x2_2.n : Int) = 2))) = true →
 IxOk x2_2 0 ∧
 ∃ n293 : Int, ∃ n294 : Int, ∃ x295 : Sl, (v.cell? ((elA x2_2 0 3).add 0) = some (.int .i64 n293) ∧
 v.cell? ((elA x2_2 0 3).add 1) = some (.int .i64 n294) ∧
 v.cell? ((elA x2_2 0 3).add 2) = some (x295.val)) ∧
 ∃ n296 : Int, (Trip Tryz.prog 74 #[.agg #[x0_0.val, x0_1.val], x_1.val, .agg #[.int .i64 n293, .int .i64 n294, x295.val]] v fun r297 w298 => r297 = .int .i64 n296 ∧ Sub v w298) ∧
 ∃ q299 : Bool, (Trip Tryz.prog 139 #[x0_0.val, .int .i64 n296] v fun r300 w301 => r300 = .bool q299 ∧ Sub v w301) ∧
 (q299 = true →
 IxOk x2_2 1) ∧
 ∃ n302 : Int, ∃ n303 : Int, ∃ x304 : Sl, (q299 = true →
 v.cell? ((elA x2_2 1 3).add 0) = some (.int .i64 n302) ∧
 v.cell? ((elA x2_2 1 3).add 1) = some (.int .i64 n303) ∧
 v.cell? ((elA x2_2 1 3).add 2) = some (x304.val)) ∧
 ∃ n305 : Int, (q299 = true →
 (Trip Tryz.prog 74 #[.agg #[x0_0.val, x0_1.val], x_1.val, .agg #[.int .i64 n302, .int .i64 n303, x304.val]] v fun r306 w307 => r306 = .int .i64 n305 ∧ Sub v w307)) ∧
 ∃ n308 : Int, (q299 = true →
 Wr .i64 (n296 - 1) n308) ∧
 (q299 = true →
 IxOk x0_0 n308) ∧
 ∃ n309 : Int, (q299 = true →
 v.cell? ((elA x0_0 n308 3).add 0) = some (.int .i64 n309)) ∧
 ((q299 && (decide (n305 = n309))) = true →
 ∃ n310 : Int, Wr .i64 (n296 - 1) n310 ∧
 IxOk x0_0 n310 ∧
 ∃ n311 : Int, v.cell? ((elA x0_0 n310 3).add 1) = some (.int .i64 n311) ∧
 Q (.int .i64 n311) v) ∧
 ((q299 && (decide (n305 = n309))) = false →
 Q (.int .i64 (-1)) v)) ∧
 (((decide (n2_1 = 0)) && (decide ((x2_2.n : Int) = 2))) = false →
 Q (.int .i64 (-1)) v)) ∧
 ((decide (n2_0 = 11)) = false →
 Q (.int .i64 (-1)) v)))))))))) ∧
 ((decide (n2_0 = 3)) = false →
 ((decide (n2_0 = 4)) = true →
 ∃ q312 : Bool, ((decide (n2_1 = 0)) = true →
 (Trip Tryz.prog 132 #[.agg #[x0_0.val, x0_1.val], x_1.val, x2_2.val, .int .i64 2] v fun r313 w314 => r313 = .bool q312 ∧ Sub v w314)) ∧
 (((decide (n2_1 = 0)) && q312) = true →
 Q (.int .i64 0) v) ∧
 (((decide (n2_1 = 0)) && q312) = false →
 Q (.int .i64 (-1)) v)) ∧
 ((decide (n2_0 = 4)) = false →
 ((decide (n2_0 = 5)) = true →
 ∃ q315 : Bool, ((decide (n2_1 = 0)) = true →
 (Trip Tryz.prog 132 #[.agg #[x0_0.val, x0_1.val], x_1.val, x2_2.val, .int .i64 1] v fun r316 w317 => r316 = .bool q315 ∧ Sub v w317)) ∧
 (((decide (n2_1 = 0)) && q315) = true →
 Q (.int .i64 0) v) ∧
 (((decide (n2_1 = 0)) && q315) = false →
 Q (.int .i64 (-1)) v)) ∧
 ((decide (n2_0 = 5)) = false →
 ((decide (n2_0 = 6)) = true →
 ∃ n318 : Int, (Trip Tryz.prog 133 #[x0_0.val, .int .i64 n2_1] v fun r319 w320 => r319 = .int .i64 n318 ∧ Sub v w320) ∧
 ((decide (n318 > 0)) = true →
 Trip Tryz.prog 135 #[x0_0.val, .int .i64 n2_1] v fun r321 w322 =>
 ∃ x323 : Sl, r321 = x323.val ∧
 Sub v w322 ∧
 ∃ q324 : Bool, (Trip Tryz.prog 134 #[.agg #[x0_0.val, x0_1.val], x_1.val, x2_2.val, x323.val] w322 fun r325 w326 => r325 = .bool q324 ∧ Sub w322 w326) ∧
 (q324 = true →
 ∃ n327 : Int, (Trip Tryz.prog 133 #[x0_0.val, .int .i64 n2_1] w322 fun r328 w329 => r328 = .int .i64 n327 ∧ Sub w322 w329) ∧
 Q (.int .i64 n327) w322) ∧
 (q324 = false →
 Q (.int .i64 (-1)) w322)) ∧
 ((decide (n318 > 0)) = false →
 Sub v v ∧
 Q (.int .i64 (-1)) v)) ∧
 ((decide (n2_0 = 6)) = false →
 ((decide (n2_0 = 13)) = true →
 (((decide (n2_1 = 0)) && (decide ((x2_2.n : Int) = 2))) = true →
 IxOk x2_2 0 ∧
 ∃ n330 : Int, ∃ n331 : Int, ∃ x332 : Sl, (v.cell? ((elA x2_2 0 3).add 0) = some (.int .i64 n330) ∧
 v.cell? ((elA x2_2 0 3).add 1) = some (.int .i64 n331) ∧
 v.cell? ((elA x2_2 0 3).add 2) = some (x332.val)) ∧
 ∃ n333 : Int, (Trip Tryz.prog 74 #[.agg #[x0_0.val, x0_1.val], x_1.val, .agg #[.int .i64 n330, .int .i64 n331, x332.val]] v fun r334 w335 => r334 = .int .i64 n333 ∧ Sub v w335) ∧
 ((decide (n333 ≥ 0)) = true →
 IxOk x2_2 1 ∧
 ∃ n336 : Int, ∃ n337 : Int, ∃ x338 : Sl, (v.cell? ((elA x2_2 1 3).add 0) = some (.int .i64 n336) ∧
 v.cell? ((elA x2_2 1 3).add 1) = some (.int .i64 n337) ∧
 v.cell? ((elA x2_2 1 3).add 2) = some (x338.val)) ∧
 StepT Tryz.prog (Instr.buildSlice 68 1 #[(0, (.int .i64 n333))]) v fun r339 w340 =>
 ∃ x341 : Sl, r339 = x341.val ∧
 Sub v w340 ∧
 Trip Tryz.prog 136 #[x_1.val, x341.val] w340 fun r342 w343 =>
 ∃ x344 : Sl, r342 = x344.val ∧
 Sub w340 w343 ∧
 ∃ n345 : Int, (Trip Tryz.prog 74 #[.agg #[x0_0.val, x0_1.val], x344.val, .agg #[.int .i64 n336, .int .i64 n337, x338.val]] w343 fun r346 w347 => r346 = .int .i64 n345 ∧ Sub w343 w347) ∧
 Q (.int .i64 n345) w343) ∧
 ((decide (n333 ≥ 0)) = false →
 Q (.int .i64 (-1)) v)) ∧
 (((decide (n2_1 = 0)) && (decide ((x2_2.n : Int) = 2))) = false →
 Q (.int .i64 (-1)) v)) ∧
 ((decide (n2_0 = 13)) = false →
 ((decide (n2_0 = 7)) = true →
 (((decide (n2_1 = 0)) && (decide ((x2_2.n : Int) = 3))) = true →
 IxOk x2_2 0) ∧
 ∃ n348 : Int, ∃ n349 : Int, ∃ x350 : Sl, (((decide (n2_1 = 0)) && (decide ((x2_2.n : Int) = 3))) = true →
 v.cell? ((elA x2_2 0 3).add 0) = some (.int .i64 n348) ∧
 v.cell? ((elA x2_2 0 3).add 1) = some (.int .i64 n349) ∧
 v.cell? ((elA x2_2 0 3).add 2) = some (x350.val)) ∧
 ∃ n351 : Int, (((decide (n2_1 = 0)) && (decide ((x2_2.n : Int) = 3))) = true →
 (Trip Tryz.prog 74 #[.agg #[x0_0.val, x0_1.val], x_1.val, .agg #[.int .i64 n348, .int .i64 n349, x350.val]] v fun r352 w353 => r352 = .int .i64 n351 ∧ Sub v w353)) ∧
 ((((decide (n2_1 = 0)) && (decide ((x2_2.n : Int) = 3))) && (decide (n351 = 0))) = true →
 IxOk x2_2 1 ∧
 ∃ n354 : Int, ∃ n355 : Int, ∃ x356 : Sl, (v.cell? ((elA x2_2 1 3).add 0) = some (.int .i64 n354) ∧
 v.cell? ((elA x2_2 1 3).add 1) = some (.int .i64 n355) ∧
 v.cell? ((elA x2_2 1 3).add 2) = some (x356.val)) ∧
 ∃ n357 : Int, (Trip Tryz.prog 74 #[.agg #[x0_0.val, x0_1.val], x_1.val, .agg #[.int .i64 n354, .int .i64 n355, x356.val]] v fun r358 w359 => r358 = .int .i64 n357 ∧ Sub v w359) ∧
 IxOk x2_2 2 ∧
 ∃ n360 : Int, ∃ n361 : Int, ∃ x362 : Sl, (v.cell? ((elA x2_2 2 3).add 0) = some (.int .i64 n360) ∧
 v.cell? ((elA x2_2 2 3).add 1) = some (.int .i64 n361) ∧
 v.cell? ((elA x2_2 2 3).add 2) = some (x362.val)) ∧
 ∃ n363 : Int, (Trip Tryz.prog 74 #[.agg #[x0_0.val, x0_1.val], x_1.val, .agg #[.int .i64 n360, .int .i64 n361, x362.val]] v fun r364 w365 => r364 = .int .i64 n363 ∧ Sub v w365) ∧
 ((decide (n363 = n357)) = true →
 Q (.int .i64 n357) v) ∧
 ((decide (n363 = n357)) = false →
 Q (.int .i64 (-1)) v)) ∧
 ((((decide (n2_1 = 0)) && (decide ((x2_2.n : Int) = 3))) && (decide (n351 = 0))) = false →
 Q (.int .i64 (-1)) v)) ∧
 ((decide (n2_0 = 7)) = false →
 ((decide (n2_0 = 8)) = true →
 ∃ n366 : Int, (Trip Tryz.prog 137 #[.agg #[x0_0.val, x0_1.val], x_1.val, .agg #[.int .i64 n2_0, .int .i64 n2_1, x2_2.val]] v fun r367 w368 => r367 = .int .i64 n366 ∧ Sub v w368) ∧
 Q (.int .i64 n366) v) ∧
 ((decide (n2_0 = 8)) = false →
 ((decide (n2_0 = 9)) = true →
 ((decide (n2_0 = 9)) = true →
 ∃ n369 : Int, (Trip Tryz.prog 138 #[.agg #[x0_0.val, x0_1.val], x_1.val, .agg #[.int .i64 n2_0, .int .i64 n2_1, x2_2.val]] v fun r370 w371 => r370 = .int .i64 n369 ∧ Sub v w371) ∧
 Q (.int .i64 n369) v) ∧
 ((decide (n2_0 = 9)) = false →
 ((decide (n2_0 = 11)) = true →
 (((decide (n2_1 = 0)) && (decide ((x2_2.n : Int) = 2))) = true →
 IxOk x2_2 0 ∧
 ∃ n372 : Int, ∃ n373 : Int, ∃ x374 : Sl, (v.cell? ((elA x2_2 0 3).add 0) = some (.int .i64 n372) ∧
 v.cell? ((elA x2_2 0 3).add 1) = some (.int .i64 n373) ∧
 v.cell? ((elA x2_2 0 3).add 2) = some (x374.val)) ∧
 ∃ n375 : Int, (Trip Tryz.prog 74 #[.agg #[x0_0.val, x0_1.val], x_1.val, .agg #[.int .i64 n372, .int .i64 n373, x374.val]] v fun r376 w377 => r376 = .int .i64 n375 ∧ Sub v w377) ∧
 ∃ q378 : Bool, (Trip Tryz.prog 139 #[x0_0.val, .int .i64 n375] v fun r379 w380 => r379 = .bool q378 ∧ Sub v w380) ∧
 (q378 = true →
 IxOk x2_2 1) ∧
 ∃ n381 : Int, ∃ n382 : Int, ∃ x383 : Sl, (q378 = true →
 v.cell? ((elA x2_2 1 3).add 0) = some (.int .i64 n381) ∧
 v.cell? ((elA x2_2 1 3).add 1) = some (.int .i64 n382) ∧
 v.cell? ((elA x2_2 1 3).add 2) = some (x383.val)) ∧
 ∃ n384 : Int, (q378 = true →
 (Trip Tryz.prog 74 #[.agg #[x0_0.val, x0_1.val], x_1.val, .agg #[.int .i64 n381, .int .i64 n382, x383.val]] v fun r385 w386 => r385 = .int .i64 n384 ∧ Sub v w386)) ∧
 ∃ n387 : Int, (q378 = true →
 Wr .i64 (n375 - 1) n387) ∧
 (q378 = true →
 IxOk x0_0 n387) ∧
 ∃ n388 : Int, (q378 = true →
 v.cell? ((elA x0_0 n387 3).add 0) = some (.int .i64 n388)) ∧
 ((q378 && (decide (n384 = n388))) = true →
 ∃ n389 : Int, Wr .i64 (n375 - 1) n389 ∧
 IxOk x0_0 n389 ∧
 ∃ n390 : Int, v.cell? ((elA x0_0 n389 3).add 1) = some (.int .i64 n390) ∧
 Q (.int .i64 n390) v) ∧
 ((q378 && (decide (n384 = n388))) = false →
 Q (.int .i64 (-1)) v)) ∧
 (((decide (n2_1 = 0)) && (decide ((x2_2.n : Int) = 2))) = false →
 Q (.int .i64 (-1)) v)) ∧
 ((decide (n2_0 = 11)) = false →
 Q (.int .i64 (-1)) v))) ∧
 ((decide (n2_0 = 9)) = false →
 ((decide (n2_0 = 10)) = true →
 ∃ n391 : Int, (Trip Tryz.prog 138 #[.agg #[x0_0.val, x0_1.val], x_1.val, .agg #[.int .i64 n2_0, .int .i64 n2_1, x2_2.val]] v fun r392 w393 => r392 = .int .i64 n391 ∧ Sub v w393) ∧
 Q (.int .i64 n391) v) ∧
 ((decide (n2_0 = 10)) = false →
 ((decide (n2_0 = 11)) = true →
 (((decide (n2_1 = 0)) && (decide ((x2_2.n : Int) = 2))) = true →
 IxOk x2_2 0 ∧
 ∃ n394 : Int, ∃ n395 : Int, ∃ x396 : Sl, (v.cell? ((elA x2_2 0 3).add 0) = some (.int .i64 n394) ∧
 v.cell? ((elA x2_2 0 3).add 1) = some (.int .i64 n395) ∧
 v.cell? ((elA x2_2 0 3).add 2) = some (x396.val)) ∧
 ∃ n397 : Int, (Trip Tryz.prog 74 #[.agg #[x0_0.val, x0_1.val], x_1.val, .agg #[.int .i64 n394, .int .i64 n395, x396.val]] v fun r398 w399 => r398 = .int .i64 n397 ∧ Sub v w399) ∧
 ∃ q400 : Bool, (Trip Tryz.prog 139 #[x0_0.val, .int .i64 n397] v fun r401 w402 => r401 = .bool q400 ∧ Sub v w402) ∧
 (q400 = true →
 IxOk x2_2 1) ∧
 ∃ n403 : Int, ∃ n404 : Int, ∃ x405 : Sl, (q400 = true →
 v.cell? ((elA x2_2 1 3).add 0) = some (.int .i64 n403) ∧
 v.cell? ((elA x2_2 1 3).add 1) = some (.int .i64 n404) ∧
 v.cell? ((elA x2_2 1 3).add 2) = some (x405.val)) ∧
 ∃ n406 : Int, (q400 = true →
 (Trip Tryz.prog 74 #[.agg #[x0_0.val, x0_1.val], x_1.val, .agg #[.int .i64 n403, .int .i64 n404, x405.val]] v fun r407 w408 => r407 = .int .i64 n406 ∧ Sub v w408)) ∧
 ∃ n409 : Int, (q400 = true →
 Wr .i64 (n397 - 1) n409) ∧
 (q400 = true →
 IxOk x0_0 n409) ∧
 ∃ n410 : Int, (q400 = true →
 v.cell? ((elA x0_0 n409 3).add 0) = some (.int .i64 n410)) ∧
 ((q400 && (decide (n406 = n410))) = true →
 ∃ n411 : Int, Wr .i64 (n397 - 1) n411 ∧
 IxOk x0_0 n411 ∧
 ∃ n412 : Int, v.cell? ((elA x0_0 n411 3).add 1) = some (.int .i64 n412) ∧
 Q (.int .i64 n412) v) ∧
 ((q400 && (decide (n406 = n410))) = false →
 Q (.int .i64 (-1)) v)) ∧
 (((decide (n2_1 = 0)) && (decide ((x2_2.n : Int) = 2))) = false →
 Q (.int .i64 (-1)) v)) ∧
 ((decide (n2_0 = 11)) = false →
 Q (.int .i64 (-1)) v))))))))))))))
theorem of74 (x0_0 : Sl) (x0_1 : Sl) (x_1 : Sl) (n2_0 : Int) (n2_1 : Int) (x2_2 : Sl) (v : World) (Q : Value → World → Prop) (h : vc74 x0_0 x0_1 x_1 n2_0 n2_1 x2_2 v Q) : Trip Tryz.prog 74 #[.agg #[x0_0.val, x0_1.val], x_1.val, .agg #[.int .i64 n2_0, .int .i64 n2_1, x2_2.val]] v Q :=
 trip_of_eq (args := [.ag [.sl x0_0, .sl x0_1], .sl x_1, .ag [.num .i64 n2_0, .num .i64 n2_1, .sl x2_2]]) (A := ⟨[], [], [(19, [15]), (25, [3, 4])], [], psG⟩) Tryz.func74 (by kernel_rfl) (by kernel_rfl) (by kernel_rfl : vc74 x0_0 x0_1 x_1 n2_0 n2_1 x2_2 v Q = _) h

def vc75 (n0_0 : Int) (n0_1 : Int) (x0_2 : Sl) (v : World) (Q : Value → World → Prop) : Prop :=
 ((decide ((x0_2.n : Int) = 0)) = true →
 ∃ s1 : ByteArray, (Trip Tryz.prog 77 #[.int .i64 n0_0] v fun r2 w3 => r2 = .string s1 ∧ Sub v w3) ∧
 (((ByteArray.mk #[97, 114, 114, 111, 119, 32]).size + s1.size : Nat) : Int) ≤ 9223372036854775807 ∧
 ((((ByteArray.mk #[97, 114, 114, 111, 119, 32]) ++ s1).size + (ByteArray.mk #[32]).size : Nat) : Int) ≤ 9223372036854775807 ∧
 ∃ s4 : ByteArray, (Trip Tryz.prog 77 #[.int .i64 n0_1] v fun r5 w6 => r5 = .string s4 ∧ Sub v w6) ∧
 (((((ByteArray.mk #[97, 114, 114, 111, 119, 32]) ++ s1) ++ (ByteArray.mk #[32])).size + s4.size : Nat) : Int) ≤ 9223372036854775807 ∧
 ((((((ByteArray.mk #[97, 114, 114, 111, 119, 32]) ++ s1) ++ (ByteArray.mk #[32])) ++ s4).size + (ByteArray.mk #[10]).size : Nat) : Int) ≤ 9223372036854775807 ∧
 Q (.string (((((ByteArray.mk #[97, 114, 114, 111, 119, 32]) ++ s1) ++ (ByteArray.mk #[32])) ++ s4) ++ (ByteArray.mk #[10]))) v) ∧
 ((decide ((x0_2.n : Int) = 0)) = false →
 ∃ I7 : ByteArray → Int → World → Prop, ∃ m8 : ByteArray → Int → World → Nat, I7 (ByteArray.mk #[100, 97, 116, 97]) 0 v ∧
 ∀ s9 : ByteArray, ∀ n10 : Int, ∀ w11 : World, I7 s9 n10 w11 →
 ((decide (n10 < (x0_2.n : Int))) = true →
 ((s9.size + (ByteArray.mk #[32]).size : Nat) : Int) ≤ 9223372036854775807 ∧
 IxOk x0_2 n10 ∧
 ∃ x12 : Sl, w11.cell? ((elA x0_2 n10 1).add 0) = some (x12.val) ∧
 ∃ s13 : ByteArray, (Trip Tryz.prog 76 #[x12.val] w11 fun r14 w15 => r14 = .string s13 ∧ Sub w11 w15) ∧
 (((s9 ++ (ByteArray.mk #[32])).size + s13.size : Nat) : Int) ≤ 9223372036854775807 ∧
 ∃ n16 : Int, Wr .i64 (n10 + 1) n16 ∧
 ((.num .i64 n0_0 : SV) = .num .i64 n0_0) ∧
 ((.num .i64 n0_1 : SV) = .num .i64 n0_1) ∧
 ((.sl x0_2 : SV) = .sl x0_2) ∧
 I7 ((s9 ++ (ByteArray.mk #[32])) ++ s13) n16 w11 ∧
 m8 ((s9 ++ (ByteArray.mk #[32])) ++ s13) n16 w11 < m8 s9 n10 w11) ∧
 ((decide (n10 < (x0_2.n : Int))) = false →
 ((s9.size + (ByteArray.mk #[10]).size : Nat) : Int) ≤ 9223372036854775807 ∧
 Q (.string (s9 ++ (ByteArray.mk #[10]))) w11))
theorem of75 (n0_0 : Int) (n0_1 : Int) (x0_2 : Sl) (v : World) (Q : Value → World → Prop) (h : vc75 n0_0 n0_1 x0_2 v Q) : Trip Tryz.prog 75 #[.agg #[.int .i64 n0_0, .int .i64 n0_1, x0_2.val]] v Q :=
 trip_of_eq (args := [.ag [.num .i64 n0_0, .num .i64 n0_1, .sl x0_2]]) (A := ⟨[(5, [(3, .str), (4, .int .i64)], [])], [], [], [], psG⟩) Tryz.func75 (by kernel_rfl) (by kernel_rfl) (by kernel_rfl : vc75 n0_0 n0_1 x0_2 v Q = _) h

def vc76 (x_0 : Sl) (v : World) (Q : Value → World → Prop) : Prop :=
 ∃ I1 : ByteArray → Int → World → Prop, ∃ m2 : ByteArray → Int → World → Nat, I1 (ByteArray.mk #[40]) 0 v ∧
 ∀ s3 : ByteArray, ∀ n4 : Int, ∀ w5 : World, I1 s3 n4 w5 →
 ((decide (n4 < (x_0.n : Int))) = true →
 ((decide (n4 > 0)) = true →
 ((s3.size + (ByteArray.mk #[44]).size : Nat) : Int) ≤ 9223372036854775807 ∧
 IxOk x_0 n4 ∧
 ∃ n6 : Int, w5.cell? ((elA x_0 n4 1).add 0) = some (.int .i64 n6) ∧
 ∃ s7 : ByteArray, (Trip Tryz.prog 77 #[.int .i64 n6] w5 fun r8 w9 => r8 = .string s7 ∧ Sub w5 w9) ∧
 (((s3 ++ (ByteArray.mk #[44])).size + s7.size : Nat) : Int) ≤ 9223372036854775807 ∧
 ∃ n10 : Int, Wr .i64 (n4 + 1) n10 ∧
 I1 ((s3 ++ (ByteArray.mk #[44])) ++ s7) n10 w5 ∧
 m2 ((s3 ++ (ByteArray.mk #[44])) ++ s7) n10 w5 < m2 s3 n4 w5) ∧
 ((decide (n4 > 0)) = false →
 IxOk x_0 n4 ∧
 ∃ n11 : Int, w5.cell? ((elA x_0 n4 1).add 0) = some (.int .i64 n11) ∧
 ∃ s12 : ByteArray, (Trip Tryz.prog 77 #[.int .i64 n11] w5 fun r13 w14 => r13 = .string s12 ∧ Sub w5 w14) ∧
 ((s3.size + s12.size : Nat) : Int) ≤ 9223372036854775807 ∧
 ∃ n15 : Int, Wr .i64 (n4 + 1) n15 ∧
 I1 (s3 ++ s12) n15 w5 ∧
 m2 (s3 ++ s12) n15 w5 < m2 s3 n4 w5)) ∧
 ((decide (n4 < (x_0.n : Int))) = false →
 ((s3.size + (ByteArray.mk #[41]).size : Nat) : Int) ≤ 9223372036854775807 ∧
 Q (.string (s3 ++ (ByteArray.mk #[41]))) w5)
theorem of76 (x_0 : Sl) (v : World) (Q : Value → World → Prop) (h : vc76 x_0 v Q) : Trip Tryz.prog 76 #[x_0.val] v Q :=
 trip_of_eq (args := [.sl x_0]) (A := ⟨[(3, [(3, .str), (4, .int .i64)], [])], [], [], [], psG⟩) Tryz.func76 (by kernel_rfl) (by kernel_rfl) (by kernel_rfl : vc76 x_0 v Q = _) h

def vc77 (n_0 : Int) (v : World) (Q : Value → World → Prop) : Prop :=
 ∃ n1 : Int, ((decide (n_0 < 0)) = true →
 Wr .i64 (0 - n_0) n1) ∧
 (((decide (n_0 < 0)) && (decide (n_0 = n1))) = true →
 Q (.string (ByteArray.mk #[45, 57, 50, 50, 51, 51, 55, 50, 48, 51, 54, 56, 53, 52, 55, 55, 53, 56, 48, 56])) v) ∧
 (((decide (n_0 < 0)) && (decide (n_0 = n1))) = false →
 ((decide (n_0 < 0)) = true →
 ∃ n2 : Int, Wr .i64 (0 - n_0) n2 ∧
 ∃ s3 : ByteArray, (Trip Tryz.prog 77 #[.int .i64 n2] v fun r4 w5 => r4 = .string s3 ∧ Sub v w5) ∧
 (((ByteArray.mk #[45]).size + s3.size : Nat) : Int) ≤ 9223372036854775807 ∧
 Q (.string ((ByteArray.mk #[45]) ++ s3)) v) ∧
 ((decide (n_0 < 0)) = false →
 ((decide (n_0 < 10)) = true →
 ∃ n6 : Int, Wr .i64 (n_0 + 1) n6 ∧
 StrOk (ByteArray.mk #[48, 49, 50, 51, 52, 53, 54, 55, 56, 57]) n_0 n6 ∧
 Q (.string (strCut (ByteArray.mk #[48, 49, 50, 51, 52, 53, 54, 55, 56, 57]) n_0 n6)) v) ∧
 ((decide (n_0 < 10)) = false →
 ∃ n7 : Int, ((10 : Int) ≠ 0 ∧ Wr .i64 (Int.tdiv n_0 10) n7) ∧
 ∃ s8 : ByteArray, (Trip Tryz.prog 77 #[.int .i64 n7] v fun r9 w10 => r9 = .string s8 ∧ Sub v w10) ∧
 (10 : Int) ≠ 0 ∧
 ∃ s11 : ByteArray, (Trip Tryz.prog 77 #[.int .i64 (Int.tmod n_0 10)] v fun r12 w13 => r12 = .string s11 ∧ Sub v w13) ∧
 ((s8.size + s11.size : Nat) : Int) ≤ 9223372036854775807 ∧
 Q (.string (s8 ++ s11)) v)))
theorem of77 (n_0 : Int) (v : World) (Q : Value → World → Prop) (h : vc77 n_0 v Q) : Trip Tryz.prog 77 #[.int .i64 n_0] v Q :=
 trip_of_eq (args := [.num .i64 n_0]) (A := ⟨[], [], [], [], psG⟩) Tryz.func77 (by kernel_rfl) (by kernel_rfl) (by kernel_rfl : vc77 n_0 v Q = _) h

def vc78 (n0_0 : Int) (n0_1 : Int) (x0_2 : Sl) (v : World) (Q : Value → World → Prop) : Prop :=
 Trip Tryz.prog 140 #[x0_2.val] v fun r1 w2 =>
 ∃ x3 : Sl, r1 = x3.val ∧
 Q (.agg #[.int .i64 n0_0, .int .i64 n0_1, x3.val]) w2
theorem of78 (n0_0 : Int) (n0_1 : Int) (x0_2 : Sl) (v : World) (Q : Value → World → Prop) (h : vc78 n0_0 n0_1 x0_2 v Q) : Trip Tryz.prog 78 #[.agg #[.int .i64 n0_0, .int .i64 n0_1, x0_2.val]] v Q :=
 trip_of_eq (args := [.ag [.num .i64 n0_0, .num .i64 n0_1, .sl x0_2]]) (A := ⟨[], [], [], [], psG⟩) Tryz.func78 (by kernel_rfl) (by kernel_rfl) (by kernel_rfl : vc78 n0_0 n0_1 x0_2 v Q = _) h

def vc79 (x0_0 : Sl) (n0_1 : Int) (n0_2 : Int) (n0_3 : Int) (x0_4 : Sl) (v : World) (Q : Value → World → Prop) : Prop :=
 Trip Tryz.prog 141 #[x0_0.val] v fun r1 w2 =>
 ∃ x3 : Sl, r1 = x3.val ∧
 Trip Tryz.prog 142 #[.agg #[.int .i64 n0_2, .int .i64 n0_3, x0_4.val]] w2 fun r4 w5 =>
 ∃ n6 : Int, ∃ n7 : Int, ∃ x8 : Sl, r4 = .agg #[.int .i64 n6, .int .i64 n7, x8.val] ∧
 Q (.agg #[x3.val, .int .i64 n0_1, .int .i64 n6, .int .i64 n7, x8.val]) w5
theorem of79 (x0_0 : Sl) (n0_1 : Int) (n0_2 : Int) (n0_3 : Int) (x0_4 : Sl) (v : World) (Q : Value → World → Prop) (h : vc79 x0_0 n0_1 n0_2 n0_3 x0_4 v Q) : Trip Tryz.prog 79 #[.agg #[x0_0.val, .int .i64 n0_1, .int .i64 n0_2, .int .i64 n0_3, x0_4.val]] v Q :=
 trip_of_eq (args := [.ag [.sl x0_0, .num .i64 n0_1, .num .i64 n0_2, .num .i64 n0_3, .sl x0_4]]) (A := ⟨[], [], [], [], psG⟩) Tryz.func79 (by kernel_rfl) (by kernel_rfl) (by kernel_rfl : vc79 x0_0 n0_1 n0_2 n0_3 x0_4 v Q = _) h

def vc83 (n0_0 : Int) (n0_1 : Int) (x0_2 : Sl) (n1_0 : Int) (n1_1 : Int) (x1_2 : Sl) (v : World) (Q : Value → World → Prop) : Prop :=
 ((!decide (n0_0 = n1_0)) = true →
 Q (.bool false) v) ∧
 ((!decide (n0_0 = n1_0)) = false →
 ((!decide (n0_1 = n1_1)) = true →
 Q (.bool false) v) ∧
 ((!decide (n0_1 = n1_1)) = false →
 ∃ q1 : Bool, (Trip Tryz.prog 146 #[x0_2.val, x1_2.val] v fun r2 w3 => r2 = .bool q1 ∧ Sub v w3) ∧
 ((!q1) = true →
 Q (.bool false) v) ∧
 ((!q1) = false →
 Q (.bool true) v)))
theorem of83 (n0_0 : Int) (n0_1 : Int) (x0_2 : Sl) (n1_0 : Int) (n1_1 : Int) (x1_2 : Sl) (v : World) (Q : Value → World → Prop) (h : vc83 n0_0 n0_1 x0_2 n1_0 n1_1 x1_2 v Q) : Trip Tryz.prog 83 #[.agg #[.int .i64 n0_0, .int .i64 n0_1, x0_2.val], .agg #[.int .i64 n1_0, .int .i64 n1_1, x1_2.val]] v Q :=
 trip_of_eq (args := [.ag [.num .i64 n0_0, .num .i64 n0_1, .sl x0_2], .ag [.num .i64 n1_0, .num .i64 n1_1, .sl x1_2]]) (A := ⟨[], [], [], [], psG⟩) Tryz.func83 (by kernel_rfl) (by kernel_rfl) (by kernel_rfl : vc83 n0_0 n0_1 x0_2 n1_0 n1_1 x1_2 v Q = _) h

def vc84 (x0_0 : Sl) (n0_1 : Int) (n0_2 : Int) (n0_3 : Int) (x0_4 : Sl) (x1_0 : Sl) (n1_1 : Int) (n1_2 : Int) (n1_3 : Int) (x1_4 : Sl) (v : World) (Q : Value → World → Prop) : Prop :=
 ∃ q1 : Bool, (Trip Tryz.prog 147 #[x0_0.val, x1_0.val] v fun r2 w3 => r2 = .bool q1 ∧ Sub v w3) ∧
 ((!q1) = true →
 Q (.bool false) v) ∧
 ((!q1) = false →
 ((!decide (n0_1 = n1_1)) = true →
 Q (.bool false) v) ∧
 ((!decide (n0_1 = n1_1)) = false →
 ∃ q4 : Bool, (Trip Tryz.prog 148 #[.agg #[.int .i64 n0_2, .int .i64 n0_3, x0_4.val], .agg #[.int .i64 n1_2, .int .i64 n1_3, x1_4.val]] v fun r5 w6 => r5 = .bool q4 ∧ Sub v w6) ∧
 ((!q4) = true →
 Q (.bool false) v) ∧
 ((!q4) = false →
 Q (.bool true) v)))
theorem of84 (x0_0 : Sl) (n0_1 : Int) (n0_2 : Int) (n0_3 : Int) (x0_4 : Sl) (x1_0 : Sl) (n1_1 : Int) (n1_2 : Int) (n1_3 : Int) (x1_4 : Sl) (v : World) (Q : Value → World → Prop) (h : vc84 x0_0 n0_1 n0_2 n0_3 x0_4 x1_0 n1_1 n1_2 n1_3 x1_4 v Q) : Trip Tryz.prog 84 #[.agg #[x0_0.val, .int .i64 n0_1, .int .i64 n0_2, .int .i64 n0_3, x0_4.val], .agg #[x1_0.val, .int .i64 n1_1, .int .i64 n1_2, .int .i64 n1_3, x1_4.val]] v Q :=
 trip_of_eq (args := [.ag [.sl x0_0, .num .i64 n0_1, .num .i64 n0_2, .num .i64 n0_3, .sl x0_4], .ag [.sl x1_0, .num .i64 n1_1, .num .i64 n1_2, .num .i64 n1_3, .sl x1_4]]) (A := ⟨[], [], [], [], psG⟩) Tryz.func84 (by kernel_rfl) (by kernel_rfl) (by kernel_rfl : vc84 x0_0 n0_1 n0_2 n0_3 x0_4 x1_0 n1_1 n1_2 n1_3 x1_4 v Q = _) h

def vc104 (n_0 : Int) (v : World) (Q : Value → World → Prop) : Prop :=
 Q (.bool ((decide (n_0 ≥ (-999))) && (decide (n_0 ≤ 999)))) v
theorem of104 (n_0 : Int) (v : World) (Q : Value → World → Prop) (h : vc104 n_0 v Q) : Trip Tryz.prog 104 #[.int .i64 n_0] v Q :=
 trip_of_eq (args := [.num .i64 n_0]) (A := ⟨[], [], [], [], psG⟩) Tryz.func104 (by kernel_rfl) (by kernel_rfl) (by kernel_rfl : vc104 n_0 v Q = _) h

def vc105 (n_0 : Int) (v : World) (Q : Value → World → Prop) : Prop :=
 ((decide (n_0 = 1)) = true →
 Q (.tuple #[.string (ByteArray.mk #[97, 100, 100]), .bool false]) v) ∧
 ((decide (n_0 = 1)) = false →
 ((decide (n_0 = 2)) = true →
 Q (.tuple #[.string (ByteArray.mk #[115, 117, 98]), .bool false]) v) ∧
 ((decide (n_0 = 2)) = false →
 ((decide (n_0 = 3)) = true →
 Q (.tuple #[.string (ByteArray.mk #[109, 117, 108]), .bool false]) v) ∧
 ((decide (n_0 = 3)) = false →
 ((decide (n_0 = 4)) = true →
 Q (.tuple #[.string (ByteArray.mk #[108, 101, 115, 115]), .bool false]) v) ∧
 ((decide (n_0 = 4)) = false →
 ((decide (n_0 = 5)) = true →
 Q (.tuple #[.string (ByteArray.mk #[112, 114, 105, 110, 116]), .bool false]) v) ∧
 ((decide (n_0 = 5)) = false →
 ((decide (n_0 = 6)) = true →
 Q (.tuple #[.string (ByteArray.mk #[99, 111, 110]), .bool true]) v) ∧
 ((decide (n_0 = 6)) = false →
 ((decide (n_0 = 7)) = true →
 Q (.tuple #[.string (ByteArray.mk #[105, 102]), .bool false]) v) ∧
 ((decide (n_0 = 7)) = false →
 ((decide (n_0 = 8)) = true →
 Q (.tuple #[.string (ByteArray.mk #[109, 97, 116, 99, 104]), .bool true]) v) ∧
 ((decide (n_0 = 8)) = false →
 ((decide (n_0 = 9)) = true →
 Q (.tuple #[.string (ByteArray.mk #[99, 97, 108, 108]), .bool true]) v) ∧
 ((decide (n_0 = 9)) = false →
 ((decide (n_0 = 10)) = true →
 Q (.tuple #[.string (ByteArray.mk #[99, 108, 111, 115, 101]), .bool true]) v) ∧
 ((decide (n_0 = 10)) = false →
 ((decide (n_0 = 11)) = true →
 Q (.tuple #[.string (ByteArray.mk #[97, 112, 112, 108, 121]), .bool false]) v) ∧
 ((decide (n_0 = 11)) = false →
 ((decide (n_0 = 13)) = true →
 Q (.tuple #[.string (ByteArray.mk #[108, 101, 116]), .bool false]) v) ∧
 ((decide (n_0 = 13)) = false →
 Q (.tuple #[.string (ByteArray.mk #[]), .bool false]) v))))))))))))
theorem of105 (n_0 : Int) (v : World) (Q : Value → World → Prop) (h : vc105 n_0 v Q) : Trip Tryz.prog 105 #[.int .i64 n_0] v Q :=
 trip_of_eq (args := [.num .i64 n_0]) (A := ⟨[], [], [], [], psG⟩) Tryz.func105 (by kernel_rfl) (by kernel_rfl) (by kernel_rfl : vc105 n_0 v Q = _) h

def vc106 (n0_0 : Int) (n0_1 : Int) (x0_2 : Sl) (n_1 : Int) (v : World) (Q : Value → World → Prop) : Prop :=
 ((decide (n_1 < 1)) = true →
 Q (.int .i64 (-1)) v) ∧
 ((decide (n_1 < 1)) = false →
 ∃ n1 : Int, Wr .i64 (n_1 - 1) n1 ∧
 ∃ I2 : Int → Int → World → Prop, ∃ m3 : Int → Int → World → Nat, I2 n1 0 v ∧
 ∀ n4 : Int, ∀ n5 : Int, ∀ w6 : World, I2 n4 n5 w6 →
 ((decide (n5 < (x0_2.n : Int))) = true →
 IxOk x0_2 n5 ∧
 ∃ n7 : Int, ∃ n8 : Int, ∃ x9 : Sl, (w6.cell? ((elA x0_2 n5 3).add 0) = some (.int .i64 n7) ∧
 w6.cell? ((elA x0_2 n5 3).add 1) = some (.int .i64 n8) ∧
 w6.cell? ((elA x0_2 n5 3).add 2) = some (x9.val)) ∧
 ∃ n10 : Int, (Trip Tryz.prog 106 #[.agg #[.int .i64 n7, .int .i64 n8, x9.val], .int .i64 n4] w6 fun r11 w12 => r11 = .int .i64 n10 ∧ Sub w6 w12) ∧
 ((decide (n10 < 0)) = true →
 Q (.int .i64 (-1)) w6) ∧
 ((decide (n10 < 0)) = false →
 ∃ n13 : Int, Wr .i64 (n5 + 1) n13 ∧
 ((.num .i64 n0_0 : SV) = .num .i64 n0_0) ∧
 ((.num .i64 n0_1 : SV) = .num .i64 n0_1) ∧
 ((.sl x0_2 : SV) = .sl x0_2) ∧
 I2 n10 n13 w6 ∧
 m3 n10 n13 w6 < m3 n4 n5 w6)) ∧
 ((decide (n5 < (x0_2.n : Int))) = false →
 Q (.int .i64 n4) w6))
theorem of106 (n0_0 : Int) (n0_1 : Int) (x0_2 : Sl) (n_1 : Int) (v : World) (Q : Value → World → Prop) (h : vc106 n0_0 n0_1 x0_2 n_1 v Q) : Trip Tryz.prog 106 #[.agg #[.int .i64 n0_0, .int .i64 n0_1, x0_2.val], .int .i64 n_1] v Q :=
 trip_of_eq (args := [.ag [.num .i64 n0_0, .num .i64 n0_1, .sl x0_2], .num .i64 n_1]) (A := ⟨[(5, [(1, .int .i64), (5, .int .i64)], [])], [], [], [], psG⟩) Tryz.func106 (by kernel_rfl) (by kernel_rfl) (by kernel_rfl : vc106 n0_0 n0_1 x0_2 n_1 v Q = _) h

def vc107 (n_0 : Int) (n_1 : Int) (n_2 : Int) (v : World) (Q : Value → World → Prop) : Prop :=
 Q (.bool ((decide (n_1 ≤ n_0)) && (decide (n_0 ≤ n_2)))) v
theorem of107 (n_0 : Int) (n_1 : Int) (n_2 : Int) (v : World) (Q : Value → World → Prop) (h : vc107 n_0 n_1 n_2 v Q) : Trip Tryz.prog 107 #[.int .i64 n_0, .int .i64 n_1, .int .i64 n_2] v Q :=
 trip_of_eq (args := [.num .i64 n_0, .num .i64 n_1, .num .i64 n_2]) (A := ⟨[], [], [], [], psG⟩) Tryz.func107 (by kernel_rfl) (by kernel_rfl) (by kernel_rfl : vc107 n_0 n_1 n_2 v Q = _) h

def vc108 (n_0 : Int) (v : World) (Q : Value → World → Prop) : Prop :=
 Q (.bool ((((decide (n_0 = 6)) || (decide (n_0 = 8))) || (decide (n_0 = 9))) || (decide (n_0 = 10)))) v
theorem of108 (n_0 : Int) (v : World) (Q : Value → World → Prop) (h : vc108 n_0 v Q) : Trip Tryz.prog 108 #[.int .i64 n_0] v Q :=
 trip_of_eq (args := [.num .i64 n_0]) (A := ⟨[], [], [], [], psG⟩) Tryz.func108 (by kernel_rfl) (by kernel_rfl) (by kernel_rfl : vc108 n_0 v Q = _) h

def vc109 (n_0 : Int) (v : World) (Q : Value → World → Prop) : Prop :=
 StepT Tryz.prog (Instr.buildSlice 83 14 #[(0, (.string (ByteArray.mk #[]))), (1, (.string (ByteArray.mk #[97, 100, 100]))), (2, (.string (ByteArray.mk #[115, 117, 98]))), (3, (.string (ByteArray.mk #[109, 117, 108]))), (4, (.string (ByteArray.mk #[108, 101, 115, 115]))), (5, (.string (ByteArray.mk #[112, 114, 105, 110, 116]))), (6, (.string (ByteArray.mk #[99, 111, 110]))), (7, (.string (ByteArray.mk #[105, 102]))), (8, (.string (ByteArray.mk #[109, 97, 116, 99, 104]))), (9, (.string (ByteArray.mk #[99, 97, 108, 108]))), (10, (.string (ByteArray.mk #[99, 108, 111, 115, 101]))), (11, (.string (ByteArray.mk #[97, 112, 112, 108, 121]))), (12, (.string (ByteArray.mk #[]))), (13, (.string (ByteArray.mk #[108, 101, 116])))]) v fun r1 w2 =>
 ∃ x3 : Sl, r1 = x3.val ∧
 IxOk x3 n_0 ∧
 ∃ s4 : ByteArray, w2.cell? ((elA x3 n_0 1).add 0) = some (.string s4) ∧
 Q (.string s4) w2
theorem of109 (n_0 : Int) (v : World) (Q : Value → World → Prop) (h : vc109 n_0 v Q) : Trip Tryz.prog 109 #[.int .i64 n_0] v Q :=
 trip_of_eq (args := [.num .i64 n_0]) (A := ⟨[], [], [], [], psG⟩) Tryz.func109 (by kernel_rfl) (by kernel_rfl) (by kernel_rfl : vc109 n_0 v Q = _) h

def vc122 (x_0 : Sl) (x_1 : Sl) (v : World) (Q : Value → World → Prop) : Prop :=
 ∃ q1 : Bool, (Trip Tryz.prog 169 #[x_0.val] v fun r2 w3 => r2 = .bool q1 ∧ Sub v w3) ∧
 ((((!q1) || (decide ((x_1.n : Int) < 1))) || (decide ((x_1.n : Int) > 4))) = false →
 IxOk x_1 0) ∧
 ∃ x4 : Sl, ((((!q1) || (decide ((x_1.n : Int) < 1))) || (decide ((x_1.n : Int) > 4))) = false →
 v.cell? ((elA x_1 0 3).add 0) = some (x4.val)) ∧
 (((((!q1) || (decide ((x_1.n : Int) < 1))) || (decide ((x_1.n : Int) > 4))) || (decide ((x4.n : Int) > 0))) = false →
 IxOk x_1 0) ∧
 ∃ n5 : Int, (((((!q1) || (decide ((x_1.n : Int) < 1))) || (decide ((x_1.n : Int) > 4))) || (decide ((x4.n : Int) > 0))) = false →
 v.cell? ((elA x_1 0 3).add 2) = some (.int .i64 n5)) ∧
 ((((((!q1) || (decide ((x_1.n : Int) < 1))) || (decide ((x_1.n : Int) > 4))) || (decide ((x4.n : Int) > 0))) || (!decide (n5 = 0))) = true →
 Q (.bool false) v) ∧
 ((((((!q1) || (decide ((x_1.n : Int) < 1))) || (decide ((x_1.n : Int) > 4))) || (decide ((x4.n : Int) > 0))) || (!decide (n5 = 0))) = false →
 ∃ I6 : Int → World → Prop, ∃ m7 : Int → World → Nat, I6 0 v ∧
 ∀ n8 : Int, ∀ w9 : World, I6 n8 w9 →
 ((decide (n8 < (x_1.n : Int))) = true →
 IxOk x_1 n8 ∧
 ∃ x10 : Sl, ∃ x11 : Sl, ∃ n12 : Int, (w9.cell? ((elA x_1 n8 3).add 0) = some (x10.val) ∧
 w9.cell? ((elA x_1 n8 3).add 1) = some (x11.val) ∧
 w9.cell? ((elA x_1 n8 3).add 2) = some (.int .i64 n12)) ∧
 ∃ q13 : Bool, ((decide ((x10.n : Int) > 3)) = false →
 (Trip Tryz.prog 123 #[x_0.val, x10.val] w9 fun r14 w15 => r14 = .bool q13 ∧ Sub w9 w15)) ∧
 ∃ q16 : Bool, (((decide ((x10.n : Int) > 3)) || (!q13)) = false →
 (Trip Tryz.prog 170 #[x_0.val, .int .i64 n12] w9 fun r17 w18 => r17 = .bool q16 ∧ Sub w9 w18)) ∧
 ((((decide ((x10.n : Int) > 3)) || (!q13)) || (!q16)) = true →
 Q (.bool false) w9) ∧
 ((((decide ((x10.n : Int) > 3)) || (!q13)) || (!q16)) = false →
 ∃ I19 : Int → World → Prop, ∃ m20 : Int → World → Nat, I19 0 w9 ∧
 ∀ n21 : Int, ∀ w22 : World, I19 n21 w22 →
 ((decide (n21 < (x11.n : Int))) = true →
 IxOk x11 n21 ∧
 ∃ n23 : Int, w22.cell? ((elA x11 n21 1).add 0) = some (.int .i64 n23) ∧
 (((decide (n23 < 0)) || (decide (n23 ≥ (x10.n : Int)))) = false →
 IxOk x10 n23) ∧
 ∃ n24 : Int, (((decide (n23 < 0)) || (decide (n23 ≥ (x10.n : Int)))) = false →
 w22.cell? ((elA x10 n23 1).add 0) = some (.int .i64 n24)) ∧
 ∃ n25 : Int, ((decide (n21 > 0)) = true →
 (((decide (n23 < 0)) || (decide (n23 ≥ (x10.n : Int)))) || (decide (n24 = 0))) = false →
 Wr .i64 (n21 - 1) n25) ∧
 ((decide (n21 > 0)) = true →
 (((decide (n23 < 0)) || (decide (n23 ≥ (x10.n : Int)))) || (decide (n24 = 0))) = false →
 IxOk x11 n25) ∧
 ∃ n26 : Int, ((decide (n21 > 0)) = true →
 (((decide (n23 < 0)) || (decide (n23 ≥ (x10.n : Int)))) || (decide (n24 = 0))) = false →
 w22.cell? ((elA x11 n25 1).add 0) = some (.int .i64 n26)) ∧
 (((((decide (n23 < 0)) || (decide (n23 ≥ (x10.n : Int)))) || (decide (n24 = 0))) || ((decide (n21 > 0)) && (decide (n23 ≤ n26)))) = true →
 Q (.bool false) w22) ∧
 (((((decide (n23 < 0)) || (decide (n23 ≥ (x10.n : Int)))) || (decide (n24 = 0))) || ((decide (n21 > 0)) && (decide (n23 ≤ n26)))) = false →
 ∃ n27 : Int, Wr .i64 (n21 + 1) n27 ∧
 ((.sl x10 : SV) = .sl x10) ∧
 ((.sl x11 : SV) = .sl x11) ∧
 ((.num .i64 n12 : SV) = .num .i64 n12) ∧
 I19 n27 w22 ∧
 m20 n27 w22 < m20 n21 w22)) ∧
 ((decide (n21 < (x11.n : Int))) = false →
 ∃ n28 : Int, Wr .i64 (n8 + 1) n28 ∧
 I6 n28 w22 ∧
 m7 n28 w22 < m7 n8 w9))) ∧
 ((decide (n8 < (x_1.n : Int))) = false →
 Q (.bool true) w9))
theorem of122 (x_0 : Sl) (x_1 : Sl) (v : World) (Q : Value → World → Prop) (h : vc122 x_0 x_1 v Q) : Trip Tryz.prog 122 #[x_0.val, x_1.val] v Q :=
 trip_of_eq (args := [.sl x_0, .sl x_1]) (A := ⟨[(4, [(39, .int .i64)], []), (9, [(64, .int .i64)], [])], [], [], [], psG⟩) Tryz.func122 (by kernel_rfl) (by kernel_rfl) (by kernel_rfl : vc122 x_0 x_1 v Q = _) h

def vc123 (x_0 : Sl) (x_1 : Sl) (v : World) (Q : Value → World → Prop) : Prop :=
 ∃ I1 : Int → World → Prop, ∃ m2 : Int → World → Nat, I1 0 v ∧
 ∀ n3 : Int, ∀ w4 : World, I1 n3 w4 →
 ((decide (n3 < (x_1.n : Int))) = true →
 IxOk x_1 n3 ∧
 ∃ n5 : Int, w4.cell? ((elA x_1 n3 1).add 0) = some (.int .i64 n5) ∧
 ∃ q6 : Bool, (Trip Tryz.prog 170 #[x_0.val, .int .i64 n5] w4 fun r7 w8 => r7 = .bool q6 ∧ Sub w4 w8) ∧
 ((!q6) = true →
 Q (.bool false) w4) ∧
 ((!q6) = false →
 ∃ n9 : Int, Wr .i64 (n3 + 1) n9 ∧
 I1 n9 w4 ∧
 m2 n9 w4 < m2 n3 w4)) ∧
 ((decide (n3 < (x_1.n : Int))) = false →
 Q (.bool true) w4)
theorem of123 (x_0 : Sl) (x_1 : Sl) (v : World) (Q : Value → World → Prop) (h : vc123 x_0 x_1 v Q) : Trip Tryz.prog 123 #[x_0.val, x_1.val] v Q :=
 trip_of_eq (args := [.sl x_0, .sl x_1]) (A := ⟨[(2, [(9, .int .i64)], [])], [], [], [], psG⟩) Tryz.func123 (by kernel_rfl) (by kernel_rfl) (by kernel_rfl : vc123 x_0 x_1 v Q = _) h

def vc124 (x0_0 : Sl) (x0_1 : Sl) (v : World) (Q : Value → World → Prop) : Prop :=
 ∃ I1 : Int → Sl → World → Prop, ∃ m2 : Int → Sl → World → Nat, I1 0 (Sl.mk none 0 0) v ∧
 ∀ n3 : Int, ∀ x4 : Sl, ∀ w5 : World, I1 n3 x4 w5 →
 ((decide (n3 < (x0_1.n : Int))) = true →
 IxOk x0_1 n3 ∧
 ∃ x6 : Sl, ∃ n7 : Int, ∃ n8 : Int, ∃ n9 : Int, ∃ x10 : Sl, (w5.cell? ((elA x0_1 n3 5).add 0) = some (x6.val) ∧
 w5.cell? ((elA x0_1 n3 5).add 1) = some (.int .i64 n7) ∧
 w5.cell? ((elA x0_1 n3 5).add 2) = some (.int .i64 n8) ∧
 w5.cell? ((elA x0_1 n3 5).add 3) = some (.int .i64 n9) ∧
 w5.cell? ((elA x0_1 n3 5).add 4) = some (x10.val)) ∧
 StepT Tryz.prog (Instr.buildSlice 153 1 #[(0, (.agg #[x6.val, .slice none 0 0, .int .i64 n7]))]) w5 fun r11 w12 =>
 ∃ x13 : Sl, r11 = x13.val ∧
 StepT Tryz.prog (Builtin.append_ #[153, 153] 153 #[(x4.val), (x13.val)]) w12 fun r14 w15 =>
 ∃ x16 : Sl, r14 = x16.val ∧
 ∃ n17 : Int, Wr .i64 (n3 + 1) n17 ∧
 ((.sl x0_0 : SV) = .sl x0_0) ∧
 ((.sl x0_1 : SV) = .sl x0_1) ∧
 ((.sl (Sl.mk none 0 0) : SV) = .sl (Sl.mk none 0 0)) ∧
 ((.sl (Sl.mk none 0 0) : SV) = .sl (Sl.mk none 0 0)) ∧
 ((.sl x0_0 : SV) = .sl x0_0) ∧
 I1 n17 x16 w15 ∧
 m2 n17 x16 w15 < m2 n3 x4 w5) ∧
 ((decide (n3 < (x0_1.n : Int))) = false →
 Q (.agg #[x0_0.val, x4.val]) w5)
theorem of124 (x0_0 : Sl) (x0_1 : Sl) (v : World) (Q : Value → World → Prop) (h : vc124 x0_0 x0_1 v Q) : Trip Tryz.prog 124 #[.agg #[x0_0.val, x0_1.val]] v Q :=
 trip_of_eq (args := [.ag [.sl x0_0, .sl x0_1]]) (A := ⟨[(3, [(12, .int .i64)], [(2, 1, .sl)])], [], [], [], psG⟩) Tryz.func124 (by kernel_rfl) (by kernel_rfl) (by kernel_rfl : vc124 x0_0 x0_1 v Q = _) h

def vc125 (x0_0 : Sl) (x0_1 : Sl) (x_1 : Sl) (n2_0 : Int) (n2_1 : Int) (x2_2 : Sl) (v : World) (Q : Value → World → Prop) : Prop :=
 ((decide (n2_0 = 12)) = true →
 ((((decide ((x2_2.n : Int) > 0)) || (decide (n2_1 < 0))) || (decide (n2_1 ≥ (x_1.n : Int)))) = true →
 Q (.int .i64 (-1)) v) ∧
 ((((decide ((x2_2.n : Int) > 0)) || (decide (n2_1 < 0))) || (decide (n2_1 ≥ (x_1.n : Int)))) = false →
 IxOk x_1 n2_1 ∧
 ∃ n1 : Int, v.cell? ((elA x_1 n2_1 1).add 0) = some (.int .i64 n1) ∧
 Q (.int .i64 n1) v)) ∧
 ((decide (n2_0 = 12)) = false →
 ((decide (n2_0 = 13)) = true →
 (((!decide ((x2_2.n : Int) = 2)) || (!decide (n2_1 = 0))) = true →
 Q (.int .i64 (-1)) v) ∧
 (((!decide ((x2_2.n : Int) = 2)) || (!decide (n2_1 = 0))) = false →
 IxOk x2_2 0 ∧
 ∃ n2 : Int, ∃ n3 : Int, ∃ x4 : Sl, (v.cell? ((elA x2_2 0 3).add 0) = some (.int .i64 n2) ∧
 v.cell? ((elA x2_2 0 3).add 1) = some (.int .i64 n3) ∧
 v.cell? ((elA x2_2 0 3).add 2) = some (x4.val)) ∧
 Trip Tryz.prog 125 #[.agg #[x0_0.val, x0_1.val], x_1.val, .agg #[.int .i64 n2, .int .i64 n3, x4.val]] v fun r5 w6 =>
 ∃ n7 : Int, r5 = .int .i64 n7 ∧
 ((decide (n7 < 0)) = true →
 Q (.int .i64 (-1)) w6) ∧
 ((decide (n7 < 0)) = false →
 (StepT Tryz.prog (Instr.buildSlice 68 1 #[(0, (.int .i64 n7))]) w6 fun r8 w9 =>
 ∃ x10 : Sl, r8 = x10.val ∧
 (StepT Tryz.prog (Builtin.append_ #[68, 68] 68 #[(x_1.val), (x10.val)]) w9 fun r11 w12 =>
 ∃ x13 : Sl, r11 = x13.val ∧
 IxOk x2_2 1 ∧
 ∃ n14 : Int, ∃ n15 : Int, ∃ x16 : Sl, (w12.cell? ((elA x2_2 1 3).add 0) = some (.int .i64 n14) ∧
 w12.cell? ((elA x2_2 1 3).add 1) = some (.int .i64 n15) ∧
 w12.cell? ((elA x2_2 1 3).add 2) = some (x16.val)) ∧
 Trip Tryz.prog 125 #[.agg #[x0_0.val, x0_1.val], x13.val, .agg #[.int .i64 n14, .int .i64 n15, x16.val]] w12 fun r17 w18 =>
 ∃ n19 : Int, r17 = .int .i64 n19 ∧
 Q (.int .i64 n19) w18) ∧
 IxOk x2_2 1 ∧
 (StepT Tryz.prog (Builtin.append_ #[68, 68] 68 #[(x_1.val), (x10.val)]) w9 fun r20 w21 =>
 ∃ x22 : Sl, r20 = x22.val ∧
 ∃ n23 : Int, ∃ n24 : Int, ∃ x25 : Sl, (w21.cell? ((elA x2_2 1 3).add 0) = some (.int .i64 n23) ∧
 w21.cell? ((elA x2_2 1 3).add 1) = some (.int .i64 n24) ∧
 w21.cell? ((elA x2_2 1 3).add 2) = some (x25.val)) ∧
 Trip Tryz.prog 125 #[.agg #[x0_0.val, x0_1.val], x22.val, .agg #[.int .i64 n23, .int .i64 n24, x25.val]] w21 fun r26 w27 =>
 ∃ n28 : Int, r26 = .int .i64 n28 ∧
 Q (.int .i64 n28) w27) ∧
 ∃ n29 : Int, ∃ n30 : Int, ∃ x31 : Sl, (w9.cell? ((elA x2_2 1 3).add 0) = some (.int .i64 n29) ∧
 w9.cell? ((elA x2_2 1 3).add 1) = some (.int .i64 n30) ∧
 w9.cell? ((elA x2_2 1 3).add 2) = some (x31.val)) ∧
 StepT Tryz.prog (Builtin.append_ #[68, 68] 68 #[(x_1.val), (x10.val)]) w9 fun r32 w33 =>
 ∃ x34 : Sl, r32 = x34.val ∧
 Trip Tryz.prog 125 #[.agg #[x0_0.val, x0_1.val], x34.val, .agg #[.int .i64 n29, .int .i64 n30, x31.val]] w33 fun r35 w36 =>
 ∃ n37 : Int, r35 = .int .i64 n37 ∧
 Q (.int .i64 n37) w36) ∧
 IxOk x2_2 1 ∧
 (StepT Tryz.prog (Instr.buildSlice 68 1 #[(0, (.int .i64 n7))]) w6 fun r38 w39 =>
 ∃ x40 : Sl, r38 = x40.val ∧
 (StepT Tryz.prog (Builtin.append_ #[68, 68] 68 #[(x_1.val), (x40.val)]) w39 fun r41 w42 =>
 ∃ x43 : Sl, r41 = x43.val ∧
 ∃ n44 : Int, ∃ n45 : Int, ∃ x46 : Sl, (w42.cell? ((elA x2_2 1 3).add 0) = some (.int .i64 n44) ∧
 w42.cell? ((elA x2_2 1 3).add 1) = some (.int .i64 n45) ∧
 w42.cell? ((elA x2_2 1 3).add 2) = some (x46.val)) ∧
 Trip Tryz.prog 125 #[.agg #[x0_0.val, x0_1.val], x43.val, .agg #[.int .i64 n44, .int .i64 n45, x46.val]] w42 fun r47 w48 =>
 ∃ n49 : Int, r47 = .int .i64 n49 ∧
 Q (.int .i64 n49) w48) ∧
 ∃ n50 : Int, ∃ n51 : Int, ∃ x52 : Sl, (w39.cell? ((elA x2_2 1 3).add 0) = some (.int .i64 n50) ∧
 w39.cell? ((elA x2_2 1 3).add 1) = some (.int .i64 n51) ∧
 w39.cell? ((elA x2_2 1 3).add 2) = some (x52.val)) ∧
 StepT Tryz.prog (Builtin.append_ #[68, 68] 68 #[(x_1.val), (x40.val)]) w39 fun r53 w54 =>
 ∃ x55 : Sl, r53 = x55.val ∧
 Trip Tryz.prog 125 #[.agg #[x0_0.val, x0_1.val], x55.val, .agg #[.int .i64 n50, .int .i64 n51, x52.val]] w54 fun r56 w57 =>
 ∃ n58 : Int, r56 = .int .i64 n58 ∧
 Q (.int .i64 n58) w57) ∧
 ∃ n59 : Int, ∃ n60 : Int, ∃ x61 : Sl, (w6.cell? ((elA x2_2 1 3).add 0) = some (.int .i64 n59) ∧
 w6.cell? ((elA x2_2 1 3).add 1) = some (.int .i64 n60) ∧
 w6.cell? ((elA x2_2 1 3).add 2) = some (x61.val)) ∧
 StepT Tryz.prog (Instr.buildSlice 68 1 #[(0, (.int .i64 n7))]) w6 fun r62 w63 =>
 ∃ x64 : Sl, r62 = x64.val ∧
 StepT Tryz.prog (Builtin.append_ #[68, 68] 68 #[(x_1.val), (x64.val)]) w63 fun r65 w66 =>
 ∃ x67 : Sl, r65 = x67.val ∧
 Trip Tryz.prog 125 #[.agg #[x0_0.val, x0_1.val], x67.val, .agg #[.int .i64 n59, .int .i64 n60, x61.val]] w66 fun r68 w69 =>
 ∃ n70 : Int, r68 = .int .i64 n70 ∧
 Q (.int .i64 n70) w69))) ∧
 ((decide (n2_0 = 13)) = false →
 ((decide (n2_0 = 7)) = true →
 (((!decide ((x2_2.n : Int) = 3)) || (!decide (n2_1 = 0))) = false →
 IxOk x2_2 0) ∧
 ∃ n71 : Int, ∃ n72 : Int, ∃ x73 : Sl, (((!decide ((x2_2.n : Int) = 3)) || (!decide (n2_1 = 0))) = false →
 v.cell? ((elA x2_2 0 3).add 0) = some (.int .i64 n71) ∧
 v.cell? ((elA x2_2 0 3).add 1) = some (.int .i64 n72) ∧
 v.cell? ((elA x2_2 0 3).add 2) = some (x73.val)) ∧
 (((!decide ((x2_2.n : Int) = 3)) || (!decide (n2_1 = 0))) = false →
 Trip Tryz.prog 125 #[.agg #[x0_0.val, x0_1.val], x_1.val, .agg #[.int .i64 n71, .int .i64 n72, x73.val]] v fun r74 w75 =>
 ∃ n76 : Int, r74 = .int .i64 n76 ∧
 ((!decide (n76 = 0)) = true →
 Q (.int .i64 (-1)) w75) ∧
 ((!decide (n76 = 0)) = false →
 ((0 : Int) ≤ 1 ∧ 1 ≤ (x2_2.n : Int)) ∧
 StepT Tryz.prog (Instr.makeSlice 189 (.int .i64 2) (.int .i64 2)) w75 fun r77 w78 =>
 ∃ x79 : Sl, r77 = x79.val ∧
 Sub w75 w78 ∧
 Trip Tryz.prog 171 #[.agg #[x0_0.val, x0_1.val], x_1.val, (x2_2.cut 1 (x2_2.n : Int) 3).val, x79.val] w78 fun r80 w81 =>
 ∃ n82 : Int, r80 = .int .i64 n82 ∧
 Q (.int .i64 n82) w81)) ∧
 (((!decide ((x2_2.n : Int) = 3)) || (!decide (n2_1 = 0))) = true →
 Q (.int .i64 (-1)) v)) ∧
 ((decide (n2_0 = 7)) = false →
 ((decide (n2_0 = 8)) = true →
 Trip Tryz.prog 172 #[x0_0.val, .int .i64 n2_1] v fun r83 w84 =>
 ∃ x85 : Sl, r83 = x85.val ∧
 ∃ n86 : Int, ((decide ((x85.n : Int) = 0)) = false →
 Wr .i64 (1 + (x85.n : Int)) n86) ∧
 (((decide ((x85.n : Int) = 0)) || (!decide ((x2_2.n : Int) = n86))) = false →
 IxOk x2_2 0) ∧
 ∃ n87 : Int, ∃ n88 : Int, ∃ x89 : Sl, (((decide ((x85.n : Int) = 0)) || (!decide ((x2_2.n : Int) = n86))) = false →
 w84.cell? ((elA x2_2 0 3).add 0) = some (.int .i64 n87) ∧
 w84.cell? ((elA x2_2 0 3).add 1) = some (.int .i64 n88) ∧
 w84.cell? ((elA x2_2 0 3).add 2) = some (x89.val)) ∧
 ((((decide ((x85.n : Int) = 0)) || (!decide ((x2_2.n : Int) = n86))) = false →
 Trip Tryz.prog 125 #[.agg #[x0_0.val, x0_1.val], x_1.val, .agg #[.int .i64 n87, .int .i64 n88, x89.val]] w84 fun r90 w91 =>
 ∃ n92 : Int, r90 = .int .i64 n92 ∧
 ((!decide (n92 = n2_1)) = true →
 Q (.int .i64 (-1)) w91) ∧
 ((!decide (n92 = n2_1)) = false →
 StepT Tryz.prog (Instr.makeSlice 189 (.int .i64 (x85.n : Int)) (.int .i64 (x85.n : Int))) w91 fun r93 w94 =>
 ∃ x95 : Sl, r93 = x95.val ∧
 ∃ I96 : Int → World → Prop, ∃ m97 : Int → World → Nat, I96 0 w94 ∧
 ∀ n98 : Int, ∀ w99 : World, I96 n98 w99 →
 ((decide (n98 < (x85.n : Int))) = true →
 IxOk x85 n98 ∧
 ∃ n100 : Int, w99.cell? ((elA x85 n98 1).add 0) = some (.int .i64 n100) ∧
 ∃ x101 : Sl, (Trip Tryz.prog 173 #[x0_0.val, .int .i64 n100] w99 fun r102 w103 => r102 = x101.val ∧ Sub w99 w103) ∧
 IxOk x95 n98 ∧
 StoreAt w99 (elA x95 n98 1) 0 [x101.val] fun w104 =>
 ∃ n105 : Int, Wr .i64 (n98 + 1) n105 ∧
 ((.sl x0_0 : SV) = .sl x0_0) ∧
 ((.sl x0_1 : SV) = .sl x0_1) ∧
 ((.num .i64 n2_0 : SV) = .num .i64 n2_0) ∧
 ((.num .i64 n2_1 : SV) = .num .i64 n2_1) ∧
 ((.sl x2_2 : SV) = .sl x2_2) ∧
 I96 n105 w104 ∧
 m97 n105 w104 < m97 n98 w99) ∧
 ((decide (n98 < (x85.n : Int))) = false →
 ((0 : Int) ≤ 1 ∧ 1 ≤ (x2_2.n : Int)) ∧
 Trip Tryz.prog 171 #[.agg #[x0_0.val, x0_1.val], x_1.val, (x2_2.cut 1 (x2_2.n : Int) 3).val, x95.val] w99 fun r106 w107 =>
 ∃ n108 : Int, r106 = .int .i64 n108 ∧
 Q (.int .i64 n108) w107))) ∧
 (((decide ((x85.n : Int) = 0)) || (!decide ((x2_2.n : Int) = n86))) = true →
 Q (.int .i64 (-1)) w84)) ∧
 ((((decide ((x85.n : Int) = 0)) || (!decide ((x2_2.n : Int) = n86))) = false →
 Trip Tryz.prog 125 #[.agg #[x0_0.val, x0_1.val], x_1.val, .agg #[.int .i64 n87, .int .i64 n88, x89.val]] w84 fun r109 w110 =>
 ∃ n111 : Int, r109 = .int .i64 n111 ∧
 ((!decide (n111 = n2_1)) = true →
 Q (.int .i64 (-1)) w110) ∧
 ((!decide (n111 = n2_1)) = false →
 StepT Tryz.prog (Instr.makeSlice 189 (.int .i64 (x85.n : Int)) (.int .i64 (x85.n : Int))) w110 fun r112 w113 =>
 ∃ x114 : Sl, r112 = x114.val ∧
 ∃ I115 : Int → World → Prop, ∃ m116 : Int → World → Nat, I115 0 w113 ∧
 ∀ n117 : Int, ∀ w118 : World, I115 n117 w118 →
 ((decide (n117 < (x85.n : Int))) = true →
 IxOk x85 n117 ∧
 ∃ n119 : Int, w118.cell? ((elA x85 n117 1).add 0) = some (.int .i64 n119) ∧
 ∃ x120 : Sl, (Trip Tryz.prog 173 #[x0_0.val, .int .i64 n119] w118 fun r121 w122 => r121 = x120.val ∧ Sub w118 w122) ∧
 IxOk x114 n117 ∧
 StoreAt w118 (elA x114 n117 1) 0 [x120.val] fun w123 =>
 ∃ n124 : Int, Wr .i64 (n117 + 1) n124 ∧
 ((.sl x0_0 : SV) = .sl x0_0) ∧
 ((.sl x0_1 : SV) = .sl x0_1) ∧
 ((.num .i64 n2_0 : SV) = .num .i64 n2_0) ∧
 ((.num .i64 n2_1 : SV) = .num .i64 n2_1) ∧
 ((.sl x2_2 : SV) = .sl x2_2) ∧
 I115 n124 w123 ∧
 m116 n124 w123 < m116 n117 w118) ∧
 ((decide (n117 < (x85.n : Int))) = false →
 ((0 : Int) ≤ 1 ∧ 1 ≤ (x2_2.n : Int)) ∧
 Trip Tryz.prog 171 #[.agg #[x0_0.val, x0_1.val], x_1.val, (x2_2.cut 1 (x2_2.n : Int) 3).val, x114.val] w118 fun r125 w126 =>
 ∃ n127 : Int, r125 = .int .i64 n127 ∧
 Q (.int .i64 n127) w126))) ∧
 (((decide ((x85.n : Int) = 0)) || (!decide ((x2_2.n : Int) = n86))) = true →
 Q (.int .i64 (-1)) w84)) ∧
 (((decide ((x85.n : Int) = 0)) || (!decide ((x2_2.n : Int) = n86))) = false →
 Trip Tryz.prog 125 #[.agg #[x0_0.val, x0_1.val], x_1.val, .agg #[.int .i64 n87, .int .i64 n88, x89.val]] w84 fun r128 w129 =>
 ∃ n130 : Int, r128 = .int .i64 n130 ∧
 ((!decide (n130 = n2_1)) = true →
 Q (.int .i64 (-1)) w129) ∧
 ((!decide (n130 = n2_1)) = false →
 StepT Tryz.prog (Instr.makeSlice 189 (.int .i64 (x85.n : Int)) (.int .i64 (x85.n : Int))) w129 fun r131 w132 =>
 ∃ x133 : Sl, r131 = x133.val ∧
 ∃ I134 : Int → World → Prop, ∃ m135 : Int → World → Nat, I134 0 w132 ∧
 ∀ n136 : Int, ∀ w137 : World, I134 n136 w137 →
 ((decide (n136 < (x85.n : Int))) = true →
 IxOk x85 n136 ∧
 ∃ n138 : Int, w137.cell? ((elA x85 n136 1).add 0) = some (.int .i64 n138) ∧
 ∃ x139 : Sl, (Trip Tryz.prog 173 #[x0_0.val, .int .i64 n138] w137 fun r140 w141 => r140 = x139.val ∧ Sub w137 w141) ∧
 IxOk x133 n136 ∧
 StoreAt w137 (elA x133 n136 1) 0 [x139.val] fun w142 =>
 ∃ n143 : Int, Wr .i64 (n136 + 1) n143 ∧
 ((.sl x0_0 : SV) = .sl x0_0) ∧
 ((.sl x0_1 : SV) = .sl x0_1) ∧
 ((.num .i64 n2_0 : SV) = .num .i64 n2_0) ∧
 ((.num .i64 n2_1 : SV) = .num .i64 n2_1) ∧
 ((.sl x2_2 : SV) = .sl x2_2) ∧
 I134 n143 w142 ∧
 m135 n143 w142 < m135 n136 w137) ∧
 ((decide (n136 < (x85.n : Int))) = false →
 ((0 : Int) ≤ 1 ∧ 1 ≤ (x2_2.n : Int)) ∧
 Trip Tryz.prog 171 #[.agg #[x0_0.val, x0_1.val], x_1.val, (x2_2.cut 1 (x2_2.n : Int) 3).val, x133.val] w137 fun r144 w145 =>
 ∃ n146 : Int, r144 = .int .i64 n146 ∧
 Q (.int .i64 n146) w145))) ∧
 (((decide ((x85.n : Int) = 0)) || (!decide ((x2_2.n : Int) = n86))) = true →
 Q (.int .i64 (-1)) w84)) ∧
 ((decide (n2_0 = 8)) = false →
 StepT Tryz.prog (Instr.makeSlice 68 (.int .i64 (x2_2.n : Int)) (.int .i64 (x2_2.n : Int))) v fun r147 w148 =>
 ∃ x149 : Sl, r147 = x149.val ∧
 ∃ I150 : Int → World → Prop, ∃ m151 : Int → World → Nat, I150 0 w148 ∧
 ∀ n152 : Int, ∀ w153 : World, I150 n152 w153 →
 ((decide (n152 < (x2_2.n : Int))) = true →
 IxOk x2_2 n152 ∧
 ∃ n154 : Int, ∃ n155 : Int, ∃ x156 : Sl, (w153.cell? ((elA x2_2 n152 3).add 0) = some (.int .i64 n154) ∧
 w153.cell? ((elA x2_2 n152 3).add 1) = some (.int .i64 n155) ∧
 w153.cell? ((elA x2_2 n152 3).add 2) = some (x156.val)) ∧
 Trip Tryz.prog 125 #[.agg #[x0_0.val, x0_1.val], x_1.val, .agg #[.int .i64 n154, .int .i64 n155, x156.val]] w153 fun r157 w158 =>
 ∃ n159 : Int, r157 = .int .i64 n159 ∧
 IxOk x149 n152 ∧
 StoreAt w158 (elA x149 n152 1) 0 [.int .i64 n159] fun w160 =>
 IxOk x149 n152 ∧
 ∃ n161 : Int, w160.cell? ((elA x149 n152 1).add 0) = some (.int .i64 n161) ∧
 ((decide (n161 < 0)) = true →
 Q (.int .i64 (-1)) w160) ∧
 ((decide (n161 < 0)) = false →
 ∃ n162 : Int, Wr .i64 (n152 + 1) n162 ∧
 ((.sl x0_0 : SV) = .sl x0_0) ∧
 ((.sl x0_1 : SV) = .sl x0_1) ∧
 ((.num .i64 n2_0 : SV) = .num .i64 n2_0) ∧
 ((.num .i64 n2_1 : SV) = .num .i64 n2_1) ∧
 ((.sl x2_2 : SV) = .sl x2_2) ∧
 I150 n162 w160 ∧
 m151 n162 w160 < m151 n152 w153)) ∧
 ((decide (n152 < (x2_2.n : Int))) = false →
 ∃ n163 : Int, ∃ q164 : Bool, (Trip Tryz.prog 174 #[.agg #[x0_0.val, x0_1.val], .int .i64 n2_0, .int .i64 n2_1, x149.val] w153 fun r165 w166 => r165 = .tuple #[.int .i64 n163, .bool q164] ∧ Sub w153 w166) ∧
 ((!q164) = true →
 Q (.int .i64 (-1)) w153) ∧
 ((!q164) = false →
 Q (.int .i64 n163) w153))))))
theorem of125 (x0_0 : Sl) (x0_1 : Sl) (x_1 : Sl) (n2_0 : Int) (n2_1 : Int) (x2_2 : Sl) (v : World) (Q : Value → World → Prop) (h : vc125 x0_0 x0_1 x_1 n2_0 n2_1 x2_2 v Q) : Trip Tryz.prog 125 #[.agg #[x0_0.val, x0_1.val], x_1.val, .agg #[.int .i64 n2_0, .int .i64 n2_1, x2_2.val]] v Q :=
 trip_of_eq (args := [.ag [.sl x0_0, .sl x0_1], .sl x_1, .ag [.num .i64 n2_0, .num .i64 n2_1, .sl x2_2]]) (A := ⟨[(23, [(136, .int .i64)], []), (30, [(163, .int .i64)], [])], [], [(9, []), (12, []), (14, []), (16, [5]), (19, []), (27, [])], [], psG⟩) Tryz.func125 (by kernel_rfl) (by kernel_rfl) (by kernel_rfl : vc125 x0_0 x0_1 x_1 n2_0 n2_1 x2_2 v Q = _) h

def vc126 (x_0 : Sl) (v : World) (Q : Value → World → Prop) : Prop :=
 ∃ q1 : Bool, PureT Tryz.prog (do eqGuard .eql 68 (.tmp 3) (.const (.slice none 0 0)) (x_0.val) (.slice none 0 0); binOp .eql 68 (x_0.val) (.slice none 0 0)) v (.bool q1) ∧
 (q1 = true →
 Q (.slice none 0 0) v) ∧
 (q1 = false →
 StepT Tryz.prog (Instr.buildSlice 68 0 #[]) v fun r2 w3 =>
 ∃ x4 : Sl, r2 = x4.val ∧
 StepT Tryz.prog (Builtin.append_ #[68, 68] 68 #[(x4.val), (x_0.val)]) w3 fun r5 w6 =>
 ∃ x7 : Sl, r5 = x7.val ∧
 Q (x7.val) w6)
theorem of126 (x_0 : Sl) (v : World) (Q : Value → World → Prop) (h : vc126 x_0 v Q) : Trip Tryz.prog 126 #[x_0.val] v Q :=
 trip_of_eq (args := [.sl x_0]) (A := ⟨[], [], [], [], psG⟩) Tryz.func126 (by kernel_rfl) (by kernel_rfl) (by kernel_rfl : vc126 x_0 v Q = _) h

def vc127 (x_0 : Sl) (n_1 : Int) (v : World) (Q : Value → World → Prop) : Prop :=
 ∃ n1 : Int, Wr .i64 (n_1 - (x_0.n : Int)) n1 ∧
 ((decide (n1 < 0)) = true →
 Q (.int .i64 (-1)) v) ∧
 ((decide (n1 < 0)) = false →
 ∃ I2 : Int → Int → World → Prop, ∃ m3 : Int → Int → World → Nat, I2 n1 0 v ∧
 ∀ n4 : Int, ∀ n5 : Int, ∀ w6 : World, I2 n4 n5 w6 →
 ((decide (n5 < (x_0.n : Int))) = true →
 IxOk x_0 n5 ∧
 ∃ x7 : Sl, w6.cell? ((elA x_0 n5 1).add 0) = some (x7.val) ∧
 ∃ n8 : Int, (Trip Tryz.prog 175 #[.agg #[x7.val], .int .i64 n4] w6 fun r9 w10 => r9 = .int .i64 n8 ∧ Sub w6 w10) ∧
 ((decide (n8 < 0)) = true →
 Q (.int .i64 (-1)) w6) ∧
 ((decide (n8 < 0)) = false →
 ∃ n11 : Int, Wr .i64 (n5 + 1) n11 ∧
 I2 n8 n11 w6 ∧
 m3 n8 n11 w6 < m3 n4 n5 w6)) ∧
 ((decide (n5 < (x_0.n : Int))) = false →
 Q (.int .i64 n4) w6))
theorem of127 (x_0 : Sl) (n_1 : Int) (v : World) (Q : Value → World → Prop) (h : vc127 x_0 n_1 v Q) : Trip Tryz.prog 127 #[x_0.val, .int .i64 n_1] v Q :=
 trip_of_eq (args := [.sl x_0, .num .i64 n_1]) (A := ⟨[(5, [(1, .int .i64), (5, .int .i64)], [])], [], [], [], psG⟩) Tryz.func127 (by kernel_rfl) (by kernel_rfl) (by kernel_rfl : vc127 x_0 n_1 v Q = _) h

def vc128 (x_0 : Sl) (n_1 : Int) (v : World) (Q : Value → World → Prop) : Prop :=
 ∃ n1 : Int, Wr .i64 (n_1 - (x_0.n : Int)) n1 ∧
 ((decide (n1 < 0)) = true →
 Q (.int .i64 (-1)) v) ∧
 ((decide (n1 < 0)) = false →
 Q (.int .i64 n1) v)
theorem of128 (x_0 : Sl) (n_1 : Int) (v : World) (Q : Value → World → Prop) (h : vc128 x_0 n_1 v Q) : Trip Tryz.prog 128 #[x_0.val, .int .i64 n_1] v Q :=
 trip_of_eq (args := [.sl x_0, .num .i64 n_1]) (A := ⟨[], [], [], [], psG⟩) Tryz.func128 (by kernel_rfl) (by kernel_rfl) (by kernel_rfl : vc128 x_0 n_1 v Q = _) h

def vc129 (n0_0 : Int) (n0_1 : Int) (x0_2 : Sl) (n_1 : Int) (v : World) (Q : Value → World → Prop) : Prop :=
 ∃ n1 : Int, (Trip Tryz.prog 176 #[x0_2.val, .int .i64 n_1] v fun r2 w3 => r2 = .int .i64 n1 ∧ Sub v w3) ∧
 ((decide (n1 < 0)) = true →
 Q (.int .i64 (-1)) v) ∧
 ((decide (n1 < 0)) = false →
 Q (.int .i64 n1) v)
theorem of129 (n0_0 : Int) (n0_1 : Int) (x0_2 : Sl) (n_1 : Int) (v : World) (Q : Value → World → Prop) (h : vc129 n0_0 n0_1 x0_2 n_1 v Q) : Trip Tryz.prog 129 #[.agg #[.int .i64 n0_0, .int .i64 n0_1, x0_2.val], .int .i64 n_1] v Q :=
 trip_of_eq (args := [.ag [.num .i64 n0_0, .num .i64 n0_1, .sl x0_2], .num .i64 n_1]) (A := ⟨[], [], [], [], psG⟩) Tryz.func129 (by kernel_rfl) (by kernel_rfl) (by kernel_rfl : vc129 n0_0 n0_1 x0_2 n_1 v Q = _) h

def vc130 (x_0 : Sl) (v : World) (Q : Value → World → Prop) : Prop :=
 ((decide ((x_0.n : Int) > 4)) = true →
 Q (.bool false) v) ∧
 ((decide ((x_0.n : Int) > 4)) = false →
 ∃ I1 : Int → World → Prop, ∃ m2 : Int → World → Nat, I1 0 v ∧
 ∀ n3 : Int, ∀ w4 : World, I1 n3 w4 →
 ((decide (n3 < (x_0.n : Int))) = true →
 ∃ q5 : Bool, (Trip Tryz.prog 177 #[x_0.val, .int .i64 n3] w4 fun r6 w7 => r6 = .bool q5 ∧ Sub w4 w7) ∧
 ((!q5) = true →
 Q (.bool false) w4) ∧
 ((!q5) = false →
 ∃ n8 : Int, Wr .i64 (n3 + 1) n8 ∧
 I1 n8 w4 ∧
 m2 n8 w4 < m2 n3 w4)) ∧
 ((decide (n3 < (x_0.n : Int))) = false →
 Q (.bool true) w4))
theorem of130 (x_0 : Sl) (v : World) (Q : Value → World → Prop) (h : vc130 x_0 v Q) : Trip Tryz.prog 130 #[x_0.val] v Q :=
 trip_of_eq (args := [.sl x_0]) (A := ⟨[(4, [(3, .int .i64)], [])], [], [], [], psG⟩) Tryz.func130 (by kernel_rfl) (by kernel_rfl) (by kernel_rfl : vc130 x_0 v Q = _) h

def vc131 (x_0 : Sl) (x_1 : Sl) (v : World) (Q : Value → World → Prop) : Prop :=
 ∃ I1 : Int → World → Prop, ∃ m2 : Int → World → Nat, I1 0 v ∧
 ∀ n3 : Int, ∀ w4 : World, I1 n3 w4 →
 ((decide (n3 < (x_1.n : Int))) = true →
 IxOk x_1 n3 ∧
 ∃ n5 : Int, w4.cell? ((elA x_1 n3 1).add 0) = some (.int .i64 n5) ∧
 ∃ q6 : Bool, (Trip Tryz.prog 107 #[.int .i64 n5, .int .i64 0, .int .i64 (x_0.n : Int)] w4 fun r7 w8 => r7 = .bool q6 ∧ Sub w4 w8) ∧
 ((!q6) = true →
 Q (.bool false) w4) ∧
 ((!q6) = false →
 ∃ n9 : Int, Wr .i64 (n3 + 1) n9 ∧
 I1 n9 w4 ∧
 m2 n9 w4 < m2 n3 w4)) ∧
 ((decide (n3 < (x_1.n : Int))) = false →
 Q (.bool true) w4)
theorem of131 (x_0 : Sl) (x_1 : Sl) (v : World) (Q : Value → World → Prop) (h : vc131 x_0 x_1 v Q) : Trip Tryz.prog 131 #[x_0.val, x_1.val] v Q :=
 trip_of_eq (args := [.sl x_0, .sl x_1]) (A := ⟨[(2, [(5, .int .i64)], [])], [], [], [], psG⟩) Tryz.func131 (by kernel_rfl) (by kernel_rfl) (by kernel_rfl : vc131 x_0 x_1 v Q = _) h

def vc132 (x0_0 : Sl) (x0_1 : Sl) (x_1 : Sl) (x_2 : Sl) (n_3 : Int) (v : World) (Q : Value → World → Prop) : Prop :=
 ((!decide ((x_2.n : Int) = n_3)) = true →
 Q (.bool false) v) ∧
 ((!decide ((x_2.n : Int) = n_3)) = false →
 ∃ I1 : Int → World → Prop, ∃ m2 : Int → World → Nat, I1 0 v ∧
 ∀ n3 : Int, ∀ w4 : World, I1 n3 w4 →
 ((decide (n3 < n_3)) = true →
 IxOk x_2 n3 ∧
 ∃ n5 : Int, ∃ n6 : Int, ∃ x7 : Sl, (w4.cell? ((elA x_2 n3 3).add 0) = some (.int .i64 n5) ∧
 w4.cell? ((elA x_2 n3 3).add 1) = some (.int .i64 n6) ∧
 w4.cell? ((elA x_2 n3 3).add 2) = some (x7.val)) ∧
 ∃ n8 : Int, (Trip Tryz.prog 74 #[.agg #[x0_0.val, x0_1.val], x_1.val, .agg #[.int .i64 n5, .int .i64 n6, x7.val]] w4 fun r9 w10 => r9 = .int .i64 n8 ∧ Sub w4 w10) ∧
 ((!decide (n8 = 0)) = true →
 Q (.bool false) w4) ∧
 ((!decide (n8 = 0)) = false →
 ∃ n11 : Int, Wr .i64 (n3 + 1) n11 ∧
 ((.sl x0_0 : SV) = .sl x0_0) ∧
 ((.sl x0_1 : SV) = .sl x0_1) ∧
 I1 n11 w4 ∧
 m2 n11 w4 < m2 n3 w4)) ∧
 ((decide (n3 < n_3)) = false →
 Q (.bool true) w4))
theorem of132 (x0_0 : Sl) (x0_1 : Sl) (x_1 : Sl) (x_2 : Sl) (n_3 : Int) (v : World) (Q : Value → World → Prop) (h : vc132 x0_0 x0_1 x_1 x_2 n_3 v Q) : Trip Tryz.prog 132 #[.agg #[x0_0.val, x0_1.val], x_1.val, x_2.val, .int .i64 n_3] v Q :=
 trip_of_eq (args := [.ag [.sl x0_0, .sl x0_1], .sl x_1, .sl x_2, .num .i64 n_3]) (A := ⟨[(4, [(9, .int .i64)], [])], [], [], [], psG⟩) Tryz.func132 (by kernel_rfl) (by kernel_rfl) (by kernel_rfl : vc132 x0_0 x0_1 x_1 x_2 n_3 v Q = _) h

def vc133 (x_0 : Sl) (n_1 : Int) (v : World) (Q : Value → World → Prop) : Prop :=
 ∃ I1 : Int → World → Prop, ∃ m2 : Int → World → Nat, I1 0 v ∧
 ∀ n3 : Int, ∀ w4 : World, I1 n3 w4 →
 ((decide (n3 < (x_0.n : Int))) = true →
 ∃ n5 : Int, (Trip Tryz.prog 178 #[x_0.val, .int .i64 n3] w4 fun r6 w7 => r6 = .int .i64 n5 ∧ Sub w4 w7) ∧
 IxOk x_0 n3 ∧
 ∃ x8 : Sl, w4.cell? ((elA x_0 n3 3).add 2) = some (x8.val) ∧
 ∃ n9 : Int, Wr .i64 (n5 + (x8.n : Int)) n9 ∧
 ∃ n10 : Int, Wr .i64 (n9 - 1) n10 ∧
 ∃ q11 : Bool, (Trip Tryz.prog 107 #[.int .i64 n_1, .int .i64 n5, .int .i64 n10] w4 fun r12 w13 => r12 = .bool q11 ∧ Sub w4 w13) ∧
 (q11 = true →
 ∃ n14 : Int, Wr .i64 (n3 + 1) n14 ∧
 Q (.int .i64 n14) w4) ∧
 (q11 = false →
 ∃ n15 : Int, Wr .i64 (n3 + 1) n15 ∧
 I1 n15 w4 ∧
 m2 n15 w4 < m2 n3 w4)) ∧
 ((decide (n3 < (x_0.n : Int))) = false →
 Q (.int .i64 (-1)) w4)
theorem of133 (x_0 : Sl) (n_1 : Int) (v : World) (Q : Value → World → Prop) (h : vc133 x_0 n_1 v Q) : Trip Tryz.prog 133 #[x_0.val, .int .i64 n_1] v Q :=
 trip_of_eq (args := [.sl x_0, .num .i64 n_1]) (A := ⟨[(2, [(5, .int .i64)], [])], [], [], [], psG⟩) Tryz.func133 (by kernel_rfl) (by kernel_rfl) (by kernel_rfl : vc133 x_0 n_1 v Q = _) h

def vc134 (x0_0 : Sl) (x0_1 : Sl) (x_1 : Sl) (x_2 : Sl) (x_3 : Sl) (v : World) (Q : Value → World → Prop) : Prop :=
 ((!decide ((x_2.n : Int) = (x_3.n : Int))) = true →
 Q (.bool false) v) ∧
 ((!decide ((x_2.n : Int) = (x_3.n : Int))) = false →
 ∃ I1 : Int → World → Prop, ∃ m2 : Int → World → Nat, I1 0 v ∧
 ∀ n3 : Int, ∀ w4 : World, I1 n3 w4 →
 ((decide (n3 < (x_3.n : Int))) = true →
 IxOk x_2 n3 ∧
 ∃ n5 : Int, ∃ n6 : Int, ∃ x7 : Sl, (w4.cell? ((elA x_2 n3 3).add 0) = some (.int .i64 n5) ∧
 w4.cell? ((elA x_2 n3 3).add 1) = some (.int .i64 n6) ∧
 w4.cell? ((elA x_2 n3 3).add 2) = some (x7.val)) ∧
 ∃ n8 : Int, (Trip Tryz.prog 74 #[.agg #[x0_0.val, x0_1.val], x_1.val, .agg #[.int .i64 n5, .int .i64 n6, x7.val]] w4 fun r9 w10 => r9 = .int .i64 n8 ∧ Sub w4 w10) ∧
 IxOk x_3 n3 ∧
 ∃ n11 : Int, w4.cell? ((elA x_3 n3 1).add 0) = some (.int .i64 n11) ∧
 ((!decide (n8 = n11)) = true →
 Q (.bool false) w4) ∧
 ((!decide (n8 = n11)) = false →
 ∃ n12 : Int, Wr .i64 (n3 + 1) n12 ∧
 ((.sl x0_0 : SV) = .sl x0_0) ∧
 ((.sl x0_1 : SV) = .sl x0_1) ∧
 I1 n12 w4 ∧
 m2 n12 w4 < m2 n3 w4)) ∧
 ((decide (n3 < (x_3.n : Int))) = false →
 Q (.bool true) w4))
theorem of134 (x0_0 : Sl) (x0_1 : Sl) (x_1 : Sl) (x_2 : Sl) (x_3 : Sl) (v : World) (Q : Value → World → Prop) (h : vc134 x0_0 x0_1 x_1 x_2 x_3 v Q) : Trip Tryz.prog 134 #[.agg #[x0_0.val, x0_1.val], x_1.val, x_2.val, x_3.val] v Q :=
 trip_of_eq (args := [.ag [.sl x0_0, .sl x0_1], .sl x_1, .sl x_2, .sl x_3]) (A := ⟨[(4, [(9, .int .i64)], [])], [], [], [], psG⟩) Tryz.func134 (by kernel_rfl) (by kernel_rfl) (by kernel_rfl : vc134 x0_0 x0_1 x_1 x_2 x_3 v Q = _) h

def vc135 (x_0 : Sl) (n_1 : Int) (v : World) (Q : Value → World → Prop) : Prop :=
 ∃ n1 : Int, (Trip Tryz.prog 133 #[x_0.val, .int .i64 n_1] v fun r2 w3 => r2 = .int .i64 n1 ∧ Sub v w3) ∧
 ((decide (n1 < 1)) = true →
 StepT Tryz.prog (Instr.buildSlice 68 0 #[]) v fun r4 w5 =>
 ∃ x6 : Sl, r4 = x6.val ∧
 Q (x6.val) w5) ∧
 ((decide (n1 < 1)) = false →
 ∃ n7 : Int, Wr .i64 (n1 - 1) n7 ∧
 IxOk x_0 n7 ∧
 ∃ x8 : Sl, v.cell? ((elA x_0 n7 3).add 2) = some (x8.val) ∧
 ∃ n9 : Int, Wr .i64 (n1 - 1) n9 ∧
 ∃ n10 : Int, (Trip Tryz.prog 178 #[x_0.val, .int .i64 n9] v fun r11 w12 => r11 = .int .i64 n10 ∧ Sub v w12) ∧
 ∃ n13 : Int, Wr .i64 (n_1 - n10) n13 ∧
 IxOk x8 n13 ∧
 ∃ x14 : Sl, v.cell? ((elA x8 n13 1).add 0) = some (x14.val) ∧
 Q (x14.val) v)
theorem of135 (x_0 : Sl) (n_1 : Int) (v : World) (Q : Value → World → Prop) (h : vc135 x_0 n_1 v Q) : Trip Tryz.prog 135 #[x_0.val, .int .i64 n_1] v Q :=
 trip_of_eq (args := [.sl x_0, .num .i64 n_1]) (A := ⟨[], [], [], [], psG⟩) Tryz.func135 (by kernel_rfl) (by kernel_rfl) (by kernel_rfl : vc135 x_0 n_1 v Q = _) h

def vc136 (x_0 : Sl) (x_1 : Sl) (v : World) (Q : Value → World → Prop) : Prop :=
 Trip Tryz.prog 179 #[x_0.val] v fun r1 w2 =>
 ∃ x3 : Sl, r1 = x3.val ∧
 StepT Tryz.prog (Builtin.append_ #[68, 68] 68 #[(x3.val), (x_1.val)]) w2 fun r4 w5 =>
 ∃ x6 : Sl, r4 = x6.val ∧
 Q (x6.val) w5
theorem of136 (x_0 : Sl) (x_1 : Sl) (v : World) (Q : Value → World → Prop) (h : vc136 x_0 x_1 v Q) : Trip Tryz.prog 136 #[x_0.val, x_1.val] v Q :=
 trip_of_eq (args := [.sl x_0, .sl x_1]) (A := ⟨[], [], [], [], psG⟩) Tryz.func136 (by kernel_rfl) (by kernel_rfl) (by kernel_rfl : vc136 x_0 x_1 v Q = _) h

def vc137 (x0_0 : Sl) (x0_1 : Sl) (x_1 : Sl) (n2_0 : Int) (n2_1 : Int) (x2_2 : Sl) (v : World) (Q : Value → World → Prop) : Prop :=
 Trip Tryz.prog 180 #[x0_0.val, .int .i64 n2_1] v fun r1 w2 =>
 ∃ x3 : Sl, r1 = x3.val ∧
 ∃ n4 : Int, ((decide ((x3.n : Int) = 0)) = false →
 Wr .i64 (1 + (x3.n : Int)) n4) ∧
 (((decide ((x3.n : Int) = 0)) || (!decide ((x2_2.n : Int) = n4))) = false →
 IxOk x2_2 0) ∧
 ∃ n5 : Int, ∃ n6 : Int, ∃ x7 : Sl, (((decide ((x3.n : Int) = 0)) || (!decide ((x2_2.n : Int) = n4))) = false →
 w2.cell? ((elA x2_2 0 3).add 0) = some (.int .i64 n5) ∧
 w2.cell? ((elA x2_2 0 3).add 1) = some (.int .i64 n6) ∧
 w2.cell? ((elA x2_2 0 3).add 2) = some (x7.val)) ∧
 ∃ n8 : Int, (((decide ((x3.n : Int) = 0)) || (!decide ((x2_2.n : Int) = n4))) = false →
 (Trip Tryz.prog 74 #[.agg #[x0_0.val, x0_1.val], x_1.val, .agg #[.int .i64 n5, .int .i64 n6, x7.val]] w2 fun r9 w10 => r9 = .int .i64 n8 ∧ Sub w2 w10)) ∧
 ((((decide ((x3.n : Int) = 0)) || (!decide ((x2_2.n : Int) = n4))) || (!decide (n8 = n2_1))) = true →
 Q (.int .i64 (-1)) w2) ∧
 ((((decide ((x3.n : Int) = 0)) || (!decide ((x2_2.n : Int) = n4))) || (!decide (n8 = n2_1))) = false →
 IxOk x3 0 ∧
 ∃ n11 : Int, w2.cell? ((elA x3 0 1).add 0) = some (.int .i64 n11) ∧
 IxOk x2_2 1 ∧
 ∃ n12 : Int, ∃ n13 : Int, ∃ x14 : Sl, (w2.cell? ((elA x2_2 1 3).add 0) = some (.int .i64 n12) ∧
 w2.cell? ((elA x2_2 1 3).add 1) = some (.int .i64 n13) ∧
 w2.cell? ((elA x2_2 1 3).add 2) = some (x14.val)) ∧
 Trip Tryz.prog 135 #[x0_0.val, .int .i64 n11] w2 fun r15 w16 =>
 ∃ x17 : Sl, r15 = x17.val ∧
 Sub w2 w16 ∧
 Trip Tryz.prog 136 #[x_1.val, x17.val] w16 fun r18 w19 =>
 ∃ x20 : Sl, r18 = x20.val ∧
 Sub w16 w19 ∧
 ∃ n21 : Int, (Trip Tryz.prog 74 #[.agg #[x0_0.val, x0_1.val], x20.val, .agg #[.int .i64 n12, .int .i64 n13, x14.val]] w19 fun r22 w23 => r22 = .int .i64 n21 ∧ Sub w19 w23) ∧
 ∃ I24 : Int → World → Prop, ∃ m25 : Int → World → Nat, I24 1 w19 ∧
 ∀ n26 : Int, ∀ w27 : World, I24 n26 w27 →
 ((decide (n26 < (x3.n : Int))) = true →
 IxOk x3 n26 ∧
 ∃ n28 : Int, w27.cell? ((elA x3 n26 1).add 0) = some (.int .i64 n28) ∧
 ∃ n29 : Int, Wr .i64 (1 + n26) n29 ∧
 IxOk x2_2 n29 ∧
 ∃ n30 : Int, ∃ n31 : Int, ∃ x32 : Sl, (w27.cell? ((elA x2_2 n29 3).add 0) = some (.int .i64 n30) ∧
 w27.cell? ((elA x2_2 n29 3).add 1) = some (.int .i64 n31) ∧
 w27.cell? ((elA x2_2 n29 3).add 2) = some (x32.val)) ∧
 Trip Tryz.prog 135 #[x0_0.val, .int .i64 n28] w27 fun r33 w34 =>
 ∃ x35 : Sl, r33 = x35.val ∧
 Sub w27 w34 ∧
 Trip Tryz.prog 136 #[x_1.val, x35.val] w34 fun r36 w37 =>
 ∃ x38 : Sl, r36 = x38.val ∧
 Sub w34 w37 ∧
 ∃ n39 : Int, (Trip Tryz.prog 74 #[.agg #[x0_0.val, x0_1.val], x38.val, .agg #[.int .i64 n30, .int .i64 n31, x32.val]] w37 fun r40 w41 => r40 = .int .i64 n39 ∧ Sub w37 w41) ∧
 ((!decide (n39 = n21)) = true →
 Q (.int .i64 (-1)) w37) ∧
 ((!decide (n39 = n21)) = false →
 ∃ n42 : Int, Wr .i64 (n26 + 1) n42 ∧
 ((.sl x0_0 : SV) = .sl x0_0) ∧
 ((.sl x0_1 : SV) = .sl x0_1) ∧
 ((.num .i64 n2_0 : SV) = .num .i64 n2_0) ∧
 ((.num .i64 n2_1 : SV) = .num .i64 n2_1) ∧
 ((.sl x2_2 : SV) = .sl x2_2) ∧
 I24 n42 w37 ∧
 m25 n42 w37 < m25 n26 w27)) ∧
 ((decide (n26 < (x3.n : Int))) = false →
 Q (.int .i64 n21) w27))
theorem of137 (x0_0 : Sl) (x0_1 : Sl) (x_1 : Sl) (n2_0 : Int) (n2_1 : Int) (x2_2 : Sl) (v : World) (Q : Value → World → Prop) (h : vc137 x0_0 x0_1 x_1 n2_0 n2_1 x2_2 v Q) : Trip Tryz.prog 137 #[.agg #[x0_0.val, x0_1.val], x_1.val, .agg #[.int .i64 n2_0, .int .i64 n2_1, x2_2.val]] v Q :=
 trip_of_eq (args := [.ag [.sl x0_0, .sl x0_1], .sl x_1, .ag [.num .i64 n2_0, .num .i64 n2_1, .sl x2_2]]) (A := ⟨[(6, [(9, .int .i64)], [])], [], [(4, [7, 8]), (8, [8, 9])], [], psG⟩) Tryz.func137 (by kernel_rfl) (by kernel_rfl) (by kernel_rfl : vc137 x0_0 x0_1 x_1 n2_0 n2_1 x2_2 v Q = _) h

def vc138 (x0_0 : Sl) (x0_1 : Sl) (x_1 : Sl) (n2_0 : Int) (n2_1 : Int) (x2_2 : Sl) (v : World) (Q : Value → World → Prop) : Prop :=
 ∃ n1 : Int, Wr .i64 ((x0_1.n : Int) - 1) n1 ∧
 ∃ q2 : Bool, (Trip Tryz.prog 107 #[.int .i64 n2_1, .int .i64 0, .int .i64 n1] v fun r3 w4 => r3 = .bool q2 ∧ Sub v w4) ∧
 ((!q2) = true →
 Q (.int .i64 (-1)) v) ∧
 ((!q2) = false →
 IxOk x0_1 n2_1 ∧
 ∃ x5 : Sl, ∃ n6 : Int, ∃ n7 : Int, ∃ n8 : Int, ∃ x9 : Sl, (v.cell? ((elA x0_1 n2_1 5).add 0) = some (x5.val) ∧
 v.cell? ((elA x0_1 n2_1 5).add 1) = some (.int .i64 n6) ∧
 v.cell? ((elA x0_1 n2_1 5).add 2) = some (.int .i64 n7) ∧
 v.cell? ((elA x0_1 n2_1 5).add 3) = some (.int .i64 n8) ∧
 v.cell? ((elA x0_1 n2_1 5).add 4) = some (x9.val)) ∧
 ((decide (n2_0 = 9)) = true →
 ∃ q10 : Bool, (Trip Tryz.prog 134 #[.agg #[x0_0.val, x0_1.val], x_1.val, x2_2.val, x5.val] v fun r11 w12 => r11 = .bool q10 ∧ Sub v w12) ∧
 ((!q10) = true →
 Q (.int .i64 (-1)) v) ∧
 ((!q10) = false →
 Q (.int .i64 n6) v)) ∧
 ((decide (n2_0 = 9)) = false →
 ∃ n13 : Int, ((decide ((x5.n : Int) = 0)) = false →
 Wr .i64 ((x5.n : Int) - 1) n13) ∧
 ((decide ((x5.n : Int) = 0)) = false →
 CutOk x5 0 n13) ∧
 ∃ q14 : Bool, ((decide ((x5.n : Int) = 0)) = false →
 (Trip Tryz.prog 134 #[.agg #[x0_0.val, x0_1.val], x_1.val, x2_2.val, (x5.cut 0 n13 1).val] v fun r15 w16 => r15 = .bool q14 ∧ Sub v w16)) ∧
 (((decide ((x5.n : Int) = 0)) || (!q14)) = true →
 Q (.int .i64 (-1)) v) ∧
 (((decide ((x5.n : Int) = 0)) || (!q14)) = false →
 ∃ n17 : Int, Wr .i64 ((x5.n : Int) - 1) n17 ∧
 IxOk x5 n17 ∧
 ∃ n18 : Int, v.cell? ((elA x5 n17 1).add 0) = some (.int .i64 n18) ∧
 ∃ n19 : Int, (Trip Tryz.prog 181 #[x0_0.val, .int .i64 n18, .int .i64 n6] v fun r20 w21 => r20 = .int .i64 n19 ∧ Sub v w21) ∧
 Q (.int .i64 n19) v)))
theorem of138 (x0_0 : Sl) (x0_1 : Sl) (x_1 : Sl) (n2_0 : Int) (n2_1 : Int) (x2_2 : Sl) (v : World) (Q : Value → World → Prop) (h : vc138 x0_0 x0_1 x_1 n2_0 n2_1 x2_2 v Q) : Trip Tryz.prog 138 #[.agg #[x0_0.val, x0_1.val], x_1.val, .agg #[.int .i64 n2_0, .int .i64 n2_1, x2_2.val]] v Q :=
 trip_of_eq (args := [.ag [.sl x0_0, .sl x0_1], .sl x_1, .ag [.num .i64 n2_0, .num .i64 n2_1, .sl x2_2]]) (A := ⟨[], [], [], [], psG⟩) Tryz.func138 (by kernel_rfl) (by kernel_rfl) (by kernel_rfl : vc138 x0_0 x0_1 x_1 n2_0 n2_1 x2_2 v Q = _) h

def vc139 (x_0 : Sl) (n_1 : Int) (v : World) (Q : Value → World → Prop) : Prop :=
 ∃ q1 : Bool, (Trip Tryz.prog 107 #[.int .i64 n_1, .int .i64 1, .int .i64 (x_0.n : Int)] v fun r2 w3 => r2 = .bool q1 ∧ Sub v w3) ∧
 ∃ n4 : Int, (q1 = true →
 Wr .i64 (n_1 - 1) n4) ∧
 (q1 = true →
 IxOk x_0 n4) ∧
 ∃ x5 : Sl, (q1 = true →
 v.cell? ((elA x_0 n4 3).add 2) = some (x5.val)) ∧
 Q (.bool (q1 && (decide ((x5.n : Int) = 0)))) v
theorem of139 (x_0 : Sl) (n_1 : Int) (v : World) (Q : Value → World → Prop) (h : vc139 x_0 n_1 v Q) : Trip Tryz.prog 139 #[x_0.val, .int .i64 n_1] v Q :=
 trip_of_eq (args := [.sl x_0, .num .i64 n_1]) (A := ⟨[], [], [], [], psG⟩) Tryz.func139 (by kernel_rfl) (by kernel_rfl) (by kernel_rfl : vc139 x_0 n_1 v Q = _) h

def vc140 (x_0 : Sl) (v : World) (Q : Value → World → Prop) : Prop :=
 StepT Tryz.prog (Instr.makeSlice 60 (.int .i64 (x_0.n : Int)) (.int .i64 (x_0.n : Int))) v fun r1 w2 =>
 ∃ x3 : Sl, r1 = x3.val ∧
 ∃ I4 : Int → World → Prop, ∃ m5 : Int → World → Nat, I4 0 w2 ∧
 ∀ n6 : Int, ∀ w7 : World, I4 n6 w7 →
 ((decide (n6 < (x_0.n : Int))) = true →
 IxOk x_0 n6 ∧
 ∃ x8 : Sl, w7.cell? ((elA x_0 n6 1).add 0) = some (x8.val) ∧
 Trip Tryz.prog 182 #[.agg #[x8.val]] w7 fun r9 w10 =>
 ∃ x11 : Sl, r9 = .agg #[x11.val] ∧
 IxOk x3 n6 ∧
 StoreAt w10 (elA x3 n6 1) 0 [x11.val] fun w12 =>
 ∃ n13 : Int, Wr .i64 (n6 + 1) n13 ∧
 I4 n13 w12 ∧
 m5 n13 w12 < m5 n6 w7) ∧
 ((decide (n6 < (x_0.n : Int))) = false →
 Q (x3.val) w7)
theorem of140 (x_0 : Sl) (v : World) (Q : Value → World → Prop) (h : vc140 x_0 v Q) : Trip Tryz.prog 140 #[x_0.val] v Q :=
 trip_of_eq (args := [.sl x_0]) (A := ⟨[(3, [(4, .int .i64)], [])], [], [], [], psG⟩) Tryz.func140 (by kernel_rfl) (by kernel_rfl) (by kernel_rfl : vc140 x_0 v Q = _) h

def vc141 (x_0 : Sl) (v : World) (Q : Value → World → Prop) : Prop :=
 StepT Tryz.prog (Instr.makeSlice 68 (.int .i64 (x_0.n : Int)) (.int .i64 (x_0.n : Int))) v fun r1 w2 =>
 ∃ x3 : Sl, r1 = x3.val ∧
 ∃ I4 : Int → World → Prop, ∃ m5 : Int → World → Nat, I4 0 w2 ∧
 ∀ n6 : Int, ∀ w7 : World, I4 n6 w7 →
 ((decide (n6 < (x_0.n : Int))) = true →
 IxOk x_0 n6 ∧
 ∃ n8 : Int, w7.cell? ((elA x_0 n6 1).add 0) = some (.int .i64 n8) ∧
 IxOk x3 n6 ∧
 StoreAt w7 (elA x3 n6 1) 0 [.int .i64 n8] fun w9 =>
 ∃ n10 : Int, Wr .i64 (n6 + 1) n10 ∧
 I4 n10 w9 ∧
 m5 n10 w9 < m5 n6 w7) ∧
 ((decide (n6 < (x_0.n : Int))) = false →
 Q (x3.val) w7)
theorem of141 (x_0 : Sl) (v : World) (Q : Value → World → Prop) (h : vc141 x_0 v Q) : Trip Tryz.prog 141 #[x_0.val] v Q :=
 trip_of_eq (args := [.sl x_0]) (A := ⟨[(3, [(4, .int .i64)], [])], [], [], [], psG⟩) Tryz.func141 (by kernel_rfl) (by kernel_rfl) (by kernel_rfl : vc141 x_0 v Q = _) h

def vc142 (n0_0 : Int) (n0_1 : Int) (x0_2 : Sl) (v : World) (Q : Value → World → Prop) : Prop :=
 Trip Tryz.prog 183 #[x0_2.val] v fun r1 w2 =>
 ∃ x3 : Sl, r1 = x3.val ∧
 Q (.agg #[.int .i64 n0_0, .int .i64 n0_1, x3.val]) w2
theorem of142 (n0_0 : Int) (n0_1 : Int) (x0_2 : Sl) (v : World) (Q : Value → World → Prop) (h : vc142 n0_0 n0_1 x0_2 v Q) : Trip Tryz.prog 142 #[.agg #[.int .i64 n0_0, .int .i64 n0_1, x0_2.val]] v Q :=
 trip_of_eq (args := [.ag [.num .i64 n0_0, .num .i64 n0_1, .sl x0_2]]) (A := ⟨[], [], [], [], psG⟩) Tryz.func142 (by kernel_rfl) (by kernel_rfl) (by kernel_rfl : vc142 n0_0 n0_1 x0_2 v Q = _) h

def vc146 (x_0 : Sl) (x_1 : Sl) (v : World) (Q : Value → World → Prop) : Prop :=
 ((!decide ((x_0.n : Int) = (x_1.n : Int))) = true →
 Q (.bool false) v) ∧
 ((!decide ((x_0.n : Int) = (x_1.n : Int))) = false →
 ∃ I1 : Int → World → Prop, ∃ m2 : Int → World → Nat, I1 0 v ∧
 ∀ n3 : Int, ∀ w4 : World, I1 n3 w4 →
 ((decide (n3 < (x_0.n : Int))) = true →
 IxOk x_0 n3 ∧
 ∃ x5 : Sl, w4.cell? ((elA x_0 n3 1).add 0) = some (x5.val) ∧
 IxOk x_1 n3 ∧
 ∃ x6 : Sl, w4.cell? ((elA x_1 n3 1).add 0) = some (x6.val) ∧
 ∃ q7 : Bool, (Trip Tryz.prog 189 #[.agg #[x5.val], .agg #[x6.val]] w4 fun r8 w9 => r8 = .bool q7 ∧ Sub w4 w9) ∧
 ((!q7) = true →
 Q (.bool false) w4) ∧
 ((!q7) = false →
 ∃ n10 : Int, Wr .i64 (n3 + 1) n10 ∧
 I1 n10 w4 ∧
 m2 n10 w4 < m2 n3 w4)) ∧
 ((decide (n3 < (x_0.n : Int))) = false →
 Q (.bool true) w4))
theorem of146 (x_0 : Sl) (x_1 : Sl) (v : World) (Q : Value → World → Prop) (h : vc146 x_0 x_1 v Q) : Trip Tryz.prog 146 #[x_0.val, x_1.val] v Q :=
 trip_of_eq (args := [.sl x_0, .sl x_1]) (A := ⟨[(4, [(5, .int .i64)], [])], [], [], [], psG⟩) Tryz.func146 (by kernel_rfl) (by kernel_rfl) (by kernel_rfl : vc146 x_0 x_1 v Q = _) h

def vc147 (x_0 : Sl) (x_1 : Sl) (v : World) (Q : Value → World → Prop) : Prop :=
 ((!decide ((x_0.n : Int) = (x_1.n : Int))) = true →
 Q (.bool false) v) ∧
 ((!decide ((x_0.n : Int) = (x_1.n : Int))) = false →
 ∃ I1 : Int → World → Prop, ∃ m2 : Int → World → Nat, I1 0 v ∧
 ∀ n3 : Int, ∀ w4 : World, I1 n3 w4 →
 ((decide (n3 < (x_0.n : Int))) = true →
 IxOk x_0 n3 ∧
 ∃ n5 : Int, w4.cell? ((elA x_0 n3 1).add 0) = some (.int .i64 n5) ∧
 IxOk x_1 n3 ∧
 ∃ n6 : Int, w4.cell? ((elA x_1 n3 1).add 0) = some (.int .i64 n6) ∧
 ((!decide (n5 = n6)) = true →
 Q (.bool false) w4) ∧
 ((!decide (n5 = n6)) = false →
 ∃ n7 : Int, Wr .i64 (n3 + 1) n7 ∧
 I1 n7 w4 ∧
 m2 n7 w4 < m2 n3 w4)) ∧
 ((decide (n3 < (x_0.n : Int))) = false →
 Q (.bool true) w4))
theorem of147 (x_0 : Sl) (x_1 : Sl) (v : World) (Q : Value → World → Prop) (h : vc147 x_0 x_1 v Q) : Trip Tryz.prog 147 #[x_0.val, x_1.val] v Q :=
 trip_of_eq (args := [.sl x_0, .sl x_1]) (A := ⟨[(4, [(5, .int .i64)], [])], [], [], [], psG⟩) Tryz.func147 (by kernel_rfl) (by kernel_rfl) (by kernel_rfl : vc147 x_0 x_1 v Q = _) h

def vc148 (n0_0 : Int) (n0_1 : Int) (x0_2 : Sl) (n1_0 : Int) (n1_1 : Int) (x1_2 : Sl) (v : World) (Q : Value → World → Prop) : Prop :=
 ((!decide (n0_0 = n1_0)) = true →
 Q (.bool false) v) ∧
 ((!decide (n0_0 = n1_0)) = false →
 ((!decide (n0_1 = n1_1)) = true →
 Q (.bool false) v) ∧
 ((!decide (n0_1 = n1_1)) = false →
 ∃ q1 : Bool, (Trip Tryz.prog 190 #[x0_2.val, x1_2.val] v fun r2 w3 => r2 = .bool q1 ∧ Sub v w3) ∧
 ((!q1) = true →
 Q (.bool false) v) ∧
 ((!q1) = false →
 Q (.bool true) v)))
theorem of148 (n0_0 : Int) (n0_1 : Int) (x0_2 : Sl) (n1_0 : Int) (n1_1 : Int) (x1_2 : Sl) (v : World) (Q : Value → World → Prop) (h : vc148 n0_0 n0_1 x0_2 n1_0 n1_1 x1_2 v Q) : Trip Tryz.prog 148 #[.agg #[.int .i64 n0_0, .int .i64 n0_1, x0_2.val], .agg #[.int .i64 n1_0, .int .i64 n1_1, x1_2.val]] v Q :=
 trip_of_eq (args := [.ag [.num .i64 n0_0, .num .i64 n0_1, .sl x0_2], .ag [.num .i64 n1_0, .num .i64 n1_1, .sl x1_2]]) (A := ⟨[], [], [], [], psG⟩) Tryz.func148 (by kernel_rfl) (by kernel_rfl) (by kernel_rfl : vc148 n0_0 n0_1 x0_2 n1_0 n1_1 x1_2 v Q = _) h

def vc169 (x_0 : Sl) (v : World) (Q : Value → World → Prop) : Prop :=
 ((decide ((x_0.n : Int) > 4)) = true →
 Q (.bool false) v) ∧
 ((decide ((x_0.n : Int) > 4)) = false →
 ∃ I1 : Int → World → Prop, ∃ m2 : Int → World → Nat, I1 0 v ∧
 ∀ n3 : Int, ∀ w4 : World, I1 n3 w4 →
 ((decide (n3 < (x_0.n : Int))) = true →
 IxOk x_0 n3 ∧
 ∃ n5 : Int, ∃ n6 : Int, ∃ x7 : Sl, (w4.cell? ((elA x_0 n3 3).add 0) = some (.int .i64 n5) ∧
 w4.cell? ((elA x_0 n3 3).add 1) = some (.int .i64 n6) ∧
 w4.cell? ((elA x_0 n3 3).add 2) = some (x7.val)) ∧
 ∃ q8 : Bool, (Trip Tryz.prog 170 #[x_0.val, .int .i64 n5] w4 fun r9 w10 => r9 = .bool q8 ∧ Sub w4 w10) ∧
 ∃ q11 : Bool, ((!q8) = false →
 (Trip Tryz.prog 170 #[x_0.val, .int .i64 n6] w4 fun r12 w13 => r12 = .bool q11 ∧ Sub w4 w13)) ∧
 (((((!q8) || (!q11)) || (decide ((x7.n : Int) > 3))) || ((decide ((x7.n : Int) > 0)) && ((!decide (n5 = 0)) || (!decide (n6 = 0))))) = true →
 Q (.bool false) w4) ∧
 (((((!q8) || (!q11)) || (decide ((x7.n : Int) > 3))) || ((decide ((x7.n : Int) > 0)) && ((!decide (n5 = 0)) || (!decide (n6 = 0))))) = false →
 ∃ I14 : Int → World → Prop, ∃ m15 : Int → World → Nat, I14 0 w4 ∧
 ∀ n16 : Int, ∀ w17 : World, I14 n16 w17 →
 ((decide (n16 < (x7.n : Int))) = true →
 IxOk x7 n16 ∧
 ∃ x18 : Sl, w17.cell? ((elA x7 n16 1).add 0) = some (x18.val) ∧
 ∃ q19 : Bool, ((decide ((x18.n : Int) > 3)) = false →
 (Trip Tryz.prog 123 #[x_0.val, x18.val] w17 fun r20 w21 => r20 = .bool q19 ∧ Sub w17 w21)) ∧
 (((decide ((x18.n : Int) > 3)) || (!q19)) = true →
 Q (.bool false) w17) ∧
 (((decide ((x18.n : Int) > 3)) || (!q19)) = false →
 ∃ n22 : Int, Wr .i64 (n16 + 1) n22 ∧
 ((.num .i64 n5 : SV) = .num .i64 n5) ∧
 ((.num .i64 n6 : SV) = .num .i64 n6) ∧
 ((.sl x7 : SV) = .sl x7) ∧
 I14 n22 w17 ∧
 m15 n22 w17 < m15 n16 w17)) ∧
 ((decide (n16 < (x7.n : Int))) = false →
 CutOk x_0 0 n3 ∧
 ∃ I23 : Int → World → Prop, ∃ m24 : Int → World → Nat, I23 0 w17 ∧
 ∀ n25 : Int, ∀ w26 : World, I23 n25 w26 →
 ((decide (n25 < ((x_0.cut 0 n3 3).n : Int))) = true →
 IxOk (x_0.cut 0 n3 3) n25 ∧
 ∃ n27 : Int, ∃ n28 : Int, ∃ x29 : Sl, (w26.cell? ((elA (x_0.cut 0 n3 3) n25 3).add 0) = some (.int .i64 n27) ∧
 w26.cell? ((elA (x_0.cut 0 n3 3) n25 3).add 1) = some (.int .i64 n28) ∧
 w26.cell? ((elA (x_0.cut 0 n3 3) n25 3).add 2) = some (x29.val)) ∧
 (((((decide ((x7.n : Int) = 0)) && (decide ((x29.n : Int) = 0))) && (decide (n27 = n5))) && (decide (n28 = n6))) = true →
 Q (.bool false) w26) ∧
 (((((decide ((x7.n : Int) = 0)) && (decide ((x29.n : Int) = 0))) && (decide (n27 = n5))) && (decide (n28 = n6))) = false →
 ∃ n30 : Int, Wr .i64 (n25 + 1) n30 ∧
 ((.num .i64 n5 : SV) = .num .i64 n5) ∧
 ((.num .i64 n6 : SV) = .num .i64 n6) ∧
 ((.sl x7 : SV) = .sl x7) ∧
 I23 n30 w26 ∧
 m24 n30 w26 < m24 n25 w26)) ∧
 ((decide (n25 < ((x_0.cut 0 n3 3).n : Int))) = false →
 ∃ n31 : Int, Wr .i64 (n3 + 1) n31 ∧
 I1 n31 w26 ∧
 m2 n31 w26 < m2 n3 w4)))) ∧
 ((decide (n3 < (x_0.n : Int))) = false →
 Q (.bool true) w4))
theorem of169 (x_0 : Sl) (v : World) (Q : Value → World → Prop) (h : vc169 x_0 v Q) : Trip Tryz.prog 169 #[x_0.val] v Q :=
 trip_of_eq (args := [.sl x_0]) (A := ⟨[(4, [(14, .int .i64)], []), (9, [(56, .int .i64)], []), (15, [(76, .int .i64)], [])], [], [], [], psG⟩) Tryz.func169 (by kernel_rfl) (by kernel_rfl) (by kernel_rfl : vc169 x_0 v Q = _) h

def vc170 (x_0 : Sl) (n_1 : Int) (v : World) (Q : Value → World → Prop) : Prop :=
 Q (.bool ((decide (n_1 ≥ 0)) && (decide (n_1 ≤ (x_0.n : Int))))) v
theorem of170 (x_0 : Sl) (n_1 : Int) (v : World) (Q : Value → World → Prop) (h : vc170 x_0 n_1 v Q) : Trip Tryz.prog 170 #[x_0.val, .int .i64 n_1] v Q :=
 trip_of_eq (args := [.sl x_0, .num .i64 n_1]) (A := ⟨[], [], [], [], psG⟩) Tryz.func170 (by kernel_rfl) (by kernel_rfl) (by kernel_rfl : vc170 x_0 n_1 v Q = _) h

def vc171 (x0_0 : Sl) (x0_1 : Sl) (x_1 : Sl) (x_2 : Sl) (x_3 : Sl) (v : World) (Q : Value → World → Prop) : Prop :=
 ∃ I1 : Int → Int → World → Prop, ∃ m2 : Int → Int → World → Nat, I1 (-1) 0 v ∧
 ∀ n3 : Int, ∀ n4 : Int, ∀ w5 : World, I1 n3 n4 w5 →
 ((decide (n4 < (x_2.n : Int))) = true →
 IxOk x_2 n4 ∧
 ∃ n6 : Int, ∃ n7 : Int, ∃ x8 : Sl, (w5.cell? ((elA x_2 n4 3).add 0) = some (.int .i64 n6) ∧
 w5.cell? ((elA x_2 n4 3).add 1) = some (.int .i64 n7) ∧
 w5.cell? ((elA x_2 n4 3).add 2) = some (x8.val)) ∧
 IxOk x_3 n4 ∧
 ∃ x9 : Sl, w5.cell? ((elA x_3 n4 1).add 0) = some (x9.val) ∧
 StepT Tryz.prog (Instr.buildSlice 189 2 #[(0, (x_1.val)), (1, (x9.val))]) w5 fun r10 w11 =>
 ∃ x12 : Sl, r10 = x12.val ∧
 Sub w5 w11 ∧
 Trip Tryz.prog 212 #[x12.val] w11 fun r13 w14 =>
 ∃ x15 : Sl, r13 = x15.val ∧
 Sub w11 w14 ∧
 Trip Tryz.prog 125 #[.agg #[x0_0.val, x0_1.val], x15.val, .agg #[.int .i64 n6, .int .i64 n7, x8.val]] w14 fun r16 w17 =>
 ∃ n18 : Int, r16 = .int .i64 n18 ∧
 (((decide (n18 < 0)) || ((decide (n4 > 0)) && (!decide (n18 = n3)))) = true →
 Q (.int .i64 (-1)) w17) ∧
 (((decide (n18 < 0)) || ((decide (n4 > 0)) && (!decide (n18 = n3)))) = false →
 ∃ n19 : Int, Wr .i64 (n4 + 1) n19 ∧
 ((.sl x0_0 : SV) = .sl x0_0) ∧
 ((.sl x0_1 : SV) = .sl x0_1) ∧
 I1 n18 n19 w17 ∧
 m2 n18 n19 w17 < m2 n3 n4 w5)) ∧
 ((decide (n4 < (x_2.n : Int))) = false →
 Q (.int .i64 n3) w5)
theorem of171 (x0_0 : Sl) (x0_1 : Sl) (x_1 : Sl) (x_2 : Sl) (x_3 : Sl) (v : World) (Q : Value → World → Prop) (h : vc171 x0_0 x0_1 x_1 x_2 x_3 v Q) : Trip Tryz.prog 171 #[.agg #[x0_0.val, x0_1.val], x_1.val, x_2.val, x_3.val] v Q :=
 trip_of_eq (args := [.ag [.sl x0_0, .sl x0_1], .sl x_1, .sl x_2, .sl x_3]) (A := ⟨[(3, [(9, .int .i64), (15, .int .i64)], [])], [], [(5, [6, 7])], [], psG⟩) Tryz.func171 (by kernel_rfl) (by kernel_rfl) (by kernel_rfl : vc171 x0_0 x0_1 x_1 x_2 x_3 v Q = _) h

def vc172 (x_0 : Sl) (n_1 : Int) (v : World) (Q : Value → World → Prop) : Prop :=
 (((decide (n_1 < 1)) || (decide (n_1 > (x_0.n : Int)))) = true →
 Q (.slice none 0 0) v) ∧
 (((decide (n_1 < 1)) || (decide (n_1 > (x_0.n : Int)))) = false →
 ∃ n1 : Int, Wr .i64 (n_1 - 1) n1 ∧
 CutOk x_0 0 n1 ∧
 ∃ n2 : Int, (Trip Tryz.prog 213 #[(x_0.cut 0 n1 3).val] v fun r3 w4 => r3 = .int .i64 n2 ∧ Sub v w4) ∧
 ∃ n5 : Int, Wr .i64 (n_1 - 1) n5 ∧
 IxOk x_0 n5 ∧
 ∃ x6 : Sl, v.cell? ((elA x_0 n5 3).add 2) = some (x6.val) ∧
 ∃ I7 : Sl → Int → World → Prop, ∃ m8 : Sl → Int → World → Nat, I7 (Sl.mk none 0 0) 0 v ∧
 ∀ x9 : Sl, ∀ n10 : Int, ∀ w11 : World, I7 x9 n10 w11 →
 ((decide (n10 < (x6.n : Int))) = true →
 ∃ n12 : Int, Wr .i64 (n2 + n10) n12 ∧
 StepT Tryz.prog (Instr.buildSlice 68 1 #[(0, (.int .i64 n12))]) w11 fun r13 w14 =>
 ∃ x15 : Sl, r13 = x15.val ∧
 StepT Tryz.prog (Builtin.append_ #[68, 68] 68 #[(x9.val), (x15.val)]) w14 fun r16 w17 =>
 ∃ x18 : Sl, r16 = x18.val ∧
 ∃ n19 : Int, Wr .i64 (n10 + 1) n19 ∧
 I7 x18 n19 w17 ∧
 m8 x18 n19 w17 < m8 x9 n10 w11) ∧
 ((decide (n10 < (x6.n : Int))) = false →
 Q (x9.val) w11))
theorem of172 (x_0 : Sl) (n_1 : Int) (v : World) (Q : Value → World → Prop) (h : vc172 x_0 n_1 v Q) : Trip Tryz.prog 172 #[x_0.val, .int .i64 n_1] v Q :=
 trip_of_eq (args := [.sl x_0, .num .i64 n_1]) (A := ⟨[(6, [(6, .sl), (28, .int .i64)], [])], [], [], [], psG⟩) Tryz.func172 (by kernel_rfl) (by kernel_rfl) (by kernel_rfl : vc172 x_0 n_1 v Q = _) h

def vc173 (x_0 : Sl) (n_1 : Int) (v : World) (Q : Value → World → Prop) : Prop :=
 ∃ n1 : Int, ∃ x2 : Sl, (Trip Tryz.prog 214 #[x_0.val, .int .i64 n_1] v fun r3 w4 => r3 = .tuple #[.int .i64 n1, .agg #[x2.val]] ∧ Sub v w4) ∧
 Q (x2.val) v
theorem of173 (x_0 : Sl) (n_1 : Int) (v : World) (Q : Value → World → Prop) (h : vc173 x_0 n_1 v Q) : Trip Tryz.prog 173 #[x_0.val, .int .i64 n_1] v Q :=
 trip_of_eq (args := [.sl x_0, .num .i64 n_1]) (A := ⟨[], [], [], [], psG⟩) Tryz.func173 (by kernel_rfl) (by kernel_rfl) (by kernel_rfl : vc173 x_0 n_1 v Q = _) h

def vc174 (x0_0 : Sl) (x0_1 : Sl) (n_1 : Int) (n_2 : Int) (x_3 : Sl) (v : World) (Q : Value → World → Prop) : Prop :=
 ((decide (n_1 = 0)) = true →
 Q (.tuple #[.int .i64 0, .bool (((decide (n_2 ≥ (-999))) && (decide (n_2 ≤ 999))) && (decide ((x_3.n : Int) = 0)))]) v) ∧
 ((decide (n_1 = 0)) = false →
 ((decide (n_1 = 1)) = true →
 StepT Tryz.prog (Instr.buildSlice 68 2 #[(0, (.int .i64 0)), (1, (.int .i64 0))]) v fun r1 w2 =>
 ∃ x3 : Sl, r1 = x3.val ∧
 ∃ q4 : Bool, ((decide (n_2 = 0)) = true →
 (Trip Tryz.prog 216 #[x_3.val, x3.val] w2 fun r5 w6 => r5 = .bool q4 ∧ Sub w2 w6)) ∧
 Q (.tuple #[.int .i64 0, .bool ((decide (n_2 = 0)) && q4)]) w2) ∧
 ((decide (n_1 = 1)) = false →
 ((decide (n_1 = 2)) = true →
 StepT Tryz.prog (Instr.buildSlice 68 2 #[(0, (.int .i64 0)), (1, (.int .i64 0))]) v fun r7 w8 =>
 ∃ x9 : Sl, r7 = x9.val ∧
 ∃ q10 : Bool, ((decide (n_2 = 0)) = true →
 (Trip Tryz.prog 216 #[x_3.val, x9.val] w8 fun r11 w12 => r11 = .bool q10 ∧ Sub w8 w12)) ∧
 Q (.tuple #[.int .i64 0, .bool ((decide (n_2 = 0)) && q10)]) w8) ∧
 ((decide (n_1 = 2)) = false →
 ((decide (n_1 = 3)) = true →
 StepT Tryz.prog (Instr.buildSlice 68 2 #[(0, (.int .i64 0)), (1, (.int .i64 0))]) v fun r13 w14 =>
 ∃ x15 : Sl, r13 = x15.val ∧
 ∃ q16 : Bool, ((decide (n_2 = 0)) = true →
 (Trip Tryz.prog 216 #[x_3.val, x15.val] w14 fun r17 w18 => r17 = .bool q16 ∧ Sub w14 w18)) ∧
 Q (.tuple #[.int .i64 0, .bool ((decide (n_2 = 0)) && q16)]) w14) ∧
 ((decide (n_1 = 3)) = false →
 ((decide (n_1 = 4)) = true →
 StepT Tryz.prog (Instr.buildSlice 68 2 #[(0, (.int .i64 0)), (1, (.int .i64 0))]) v fun r19 w20 =>
 ∃ x21 : Sl, r19 = x21.val ∧
 ∃ q22 : Bool, ((decide (n_2 = 0)) = true →
 (Trip Tryz.prog 216 #[x_3.val, x21.val] w20 fun r23 w24 => r23 = .bool q22 ∧ Sub w20 w24)) ∧
 Q (.tuple #[.int .i64 0, .bool ((decide (n_2 = 0)) && q22)]) w20) ∧
 ((decide (n_1 = 4)) = false →
 ((decide (n_1 = 5)) = true →
 StepT Tryz.prog (Instr.buildSlice 68 1 #[(0, (.int .i64 0))]) v fun r25 w26 =>
 ∃ x27 : Sl, r25 = x27.val ∧
 ∃ q28 : Bool, ((decide (n_2 = 0)) = true →
 (Trip Tryz.prog 216 #[x_3.val, x27.val] w26 fun r29 w30 => r29 = .bool q28 ∧ Sub w26 w30)) ∧
 Q (.tuple #[.int .i64 0, .bool ((decide (n_2 = 0)) && q28)]) w26) ∧
 ((decide (n_1 = 5)) = false →
 ((decide (n_1 = 11)) = true →
 ((!decide ((x_3.n : Int) = 2)) = true →
 Q (.tuple #[.int .i64 (-1), .bool false]) v) ∧
 ((!decide ((x_3.n : Int) = 2)) = false →
 IxOk x_3 0 ∧
 ∃ n31 : Int, v.cell? ((elA x_3 0 1).add 0) = some (.int .i64 n31) ∧
 ∃ n32 : Int, ∃ n33 : Int, ∃ x34 : Sl, ∃ q35 : Bool, (Trip Tryz.prog 215 #[x0_0.val, .int .i64 n31] v fun r36 w37 => r36 = .tuple #[.agg #[.int .i64 n32, .int .i64 n33, x34.val], .bool q35] ∧ Sub v w37) ∧
 Sub v v ∧
 (q35 = true →
 IxOk x_3 1) ∧
 ∃ n38 : Int, (q35 = true →
 v.cell? ((elA x_3 1 1).add 0) = some (.int .i64 n38)) ∧
 Q (.tuple #[.int .i64 n33, .bool ((q35 && (decide (n38 = n32))) && (decide (n_2 = 0)))]) v)) ∧
 ((decide (n_1 = 11)) = false →
 ((decide (n_1 = 6)) = true →
 ∃ n39 : Int, ∃ x40 : Sl, (Trip Tryz.prog 214 #[x0_0.val, .int .i64 n_2] v fun r41 w42 => r41 = .tuple #[.int .i64 n39, .agg #[x40.val]] ∧ Sub v w42) ∧
 ∃ q43 : Bool, ((decide (n39 ≥ 0)) = true →
 (Trip Tryz.prog 216 #[x_3.val, x40.val] v fun r44 w45 => r44 = .bool q43 ∧ Sub v w45)) ∧
 Q (.tuple #[.int .i64 n39, .bool ((decide (n39 ≥ 0)) && q43)]) v) ∧
 ((decide (n_1 = 6)) = false →
 ((decide (n_1 = 9)) = true →
 (((decide (n_2 < 0)) || (decide (n_2 ≥ (x0_1.n : Int)))) = true →
 Q (.tuple #[.int .i64 (-1), .bool false]) v) ∧
 (((decide (n_2 < 0)) || (decide (n_2 ≥ (x0_1.n : Int)))) = false →
 IxOk x0_1 n_2 ∧
 ∃ x46 : Sl, v.cell? ((elA x0_1 n_2 3).add 0) = some (x46.val) ∧
 IxOk x0_1 n_2 ∧
 ∃ n47 : Int, v.cell? ((elA x0_1 n_2 3).add 2) = some (.int .i64 n47) ∧
 ((decide (n_1 = 9)) = true →
 ∃ q48 : Bool, (Trip Tryz.prog 216 #[x_3.val, x46.val] v fun r49 w50 => r49 = .bool q48 ∧ Sub v w50) ∧
 Q (.tuple #[.int .i64 n47, .bool q48]) v) ∧
 ((decide (n_1 = 9)) = false →
 ∃ n51 : Int, Wr .i64 ((x46.n : Int) - 1) n51 ∧
 ((decide (n51 < 0)) = true →
 Q (.tuple #[.int .i64 (-1), .bool false]) v) ∧
 ((decide (n51 < 0)) = false →
 IxOk x46 n51 ∧
 ∃ n52 : Int, v.cell? ((elA x46 n51 1).add 0) = some (.int .i64 n52) ∧
 ∃ n53 : Int, (Trip Tryz.prog 217 #[x0_0.val, .int .i64 n52, .int .i64 n47] v fun r54 w55 => r54 = .int .i64 n53 ∧ Sub v w55) ∧
 ((decide (n53 ≥ 0)) = true →
 CutOk x46 0 n51) ∧
 ∃ q56 : Bool, ((decide (n53 ≥ 0)) = true →
 (Trip Tryz.prog 216 #[x_3.val, (x46.cut 0 n51 1).val] v fun r57 w58 => r57 = .bool q56 ∧ Sub v w58)) ∧
 Q (.tuple #[.int .i64 n53, .bool ((decide (n53 ≥ 0)) && q56)]) v)))) ∧
 ((decide (n_1 = 9)) = false →
 ((decide (n_1 = 10)) = true →
 (((decide (n_2 < 0)) || (decide (n_2 ≥ (x0_1.n : Int)))) = true →
 Q (.tuple #[.int .i64 (-1), .bool false]) v) ∧
 (((decide (n_2 < 0)) || (decide (n_2 ≥ (x0_1.n : Int)))) = false →
 IxOk x0_1 n_2 ∧
 ∃ x59 : Sl, v.cell? ((elA x0_1 n_2 3).add 0) = some (x59.val) ∧
 IxOk x0_1 n_2 ∧
 ∃ n60 : Int, v.cell? ((elA x0_1 n_2 3).add 2) = some (.int .i64 n60) ∧
 ((decide (n_1 = 9)) = true →
 ∃ q61 : Bool, (Trip Tryz.prog 216 #[x_3.val, x59.val] v fun r62 w63 => r62 = .bool q61 ∧ Sub v w63) ∧
 Q (.tuple #[.int .i64 n60, .bool q61]) v) ∧
 ((decide (n_1 = 9)) = false →
 ∃ n64 : Int, Wr .i64 ((x59.n : Int) - 1) n64 ∧
 ((decide (n64 < 0)) = true →
 Q (.tuple #[.int .i64 (-1), .bool false]) v) ∧
 ((decide (n64 < 0)) = false →
 IxOk x59 n64 ∧
 ∃ n65 : Int, v.cell? ((elA x59 n64 1).add 0) = some (.int .i64 n65) ∧
 ∃ n66 : Int, (Trip Tryz.prog 217 #[x0_0.val, .int .i64 n65, .int .i64 n60] v fun r67 w68 => r67 = .int .i64 n66 ∧ Sub v w68) ∧
 ((decide (n66 ≥ 0)) = true →
 CutOk x59 0 n64) ∧
 ∃ q69 : Bool, ((decide (n66 ≥ 0)) = true →
 (Trip Tryz.prog 216 #[x_3.val, (x59.cut 0 n64 1).val] v fun r70 w71 => r70 = .bool q69 ∧ Sub v w71)) ∧
 Q (.tuple #[.int .i64 n66, .bool ((decide (n66 ≥ 0)) && q69)]) v)))) ∧
 ((decide (n_1 = 10)) = false →
 Q (.tuple #[.int .i64 (-1), .bool false]) v))))))))))
theorem of174 (x0_0 : Sl) (x0_1 : Sl) (n_1 : Int) (n_2 : Int) (x_3 : Sl) (v : World) (Q : Value → World → Prop) (h : vc174 x0_0 x0_1 n_1 n_2 x_3 v Q) : Trip Tryz.prog 174 #[.agg #[x0_0.val, x0_1.val], .int .i64 n_1, .int .i64 n_2, x_3.val] v Q :=
 trip_of_eq (args := [.ag [.sl x0_0, .sl x0_1], .num .i64 n_1, .num .i64 n_2, .sl x_3]) (A := ⟨[], [], [(16, [9])], [999999], psG⟩) Tryz.func174 (by kernel_rfl) (by kernel_rfl) (by kernel_rfl : vc174 x0_0 x0_1 n_1 n_2 x_3 v Q = _) h

def vc175 (x0_0 : Sl) (n_1 : Int) (v : World) (Q : Value → World → Prop) : Prop :=
 ∃ n1 : Int, (Trip Tryz.prog 128 #[x0_0.val, .int .i64 n_1] v fun r2 w3 => r2 = .int .i64 n1 ∧ Sub v w3) ∧
 ((decide (n1 < 0)) = true →
 Q (.int .i64 (-1)) v) ∧
 ((decide (n1 < 0)) = false →
 Q (.int .i64 n1) v)
theorem of175 (x0_0 : Sl) (n_1 : Int) (v : World) (Q : Value → World → Prop) (h : vc175 x0_0 n_1 v Q) : Trip Tryz.prog 175 #[.agg #[x0_0.val], .int .i64 n_1] v Q :=
 trip_of_eq (args := [.ag [.sl x0_0], .num .i64 n_1]) (A := ⟨[], [], [], [], psG⟩) Tryz.func175 (by kernel_rfl) (by kernel_rfl) (by kernel_rfl : vc175 x0_0 n_1 v Q = _) h

def vc176 (x_0 : Sl) (n_1 : Int) (v : World) (Q : Value → World → Prop) : Prop :=
 ∃ n1 : Int, Wr .i64 (n_1 - (x_0.n : Int)) n1 ∧
 ((decide (n1 < 0)) = true →
 Q (.int .i64 (-1)) v) ∧
 ((decide (n1 < 0)) = false →
 ∃ I2 : Int → Int → World → Prop, ∃ m3 : Int → Int → World → Nat, I2 n1 0 v ∧
 ∀ n4 : Int, ∀ n5 : Int, ∀ w6 : World, I2 n4 n5 w6 →
 ((decide (n5 < (x_0.n : Int))) = true →
 IxOk x_0 n5 ∧
 ∃ n7 : Int, ∃ n8 : Int, ∃ x9 : Sl, (w6.cell? ((elA x_0 n5 3).add 0) = some (.int .i64 n7) ∧
 w6.cell? ((elA x_0 n5 3).add 1) = some (.int .i64 n8) ∧
 w6.cell? ((elA x_0 n5 3).add 2) = some (x9.val)) ∧
 ∃ n10 : Int, (Trip Tryz.prog 129 #[.agg #[.int .i64 n7, .int .i64 n8, x9.val], .int .i64 n4] w6 fun r11 w12 => r11 = .int .i64 n10 ∧ Sub w6 w12) ∧
 ((decide (n10 < 0)) = true →
 Q (.int .i64 (-1)) w6) ∧
 ((decide (n10 < 0)) = false →
 ∃ n13 : Int, Wr .i64 (n5 + 1) n13 ∧
 I2 n10 n13 w6 ∧
 m3 n10 n13 w6 < m3 n4 n5 w6)) ∧
 ((decide (n5 < (x_0.n : Int))) = false →
 Q (.int .i64 n4) w6))
theorem of176 (x_0 : Sl) (n_1 : Int) (v : World) (Q : Value → World → Prop) (h : vc176 x_0 n_1 v Q) : Trip Tryz.prog 176 #[x_0.val, .int .i64 n_1] v Q :=
 trip_of_eq (args := [.sl x_0, .num .i64 n_1]) (A := ⟨[(5, [(1, .int .i64), (5, .int .i64)], [])], [], [], [], psG⟩) Tryz.func176 (by kernel_rfl) (by kernel_rfl) (by kernel_rfl : vc176 x_0 n_1 v Q = _) h

def vc177 (x_0 : Sl) (n_1 : Int) (v : World) (Q : Value → World → Prop) : Prop :=
 IxOk x_0 n_1 ∧
 ∃ n1 : Int, ∃ n2 : Int, ∃ x3 : Sl, (v.cell? ((elA x_0 n_1 3).add 0) = some (.int .i64 n1) ∧
 v.cell? ((elA x_0 n_1 3).add 1) = some (.int .i64 n2) ∧
 v.cell? ((elA x_0 n_1 3).add 2) = some (x3.val)) ∧
 ((decide ((x3.n : Int) > 0)) = true →
 ((((decide ((x3.n : Int) > 3)) || (!decide (n1 = 0))) || (!decide (n2 = 0))) = true →
 Q (.bool false) v) ∧
 ((((decide ((x3.n : Int) > 3)) || (!decide (n1 = 0))) || (!decide (n2 = 0))) = false →
 ∃ I4 : Int → World → Prop, ∃ m5 : Int → World → Nat, I4 0 v ∧
 ∀ n6 : Int, ∀ w7 : World, I4 n6 w7 →
 ((decide (n6 < (x3.n : Int))) = true →
 IxOk x3 n6 ∧
 ∃ x8 : Sl, w7.cell? ((elA x3 n6 1).add 0) = some (x8.val) ∧
 ((decide ((x8.n : Int) > 3)) = false →
 IxOk x3 n6) ∧
 ∃ x9 : Sl, ((decide ((x8.n : Int) > 3)) = false →
 w7.cell? ((elA x3 n6 1).add 0) = some (x9.val)) ∧
 ∃ q10 : Bool, ((decide ((x8.n : Int) > 3)) = false →
 (Trip Tryz.prog 131 #[x_0.val, x9.val] w7 fun r11 w12 => r11 = .bool q10 ∧ Sub w7 w12)) ∧
 (((decide ((x8.n : Int) > 3)) || (!q10)) = true →
 Q (.bool false) w7) ∧
 (((decide ((x8.n : Int) > 3)) || (!q10)) = false →
 ∃ n13 : Int, Wr .i64 (n6 + 1) n13 ∧
 ((.num .i64 n1 : SV) = .num .i64 n1) ∧
 ((.num .i64 n2 : SV) = .num .i64 n2) ∧
 ((.sl x3 : SV) = .sl x3) ∧
 I4 n13 w7 ∧
 m5 n13 w7 < m5 n6 w7)) ∧
 ((decide (n6 < (x3.n : Int))) = false →
 Q (.bool true) w7))) ∧
 ((decide ((x3.n : Int) > 0)) = false →
 ∃ I14 : Int → World → Prop, ∃ m15 : Int → World → Nat, I14 0 v ∧
 ∀ n16 : Int, ∀ w17 : World, I14 n16 w17 →
 ((decide (n16 < n_1)) = true →
 IxOk x_0 n16 ∧
 ∃ x18 : Sl, w17.cell? ((elA x_0 n16 3).add 2) = some (x18.val) ∧
 ((decide ((x18.n : Int) = 0)) = true →
 IxOk x_0 n16) ∧
 ∃ n19 : Int, ((decide ((x18.n : Int) = 0)) = true →
 w17.cell? ((elA x_0 n16 3).add 0) = some (.int .i64 n19)) ∧
 (((decide ((x18.n : Int) = 0)) && (decide (n19 = n1))) = true →
 IxOk x_0 n16) ∧
 ∃ n20 : Int, (((decide ((x18.n : Int) = 0)) && (decide (n19 = n1))) = true →
 w17.cell? ((elA x_0 n16 3).add 1) = some (.int .i64 n20)) ∧
 ((((decide ((x18.n : Int) = 0)) && (decide (n19 = n1))) && (decide (n20 = n2))) = true →
 Q (.bool false) w17) ∧
 ((((decide ((x18.n : Int) = 0)) && (decide (n19 = n1))) && (decide (n20 = n2))) = false →
 ∃ n21 : Int, Wr .i64 (n16 + 1) n21 ∧
 ((.num .i64 n1 : SV) = .num .i64 n1) ∧
 ((.num .i64 n2 : SV) = .num .i64 n2) ∧
 ((.sl x3 : SV) = .sl x3) ∧
 I14 n21 w17 ∧
 m15 n21 w17 < m15 n16 w17)) ∧
 ((decide (n16 < n_1)) = false →
 ∃ q22 : Bool, (Trip Tryz.prog 107 #[.int .i64 n1, .int .i64 0, .int .i64 (x_0.n : Int)] w17 fun r23 w24 => r23 = .bool q22 ∧ Sub w17 w24) ∧
 ∃ q25 : Bool, (q22 = true →
 (Trip Tryz.prog 107 #[.int .i64 n2, .int .i64 0, .int .i64 (x_0.n : Int)] w17 fun r26 w27 => r26 = .bool q25 ∧ Sub w17 w27)) ∧
 Q (.bool (q22 && q25)) w17))
theorem of177 (x_0 : Sl) (n_1 : Int) (v : World) (Q : Value → World → Prop) (h : vc177 x_0 n_1 v Q) : Trip Tryz.prog 177 #[x_0.val, .int .i64 n_1] v Q :=
 trip_of_eq (args := [.sl x_0, .num .i64 n_1]) (A := ⟨[(6, [(6, .int .i64)], []), (12, [(7, .int .i64)], [])], [], [], [], psG⟩) Tryz.func177 (by kernel_rfl) (by kernel_rfl) (by kernel_rfl : vc177 x_0 n_1 v Q = _) h

def vc178 (x_0 : Sl) (n_1 : Int) (v : World) (Q : Value → World → Prop) : Prop :=
 ∃ I1 : Int → Int → World → Prop, ∃ m2 : Int → Int → World → Nat, I1 0 0 v ∧
 ∀ n3 : Int, ∀ n4 : Int, ∀ w5 : World, I1 n3 n4 w5 →
 ((decide (n4 < n_1)) = true →
 IxOk x_0 n4 ∧
 ∃ x6 : Sl, w5.cell? ((elA x_0 n4 3).add 2) = some (x6.val) ∧
 ∃ n7 : Int, Wr .i64 (n3 + (x6.n : Int)) n7 ∧
 ∃ n8 : Int, Wr .i64 (n4 + 1) n8 ∧
 I1 n7 n8 w5 ∧
 m2 n7 n8 w5 < m2 n3 n4 w5) ∧
 ((decide (n4 < n_1)) = false →
 Q (.int .i64 n3) w5)
theorem of178 (x_0 : Sl) (n_1 : Int) (v : World) (Q : Value → World → Prop) (h : vc178 x_0 n_1 v Q) : Trip Tryz.prog 178 #[x_0.val, .int .i64 n_1] v Q :=
 trip_of_eq (args := [.sl x_0, .num .i64 n_1]) (A := ⟨[(3, [(5, .int .i64), (6, .int .i64)], [])], [], [], [], psG⟩) Tryz.func178 (by kernel_rfl) (by kernel_rfl) (by kernel_rfl : vc178 x_0 n_1 v Q = _) h

def vc179 (x_0 : Sl) (v : World) (Q : Value → World → Prop) : Prop :=
 StepT Tryz.prog (Instr.buildSlice 68 0 #[]) v fun r1 w2 =>
 ∃ x3 : Sl, r1 = x3.val ∧
 StepT Tryz.prog (Builtin.append_ #[68, 68] 68 #[(x3.val), (x_0.val)]) w2 fun r4 w5 =>
 ∃ x6 : Sl, r4 = x6.val ∧
 Q (x6.val) w5
theorem of179 (x_0 : Sl) (v : World) (Q : Value → World → Prop) (h : vc179 x_0 v Q) : Trip Tryz.prog 179 #[x_0.val] v Q :=
 trip_of_eq (args := [.sl x_0]) (A := ⟨[], [], [], [], psG⟩) Tryz.func179 (by kernel_rfl) (by kernel_rfl) (by kernel_rfl : vc179 x_0 v Q = _) h

def vc180 (x_0 : Sl) (n_1 : Int) (v : World) (Q : Value → World → Prop) : Prop :=
 StepT Tryz.prog (Instr.buildSlice 68 0 #[]) v fun r1 w2 =>
 ∃ x3 : Sl, r1 = x3.val ∧
 ∃ q4 : Bool, (Trip Tryz.prog 107 #[.int .i64 n_1, .int .i64 1, .int .i64 (x_0.n : Int)] w2 fun r5 w6 => r5 = .bool q4 ∧ Sub w2 w6) ∧
 ((!q4) = true →
 Q (x3.val) w2) ∧
 ((!q4) = false →
 ∃ I7 : Sl → Int → World → Prop, ∃ m8 : Sl → Int → World → Nat, I7 x3 0 w2 ∧
 ∀ x9 : Sl, ∀ n10 : Int, ∀ w11 : World, I7 x9 n10 w11 →
 ∃ n12 : Int, Wr .i64 (n_1 - 1) n12 ∧
 IxOk x_0 n12 ∧
 ∃ x13 : Sl, w11.cell? ((elA x_0 n12 3).add 2) = some (x13.val) ∧
 ((decide (n10 < (x13.n : Int))) = true →
 ∃ n14 : Int, Wr .i64 (n_1 - 1) n14 ∧
 ∃ n15 : Int, (Trip Tryz.prog 178 #[x_0.val, .int .i64 n14] w11 fun r16 w17 => r16 = .int .i64 n15 ∧ Sub w11 w17) ∧
 ∃ n18 : Int, Wr .i64 (n15 + n10) n18 ∧
 StepT Tryz.prog (Instr.buildSlice 68 1 #[(0, (.int .i64 n18))]) w11 fun r19 w20 =>
 ∃ x21 : Sl, r19 = x21.val ∧
 StepT Tryz.prog (Builtin.append_ #[68, 68] 68 #[(x9.val), (x21.val)]) w20 fun r22 w23 =>
 ∃ x24 : Sl, r22 = x24.val ∧
 ∃ n25 : Int, Wr .i64 (n10 + 1) n25 ∧
 I7 x24 n25 w23 ∧
 m8 x24 n25 w23 < m8 x9 n10 w11) ∧
 ((decide (n10 < (x13.n : Int))) = false →
 Q (x9.val) w11))
theorem of180 (x_0 : Sl) (n_1 : Int) (v : World) (Q : Value → World → Prop) (h : vc180 x_0 n_1 v Q) : Trip Tryz.prog 180 #[x_0.val, .int .i64 n_1] v Q :=
 trip_of_eq (args := [.sl x_0, .num .i64 n_1]) (A := ⟨[(5, [(5, .sl), (6, .int .i64)], [])], [], [], [], psG⟩) Tryz.func180 (by kernel_rfl) (by kernel_rfl) (by kernel_rfl : vc180 x_0 n_1 v Q = _) h

def vc181 (x_0 : Sl) (n_1 : Int) (n_2 : Int) (v : World) (Q : Value → World → Prop) : Prop :=
 ∃ I1 : Int → World → Prop, ∃ m2 : Int → World → Nat, I1 0 v ∧
 ∀ n3 : Int, ∀ w4 : World, I1 n3 w4 →
 ((decide (n3 < (x_0.n : Int))) = true →
 IxOk x_0 n3 ∧
 ∃ x5 : Sl, w4.cell? ((elA x_0 n3 3).add 2) = some (x5.val) ∧
 ((decide ((x5.n : Int) = 0)) = true →
 IxOk x_0 n3) ∧
 ∃ n6 : Int, ((decide ((x5.n : Int) = 0)) = true →
 w4.cell? ((elA x_0 n3 3).add 0) = some (.int .i64 n6)) ∧
 (((decide ((x5.n : Int) = 0)) && (decide (n6 = n_1))) = true →
 IxOk x_0 n3) ∧
 ∃ n7 : Int, (((decide ((x5.n : Int) = 0)) && (decide (n6 = n_1))) = true →
 w4.cell? ((elA x_0 n3 3).add 1) = some (.int .i64 n7)) ∧
 ((((decide ((x5.n : Int) = 0)) && (decide (n6 = n_1))) && (decide (n7 = n_2))) = true →
 ∃ n8 : Int, Wr .i64 (n3 + 1) n8 ∧
 Q (.int .i64 n8) w4) ∧
 ((((decide ((x5.n : Int) = 0)) && (decide (n6 = n_1))) && (decide (n7 = n_2))) = false →
 ∃ n9 : Int, Wr .i64 (n3 + 1) n9 ∧
 I1 n9 w4 ∧
 m2 n9 w4 < m2 n3 w4)) ∧
 ((decide (n3 < (x_0.n : Int))) = false →
 Q (.int .i64 (-1)) w4)
theorem of181 (x_0 : Sl) (n_1 : Int) (n_2 : Int) (v : World) (Q : Value → World → Prop) (h : vc181 x_0 n_1 n_2 v Q) : Trip Tryz.prog 181 #[x_0.val, .int .i64 n_1, .int .i64 n_2] v Q :=
 trip_of_eq (args := [.sl x_0, .num .i64 n_1, .num .i64 n_2]) (A := ⟨[(2, [(7, .int .i64)], [])], [], [], [], psG⟩) Tryz.func181 (by kernel_rfl) (by kernel_rfl) (by kernel_rfl : vc181 x_0 n_1 n_2 v Q = _) h

def vc182 (x0_0 : Sl) (v : World) (Q : Value → World → Prop) : Prop :=
 Trip Tryz.prog 141 #[x0_0.val] v fun r1 w2 =>
 ∃ x3 : Sl, r1 = x3.val ∧
 Q (.agg #[x3.val]) w2
theorem of182 (x0_0 : Sl) (v : World) (Q : Value → World → Prop) (h : vc182 x0_0 v Q) : Trip Tryz.prog 182 #[.agg #[x0_0.val]] v Q :=
 trip_of_eq (args := [.ag [.sl x0_0]]) (A := ⟨[], [], [], [], psG⟩) Tryz.func182 (by kernel_rfl) (by kernel_rfl) (by kernel_rfl : vc182 x0_0 v Q = _) h

def vc183 (x_0 : Sl) (v : World) (Q : Value → World → Prop) : Prop :=
 StepT Tryz.prog (Instr.makeSlice 40 (.int .i64 (x_0.n : Int)) (.int .i64 (x_0.n : Int))) v fun r1 w2 =>
 ∃ x3 : Sl, r1 = x3.val ∧
 ∃ I4 : Int → World → Prop, ∃ m5 : Int → World → Nat, I4 0 w2 ∧
 ∀ n6 : Int, ∀ w7 : World, I4 n6 w7 →
 ((decide (n6 < (x_0.n : Int))) = true →
 IxOk x_0 n6 ∧
 ∃ n8 : Int, ∃ n9 : Int, ∃ x10 : Sl, (w7.cell? ((elA x_0 n6 3).add 0) = some (.int .i64 n8) ∧
 w7.cell? ((elA x_0 n6 3).add 1) = some (.int .i64 n9) ∧
 w7.cell? ((elA x_0 n6 3).add 2) = some (x10.val)) ∧
 Trip Tryz.prog 142 #[.agg #[.int .i64 n8, .int .i64 n9, x10.val]] w7 fun r11 w12 =>
 ∃ n13 : Int, ∃ n14 : Int, ∃ x15 : Sl, r11 = .agg #[.int .i64 n13, .int .i64 n14, x15.val] ∧
 IxOk x3 n6 ∧
 StoreAt w12 (elA x3 n6 3) 0 [.int .i64 n13, .int .i64 n14, x15.val] fun w16 =>
 ∃ n17 : Int, Wr .i64 (n6 + 1) n17 ∧
 I4 n17 w16 ∧
 m5 n17 w16 < m5 n6 w7) ∧
 ((decide (n6 < (x_0.n : Int))) = false →
 Q (x3.val) w7)
theorem of183 (x_0 : Sl) (v : World) (Q : Value → World → Prop) (h : vc183 x_0 v Q) : Trip Tryz.prog 183 #[x_0.val] v Q :=
 trip_of_eq (args := [.sl x_0]) (A := ⟨[(3, [(4, .int .i64)], [])], [], [], [], psG⟩) Tryz.func183 (by kernel_rfl) (by kernel_rfl) (by kernel_rfl : vc183 x_0 v Q = _) h

def vc189 (x0_0 : Sl) (x1_0 : Sl) (v : World) (Q : Value → World → Prop) : Prop :=
 ∃ q1 : Bool, (Trip Tryz.prog 147 #[x0_0.val, x1_0.val] v fun r2 w3 => r2 = .bool q1 ∧ Sub v w3) ∧
 ((!q1) = true →
 Q (.bool false) v) ∧
 ((!q1) = false →
 Q (.bool true) v)
theorem of189 (x0_0 : Sl) (x1_0 : Sl) (v : World) (Q : Value → World → Prop) (h : vc189 x0_0 x1_0 v Q) : Trip Tryz.prog 189 #[.agg #[x0_0.val], .agg #[x1_0.val]] v Q :=
 trip_of_eq (args := [.ag [.sl x0_0], .ag [.sl x1_0]]) (A := ⟨[], [], [], [], psG⟩) Tryz.func189 (by kernel_rfl) (by kernel_rfl) (by kernel_rfl : vc189 x0_0 x1_0 v Q = _) h

def vc190 (x_0 : Sl) (x_1 : Sl) (v : World) (Q : Value → World → Prop) : Prop :=
 ((!decide ((x_0.n : Int) = (x_1.n : Int))) = true →
 Q (.bool false) v) ∧
 ((!decide ((x_0.n : Int) = (x_1.n : Int))) = false →
 ∃ I1 : Int → World → Prop, ∃ m2 : Int → World → Nat, I1 0 v ∧
 ∀ n3 : Int, ∀ w4 : World, I1 n3 w4 →
 ((decide (n3 < (x_0.n : Int))) = true →
 IxOk x_0 n3 ∧
 ∃ n5 : Int, ∃ n6 : Int, ∃ x7 : Sl, (w4.cell? ((elA x_0 n3 3).add 0) = some (.int .i64 n5) ∧
 w4.cell? ((elA x_0 n3 3).add 1) = some (.int .i64 n6) ∧
 w4.cell? ((elA x_0 n3 3).add 2) = some (x7.val)) ∧
 IxOk x_1 n3 ∧
 ∃ n8 : Int, ∃ n9 : Int, ∃ x10 : Sl, (w4.cell? ((elA x_1 n3 3).add 0) = some (.int .i64 n8) ∧
 w4.cell? ((elA x_1 n3 3).add 1) = some (.int .i64 n9) ∧
 w4.cell? ((elA x_1 n3 3).add 2) = some (x10.val)) ∧
 ∃ q11 : Bool, (Trip Tryz.prog 148 #[.agg #[.int .i64 n5, .int .i64 n6, x7.val], .agg #[.int .i64 n8, .int .i64 n9, x10.val]] w4 fun r12 w13 => r12 = .bool q11 ∧ Sub w4 w13) ∧
 ((!q11) = true →
 Q (.bool false) w4) ∧
 ((!q11) = false →
 ∃ n14 : Int, Wr .i64 (n3 + 1) n14 ∧
 I1 n14 w4 ∧
 m2 n14 w4 < m2 n3 w4)) ∧
 ((decide (n3 < (x_0.n : Int))) = false →
 Q (.bool true) w4))
theorem of190 (x_0 : Sl) (x_1 : Sl) (v : World) (Q : Value → World → Prop) (h : vc190 x_0 x_1 v Q) : Trip Tryz.prog 190 #[x_0.val, x_1.val] v Q :=
 trip_of_eq (args := [.sl x_0, .sl x_1]) (A := ⟨[(4, [(5, .int .i64)], [])], [], [], [], psG⟩) Tryz.func190 (by kernel_rfl) (by kernel_rfl) (by kernel_rfl : vc190 x_0 x_1 v Q = _) h

def vc212 (x_0 : Sl) (v : World) (Q : Value → World → Prop) : Prop :=
 ∃ I1 : Int → Int → World → Prop, ∃ m2 : Int → Int → World → Nat, I1 0 0 v ∧
 ∀ n3 : Int, ∀ n4 : Int, ∀ w5 : World, I1 n3 n4 w5 →
 ((decide (n4 < (x_0.n : Int))) = true →
 IxOk x_0 n4 ∧
 ∃ x6 : Sl, w5.cell? ((elA x_0 n4 1).add 0) = some (x6.val) ∧
 ∃ n7 : Int, Wr .i64 (n3 + (x6.n : Int)) n7 ∧
 ((decide (n7 < 0)) = true →
 False) ∧
 ((decide (n7 < 0)) = false →
 ∃ n8 : Int, Wr .i64 (n4 + 1) n8 ∧
 I1 n7 n8 w5 ∧
 m2 n7 n8 w5 < m2 n3 n4 w5)) ∧
 ((decide (n4 < (x_0.n : Int))) = false →
 Trip Tryz.prog 245 #[.slice none 0 0, .int .i64 n3] w5 fun r9 w10 =>
 ∃ x11 : Sl, r9 = x11.val ∧
 ∃ I12 : Sl → Int → World → Prop, ∃ m13 : Sl → Int → World → Nat, I12 x11 0 w10 ∧
 ∀ x14 : Sl, ∀ n15 : Int, ∀ w16 : World, I12 x14 n15 w16 →
 ((decide (n15 < (x_0.n : Int))) = true →
 IxOk x_0 n15 ∧
 ∃ x17 : Sl, w16.cell? ((elA x_0 n15 1).add 0) = some (x17.val) ∧
 StepT Tryz.prog (Builtin.append_ #[68, 68] 68 #[(x14.val), (x17.val)]) w16 fun r18 w19 =>
 ∃ x20 : Sl, r18 = x20.val ∧
 ∃ n21 : Int, Wr .i64 (n15 + 1) n21 ∧
 I12 x20 n21 w19 ∧
 m13 x20 n21 w19 < m13 x14 n15 w16) ∧
 ((decide (n15 < (x_0.n : Int))) = false →
 Q (x14.val) w16))
theorem of212 (x_0 : Sl) (v : World) (Q : Value → World → Prop) (h : vc212 x_0 v Q) : Trip Tryz.prog 212 #[x_0.val] v Q :=
 trip_of_eq (args := [.sl x_0]) (A := ⟨[(3, [(3, .int .i64), (11, .int .i64)], []), (11, [(6, .sl), (27, .int .i64)], [])], [], [], [], psG⟩) Tryz.func212 (by kernel_rfl) (by kernel_rfl) (by kernel_rfl : vc212 x_0 v Q = _) h

def vc213 (x_0 : Sl) (v : World) (Q : Value → World → Prop) : Prop :=
 ∃ I1 : Int → Int → World → Prop, ∃ m2 : Int → Int → World → Nat, I1 0 0 v ∧
 ∀ n3 : Int, ∀ n4 : Int, ∀ w5 : World, I1 n3 n4 w5 →
 ((decide (n4 < (x_0.n : Int))) = true →
 IxOk x_0 n4 ∧
 ∃ n6 : Int, ∃ n7 : Int, ∃ x8 : Sl, (w5.cell? ((elA x_0 n4 3).add 0) = some (.int .i64 n6) ∧
 w5.cell? ((elA x_0 n4 3).add 1) = some (.int .i64 n7) ∧
 w5.cell? ((elA x_0 n4 3).add 2) = some (x8.val)) ∧
 ∃ n9 : Int, Wr .i64 (n3 + (x8.n : Int)) n9 ∧
 ∃ n10 : Int, Wr .i64 (n4 + 1) n10 ∧
 I1 n9 n10 w5 ∧
 m2 n9 n10 w5 < m2 n3 n4 w5) ∧
 ((decide (n4 < (x_0.n : Int))) = false →
 Q (.int .i64 n3) w5)
theorem of213 (x_0 : Sl) (v : World) (Q : Value → World → Prop) (h : vc213 x_0 v Q) : Trip Tryz.prog 213 #[x_0.val] v Q :=
 trip_of_eq (args := [.sl x_0]) (A := ⟨[(3, [(3, .int .i64), (8, .int .i64)], [])], [], [], [], psG⟩) Tryz.func213 (by kernel_rfl) (by kernel_rfl) (by kernel_rfl : vc213 x_0 v Q = _) h

def vc214 (x_0 : Sl) (n_1 : Int) (v : World) (Q : Value → World → Prop) : Prop :=
 ∃ I1 : Int → Int → World → Prop, ∃ m2 : Int → Int → World → Nat, I1 n_1 0 v ∧
 ∀ n3 : Int, ∀ n4 : Int, ∀ w5 : World, I1 n3 n4 w5 →
 ((decide (n4 < (x_0.n : Int))) = true →
 IxOk x_0 n4 ∧
 ∃ n6 : Int, ∃ n7 : Int, ∃ x8 : Sl, (w5.cell? ((elA x_0 n4 3).add 0) = some (.int .i64 n6) ∧
 w5.cell? ((elA x_0 n4 3).add 1) = some (.int .i64 n7) ∧
 w5.cell? ((elA x_0 n4 3).add 2) = some (x8.val)) ∧
 (((decide (n3 ≥ 0)) && (decide (n3 < (x8.n : Int)))) = true →
 ∃ n9 : Int, Wr .i64 (n4 + 1) n9 ∧
 IxOk x8 n3 ∧
 ∃ x10 : Sl, w5.cell? ((elA x8 n3 1).add 0) = some (x10.val) ∧
 Q (.tuple #[.int .i64 n9, .agg #[x10.val]]) w5) ∧
 (((decide (n3 ≥ 0)) && (decide (n3 < (x8.n : Int)))) = false →
 ∃ n11 : Int, Wr .i64 (n3 - (x8.n : Int)) n11 ∧
 ∃ n12 : Int, Wr .i64 (n4 + 1) n12 ∧
 ((.sl (Sl.mk none 0 0) : SV) = .sl (Sl.mk none 0 0)) ∧
 I1 n11 n12 w5 ∧
 m2 n11 n12 w5 < m2 n3 n4 w5)) ∧
 ((decide (n4 < (x_0.n : Int))) = false →
 Q (.tuple #[.int .i64 (-1), .agg #[.slice none 0 0]]) w5)
theorem of214 (x_0 : Sl) (n_1 : Int) (v : World) (Q : Value → World → Prop) (h : vc214 x_0 n_1 v Q) : Trip Tryz.prog 214 #[x_0.val, .int .i64 n_1] v Q :=
 trip_of_eq (args := [.sl x_0, .num .i64 n_1]) (A := ⟨[(2, [(1, .int .i64), (10, .int .i64)], [])], [], [(5, [])], [], psG⟩) Tryz.func214 (by kernel_rfl) (by kernel_rfl) (by kernel_rfl : vc214 x_0 n_1 v Q = _) h

def vc215 (x_0 : Sl) (n_1 : Int) (v : World) (Q : Value → World → Prop) : Prop :=
 ∃ n1 : Int, (((decide (n_1 < 1)) || (decide (n_1 > (x_0.n : Int)))) = false →
 Wr .i64 (n_1 - 1) n1) ∧
 (((decide (n_1 < 1)) || (decide (n_1 > (x_0.n : Int)))) = false →
 IxOk x_0 n1) ∧
 ∃ x2 : Sl, (((decide (n_1 < 1)) || (decide (n_1 > (x_0.n : Int)))) = false →
 v.cell? ((elA x_0 n1 3).add 2) = some (x2.val)) ∧
 ((((decide (n_1 < 1)) || (decide (n_1 > (x_0.n : Int)))) || (decide ((x2.n : Int) > 0))) = true →
 Q (.tuple #[.agg #[.int .i64 0, .int .i64 0, .slice none 0 0], .bool false]) v) ∧
 ((((decide (n_1 < 1)) || (decide (n_1 > (x_0.n : Int)))) || (decide ((x2.n : Int) > 0))) = false →
 ∃ n3 : Int, Wr .i64 (n_1 - 1) n3 ∧
 IxOk x_0 n3 ∧
 ∃ n4 : Int, ∃ n5 : Int, ∃ x6 : Sl, (v.cell? ((elA x_0 n3 3).add 0) = some (.int .i64 n4) ∧
 v.cell? ((elA x_0 n3 3).add 1) = some (.int .i64 n5) ∧
 v.cell? ((elA x_0 n3 3).add 2) = some (x6.val)) ∧
 Q (.tuple #[.agg #[.int .i64 n4, .int .i64 n5, x6.val], .bool true]) v)
theorem of215 (x_0 : Sl) (n_1 : Int) (v : World) (Q : Value → World → Prop) (h : vc215 x_0 n_1 v Q) : Trip Tryz.prog 215 #[x_0.val, .int .i64 n_1] v Q :=
 trip_of_eq (args := [.sl x_0, .num .i64 n_1]) (A := ⟨[], [], [], [], psG⟩) Tryz.func215 (by kernel_rfl) (by kernel_rfl) (by kernel_rfl : vc215 x_0 n_1 v Q = _) h

def vc216 (x_0 : Sl) (x_1 : Sl) (v : World) (Q : Value → World → Prop) : Prop :=
 ((!decide ((x_0.n : Int) = (x_1.n : Int))) = true →
 Q (.bool false) v) ∧
 ((!decide ((x_0.n : Int) = (x_1.n : Int))) = false →
 ∃ I1 : Int → World → Prop, ∃ m2 : Int → World → Nat, I1 0 v ∧
 ∀ n3 : Int, ∀ w4 : World, I1 n3 w4 →
 ((decide (n3 < (x_0.n : Int))) = true →
 IxOk x_0 n3 ∧
 ∃ n5 : Int, w4.cell? ((elA x_0 n3 1).add 0) = some (.int .i64 n5) ∧
 IxOk x_1 n3 ∧
 ∃ n6 : Int, w4.cell? ((elA x_1 n3 1).add 0) = some (.int .i64 n6) ∧
 ((!decide (n5 = n6)) = true →
 Q (.bool false) w4) ∧
 ((!decide (n5 = n6)) = false →
 ∃ n7 : Int, Wr .i64 (n3 + 1) n7 ∧
 I1 n7 w4 ∧
 m2 n7 w4 < m2 n3 w4)) ∧
 ((decide (n3 < (x_0.n : Int))) = false →
 Q (.bool true) w4))
theorem of216 (x_0 : Sl) (x_1 : Sl) (v : World) (Q : Value → World → Prop) (h : vc216 x_0 x_1 v Q) : Trip Tryz.prog 216 #[x_0.val, x_1.val] v Q :=
 trip_of_eq (args := [.sl x_0, .sl x_1]) (A := ⟨[(4, [(13, .int .i64)], [])], [], [], [], psG⟩) Tryz.func216 (by kernel_rfl) (by kernel_rfl) (by kernel_rfl : vc216 x_0 x_1 v Q = _) h

def vc217 (x_0 : Sl) (n_1 : Int) (n_2 : Int) (v : World) (Q : Value → World → Prop) : Prop :=
 ∃ I1 : Int → World → Prop, ∃ m2 : Int → World → Nat, I1 0 v ∧
 ∀ n3 : Int, ∀ w4 : World, I1 n3 w4 →
 ((decide (n3 < (x_0.n : Int))) = true →
 IxOk x_0 n3 ∧
 ∃ n5 : Int, ∃ n6 : Int, ∃ x7 : Sl, (w4.cell? ((elA x_0 n3 3).add 0) = some (.int .i64 n5) ∧
 w4.cell? ((elA x_0 n3 3).add 1) = some (.int .i64 n6) ∧
 w4.cell? ((elA x_0 n3 3).add 2) = some (x7.val)) ∧
 ((((decide ((x7.n : Int) = 0)) && (decide (n5 = n_1))) && (decide (n6 = n_2))) = true →
 ∃ n8 : Int, Wr .i64 (n3 + 1) n8 ∧
 Q (.int .i64 n8) w4) ∧
 ((((decide ((x7.n : Int) = 0)) && (decide (n5 = n_1))) && (decide (n6 = n_2))) = false →
 ∃ n9 : Int, Wr .i64 (n3 + 1) n9 ∧
 I1 n9 w4 ∧
 m2 n9 w4 < m2 n3 w4)) ∧
 ((decide (n3 < (x_0.n : Int))) = false →
 Q (.int .i64 (-1)) w4)
theorem of217 (x_0 : Sl) (n_1 : Int) (n_2 : Int) (v : World) (Q : Value → World → Prop) (h : vc217 x_0 n_1 n_2 v Q) : Trip Tryz.prog 217 #[x_0.val, .int .i64 n_1, .int .i64 n_2] v Q :=
 trip_of_eq (args := [.sl x_0, .num .i64 n_1, .num .i64 n_2]) (A := ⟨[(2, [(11, .int .i64)], [])], [], [], [], psG⟩) Tryz.func217 (by kernel_rfl) (by kernel_rfl) (by kernel_rfl : vc217 x_0 n_1 n_2 v Q = _) h

def vc245 (x_0 : Sl) (n_1 : Int) (v : World) (Q : Value → World → Prop) : Prop :=
 ((decide (n_1 < 0)) = true →
 False) ∧
 ((decide (n_1 < 0)) = false →
 StepT Tryz.prog (Builtin.cap_ #[68] 3 #[(x_0.val)]) v fun r1 w2 =>
 ∃ n3 : Int, r1 = .int .i64 n3 ∧
 ∃ n4 : Int, Wr .i64 (n3 - (x_0.n : Int)) n4 ∧
 ∃ n5 : Int, Wr .i64 (n_1 - n4) n5 ∧
 ((decide (n5 > 0)) = true →
 StepT Tryz.prog (Builtin.cap_ #[68] 3 #[(x_0.val)]) w2 fun r6 w7 =>
 ∃ n8 : Int, r6 = .int .i64 n8 ∧
 CutOk x_0 0 n8 ∧
 StepT Tryz.prog (Builtin.append_ #[68, 3] 68 #[((x_0.cut 0 n8 1).val), (.int .i64 n5)]) w7 fun r9 w10 =>
 ∃ x11 : Sl, r9 = x11.val ∧
 CutOk x11 0 (x_0.n : Int) ∧
 Q ((x11.cut 0 (x_0.n : Int) 1).val) w10) ∧
 ((decide (n5 > 0)) = false →
 Q (x_0.val) w2))
theorem of245 (x_0 : Sl) (n_1 : Int) (v : World) (Q : Value → World → Prop) (h : vc245 x_0 n_1 v Q) : Trip Tryz.prog 245 #[x_0.val, .int .i64 n_1] v Q :=
 trip_of_eq (args := [.sl x_0, .num .i64 n_1]) (A := ⟨[], [], [], [], psG⟩) Tryz.func245 (by kernel_rfl) (by kernel_rfl) (by kernel_rfl : vc245 x_0 n_1 v Q = _) h

end Go.Vc
