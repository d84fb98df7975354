/- Part of the proofs about the heaps and memories: a law is joined in the text whose name ends in W and the law. -/
import Derived.Test.YtelgbndeeccblaaDoorEVcFn
import Derived.Test.YtelgbndeeccblaaDoorProg
import Derived.KernelRfl
namespace Go.Vc
open Go Go.Proofs
set_option linter.all false
abbrev psG : List Nat := [6, 7, 9, 10, 14, 16, 18, 19, 20, 21, 25, 29, 33, 34, 35, 36, 37, 39, 40, 41, 42, 44, 49, 51, 58, 62, 101, 133, 135, 139, 140, 141, 142]
def vc3 (n0_0 : Int) (n0_1 : Int) (x0_2 : Sl) (v : World) (Q : Value → World → Prop) : Prop :=
 ∃ n1 : Int, (Trip Tryd.prog 6 #[.agg #[.int .i64 n0_0, .int .i64 n0_1, x0_2.val], .int .i64 1048576] v fun r2 w3 => r2 = .int .i64 n1 ∧ Sub v w3) ∧
 ((decide (n1 < 0)) = true →
 Q (.bool true) v) ∧
 ((decide (n1 < 0)) = false →
 Trip Tryd.prog 8 #[.agg #[.int .i64 n0_0, .int .i64 n0_1, x0_2.val]] v fun r4 w5 =>
 ∃ n6 : Int, ∃ n7 : Int, ∃ x8 : Sl, r4 = .agg #[.int .i64 n6, .int .i64 n7, x8.val] ∧
 ∃ s9 : ByteArray, (Trip Tryd.prog 7 #[.agg #[.int .i64 n6, .int .i64 n7, x8.val]] w5 fun r10 w11 => r10 = .string s9 ∧ Sub w5 w11) ∧
 Trip Tryd.prog 8 #[.agg #[.int .i64 n0_0, .int .i64 n0_1, x0_2.val]] w5 fun r12 w13 =>
 ∃ n14 : Int, ∃ n15 : Int, ∃ x16 : Sl, r12 = .agg #[.int .i64 n14, .int .i64 n15, x16.val] ∧
 ∃ s17 : ByteArray, (Trip Tryd.prog 9 #[.agg #[.int .i64 n14, .int .i64 n15, x16.val]] w13 fun r18 w19 => r18 = .string s17 ∧ Sub w13 w19) ∧
 ((!(s17.toList == s9.toList)) = true →
 Q (.bool false) w13) ∧
 ((!(s17.toList == s9.toList)) = false →
 Trip Tryd.prog 8 #[.agg #[.int .i64 n0_0, .int .i64 n0_1, x0_2.val]] w13 fun r20 w21 =>
 ∃ n22 : Int, ∃ n23 : Int, ∃ x24 : Sl, r20 = .agg #[.int .i64 n22, .int .i64 n23, x24.val] ∧
 Sub w13 w21 ∧
 ∃ q25 : Bool, (Trip Tryd.prog 10 #[.agg #[.int .i64 n14, .int .i64 n15, x16.val], .agg #[.int .i64 n22, .int .i64 n23, x24.val]] w21 fun r26 w27 => r26 = .bool q25 ∧ Sub w21 w27) ∧
 ((!q25) = true →
 Q (.bool false) w21) ∧
 ((!q25) = false →
 Q (.bool true) w21)))
theorem of3 (n0_0 : Int) (n0_1 : Int) (x0_2 : Sl) (v : World) (Q : Value → World → Prop) (h : vc3 n0_0 n0_1 x0_2 v Q) : Trip Tryd.prog 3 #[.agg #[.int .i64 n0_0, .int .i64 n0_1, x0_2.val]] v Q :=
 trip_of_eq (args := [.ag [.num .i64 n0_0, .num .i64 n0_1, .sl x0_2]]) (A := ⟨[], [], [(10, [2])], [], psG⟩) Tryd.func3 (by kernel_rfl) (by kernel_rfl) (by kernel_rfl : vc3 n0_0 n0_1 x0_2 v Q = _) h

def vc4 (s_0 : ByteArray) (v : World) (Q : Value → World → Prop) : Prop :=
 ((decide ((s_0.size : Int) > 1048576)) = true →
 Q (.bool true) v) ∧
 ((decide ((s_0.size : Int) > 1048576)) = false →
 Trip Tryd.prog 11 #[.string s_0] v fun r1 w2 =>
 ∃ n3 : Int, ∃ n4 : Int, ∃ x5 : Sl, ∃ q6 : Bool, r1 = .tuple #[.agg #[.int .i64 n3, .int .i64 n4, x5.val], .bool q6] ∧
 Trip Tryd.prog 12 #[.string s_0] w2 fun r7 w8 =>
 ∃ n9 : Int, ∃ n10 : Int, ∃ x11 : Sl, ∃ q12 : Bool, r7 = .tuple #[.agg #[.int .i64 n9, .int .i64 n10, x11.val], .bool q12] ∧
 ∃ q13 : Bool, (Trip Tryd.prog 10 #[.agg #[.int .i64 n9, .int .i64 n10, x11.val], .agg #[.int .i64 n3, .int .i64 n4, x5.val]] w8 fun r14 w15 => r14 = .bool q13 ∧ Sub w8 w15) ∧
 (((!q13) || (!(q12 == q6))) = true →
 Q (.bool false) w8) ∧
 (((!q13) || (!(q12 == q6))) = false →
 Trip Tryd.prog 13 #[.agg #[.int .i64 n9, .int .i64 n10, x11.val], .int .i64 1] w8 fun r16 w17 =>
 ∃ n18 : Int, r16 = .int .i64 n18 ∧
 ∃ n19 : Int, (Trip Tryd.prog 14 #[.agg #[.int .i64 n9, .int .i64 n10, x11.val], .int .i64 1] w17 fun r20 w21 => r20 = .int .i64 n19 ∧ Sub w17 w21) ∧
 ((decide (n19 < 0)) = true →
 Q (.bool false) w17) ∧
 ((decide (n19 < 0)) = false →
 ((!decide (n19 = n18)) = true →
 Q (.bool false) w17) ∧
 ((!decide (n19 = n18)) = false →
 Trip Tryd.prog 12 #[.string s_0] w17 fun r22 w23 =>
 ∃ n24 : Int, ∃ n25 : Int, ∃ x26 : Sl, ∃ q27 : Bool, r22 = .tuple #[.agg #[.int .i64 n24, .int .i64 n25, x26.val], .bool q27] ∧
 ∃ q28 : Bool, (Trip Tryd.prog 10 #[.agg #[.int .i64 n24, .int .i64 n25, x26.val], .agg #[.int .i64 n3, .int .i64 n4, x5.val]] w23 fun r29 w30 => r29 = .bool q28 ∧ Sub w23 w30) ∧
 (((!q28) || (!(q27 == q6))) = true →
 Q (.bool false) w23) ∧
 (((!q28) || (!(q27 == q6))) = false →
 ∃ n31 : Int, (Trip Tryd.prog 14 #[.agg #[.int .i64 n9, .int .i64 n10, x11.val], .int .i64 1] w23 fun r32 w33 => r32 = .int .i64 n31 ∧ Sub w23 w33) ∧
 ((decide (n31 < 0)) = true →
 Q (.bool false) w23) ∧
 ((decide (n31 < 0)) = false →
 ((!decide (n31 = n18)) = true →
 Q (.bool false) w23) ∧
 ((!decide (n31 = n18)) = false →
 Q (.bool true) w23)))))))
theorem of4 (s_0 : ByteArray) (v : World) (Q : Value → World → Prop) (h : vc4 s_0 v Q) : Trip Tryd.prog 4 #[.string s_0] v Q :=
 trip_of_eq (args := [.st s_0]) (A := ⟨[], [], [], [], psG⟩) Tryd.func4 (by kernel_rfl) (by kernel_rfl) (by kernel_rfl : vc4 s_0 v Q = _) h

def vc5 (x_0 : Sl) (v : World) (Q : Value → World → Prop) : Prop :=
 ((decide ((x_0.n : Int) > 1048576)) = true →
 Q (.bool true) v) ∧
 ((decide ((x_0.n : Int) > 1048576)) = false →
 Trip Tryd.prog 15 #[x_0.val] v fun r1 w2 =>
 ∃ n3 : Int, ∃ n4 : Int, ∃ x5 : Sl, r1 = .agg #[.int .i64 n3, .int .i64 n4, x5.val] ∧
 ∃ s6 : ByteArray, (Trip Tryd.prog 9 #[.agg #[.int .i64 n3, .int .i64 n4, x5.val]] w2 fun r7 w8 => r7 = .string s6 ∧ Sub w2 w8) ∧
 ∃ s9 : ByteArray, (Trip Tryd.prog 7 #[.agg #[.int .i64 n3, .int .i64 n4, x5.val]] w2 fun r10 w11 => r10 = .string s9 ∧ Sub w2 w11) ∧
 ∃ n12 : Int, (((!(s6.toList == s9.toList)) || (s6.toList == (ByteArray.mk #[]).toList)) = false →
 (Trip Tryd.prog 16 #[.agg #[.int .i64 n3, .int .i64 n4, x5.val]] w2 fun r13 w14 => r13 = .int .i64 n12 ∧ Sub w2 w14)) ∧
 ∃ n15 : Int, (((!(s6.toList == s9.toList)) || (s6.toList == (ByteArray.mk #[]).toList)) = false →
 Wr .i64 (2 * n12) n15) ∧
 ∃ n16 : Int, (((!(s6.toList == s9.toList)) || (s6.toList == (ByteArray.mk #[]).toList)) = false →
 Wr .i64 (n15 + 1) n16) ∧
 ((((!(s6.toList == s9.toList)) || (s6.toList == (ByteArray.mk #[]).toList)) || (decide (n16 > 30))) = true →
 ∃ s17 : ByteArray, (Trip Tryd.prog 7 #[.agg #[.int .i64 n3, .int .i64 n4, x5.val]] w2 fun r18 w19 => r18 = .string s17 ∧ Sub w2 w19) ∧
 Q (.bool (s6.toList == s17.toList)) w2) ∧
 ((((!(s6.toList == s9.toList)) || (s6.toList == (ByteArray.mk #[]).toList)) || (decide (n16 > 30))) = false →
 StepT Tryd.prog (Instr.buildSlice 27 2 #[(0, (.agg #[.int .i64 n3, .int .i64 n4, x5.val])), (1, (.agg #[.int .i64 n3, .int .i64 n4, x5.val]))]) w2 fun r20 w21 =>
 ∃ x22 : Sl, r20 = x22.val ∧
 Trip Tryd.prog 17 #[.int .i64 1, x22.val] w21 fun r23 w24 =>
 ∃ n25 : Int, ∃ n26 : Int, ∃ x27 : Sl, r23 = .agg #[.int .i64 n25, .int .i64 n26, x27.val] ∧
 ∃ s28 : ByteArray, (Trip Tryd.prog 9 #[.agg #[.int .i64 n25, .int .i64 n26, x27.val]] w24 fun r29 w30 => r29 = .string s28 ∧ Sub w24 w30) ∧
 (((ByteArray.mk #[40, 97, 100, 100, 32]).size + s6.size : Nat) : Int) ≤ 9223372036854775807 ∧
 ((((ByteArray.mk #[40, 97, 100, 100, 32]) ++ s6).size + (ByteArray.mk #[32]).size : Nat) : Int) ≤ 9223372036854775807 ∧
 (((((ByteArray.mk #[40, 97, 100, 100, 32]) ++ s6) ++ (ByteArray.mk #[32])).size + s6.size : Nat) : Int) ≤ 9223372036854775807 ∧
 ((((((ByteArray.mk #[40, 97, 100, 100, 32]) ++ s6) ++ (ByteArray.mk #[32])) ++ s6).size + (ByteArray.mk #[41]).size : Nat) : Int) ≤ 9223372036854775807 ∧
 Q (.bool (s28.toList == (((((ByteArray.mk #[40, 97, 100, 100, 32]) ++ s6) ++ (ByteArray.mk #[32])) ++ s6) ++ (ByteArray.mk #[41])).toList)) w24))
theorem of5 (x_0 : Sl) (v : World) (Q : Value → World → Prop) (h : vc5 x_0 v Q) : Trip Tryd.prog 5 #[x_0.val] v Q :=
 trip_of_eq (args := [.sl x_0]) (A := ⟨[], [], [], [], psG⟩) Tryd.func5 (by kernel_rfl) (by kernel_rfl) (by kernel_rfl : vc5 x_0 v Q = _) h

def vc6 (n0_0 : Int) (n0_1 : Int) (x0_2 : Sl) (n_1 : Int) (v : World) (Q : Value → World → Prop) : Prop :=
 ∃ n1 : Int, (Trip Tryd.prog 18 #[x0_2.val, .int .i64 n_1] v fun r2 w3 => r2 = .int .i64 n1 ∧ Sub v w3) ∧
 ((decide (n1 < 0)) = true →
 Q (.int .i64 (-1)) v) ∧
 ((decide (n1 < 0)) = false →
 Q (.int .i64 n1) v)
theorem of6 (n0_0 : Int) (n0_1 : Int) (x0_2 : Sl) (n_1 : Int) (v : World) (Q : Value → World → Prop) (h : vc6 n0_0 n0_1 x0_2 n_1 v Q) : Trip Tryd.prog 6 #[.agg #[.int .i64 n0_0, .int .i64 n0_1, x0_2.val], .int .i64 n_1] v Q :=
 trip_of_eq (args := [.ag [.num .i64 n0_0, .num .i64 n0_1, .sl x0_2], .num .i64 n_1]) (A := ⟨[], [], [], [], psG⟩) Tryd.func6 (by kernel_rfl) (by kernel_rfl) (by kernel_rfl : vc6 n0_0 n0_1 x0_2 n_1 v Q = _) h

def vc7 (n0_0 : Int) (n0_1 : Int) (x0_2 : Sl) (v : World) (Q : Value → World → Prop) : Prop :=
 ∃ n1 : Int, (Trip Tryd.prog 19 #[.agg #[.int .i64 n0_0, .int .i64 n0_1, x0_2.val]] v fun r2 w3 => r2 = .int .i64 n1 ∧ Sub v w3) ∧
 ∃ q4 : Bool, ((decide (n1 < 0)) = false →
 (Trip Tryd.prog 20 #[.agg #[.int .i64 n0_0, .int .i64 n0_1, x0_2.val]] v fun r5 w6 => r5 = .bool q4 ∧ Sub v w6)) ∧
 (((decide (n1 < 0)) || (!q4)) = true →
 Q (.string (ByteArray.mk #[])) v) ∧
 (((decide (n1 < 0)) || (!q4)) = false →
 ∃ s7 : ByteArray, (Trip Tryd.prog 21 #[.agg #[.int .i64 n0_0, .int .i64 n0_1, x0_2.val]] v fun r8 w9 => r8 = .string s7 ∧ Sub v w9) ∧
 Q (.string s7) v)
theorem of7 (n0_0 : Int) (n0_1 : Int) (x0_2 : Sl) (v : World) (Q : Value → World → Prop) (h : vc7 n0_0 n0_1 x0_2 v Q) : Trip Tryd.prog 7 #[.agg #[.int .i64 n0_0, .int .i64 n0_1, x0_2.val]] v Q :=
 trip_of_eq (args := [.ag [.num .i64 n0_0, .num .i64 n0_1, .sl x0_2]]) (A := ⟨[], [], [], [], psG⟩) Tryd.func7 (by kernel_rfl) (by kernel_rfl) (by kernel_rfl : vc7 n0_0 n0_1 x0_2 v Q = _) h

def vc8 (n0_0 : Int) (n0_1 : Int) (x0_2 : Sl) (v : World) (Q : Value → World → Prop) : Prop :=
 Trip Tryd.prog 22 #[x0_2.val] v fun r1 w2 =>
 ∃ x3 : Sl, r1 = x3.val ∧
 Q (.agg #[.int .i64 n0_0, .int .i64 n0_1, x3.val]) w2
theorem of8 (n0_0 : Int) (n0_1 : Int) (x0_2 : Sl) (v : World) (Q : Value → World → Prop) (h : vc8 n0_0 n0_1 x0_2 v Q) : Trip Tryd.prog 8 #[.agg #[.int .i64 n0_0, .int .i64 n0_1, x0_2.val]] v Q :=
 trip_of_eq (args := [.ag [.num .i64 n0_0, .num .i64 n0_1, .sl x0_2]]) (A := ⟨[], [], [], [], psG⟩) Tryd.func8 (by kernel_rfl) (by kernel_rfl) (by kernel_rfl : vc8 n0_0 n0_1 x0_2 v Q = _) h

def vc9 (n0_0 : Int) (n0_1 : Int) (x0_2 : Sl) (v : World) (Q : Value → World → Prop) : Prop :=
 ∃ n1 : Int, (Trip Tryd.prog 16 #[.agg #[.int .i64 n0_0, .int .i64 n0_1, x0_2.val]] v fun r2 w3 => r2 = .int .i64 n1 ∧ Sub v w3) ∧
 ((decide (n1 < 0)) = true →
 Q (.string (ByteArray.mk #[])) v) ∧
 ((decide (n1 < 0)) = false →
 NewAt v (.cells #[(Vl.mk (Value.pointer none) rfl).x, .slice none 0 0] 47 (0, 0)) fun a4 w5 =>
 Trip Tryd.prog 23 #[.pointer (some (a4.add 0)), .agg #[.int .i64 n0_0, .int .i64 n0_1, x0_2.val]] w5 fun r6 w7 =>
 ∃ q8 : Bool, r6 = .bool q8 ∧
 ((!q8) = true →
 Q (.string (ByteArray.mk #[])) w7) ∧
 ((!q8) = false →
 Trip Tryd.prog 24 #[.pointer (some (a4.add 0))] w7 fun r9 w10 =>
 ∃ s11 : ByteArray, r9 = .string s11 ∧
 Q (.string s11) w10))
theorem of9 (n0_0 : Int) (n0_1 : Int) (x0_2 : Sl) (v : World) (Q : Value → World → Prop) (h : vc9 n0_0 n0_1 x0_2 v Q) : Trip Tryd.prog 9 #[.agg #[.int .i64 n0_0, .int .i64 n0_1, x0_2.val]] v Q :=
 trip_of_eq (args := [.ag [.num .i64 n0_0, .num .i64 n0_1, .sl x0_2]]) (A := ⟨[], [], [], [3], psG⟩) Tryd.func9 (by kernel_rfl) (by kernel_rfl) (by kernel_rfl : vc9 n0_0 n0_1 x0_2 v Q = _) h

def vc10 (n0_0 : Int) (n0_1 : Int) (x0_2 : Sl) (n1_0 : Int) (n1_1 : Int) (x1_2 : Sl) (v : World) (Q : Value → World → Prop) : Prop :=
 ((!decide (n0_0 = n1_0)) = true →
 Q (.bool false) v) ∧
 ((!decide (n0_0 = n1_0)) = false →
 ((!decide (n0_1 = n1_1)) = true →
 Q (.bool false) v) ∧
 ((!decide (n0_1 = n1_1)) = false →
 ∃ q1 : Bool, (Trip Tryd.prog 25 #[x0_2.val, x1_2.val] v fun r2 w3 => r2 = .bool q1 ∧ Sub v w3) ∧
 ((!q1) = true →
 Q (.bool false) v) ∧
 ((!q1) = false →
 Q (.bool true) v)))
theorem of10 (n0_0 : Int) (n0_1 : Int) (x0_2 : Sl) (n1_0 : Int) (n1_1 : Int) (x1_2 : Sl) (v : World) (Q : Value → World → Prop) (h : vc10 n0_0 n0_1 x0_2 n1_0 n1_1 x1_2 v Q) : Trip Tryd.prog 10 #[.agg #[.int .i64 n0_0, .int .i64 n0_1, x0_2.val], .agg #[.int .i64 n1_0, .int .i64 n1_1, x1_2.val]] v Q :=
 trip_of_eq (args := [.ag [.num .i64 n0_0, .num .i64 n0_1, .sl x0_2], .ag [.num .i64 n1_0, .num .i64 n1_1, .sl x1_2]]) (A := ⟨[], [], [], [], psG⟩) Tryd.func10 (by kernel_rfl) (by kernel_rfl) (by kernel_rfl : vc10 n0_0 n0_1 x0_2 n1_0 n1_1 x1_2 v Q = _) h

def vc11 (s_0 : ByteArray) (v : World) (Q : Value → World → Prop) : Prop :=
 NewAt v (.cells #[.string s_0, .int .i64 0, .int .i64 0, .bool false] 53 (0, 0)) fun a1 w2 =>
 Trip Tryd.prog 26 #[.pointer (some (a1.add 0))] w2 fun r3 w4 =>
 ∃ n5 : Int, ∃ n6 : Int, ∃ x7 : Sl, r3 = .agg #[.int .i64 n5, .int .i64 n6, x7.val] ∧
 ∃ q8 : Bool, w4.cell? (a1.add 3) = some (.bool q8) ∧
 ∃ q9 : Bool, ((q8 || (s_0.toList == (ByteArray.mk #[]).toList)) = false →
 (Trip Tryd.prog 20 #[.agg #[.int .i64 n5, .int .i64 n6, x7.val]] w4 fun r10 w11 => r10 = .bool q9 ∧ Sub w4 w11)) ∧
 ∃ s12 : ByteArray, (((q8 || (s_0.toList == (ByteArray.mk #[]).toList)) || (!q9)) = false →
 (Trip Tryd.prog 21 #[.agg #[.int .i64 n5, .int .i64 n6, x7.val]] w4 fun r13 w14 => r13 = .string s12 ∧ Sub w4 w14)) ∧
 ((((q8 || (s_0.toList == (ByteArray.mk #[]).toList)) || (!q9)) || (!(s12.toList == s_0.toList))) = true →
 Q (.tuple #[.agg #[.int .i64 0, .int .i64 0, .slice none 0 0], .bool false]) w4) ∧
 ((((q8 || (s_0.toList == (ByteArray.mk #[]).toList)) || (!q9)) || (!(s12.toList == s_0.toList))) = false →
 Q (.tuple #[.agg #[.int .i64 n5, .int .i64 n6, x7.val], .bool true]) w4)
theorem of11 (s_0 : ByteArray) (v : World) (Q : Value → World → Prop) (h : vc11 s_0 v Q) : Trip Tryd.prog 11 #[.string s_0] v Q :=
 trip_of_eq (args := [.st s_0]) (A := ⟨[], [], [], [8], psG⟩) Tryd.func11 (by kernel_rfl) (by kernel_rfl) (by kernel_rfl : vc11 s_0 v Q = _) h

def vc12 (s_0 : ByteArray) (v : World) (Q : Value → World → Prop) : Prop :=
 NewAt v (.cells #[.string ByteArray.empty, .int .i64 0] 56 (0, 0)) fun a1 w2 =>
 StoreAt w2 a1 0 [.string s_0, .int .i64 0] fun w3 =>
 Trip Tryd.prog 27 #[.pointer (some (a1.add 0))] w3 fun r4 w5 =>
 ∃ n6 : Int, ∃ n7 : Int, ∃ x8 : Sl, ∃ q9 : Bool, r4 = .tuple #[.agg #[.int .i64 n6, .int .i64 n7, x8.val], .bool q9] ∧
 ∃ s10 : ByteArray, ((!q9) = false →
 (Trip Tryd.prog 9 #[.agg #[.int .i64 n6, .int .i64 n7, x8.val]] w5 fun r11 w12 => r11 = .string s10 ∧ Sub w5 w12)) ∧
 (((!q9) || (!(s10.toList == s_0.toList))) = true →
 Q (.tuple #[.agg #[.int .i64 0, .int .i64 0, .slice none 0 0], .bool false]) w5) ∧
 (((!q9) || (!(s10.toList == s_0.toList))) = false →
 Q (.tuple #[.agg #[.int .i64 n6, .int .i64 n7, x8.val], .bool true]) w5)
theorem of12 (s_0 : ByteArray) (v : World) (Q : Value → World → Prop) (h : vc12 s_0 v Q) : Trip Tryd.prog 12 #[.string s_0] v Q :=
 trip_of_eq (args := [.st s_0]) (A := ⟨[], [], [], [4], psG⟩) Tryd.func12 (by kernel_rfl) (by kernel_rfl) (by kernel_rfl : vc12 s_0 v Q = _) h

def vc13 (n0_0 : Int) (n0_1 : Int) (x0_2 : Sl) (n_1 : Int) (v : World) (Q : Value → World → Prop) : Prop :=
 Trip Tryd.prog 28 #[x0_2.val, .int .i64 n_1] v fun r1 w2 =>
 ∃ n3 : Int, r1 = .int .i64 n3 ∧
 Q (.int .i64 n3) w2
theorem of13 (n0_0 : Int) (n0_1 : Int) (x0_2 : Sl) (n_1 : Int) (v : World) (Q : Value → World → Prop) (h : vc13 n0_0 n0_1 x0_2 n_1 v Q) : Trip Tryd.prog 13 #[.agg #[.int .i64 n0_0, .int .i64 n0_1, x0_2.val], .int .i64 n_1] v Q :=
 trip_of_eq (args := [.ag [.num .i64 n0_0, .num .i64 n0_1, .sl x0_2], .num .i64 n_1]) (A := ⟨[], [], [], [], psG⟩) Tryd.func13 (by kernel_rfl) (by kernel_rfl) (by kernel_rfl : vc13 n0_0 n0_1 x0_2 n_1 v Q = _) h

def vc14 (n0_0 : Int) (n0_1 : Int) (x0_2 : Sl) (n_1 : Int) (v : World) (Q : Value → World → Prop) : Prop :=
 ∃ n1 : Int, (Trip Tryd.prog 29 #[x0_2.val, .int .i64 n_1] v fun r2 w3 => r2 = .int .i64 n1 ∧ Sub v w3) ∧
 ((decide (n1 < 0)) = true →
 Q (.int .i64 (-1)) v) ∧
 ((decide (n1 < 0)) = false →
 Q (.int .i64 n1) v)
theorem of14 (n0_0 : Int) (n0_1 : Int) (x0_2 : Sl) (n_1 : Int) (v : World) (Q : Value → World → Prop) (h : vc14 n0_0 n0_1 x0_2 n_1 v Q) : Trip Tryd.prog 14 #[.agg #[.int .i64 n0_0, .int .i64 n0_1, x0_2.val], .int .i64 n_1] v Q :=
 trip_of_eq (args := [.ag [.num .i64 n0_0, .num .i64 n0_1, .sl x0_2], .num .i64 n_1]) (A := ⟨[], [], [], [], psG⟩) Tryd.func14 (by kernel_rfl) (by kernel_rfl) (by kernel_rfl : vc14 n0_0 n0_1 x0_2 n_1 v Q = _) h

def vc15 (x_0 : Sl) (v : World) (Q : Value → World → Prop) : Prop :=
 Trip Tryd.prog 31 #[x_0.val] v fun r1 w2 =>
 ∃ a3 : Addr, r1 = .pointer (some (a3.add 0)) ∧
 Trip Tryd.prog 30 #[.pointer (some (a3.add 0))] w2 fun r4 w5 =>
 ∃ n6 : Int, ∃ n7 : Int, ∃ x8 : Sl, r4 = .agg #[.int .i64 n6, .int .i64 n7, x8.val] ∧
 Q (.agg #[.int .i64 n6, .int .i64 n7, x8.val]) w5
theorem of15 (x_0 : Sl) (v : World) (Q : Value → World → Prop) (h : vc15 x_0 v Q) : Trip Tryd.prog 15 #[x_0.val] v Q :=
 trip_of_eq (args := [.sl x_0]) (A := ⟨[], [], [], [], psG⟩) Tryd.func15 (by kernel_rfl) (by kernel_rfl) (by kernel_rfl : vc15 x_0 v Q = _) h

def vc16 (n0_0 : Int) (n0_1 : Int) (x0_2 : Sl) (v : World) (Q : Value → World → Prop) : Prop :=
 NewAt v (.cells #[.int .i64 0] 3 (0, 0)) fun a1 w2 =>
 StoreAt w2 a1 0 [.int .i64 0] fun w3 =>
 Trip Tryd.prog 32 #[.agg #[.int .i64 n0_0, .int .i64 n0_1, x0_2.val], .pointer (some (a1.add 0))] w3 fun r4 w5 =>
 ∃ q6 : Bool, r4 = .bool q6 ∧
 ((!q6) = true →
 Q (.int .i64 (-1)) w5) ∧
 ((!q6) = false →
 ∃ n7 : Int, w5.cell? (a1.add 0) = some (.int .i64 n7) ∧
 Q (.int .i64 n7) w5)
theorem of16 (n0_0 : Int) (n0_1 : Int) (x0_2 : Sl) (v : World) (Q : Value → World → Prop) (h : vc16 n0_0 n0_1 x0_2 v Q) : Trip Tryd.prog 16 #[.agg #[.int .i64 n0_0, .int .i64 n0_1, x0_2.val]] v Q :=
 trip_of_eq (args := [.ag [.num .i64 n0_0, .num .i64 n0_1, .sl x0_2]]) (A := ⟨[], [], [], [3], psG⟩) Tryd.func16 (by kernel_rfl) (by kernel_rfl) (by kernel_rfl : vc16 n0_0 n0_1 x0_2 v Q = _) h

def vc17 (n_0 : Int) (x_1 : Sl) (v : World) (Q : Value → World → Prop) : Prop :=
 Q (.agg #[.int .i64 n_0, .int .i64 0, x_1.val]) v
theorem of17 (n_0 : Int) (x_1 : Sl) (v : World) (Q : Value → World → Prop) (h : vc17 n_0 x_1 v Q) : Trip Tryd.prog 17 #[.int .i64 n_0, x_1.val] v Q :=
 trip_of_eq (args := [.num .i64 n_0, .sl x_1]) (A := ⟨[], [], [], [], psG⟩) Tryd.func17 (by kernel_rfl) (by kernel_rfl) (by kernel_rfl : vc17 n_0 x_1 v Q = _) h

def vc18 (x_0 : Sl) (n_1 : Int) (v : World) (Q : Value → World → Prop) : Prop :=
 ∃ n1 : Int, Wr .i64 (n_1 - (x_0.n : Int)) n1 ∧
 ((decide (n1 < 0)) = true →
 Q (.int .i64 (-1)) v) ∧
 ((decide (n1 < 0)) = false →
 ∃ I2 : Int → Int → World → Prop, ∃ m3 : Int → Int → World → Nat, I2 n1 0 v ∧
 ∀ n4 : Int, ∀ n5 : Int, ∀ w6 : World, I2 n4 n5 w6 →
 ((decide (n5 < (x_0.n : Int))) = true →
 IxOk x_0 n5 ∧
 ∃ n7 : Int, ∃ n8 : Int, ∃ x9 : Sl, (w6.cell? ((elA x_0 n5 3).add 0) = some (.int .i64 n7) ∧
 w6.cell? ((elA x_0 n5 3).add 1) = some (.int .i64 n8) ∧
 w6.cell? ((elA x_0 n5 3).add 2) = some (x9.val)) ∧
 ∃ n10 : Int, (Trip Tryd.prog 6 #[.agg #[.int .i64 n7, .int .i64 n8, x9.val], .int .i64 n4] w6 fun r11 w12 => r11 = .int .i64 n10 ∧ Sub w6 w12) ∧
 ((decide (n10 < 0)) = true →
 Q (.int .i64 (-1)) w6) ∧
 ((decide (n10 < 0)) = false →
 ∃ n13 : Int, Wr .i64 (n5 + 1) n13 ∧
 I2 n10 n13 w6 ∧
 m3 n10 n13 w6 < m3 n4 n5 w6)) ∧
 ((decide (n5 < (x_0.n : Int))) = false →
 Q (.int .i64 n4) w6))
theorem of18 (x_0 : Sl) (n_1 : Int) (v : World) (Q : Value → World → Prop) (h : vc18 x_0 n_1 v Q) : Trip Tryd.prog 18 #[x_0.val, .int .i64 n_1] v Q :=
 trip_of_eq (args := [.sl x_0, .num .i64 n_1]) (A := ⟨[(5, [(1, .int .i64), (5, .int .i64)], [])], [], [], [], psG⟩) Tryd.func18 (by kernel_rfl) (by kernel_rfl) (by kernel_rfl : vc18 x_0 n_1 v Q = _) h

def vc19 (n0_0 : Int) (n0_1 : Int) (x0_2 : Sl) (v : World) (Q : Value → World → Prop) : Prop :=
 ∃ n1 : Int, (Trip Tryd.prog 33 #[.agg #[.int .i64 n0_0, .int .i64 n0_1, x0_2.val], .int .i64 30] v fun r2 w3 => r2 = .int .i64 n1 ∧ Sub v w3) ∧
 ((decide (n1 < 0)) = true →
 Q (.int .i64 (-1)) v) ∧
 ((decide (n1 < 0)) = false →
 ∃ n4 : Int, Wr .i64 (30 - n1) n4 ∧
 Q (.int .i64 n4) v)
theorem of19 (n0_0 : Int) (n0_1 : Int) (x0_2 : Sl) (v : World) (Q : Value → World → Prop) (h : vc19 n0_0 n0_1 x0_2 v Q) : Trip Tryd.prog 19 #[.agg #[.int .i64 n0_0, .int .i64 n0_1, x0_2.val]] v Q :=
 trip_of_eq (args := [.ag [.num .i64 n0_0, .num .i64 n0_1, .sl x0_2]]) (A := ⟨[], [], [], [], psG⟩) Tryd.func19 (by kernel_rfl) (by kernel_rfl) (by kernel_rfl : vc19 n0_0 n0_1 x0_2 v Q = _) h

def vc20 (n0_0 : Int) (n0_1 : Int) (x0_2 : Sl) (v : World) (Q : Value → World → Prop) : Prop :=
 ∃ q1 : Bool, (Trip Tryd.prog 34 #[.int .i64 n0_0, .int .i64 0, .int .i64 13] v fun r2 w3 => r2 = .bool q1 ∧ Sub v w3) ∧
 (((!q1) || (((decide (n0_0 = 0)) || (decide (n0_0 = 12))) && (decide ((x0_2.n : Int) > 0)))) = true →
 Q (.bool false) v) ∧
 (((!q1) || (((decide (n0_0 = 0)) || (decide (n0_0 = 12))) && (decide ((x0_2.n : Int) > 0)))) = false →
 ∃ q4 : Bool, ((decide (n0_0 = 0)) = true →
 (Trip Tryd.prog 34 #[.int .i64 n0_1, .int .i64 (-999), .int .i64 999] v fun r5 w6 => r5 = .bool q4 ∧ Sub v w6)) ∧
 (((decide (n0_0 = 0)) && (!q4)) = true →
 Q (.bool false) v) ∧
 (((decide (n0_0 = 0)) && (!q4)) = false →
 ∃ q7 : Bool, ((decide (n0_0 = 12)) = false →
 (Trip Tryd.prog 35 #[.int .i64 n0_0] v fun r8 w9 => r8 = .bool q7 ∧ Sub v w9)) ∧
 ∃ q10 : Bool, (((decide (n0_0 = 12)) || q7) = true →
 (Trip Tryd.prog 34 #[.int .i64 n0_1, .int .i64 0, .int .i64 99] v fun r11 w12 => r11 = .bool q10 ∧ Sub v w12)) ∧
 ((((decide (n0_0 = 12)) || q7) && (!q10)) = true →
 Q (.bool false) v) ∧
 ((((decide (n0_0 = 12)) || q7) && (!q10)) = false →
 ∃ q13 : Bool, (((!decide (n0_0 = 0)) && (!decide (n0_0 = 12))) = true →
 (Trip Tryd.prog 35 #[.int .i64 n0_0] v fun r14 w15 => r14 = .bool q13 ∧ Sub v w15)) ∧
 (((((!decide (n0_0 = 0)) && (!decide (n0_0 = 12))) && (!q13)) && (!decide (n0_1 = 0))) = true →
 Q (.bool false) v) ∧
 (((((!decide (n0_0 = 0)) && (!decide (n0_0 = 12))) && (!q13)) && (!decide (n0_1 = 0))) = false →
 ∃ I16 : Int → World → Prop, ∃ m17 : Int → World → Nat, I16 0 v ∧
 ∀ n18 : Int, ∀ w19 : World, I16 n18 w19 →
 ((decide (n18 < (x0_2.n : Int))) = true →
 IxOk x0_2 n18 ∧
 ∃ n20 : Int, ∃ n21 : Int, ∃ x22 : Sl, (w19.cell? ((elA x0_2 n18 3).add 0) = some (.int .i64 n20) ∧
 w19.cell? ((elA x0_2 n18 3).add 1) = some (.int .i64 n21) ∧
 w19.cell? ((elA x0_2 n18 3).add 2) = some (x22.val)) ∧
 ∃ q23 : Bool, (Trip Tryd.prog 20 #[.agg #[.int .i64 n20, .int .i64 n21, x22.val]] w19 fun r24 w25 => r24 = .bool q23 ∧ Sub w19 w25) ∧
 ((!q23) = true →
 Q (.bool false) w19) ∧
 ((!q23) = false →
 ∃ n26 : Int, Wr .i64 (n18 + 1) n26 ∧
 ((.num .i64 n0_0 : SV) = .num .i64 n0_0) ∧
 ((.num .i64 n0_1 : SV) = .num .i64 n0_1) ∧
 ((.sl x0_2 : SV) = .sl x0_2) ∧
 I16 n26 w19 ∧
 m17 n26 w19 < m17 n18 w19)) ∧
 ((decide (n18 < (x0_2.n : Int))) = false →
 Q (.bool true) w19)))))
theorem of20 (n0_0 : Int) (n0_1 : Int) (x0_2 : Sl) (v : World) (Q : Value → World → Prop) (h : vc20 n0_0 n0_1 x0_2 v Q) : Trip Tryd.prog 20 #[.agg #[.int .i64 n0_0, .int .i64 n0_1, x0_2.val]] v Q :=
 trip_of_eq (args := [.ag [.num .i64 n0_0, .num .i64 n0_1, .sl x0_2]]) (A := ⟨[(10, [(3, .int .i64)], [])], [], [], [], psG⟩) Tryd.func20 (by kernel_rfl) (by kernel_rfl) (by kernel_rfl : vc20 n0_0 n0_1 x0_2 v Q = _) h

def vc21 (n0_0 : Int) (n0_1 : Int) (x0_2 : Sl) (v : World) (Q : Value → World → Prop) : Prop :=
 ((decide (n0_0 = 0)) = true →
 ∃ s1 : ByteArray, (Trip Tryd.prog 36 #[.int .i64 n0_1] v fun r2 w3 => r2 = .string s1 ∧ Sub v w3) ∧
 Q (.string s1) v) ∧
 ((decide (n0_0 = 0)) = false →
 ((decide (n0_0 = 12)) = true →
 ∃ s4 : ByteArray, (Trip Tryd.prog 36 #[.int .i64 n0_1] v fun r5 w6 => r5 = .string s4 ∧ Sub v w6) ∧
 (((ByteArray.mk #[118]).size + s4.size : Nat) : Int) ≤ 9223372036854775807 ∧
 Q (.string ((ByteArray.mk #[118]) ++ s4)) v) ∧
 ((decide (n0_0 = 12)) = false →
 ∃ s7 : ByteArray, (Trip Tryd.prog 37 #[.int .i64 n0_0] v fun r8 w9 => r8 = .string s7 ∧ Sub v w9) ∧
 (((ByteArray.mk #[40]).size + s7.size : Nat) : Int) ≤ 9223372036854775807 ∧
 ∃ q10 : Bool, (Trip Tryd.prog 35 #[.int .i64 n0_0] v fun r11 w12 => r11 = .bool q10 ∧ Sub v w12) ∧
 (q10 = true →
 ∃ s13 : ByteArray, (Trip Tryd.prog 36 #[.int .i64 n0_1] v fun r14 w15 => r14 = .string s13 ∧ Sub v w15) ∧
 ((((ByteArray.mk #[40]) ++ s7).size + s13.size : Nat) : Int) ≤ 9223372036854775807 ∧
 ∃ I16 : ByteArray → Int → World → Prop, ∃ m17 : ByteArray → Int → World → Nat, I16 (((ByteArray.mk #[40]) ++ s7) ++ s13) 0 v ∧
 ∀ s18 : ByteArray, ∀ n19 : Int, ∀ w20 : World, I16 s18 n19 w20 →
 ((decide (n19 < (x0_2.n : Int))) = true →
 ((s18.size + (ByteArray.mk #[32]).size : Nat) : Int) ≤ 9223372036854775807 ∧
 IxOk x0_2 n19 ∧
 ∃ n21 : Int, ∃ n22 : Int, ∃ x23 : Sl, (w20.cell? ((elA x0_2 n19 3).add 0) = some (.int .i64 n21) ∧
 w20.cell? ((elA x0_2 n19 3).add 1) = some (.int .i64 n22) ∧
 w20.cell? ((elA x0_2 n19 3).add 2) = some (x23.val)) ∧
 ∃ s24 : ByteArray, (Trip Tryd.prog 21 #[.agg #[.int .i64 n21, .int .i64 n22, x23.val]] w20 fun r25 w26 => r25 = .string s24 ∧ Sub w20 w26) ∧
 (((s18 ++ (ByteArray.mk #[32])).size + s24.size : Nat) : Int) ≤ 9223372036854775807 ∧
 ∃ n27 : Int, Wr .i64 (n19 + 1) n27 ∧
 ((.num .i64 n0_0 : SV) = .num .i64 n0_0) ∧
 ((.num .i64 n0_1 : SV) = .num .i64 n0_1) ∧
 ((.sl x0_2 : SV) = .sl x0_2) ∧
 I16 ((s18 ++ (ByteArray.mk #[32])) ++ s24) n27 w20 ∧
 m17 ((s18 ++ (ByteArray.mk #[32])) ++ s24) n27 w20 < m17 s18 n19 w20) ∧
 ((decide (n19 < (x0_2.n : Int))) = false →
 ((s18.size + (ByteArray.mk #[41]).size : Nat) : Int) ≤ 9223372036854775807 ∧
 Q (.string (s18 ++ (ByteArray.mk #[41]))) w20)) ∧
 (q10 = false →
 ∃ I28 : ByteArray → Int → World → Prop, ∃ m29 : ByteArray → Int → World → Nat, I28 ((ByteArray.mk #[40]) ++ s7) 0 v ∧
 ∀ s30 : ByteArray, ∀ n31 : Int, ∀ w32 : World, I28 s30 n31 w32 →
 ((decide (n31 < (x0_2.n : Int))) = true →
 ((s30.size + (ByteArray.mk #[32]).size : Nat) : Int) ≤ 9223372036854775807 ∧
 IxOk x0_2 n31 ∧
 ∃ n33 : Int, ∃ n34 : Int, ∃ x35 : Sl, (w32.cell? ((elA x0_2 n31 3).add 0) = some (.int .i64 n33) ∧
 w32.cell? ((elA x0_2 n31 3).add 1) = some (.int .i64 n34) ∧
 w32.cell? ((elA x0_2 n31 3).add 2) = some (x35.val)) ∧
 ∃ s36 : ByteArray, (Trip Tryd.prog 21 #[.agg #[.int .i64 n33, .int .i64 n34, x35.val]] w32 fun r37 w38 => r37 = .string s36 ∧ Sub w32 w38) ∧
 (((s30 ++ (ByteArray.mk #[32])).size + s36.size : Nat) : Int) ≤ 9223372036854775807 ∧
 ∃ n39 : Int, Wr .i64 (n31 + 1) n39 ∧
 ((.num .i64 n0_0 : SV) = .num .i64 n0_0) ∧
 ((.num .i64 n0_1 : SV) = .num .i64 n0_1) ∧
 ((.sl x0_2 : SV) = .sl x0_2) ∧
 I28 ((s30 ++ (ByteArray.mk #[32])) ++ s36) n39 w32 ∧
 m29 ((s30 ++ (ByteArray.mk #[32])) ++ s36) n39 w32 < m29 s30 n31 w32) ∧
 ((decide (n31 < (x0_2.n : Int))) = false →
 ((s30.size + (ByteArray.mk #[41]).size : Nat) : Int) ≤ 9223372036854775807 ∧
 Q (.string (s30 ++ (ByteArray.mk #[41]))) w32))))
theorem of21 (n0_0 : Int) (n0_1 : Int) (x0_2 : Sl) (v : World) (Q : Value → World → Prop) (h : vc21 n0_0 n0_1 x0_2 v Q) : Trip Tryd.prog 21 #[.agg #[.int .i64 n0_0, .int .i64 n0_1, x0_2.val]] v Q :=
 trip_of_eq (args := [.ag [.num .i64 n0_0, .num .i64 n0_1, .sl x0_2]]) (A := ⟨[(9, [(3, .str), (4, .int .i64)], [])], [], [], [], psG⟩) Tryd.func21 (by kernel_rfl) (by kernel_rfl) (by kernel_rfl : vc21 n0_0 n0_1 x0_2 v Q = _) h

def vc22 (x_0 : Sl) (v : World) (Q : Value → World → Prop) : Prop :=
 StepT Tryd.prog (Instr.makeSlice 27 (.int .i64 (x_0.n : Int)) (.int .i64 (x_0.n : Int))) v fun r1 w2 =>
 ∃ x3 : Sl, r1 = x3.val ∧
 ∃ I4 : Int → World → Prop, ∃ m5 : Int → World → Nat, I4 0 w2 ∧
 ∀ n6 : Int, ∀ w7 : World, I4 n6 w7 →
 ((decide (n6 < (x_0.n : Int))) = true →
 IxOk x_0 n6 ∧
 ∃ n8 : Int, ∃ n9 : Int, ∃ x10 : Sl, (w7.cell? ((elA x_0 n6 3).add 0) = some (.int .i64 n8) ∧
 w7.cell? ((elA x_0 n6 3).add 1) = some (.int .i64 n9) ∧
 w7.cell? ((elA x_0 n6 3).add 2) = some (x10.val)) ∧
 Trip Tryd.prog 8 #[.agg #[.int .i64 n8, .int .i64 n9, x10.val]] w7 fun r11 w12 =>
 ∃ n13 : Int, ∃ n14 : Int, ∃ x15 : Sl, r11 = .agg #[.int .i64 n13, .int .i64 n14, x15.val] ∧
 IxOk x3 n6 ∧
 StoreAt w12 (elA x3 n6 3) 0 [.int .i64 n13, .int .i64 n14, x15.val] fun w16 =>
 ∃ n17 : Int, Wr .i64 (n6 + 1) n17 ∧
 I4 n17 w16 ∧
 m5 n17 w16 < m5 n6 w7) ∧
 ((decide (n6 < (x_0.n : Int))) = false →
 Q (x3.val) w7)
theorem of22 (x_0 : Sl) (v : World) (Q : Value → World → Prop) (h : vc22 x_0 v Q) : Trip Tryd.prog 22 #[x_0.val] v Q :=
 trip_of_eq (args := [.sl x_0]) (A := ⟨[(3, [(4, .int .i64)], [])], [], [], [], psG⟩) Tryd.func22 (by kernel_rfl) (by kernel_rfl) (by kernel_rfl : vc22 x_0 v Q = _) h

def vc23 (a_0 : Addr) (n1_0 : Int) (n1_1 : Int) (x1_2 : Sl) (v : World) (Q : Value → World → Prop) : Prop :=
 ((decide (n1_0 = 0)) = true →
 ∃ s1 : ByteArray, (Trip Tryd.prog 39 #[.int .i64 n1_1] v fun r2 w3 => r2 = .string s1 ∧ Sub v w3) ∧
 Trip Tryd.prog 38 #[.pointer (some (a_0.add 0)), .string s1] v fun r4 w5 =>
 ∃ n6 : Int, ∃ y7 : Vl, r4 = .tuple #[.int .i64 n6, y7.x] ∧
 ∃ q8 : Bool, ((decide ((x1_2.n : Int) = 0)) = true →
 (Trip Tryd.prog 40 #[.int .i64 n1_1] w5 fun r9 w10 => r9 = .bool q8 ∧ Sub w5 w10)) ∧
 Q (.bool ((decide ((x1_2.n : Int) = 0)) && q8)) w5) ∧
 ((decide (n1_0 = 0)) = false →
 ((decide (n1_0 = 12)) = true →
 ∃ s11 : ByteArray, (Trip Tryd.prog 39 #[.int .i64 n1_1] v fun r12 w13 => r12 = .string s11 ∧ Sub v w13) ∧
 (((ByteArray.mk #[118]).size + s11.size : Nat) : Int) ≤ 9223372036854775807 ∧
 Trip Tryd.prog 38 #[.pointer (some (a_0.add 0)), .string ((ByteArray.mk #[118]) ++ s11)] v fun r14 w15 =>
 ∃ n16 : Int, ∃ y17 : Vl, r14 = .tuple #[.int .i64 n16, y17.x] ∧
 Q (.bool ((decide ((x1_2.n : Int) = 0)) && ((decide (n1_1 ≥ 0)) && (decide (n1_1 ≤ 99))))) w15) ∧
 ((decide (n1_0 = 12)) = false →
 ∃ s18 : ByteArray, ∃ q19 : Bool, (Trip Tryd.prog 41 #[.int .i64 n1_0] v fun r20 w21 => r20 = .tuple #[.string s18, .bool q19] ∧ Sub v w21) ∧
 (((ByteArray.mk #[40]).size + s18.size : Nat) : Int) ≤ 9223372036854775807 ∧
 Trip Tryd.prog 38 #[.pointer (some (a_0.add 0)), .string ((ByteArray.mk #[40]) ++ s18)] v fun r22 w23 =>
 ∃ n24 : Int, ∃ y25 : Vl, r22 = .tuple #[.int .i64 n24, y25.x] ∧
 ((((s18.toList == (ByteArray.mk #[]).toList) || (q19 && (!((decide (n1_1 ≥ 0)) && (decide (n1_1 ≤ 99)))))) || ((!q19) && (!decide (n1_1 = 0)))) = true →
 Q (.bool false) w23) ∧
 ((((s18.toList == (ByteArray.mk #[]).toList) || (q19 && (!((decide (n1_1 ≥ 0)) && (decide (n1_1 ≤ 99)))))) || ((!q19) && (!decide (n1_1 = 0)))) = false →
 (q19 = true →
 ∃ s26 : ByteArray, (Trip Tryd.prog 39 #[.int .i64 n1_1] w23 fun r27 w28 => r27 = .string s26 ∧ Sub w23 w28) ∧
 Trip Tryd.prog 38 #[.pointer (some (a_0.add 0)), .string s26] w23 fun r29 w30 =>
 ∃ n31 : Int, ∃ y32 : Vl, r29 = .tuple #[.int .i64 n31, y32.x] ∧
 ∃ I33 : Int → World → Prop, ∃ m34 : Int → World → Nat, I33 0 w30 ∧
 ∀ n35 : Int, ∀ w36 : World, I33 n35 w36 →
 ((decide (n35 < (x1_2.n : Int))) = true →
 IxOk x1_2 n35 ∧
 ∃ n37 : Int, ∃ n38 : Int, ∃ x39 : Sl, (w36.cell? ((elA x1_2 n35 3).add 0) = some (.int .i64 n37) ∧
 w36.cell? ((elA x1_2 n35 3).add 1) = some (.int .i64 n38) ∧
 w36.cell? ((elA x1_2 n35 3).add 2) = some (x39.val)) ∧
 Trip Tryd.prog 38 #[.pointer (some (a_0.add 0)), .string (ByteArray.mk #[32])] w36 fun r40 w41 =>
 ∃ n42 : Int, ∃ y43 : Vl, r40 = .tuple #[.int .i64 n42, y43.x] ∧
 Trip Tryd.prog 23 #[.pointer (some (a_0.add 0)), .agg #[.int .i64 n37, .int .i64 n38, x39.val]] w41 fun r44 w45 =>
 ∃ q46 : Bool, r44 = .bool q46 ∧
 ((!q46) = true →
 Q (.bool false) w45) ∧
 ((!q46) = false →
 ∃ n47 : Int, Wr .i64 (n35 + 1) n47 ∧
 ((.num .i64 n1_0 : SV) = .num .i64 n1_0) ∧
 ((.num .i64 n1_1 : SV) = .num .i64 n1_1) ∧
 ((.sl x1_2 : SV) = .sl x1_2) ∧
 I33 n47 w45 ∧
 m34 n47 w45 < m34 n35 w36)) ∧
 ((decide (n35 < (x1_2.n : Int))) = false →
 Trip Tryd.prog 38 #[.pointer (some (a_0.add 0)), .string (ByteArray.mk #[41])] w36 fun r48 w49 =>
 ∃ n50 : Int, ∃ y51 : Vl, r48 = .tuple #[.int .i64 n50, y51.x] ∧
 Q (.bool true) w49)) ∧
 (q19 = false →
 ∃ I52 : Int → World → Prop, ∃ m53 : Int → World → Nat, I52 0 w23 ∧
 ∀ n54 : Int, ∀ w55 : World, I52 n54 w55 →
 ((decide (n54 < (x1_2.n : Int))) = true →
 IxOk x1_2 n54 ∧
 ∃ n56 : Int, ∃ n57 : Int, ∃ x58 : Sl, (w55.cell? ((elA x1_2 n54 3).add 0) = some (.int .i64 n56) ∧
 w55.cell? ((elA x1_2 n54 3).add 1) = some (.int .i64 n57) ∧
 w55.cell? ((elA x1_2 n54 3).add 2) = some (x58.val)) ∧
 Trip Tryd.prog 38 #[.pointer (some (a_0.add 0)), .string (ByteArray.mk #[32])] w55 fun r59 w60 =>
 ∃ n61 : Int, ∃ y62 : Vl, r59 = .tuple #[.int .i64 n61, y62.x] ∧
 Trip Tryd.prog 23 #[.pointer (some (a_0.add 0)), .agg #[.int .i64 n56, .int .i64 n57, x58.val]] w60 fun r63 w64 =>
 ∃ q65 : Bool, r63 = .bool q65 ∧
 ((!q65) = true →
 Q (.bool false) w64) ∧
 ((!q65) = false →
 ∃ n66 : Int, Wr .i64 (n54 + 1) n66 ∧
 ((.num .i64 n1_0 : SV) = .num .i64 n1_0) ∧
 ((.num .i64 n1_1 : SV) = .num .i64 n1_1) ∧
 ((.sl x1_2 : SV) = .sl x1_2) ∧
 I52 n66 w64 ∧
 m53 n66 w64 < m53 n54 w55)) ∧
 ((decide (n54 < (x1_2.n : Int))) = false →
 Trip Tryd.prog 38 #[.pointer (some (a_0.add 0)), .string (ByteArray.mk #[41])] w55 fun r67 w68 =>
 ∃ n69 : Int, ∃ y70 : Vl, r67 = .tuple #[.int .i64 n69, y70.x] ∧
 Q (.bool true) w68)))))
theorem of23 (a_0 : Addr) (n1_0 : Int) (n1_1 : Int) (x1_2 : Sl) (v : World) (Q : Value → World → Prop) (h : vc23 a_0 n1_0 n1_1 x1_2 v Q) : Trip Tryd.prog 23 #[.pointer (some (a_0.add 0)), .agg #[.int .i64 n1_0, .int .i64 n1_1, x1_2.val]] v Q :=
 trip_of_eq (args := [.pt a_0 0, .ag [.num .i64 n1_0, .num .i64 n1_1, .sl x1_2]]) (A := ⟨[(16, [(90, .int .i64)], [])], [], [], [], psG⟩) Tryd.func23 (by kernel_rfl) (by kernel_rfl) (by kernel_rfl : vc23 a_0 n1_0 n1_1 x1_2 v Q = _) h

def vc25 (x_0 : Sl) (x_1 : Sl) (v : World) (Q : Value → World → Prop) : Prop :=
 ((!decide ((x_0.n : Int) = (x_1.n : Int))) = true →
 Q (.bool false) v) ∧
 ((!decide ((x_0.n : Int) = (x_1.n : Int))) = false →
 ∃ I1 : Int → World → Prop, ∃ m2 : Int → World → Nat, I1 0 v ∧
 ∀ n3 : Int, ∀ w4 : World, I1 n3 w4 →
 ((decide (n3 < (x_0.n : Int))) = true →
 IxOk x_0 n3 ∧
 ∃ n5 : Int, ∃ n6 : Int, ∃ x7 : Sl, (w4.cell? ((elA x_0 n3 3).add 0) = some (.int .i64 n5) ∧
 w4.cell? ((elA x_0 n3 3).add 1) = some (.int .i64 n6) ∧
 w4.cell? ((elA x_0 n3 3).add 2) = some (x7.val)) ∧
 IxOk x_1 n3 ∧
 ∃ n8 : Int, ∃ n9 : Int, ∃ x10 : Sl, (w4.cell? ((elA x_1 n3 3).add 0) = some (.int .i64 n8) ∧
 w4.cell? ((elA x_1 n3 3).add 1) = some (.int .i64 n9) ∧
 w4.cell? ((elA x_1 n3 3).add 2) = some (x10.val)) ∧
 ∃ q11 : Bool, (Trip Tryd.prog 10 #[.agg #[.int .i64 n5, .int .i64 n6, x7.val], .agg #[.int .i64 n8, .int .i64 n9, x10.val]] w4 fun r12 w13 => r12 = .bool q11 ∧ Sub w4 w13) ∧
 ((!q11) = true →
 Q (.bool false) w4) ∧
 ((!q11) = false →
 ∃ n14 : Int, Wr .i64 (n3 + 1) n14 ∧
 I1 n14 w4 ∧
 m2 n14 w4 < m2 n3 w4)) ∧
 ((decide (n3 < (x_0.n : Int))) = false →
 Q (.bool true) w4))
theorem of25 (x_0 : Sl) (x_1 : Sl) (v : World) (Q : Value → World → Prop) (h : vc25 x_0 x_1 v Q) : Trip Tryd.prog 25 #[x_0.val, x_1.val] v Q :=
 trip_of_eq (args := [.sl x_0, .sl x_1]) (A := ⟨[(4, [(5, .int .i64)], [])], [], [], [], psG⟩) Tryd.func25 (by kernel_rfl) (by kernel_rfl) (by kernel_rfl : vc25 x_0 x_1 v Q = _) h

def vc26 (a_0 : Addr) (v : World) (Q : Value → World → Prop) : Prop :=
 ∃ n1 : Int, v.cell? (a_0.add 2) = some (.int .i64 n1) ∧
 ∃ n2 : Int, Wr .i64 (n1 + 1) n2 ∧
 StoreAt v a_0 2 [.int .i64 n2] fun w3 =>
 ∃ q4 : Bool, w3.cell? (a_0.add 3) = some (.bool q4) ∧
 ∃ n5 : Int, (q4 = false →
 w3.cell? (a_0.add 2) = some (.int .i64 n5)) ∧
 ((q4 || (decide (n5 > 30))) = true →
 StoreAt w3 a_0 3 [.bool true] fun w6 =>
 Q (.agg #[.int .i64 0, .int .i64 0, .slice none 0 0]) w6) ∧
 ((q4 || (decide (n5 > 30))) = false →
 ∃ n7 : Int, (Trip Tryd.prog 42 #[.pointer (some (a_0.add 0))] w3 fun r8 w9 => r8 = .int .i64 n7 ∧ Sub w3 w9) ∧
 ((decide (n7 = 118)) = true →
 ∃ n10 : Int, w3.cell? (a_0.add 1) = some (.int .i64 n10) ∧
 ∃ n11 : Int, Wr .i64 (n10 + 1) n11 ∧
 StoreAt w3 a_0 1 [.int .i64 n11] fun w12 =>
 Trip Tryd.prog 43 #[.pointer (some (a_0.add 0))] w12 fun r13 w14 =>
 ∃ n15 : Int, r13 = .int .i64 n15 ∧
 StepT Tryd.prog (Instr.buildSlice 27 0 #[]) w14 fun r16 w17 =>
 ∃ x18 : Sl, r16 = x18.val ∧
 Q (.agg #[.int .i64 12, .int .i64 n15, x18.val]) w17) ∧
 ((decide (n7 = 118)) = false →
 ∃ n19 : Int, (Trip Tryd.prog 42 #[.pointer (some (a_0.add 0))] w3 fun r20 w21 => r20 = .int .i64 n19 ∧ Sub w3 w21) ∧
 ((decide (n19 = 45)) = true →
 ∃ n22 : Int, w3.cell? (a_0.add 1) = some (.int .i64 n22) ∧
 ∃ n23 : Int, Wr .i64 (n22 + 1) n23 ∧
 StoreAt w3 a_0 1 [.int .i64 n23] fun w24 =>
 Trip Tryd.prog 43 #[.pointer (some (a_0.add 0))] w24 fun r25 w26 =>
 ∃ n27 : Int, r25 = .int .i64 n27 ∧
 ∃ n28 : Int, Wr .i64 (0 - n27) n28 ∧
 StepT Tryd.prog (Instr.buildSlice 27 0 #[]) w26 fun r29 w30 =>
 ∃ x31 : Sl, r29 = x31.val ∧
 Q (.agg #[.int .i64 0, .int .i64 n28, x31.val]) w30) ∧
 ((decide (n19 = 45)) = false →
 ∃ n32 : Int, (Trip Tryd.prog 42 #[.pointer (some (a_0.add 0))] w3 fun r33 w34 => r33 = .int .i64 n32 ∧ Sub w3 w34) ∧
 ((!decide (n32 = 40)) = true →
 Trip Tryd.prog 43 #[.pointer (some (a_0.add 0))] w3 fun r35 w36 =>
 ∃ n37 : Int, r35 = .int .i64 n37 ∧
 StepT Tryd.prog (Instr.buildSlice 27 0 #[]) w36 fun r38 w39 =>
 ∃ x40 : Sl, r38 = x40.val ∧
 Q (.agg #[.int .i64 0, .int .i64 n37, x40.val]) w39) ∧
 ((!decide (n32 = 40)) = false →
 ∃ n41 : Int, w3.cell? (a_0.add 1) = some (.int .i64 n41) ∧
 ∃ n42 : Int, Wr .i64 (n41 + 1) n42 ∧
 StoreAt w3 a_0 1 [.int .i64 n42] fun w43 =>
 Trip Tryd.prog 45 #[.pointer (some (a_0.add 0))] w43 fun r44 w45 =>
 ∃ s46 : ByteArray, r44 = .string s46 ∧
 ∃ n47 : Int, (Trip Tryd.prog 44 #[.string s46] w45 fun r48 w49 => r48 = .int .i64 n47 ∧ Sub w45 w49) ∧
 ((decide (n47 < 0)) = true →
 StoreAt w45 a_0 3 [.bool true] fun w50 =>
 Q (.agg #[.int .i64 0, .int .i64 0, .slice none 0 0]) w50) ∧
 ((decide (n47 < 0)) = false →
 ∃ q51 : Bool, (Trip Tryd.prog 35 #[.int .i64 n47] w45 fun r52 w53 => r52 = .bool q51 ∧ Sub w45 w53) ∧
 (q51 = true →
 Trip Tryd.prog 43 #[.pointer (some (a_0.add 0))] w45 fun r54 w55 =>
 ∃ n56 : Int, r54 = .int .i64 n56 ∧
 StepT Tryd.prog (Instr.buildSlice 27 0 #[]) w55 fun r57 w58 =>
 ∃ x59 : Sl, r57 = x59.val ∧
 ∃ I60 : Sl → World → Prop, ∃ m61 : Sl → World → Nat, I60 x59 w58 ∧
 ∀ x62 : Sl, ∀ w63 : World, I60 x62 w63 →
 ∃ q64 : Bool, w63.cell? (a_0.add 3) = some (.bool q64) ∧
 ∃ n65 : Int, ((!q64) = true →
 (Trip Tryd.prog 42 #[.pointer (some (a_0.add 0))] w63 fun r66 w67 => r66 = .int .i64 n65 ∧ Sub w63 w67)) ∧
 (((!q64) && (decide (n65 = 32))) = true →
 ∃ n68 : Int, w63.cell? (a_0.add 1) = some (.int .i64 n68) ∧
 ∃ n69 : Int, Wr .i64 (n68 + 1) n69 ∧
 StoreAt w63 a_0 1 [.int .i64 n69] fun w70 =>
 Trip Tryd.prog 26 #[.pointer (some (a_0.add 0))] w70 fun r71 w72 =>
 ∃ n73 : Int, ∃ n74 : Int, ∃ x75 : Sl, r71 = .agg #[.int .i64 n73, .int .i64 n74, x75.val] ∧
 StepT Tryd.prog (Instr.buildSlice 27 1 #[(0, (.agg #[.int .i64 n73, .int .i64 n74, x75.val]))]) w72 fun r76 w77 =>
 ∃ x78 : Sl, r76 = x78.val ∧
 StepT Tryd.prog (Builtin.append_ #[27, 27] 27 #[(x62.val), (x78.val)]) w77 fun r79 w80 =>
 ∃ x81 : Sl, r79 = x81.val ∧
 ((.num .i64 0 : SV) = .num .i64 0) ∧
 ((.num .i64 0 : SV) = .num .i64 0) ∧
 ((.sl (Sl.mk none 0 0) : SV) = .sl (Sl.mk none 0 0)) ∧
 I60 x81 w80 ∧
 m61 x81 w80 < m61 x62 w63) ∧
 (((!q64) && (decide (n65 = 32))) = false →
 Trip Tryd.prog 46 #[.pointer (some (a_0.add 0)), .string (ByteArray.mk #[41])] w63 fun r82 w83 =>
 r82 = .tuple #[] ∧
 Q (.agg #[.int .i64 n47, .int .i64 n56, x62.val]) w83)) ∧
 (q51 = false →
 StepT Tryd.prog (Instr.buildSlice 27 0 #[]) w45 fun r84 w85 =>
 ∃ x86 : Sl, r84 = x86.val ∧
 ∃ I87 : Sl → World → Prop, ∃ m88 : Sl → World → Nat, I87 x86 w85 ∧
 ∀ x89 : Sl, ∀ w90 : World, I87 x89 w90 →
 ∃ q91 : Bool, w90.cell? (a_0.add 3) = some (.bool q91) ∧
 ∃ n92 : Int, ((!q91) = true →
 (Trip Tryd.prog 42 #[.pointer (some (a_0.add 0))] w90 fun r93 w94 => r93 = .int .i64 n92 ∧ Sub w90 w94)) ∧
 (((!q91) && (decide (n92 = 32))) = true →
 ∃ n95 : Int, w90.cell? (a_0.add 1) = some (.int .i64 n95) ∧
 ∃ n96 : Int, Wr .i64 (n95 + 1) n96 ∧
 StoreAt w90 a_0 1 [.int .i64 n96] fun w97 =>
 Trip Tryd.prog 26 #[.pointer (some (a_0.add 0))] w97 fun r98 w99 =>
 ∃ n100 : Int, ∃ n101 : Int, ∃ x102 : Sl, r98 = .agg #[.int .i64 n100, .int .i64 n101, x102.val] ∧
 StepT Tryd.prog (Instr.buildSlice 27 1 #[(0, (.agg #[.int .i64 n100, .int .i64 n101, x102.val]))]) w99 fun r103 w104 =>
 ∃ x105 : Sl, r103 = x105.val ∧
 StepT Tryd.prog (Builtin.append_ #[27, 27] 27 #[(x89.val), (x105.val)]) w104 fun r106 w107 =>
 ∃ x108 : Sl, r106 = x108.val ∧
 ((.num .i64 0 : SV) = .num .i64 0) ∧
 ((.num .i64 0 : SV) = .num .i64 0) ∧
 ((.sl (Sl.mk none 0 0) : SV) = .sl (Sl.mk none 0 0)) ∧
 I87 x108 w107 ∧
 m88 x108 w107 < m88 x89 w90) ∧
 (((!q91) && (decide (n92 = 32))) = false →
 Trip Tryd.prog 46 #[.pointer (some (a_0.add 0)), .string (ByteArray.mk #[41])] w90 fun r109 w110 =>
 r109 = .tuple #[] ∧
 Q (.agg #[.int .i64 n47, .int .i64 0, x89.val]) w110)))))))
theorem of26 (a_0 : Addr) (v : World) (Q : Value → World → Prop) (h : vc26 a_0 v Q) : Trip Tryd.prog 26 #[.pointer (some (a_0.add 0))] v Q :=
 trip_of_eq (args := [.pt a_0 0]) (A := ⟨[(22, [(5, .sl)], [])], [], [], [], psG⟩) Tryd.func26 (by kernel_rfl) (by kernel_rfl) (by kernel_rfl : vc26 a_0 v Q = _) h

def vc27 (a_0 : Addr) (v : World) (Q : Value → World → Prop) : Prop :=
 ∃ n1 : Int, v.cell? (a_0.add 1) = some (.int .i64 n1) ∧
 ∃ n2 : Int, Wr .i64 (n1 + 1) n2 ∧
 StoreAt v a_0 1 [.int .i64 n2] fun w3 =>
 ∃ n4 : Int, w3.cell? (a_0.add 1) = some (.int .i64 n4) ∧
 ((decide (n4 > 30)) = true →
 Q (.tuple #[.agg #[.int .i64 0, .int .i64 0, .slice none 0 0], .bool false]) w3) ∧
 ((decide (n4 > 30)) = false →
 Trip Tryd.prog 47 #[.pointer (some (a_0.add 0)), .int .u8 40] w3 fun r5 w6 =>
 ∃ q7 : Bool, r5 = .bool q7 ∧
 ((!q7) = true →
 Trip Tryd.prog 48 #[.pointer (some (a_0.add 0))] w6 fun r8 w9 =>
 ∃ s10 : ByteArray, r8 = .string s10 ∧
 ∃ s11 : ByteArray, ∃ q12 : Bool, (Trip Tryd.prog 49 #[.string s10, .string (ByteArray.mk #[118])] w9 fun r13 w14 => r13 = .tuple #[.string s11, .bool q12] ∧ Sub w9 w14) ∧
 (q12 = true →
 Trip Tryd.prog 50 #[.string s11] w9 fun r15 w16 =>
 ∃ n17 : Int, ∃ y18 : Vl, r15 = .tuple #[.int .i64 n17, y18.x] ∧
 (∃ q19 : Bool, PureT Tryd.prog (do eqGuard .eql 68 (.tmp 46) (.const (.nilIface)) (y18.x) ((Vl.mk Value.nilIface rfl).x); binOp .eql 68 (y18.x) ((Vl.mk Value.nilIface rfl).x)) w16 (.bool q19) ∧
 Q (.tuple #[.agg #[.int .i64 12, .int .i64 n17, .slice none 0 0], .bool q19]) w16) ∧
 ∃ q20 : Bool, PureT Tryd.prog (do eqGuard .eql 68 (.tmp 46) (.const (.nilIface)) (y18.x) ((Vl.mk Value.nilIface rfl).x); binOp .eql 68 (y18.x) ((Vl.mk Value.nilIface rfl).x)) w16 (.bool q20) ∧
 Q (.tuple #[.agg #[.int .i64 12, .int .i64 n17, .slice none 0 0], .bool q20]) w16) ∧
 (q12 = false →
 Trip Tryd.prog 50 #[.string s10] w9 fun r21 w22 =>
 ∃ n23 : Int, ∃ y24 : Vl, r21 = .tuple #[.int .i64 n23, y24.x] ∧
 (∃ q25 : Bool, PureT Tryd.prog (do eqGuard .eql 68 (.tmp 46) (.const (.nilIface)) (y24.x) ((Vl.mk Value.nilIface rfl).x); binOp .eql 68 (y24.x) ((Vl.mk Value.nilIface rfl).x)) w22 (.bool q25) ∧
 Q (.tuple #[.agg #[.int .i64 0, .int .i64 n23, .slice none 0 0], .bool q25]) w22) ∧
 ∃ q26 : Bool, PureT Tryd.prog (do eqGuard .eql 68 (.tmp 46) (.const (.nilIface)) (y24.x) ((Vl.mk Value.nilIface rfl).x); binOp .eql 68 (y24.x) ((Vl.mk Value.nilIface rfl).x)) w22 (.bool q26) ∧
 Q (.tuple #[.agg #[.int .i64 0, .int .i64 n23, .slice none 0 0], .bool q26]) w22)) ∧
 ((!q7) = false →
 Trip Tryd.prog 48 #[.pointer (some (a_0.add 0))] w6 fun r27 w28 =>
 ∃ s29 : ByteArray, r27 = .string s29 ∧
 ∃ n30 : Int, ∃ n31 : Int, ∃ x32 : Sl, ∃ q33 : Bool, (Trip Tryd.prog 51 #[.string s29] w28 fun r34 w35 => r34 = .tuple #[.agg #[.int .i64 n30, .int .i64 n31, x32.val], .bool q33] ∧ Sub w28 w35) ∧
 ∃ I36 : Bool → Sl → World → Prop, ∃ m37 : Bool → Sl → World → Nat, I36 q33 x32 w28 ∧
 ∀ q38 : Bool, ∀ x39 : Sl, ∀ w40 : World, I36 q38 x39 w40 →
 (q38 = true →
 Trip Tryd.prog 47 #[.pointer (some (a_0.add 0)), .int .u8 32] w40 fun r41 w42 =>
 ∃ q43 : Bool, r41 = .bool q43 ∧
 (q43 = true →
 Trip Tryd.prog 27 #[.pointer (some (a_0.add 0))] w42 fun r44 w45 =>
 ∃ n46 : Int, ∃ n47 : Int, ∃ x48 : Sl, ∃ q49 : Bool, r44 = .tuple #[.agg #[.int .i64 n46, .int .i64 n47, x48.val], .bool q49] ∧
 StepT Tryd.prog (Instr.buildSlice 27 1 #[(0, (.agg #[.int .i64 n46, .int .i64 n47, x48.val]))]) w45 fun r50 w51 =>
 ∃ x52 : Sl, r50 = x52.val ∧
 StepT Tryd.prog (Builtin.append_ #[27, 27] 27 #[(x39.val), (x52.val)]) w51 fun r53 w54 =>
 ∃ x55 : Sl, r53 = x55.val ∧
 ((.num .i64 0 : SV) = .num .i64 0) ∧
 ((.num .i64 0 : SV) = .num .i64 0) ∧
 ((.sl (Sl.mk none 0 0) : SV) = .sl (Sl.mk none 0 0)) ∧
 ((.num .i64 n30 : SV) = .num .i64 n30) ∧
 ((.num .i64 n31 : SV) = .num .i64 n31) ∧
 I36 q49 x55 w54 ∧
 m37 q49 x55 w54 < m37 q38 x39 w40) ∧
 (q43 = false →
 (q38 = true →
 Trip Tryd.prog 47 #[.pointer (some (a_0.add 0)), .int .u8 41] w42 fun r56 w57 =>
 ∃ q58 : Bool, r56 = .bool q58 ∧
 Q (.tuple #[.agg #[.int .i64 n30, .int .i64 n31, x39.val], .bool q58]) w57 ∧
 Q (.tuple #[.agg #[.int .i64 n30, .int .i64 n31, x39.val], .bool q58]) w57) ∧
 (q38 = false →
 Q (.tuple #[.agg #[.int .i64 n30, .int .i64 n31, x39.val], .bool false]) w42 ∧
 Q (.tuple #[.agg #[.int .i64 n30, .int .i64 n31, x39.val], .bool false]) w42))) ∧
 (q38 = false →
 (q38 = true →
 Trip Tryd.prog 47 #[.pointer (some (a_0.add 0)), .int .u8 41] w40 fun r59 w60 =>
 ∃ q61 : Bool, r59 = .bool q61 ∧
 Q (.tuple #[.agg #[.int .i64 n30, .int .i64 n31, x39.val], .bool q61]) w60 ∧
 Q (.tuple #[.agg #[.int .i64 n30, .int .i64 n31, x39.val], .bool q61]) w60) ∧
 (q38 = false →
 Q (.tuple #[.agg #[.int .i64 n30, .int .i64 n31, x39.val], .bool false]) w40 ∧
 Q (.tuple #[.agg #[.int .i64 n30, .int .i64 n31, x39.val], .bool false]) w40))))
theorem of27 (a_0 : Addr) (v : World) (Q : Value → World → Prop) (h : vc27 a_0 v Q) : Trip Tryd.prog 27 #[.pointer (some (a_0.add 0))] v Q :=
 trip_of_eq (args := [.pt a_0 0]) (A := ⟨[(13, [(11, .bool)], [(1, 2, .sl)])], [], [(11, []), (17, [])], [], psG⟩) Tryd.func27 (by kernel_rfl) (by kernel_rfl) (by kernel_rfl : vc27 a_0 v Q = _) h

def vc28 (x_0 : Sl) (n_1 : Int) (v : World) (Q : Value → World → Prop) : Prop :=
 ∃ I1 : Int → Int → World → Prop, ∃ m2 : Int → Int → World → Nat, I1 n_1 0 v ∧
 ∀ n3 : Int, ∀ n4 : Int, ∀ w5 : World, I1 n3 n4 w5 →
 ((decide (n4 < (x_0.n : Int))) = true →
 IxOk x_0 n4 ∧
 StoreAt w5 (elA x_0 n4 3) 0 [.int .i64 n3] fun w6 =>
 ∃ n7 : Int, Wr .i64 (n3 + 1) n7 ∧
 IxOk x_0 n4 ∧
 StoreAt w6 (elA x_0 n4 3) 1 [.int .i64 n7] fun w8 =>
 ∃ n9 : Int, Wr .i64 (n7 + 1) n9 ∧
 IxOk x_0 n4 ∧
 ∃ x10 : Sl, w8.cell? ((elA x_0 n4 3).add 2) = some (x10.val) ∧
 Trip Tryd.prog 28 #[x10.val, .int .i64 n9] w8 fun r11 w12 =>
 ∃ n13 : Int, r11 = .int .i64 n13 ∧
 ∃ n14 : Int, Wr .i64 (n4 + 1) n14 ∧
 I1 n13 n14 w12 ∧
 m2 n13 n14 w12 < m2 n3 n4 w5) ∧
 ((decide (n4 < (x_0.n : Int))) = false →
 Q (.int .i64 n3) w5)
theorem of28 (x_0 : Sl) (n_1 : Int) (v : World) (Q : Value → World → Prop) (h : vc28 x_0 n_1 v Q) : Trip Tryd.prog 28 #[x_0.val, .int .i64 n_1] v Q :=
 trip_of_eq (args := [.sl x_0, .num .i64 n_1]) (A := ⟨[(2, [(1, .int .i64), (5, .int .i64)], [])], [], [], [], psG⟩) Tryd.func28 (by kernel_rfl) (by kernel_rfl) (by kernel_rfl : vc28 x_0 n_1 v Q = _) h

def vc29 (x_0 : Sl) (n_1 : Int) (v : World) (Q : Value → World → Prop) : Prop :=
 ∃ I1 : Int → Int → World → Prop, ∃ m2 : Int → Int → World → Nat, I1 n_1 0 v ∧
 ∀ n3 : Int, ∀ n4 : Int, ∀ w5 : World, I1 n3 n4 w5 →
 ((decide (n4 < (x_0.n : Int))) = true →
 IxOk x_0 n4 ∧
 ∃ n6 : Int, w5.cell? ((elA x_0 n4 3).add 0) = some (.int .i64 n6) ∧
 ((!decide (n6 = n3)) = true →
 Q (.int .i64 (-1)) w5) ∧
 ((!decide (n6 = n3)) = false →
 ∃ n7 : Int, Wr .i64 (n3 + 1) n7 ∧
 IxOk x_0 n4 ∧
 ∃ n8 : Int, w5.cell? ((elA x_0 n4 3).add 1) = some (.int .i64 n8) ∧
 ((!decide (n8 = n7)) = true →
 Q (.int .i64 (-1)) w5) ∧
 ((!decide (n8 = n7)) = false →
 ∃ n9 : Int, Wr .i64 (n7 + 1) n9 ∧
 IxOk x_0 n4 ∧
 ∃ x10 : Sl, w5.cell? ((elA x_0 n4 3).add 2) = some (x10.val) ∧
 ∃ n11 : Int, (Trip Tryd.prog 29 #[x10.val, .int .i64 n9] w5 fun r12 w13 => r12 = .int .i64 n11 ∧ Sub w5 w13) ∧
 ((decide (n11 < 0)) = true →
 Q (.int .i64 (-1)) w5) ∧
 ((decide (n11 < 0)) = false →
 ∃ n14 : Int, Wr .i64 (n4 + 1) n14 ∧
 I1 n11 n14 w5 ∧
 m2 n11 n14 w5 < m2 n3 n4 w5)))) ∧
 ((decide (n4 < (x_0.n : Int))) = false →
 Q (.int .i64 n3) w5)
theorem of29 (x_0 : Sl) (n_1 : Int) (v : World) (Q : Value → World → Prop) (h : vc29 x_0 n_1 v Q) : Trip Tryd.prog 29 #[x_0.val, .int .i64 n_1] v Q :=
 trip_of_eq (args := [.sl x_0, .num .i64 n_1]) (A := ⟨[(2, [(1, .int .i64), (5, .int .i64)], [])], [], [], [], psG⟩) Tryd.func29 (by kernel_rfl) (by kernel_rfl) (by kernel_rfl : vc29 x_0 n_1 v Q = _) h

def vc30 (a_0 : Addr) (v : World) (Q : Value → World → Prop) : Prop :=
 Trip Tryd.prog 52 #[.pointer (some (a_0.add 0))] v fun r1 w2 =>
 ∃ x3 : Sl, ∃ x4 : Sl, ∃ n5 : Int, r1 = .tuple #[.agg #[x3.val, x4.val], .int .i64 n5] ∧
 IxOk x4 n5 ∧
 ∃ n6 : Int, ∃ n7 : Int, ∃ x8 : Sl, (w2.cell? ((elA x4 n5 5).add 2) = some (.int .i64 n6) ∧
 w2.cell? ((elA x4 n5 5).add 3) = some (.int .i64 n7) ∧
 w2.cell? ((elA x4 n5 5).add 4) = some (x8.val)) ∧
 Trip Tryd.prog 53 #[.pointer (some (a_0.add 0)), .int .i64 8] w2 fun r9 w10 =>
 ∃ n11 : Int, r9 = .int .i64 n11 ∧
 ((decide (n11 = 0)) = true →
 Trip Tryd.prog 54 #[.pointer (some (a_0.add 0)), .agg #[.int .i64 n6, .int .i64 n7, x8.val]] w10 fun r12 w13 =>
 ∃ n14 : Int, ∃ n15 : Int, ∃ x16 : Sl, r12 = .agg #[.int .i64 n14, .int .i64 n15, x16.val] ∧
 Q (.agg #[.int .i64 n14, .int .i64 n15, x16.val]) w13) ∧
 ((decide (n11 = 0)) = false →
 ((decide (n11 = 1)) = true →
 StepT Tryd.prog (Instr.buildSlice 27 2 #[(0, (.agg #[.int .i64 n6, .int .i64 n7, x8.val])), (1, (.agg #[.int .i64 n6, .int .i64 n7, x8.val]))]) w10 fun r17 w18 =>
 ∃ x19 : Sl, r17 = x19.val ∧
 Trip Tryd.prog 55 #[.int .i64 1, .int .i64 0, x19.val] w18 fun r20 w21 =>
 ∃ n22 : Int, ∃ n23 : Int, ∃ x24 : Sl, r20 = .agg #[.int .i64 n22, .int .i64 n23, x24.val] ∧
 Q (.agg #[.int .i64 n22, .int .i64 n23, x24.val]) w21) ∧
 ((decide (n11 = 1)) = false →
 ((decide (n11 = 2)) = true →
 StepT Tryd.prog (Instr.buildSlice 27 2 #[(0, (.agg #[.int .i64 n6, .int .i64 n7, x8.val])), (1, (.agg #[.int .i64 n6, .int .i64 n7, x8.val]))]) w10 fun r25 w26 =>
 ∃ x27 : Sl, r25 = x27.val ∧
 Sub w10 w26 ∧
 Trip Tryd.prog 55 #[.int .i64 1, .int .i64 0, x27.val] w26 fun r28 w29 =>
 ∃ n30 : Int, ∃ n31 : Int, ∃ x32 : Sl, r28 = .agg #[.int .i64 n30, .int .i64 n31, x32.val] ∧
 Sub w26 w29 ∧
 StepT Tryd.prog (Instr.buildSlice 27 2 #[(0, (.agg #[.int .i64 n6, .int .i64 n7, x8.val])), (1, (.agg #[.int .i64 n30, .int .i64 n31, x32.val]))]) w29 fun r33 w34 =>
 ∃ x35 : Sl, r33 = x35.val ∧
 Trip Tryd.prog 55 #[.int .i64 13, .int .i64 0, x35.val] w34 fun r36 w37 =>
 ∃ n38 : Int, ∃ n39 : Int, ∃ x40 : Sl, r36 = .agg #[.int .i64 n38, .int .i64 n39, x40.val] ∧
 Q (.agg #[.int .i64 n38, .int .i64 n39, x40.val]) w37) ∧
 ((decide (n11 = 2)) = false →
 Q (.agg #[.int .i64 n6, .int .i64 n7, x8.val]) w10)))
theorem of30 (a_0 : Addr) (v : World) (Q : Value → World → Prop) (h : vc30 a_0 v Q) : Trip Tryd.prog 30 #[.pointer (some (a_0.add 0))] v Q :=
 trip_of_eq (args := [.pt a_0 0]) (A := ⟨[], [], [(9, [3, 4])], [], psG⟩) Tryd.func30 (by kernel_rfl) (by kernel_rfl) (by kernel_rfl : vc30 a_0 v Q = _) h

def vc31 (x_0 : Sl) (v : World) (Q : Value → World → Prop) : Prop :=
 ((decide ((x_0.n : Int) > 2000)) = true →
 CutOk x_0 0 2000 ∧
 NewAt v (.cells #[(x_0.cut 0 2000 1).val, .int .i64 0] 93 (0, 0)) fun a1 w2 =>
 Q (.pointer (some (a1.add 0))) w2) ∧
 ((decide ((x_0.n : Int) > 2000)) = false →
 NewAt v (.cells #[x_0.val, .int .i64 0] 93 (0, 0)) fun a3 w4 =>
 Q (.pointer (some (a3.add 0))) w4)
theorem of31 (x_0 : Sl) (v : World) (Q : Value → World → Prop) (h : vc31 x_0 v Q) : Trip Tryd.prog 31 #[x_0.val] v Q :=
 trip_of_eq (args := [.sl x_0]) (A := ⟨[], [], [], [10], psG⟩) Tryd.func31 (by kernel_rfl) (by kernel_rfl) (by kernel_rfl : vc31 x_0 v Q = _) h

def vc32 (n0_0 : Int) (n0_1 : Int) (x0_2 : Sl) (a_1 : Addr) (v : World) (Q : Value → World → Prop) : Prop :=
 ∃ n1 : Int, v.cell? (a_1.add 0) = some (.int .i64 n1) ∧
 ∃ n2 : Int, Wr .i64 (n1 + 1) n2 ∧
 StoreAt v a_1 0 [.int .i64 n2] fun w3 =>
 ∃ n4 : Int, w3.cell? (a_1.add 0) = some (.int .i64 n4) ∧
 ((decide (n4 > 30)) = true →
 Q (.bool false) w3) ∧
 ((decide (n4 > 30)) = false →
 ∃ I5 : Int → World → Prop, ∃ m6 : Int → World → Nat, I5 0 w3 ∧
 ∀ n7 : Int, ∀ w8 : World, I5 n7 w8 →
 ((decide (n7 < (x0_2.n : Int))) = true →
 IxOk x0_2 n7 ∧
 ∃ n9 : Int, ∃ n10 : Int, ∃ x11 : Sl, (w8.cell? ((elA x0_2 n7 3).add 0) = some (.int .i64 n9) ∧
 w8.cell? ((elA x0_2 n7 3).add 1) = some (.int .i64 n10) ∧
 w8.cell? ((elA x0_2 n7 3).add 2) = some (x11.val)) ∧
 Trip Tryd.prog 32 #[.agg #[.int .i64 n9, .int .i64 n10, x11.val], .pointer (some (a_1.add 0))] w8 fun r12 w13 =>
 ∃ q14 : Bool, r12 = .bool q14 ∧
 ((!q14) = true →
 Q (.bool false) w13) ∧
 ((!q14) = false →
 ∃ n15 : Int, Wr .i64 (n7 + 1) n15 ∧
 ((.num .i64 n0_0 : SV) = .num .i64 n0_0) ∧
 ((.num .i64 n0_1 : SV) = .num .i64 n0_1) ∧
 ((.sl x0_2 : SV) = .sl x0_2) ∧
 I5 n15 w13 ∧
 m6 n15 w13 < m6 n7 w8)) ∧
 ((decide (n7 < (x0_2.n : Int))) = false →
 Q (.bool true) w8))
theorem of32 (n0_0 : Int) (n0_1 : Int) (x0_2 : Sl) (a_1 : Addr) (v : World) (Q : Value → World → Prop) (h : vc32 n0_0 n0_1 x0_2 a_1 v Q) : Trip Tryd.prog 32 #[.agg #[.int .i64 n0_0, .int .i64 n0_1, x0_2.val], .pointer (some (a_1.add 0))] v Q :=
 trip_of_eq (args := [.ag [.num .i64 n0_0, .num .i64 n0_1, .sl x0_2], .pt a_1 0]) (A := ⟨[(5, [(19, .int .i64)], [])], [], [], [], psG⟩) Tryd.func32 (by kernel_rfl) (by kernel_rfl) (by kernel_rfl : vc32 n0_0 n0_1 x0_2 a_1 v Q = _) h

def vc33 (n0_0 : Int) (n0_1 : Int) (x0_2 : Sl) (n_1 : Int) (v : World) (Q : Value → World → Prop) : Prop :=
 ((decide (n_1 < 1)) = true →
 Q (.int .i64 (-1)) v) ∧
 ((decide (n_1 < 1)) = false →
 ∃ n1 : Int, Wr .i64 (n_1 - 1) n1 ∧
 ∃ I2 : Int → Int → World → Prop, ∃ m3 : Int → Int → World → Nat, I2 n1 0 v ∧
 ∀ n4 : Int, ∀ n5 : Int, ∀ w6 : World, I2 n4 n5 w6 →
 ((decide (n5 < (x0_2.n : Int))) = true →
 IxOk x0_2 n5 ∧
 ∃ n7 : Int, ∃ n8 : Int, ∃ x9 : Sl, (w6.cell? ((elA x0_2 n5 3).add 0) = some (.int .i64 n7) ∧
 w6.cell? ((elA x0_2 n5 3).add 1) = some (.int .i64 n8) ∧
 w6.cell? ((elA x0_2 n5 3).add 2) = some (x9.val)) ∧
 ∃ n10 : Int, (Trip Tryd.prog 33 #[.agg #[.int .i64 n7, .int .i64 n8, x9.val], .int .i64 n4] w6 fun r11 w12 => r11 = .int .i64 n10 ∧ Sub w6 w12) ∧
 ((decide (n10 < 0)) = true →
 Q (.int .i64 (-1)) w6) ∧
 ((decide (n10 < 0)) = false →
 ∃ n13 : Int, Wr .i64 (n5 + 1) n13 ∧
 ((.num .i64 n0_0 : SV) = .num .i64 n0_0) ∧
 ((.num .i64 n0_1 : SV) = .num .i64 n0_1) ∧
 ((.sl x0_2 : SV) = .sl x0_2) ∧
 I2 n10 n13 w6 ∧
 m3 n10 n13 w6 < m3 n4 n5 w6)) ∧
 ((decide (n5 < (x0_2.n : Int))) = false →
 Q (.int .i64 n4) w6))
theorem of33 (n0_0 : Int) (n0_1 : Int) (x0_2 : Sl) (n_1 : Int) (v : World) (Q : Value → World → Prop) (h : vc33 n0_0 n0_1 x0_2 n_1 v Q) : Trip Tryd.prog 33 #[.agg #[.int .i64 n0_0, .int .i64 n0_1, x0_2.val], .int .i64 n_1] v Q :=
 trip_of_eq (args := [.ag [.num .i64 n0_0, .num .i64 n0_1, .sl x0_2], .num .i64 n_1]) (A := ⟨[(5, [(1, .int .i64), (5, .int .i64)], [])], [], [], [], psG⟩) Tryd.func33 (by kernel_rfl) (by kernel_rfl) (by kernel_rfl : vc33 n0_0 n0_1 x0_2 n_1 v Q = _) h

def vc34 (n_0 : Int) (n_1 : Int) (n_2 : Int) (v : World) (Q : Value → World → Prop) : Prop :=
 Q (.bool ((decide (n_1 ≤ n_0)) && (decide (n_0 ≤ n_2)))) v
theorem of34 (n_0 : Int) (n_1 : Int) (n_2 : Int) (v : World) (Q : Value → World → Prop) (h : vc34 n_0 n_1 n_2 v Q) : Trip Tryd.prog 34 #[.int .i64 n_0, .int .i64 n_1, .int .i64 n_2] v Q :=
 trip_of_eq (args := [.num .i64 n_0, .num .i64 n_1, .num .i64 n_2]) (A := ⟨[], [], [], [], psG⟩) Tryd.func34 (by kernel_rfl) (by kernel_rfl) (by kernel_rfl : vc34 n_0 n_1 n_2 v Q = _) h

def vc35 (n_0 : Int) (v : World) (Q : Value → World → Prop) : Prop :=
 Q (.bool ((((decide (n_0 = 6)) || (decide (n_0 = 8))) || (decide (n_0 = 9))) || (decide (n_0 = 10)))) v
theorem of35 (n_0 : Int) (v : World) (Q : Value → World → Prop) (h : vc35 n_0 v Q) : Trip Tryd.prog 35 #[.int .i64 n_0] v Q :=
 trip_of_eq (args := [.num .i64 n_0]) (A := ⟨[], [], [], [], psG⟩) Tryd.func35 (by kernel_rfl) (by kernel_rfl) (by kernel_rfl : vc35 n_0 v Q = _) h

def vc36 (n_0 : Int) (v : World) (Q : Value → World → Prop) : Prop :=
 ∃ n1 : Int, ((decide (n_0 < 0)) = true →
 Wr .i64 (0 - n_0) n1) ∧
 (((decide (n_0 < 0)) && (decide (n_0 = n1))) = true →
 Q (.string (ByteArray.mk #[45, 57, 50, 50, 51, 51, 55, 50, 48, 51, 54, 56, 53, 52, 55, 55, 53, 56, 48, 56])) v) ∧
 (((decide (n_0 < 0)) && (decide (n_0 = n1))) = false →
 ((decide (n_0 < 0)) = true →
 ∃ n2 : Int, Wr .i64 (0 - n_0) n2 ∧
 ∃ s3 : ByteArray, (Trip Tryd.prog 36 #[.int .i64 n2] v fun r4 w5 => r4 = .string s3 ∧ Sub v w5) ∧
 (((ByteArray.mk #[45]).size + s3.size : Nat) : Int) ≤ 9223372036854775807 ∧
 Q (.string ((ByteArray.mk #[45]) ++ s3)) v) ∧
 ((decide (n_0 < 0)) = false →
 ((decide (n_0 < 10)) = true →
 ∃ n6 : Int, Wr .i64 (n_0 + 1) n6 ∧
 StrOk (ByteArray.mk #[48, 49, 50, 51, 52, 53, 54, 55, 56, 57]) n_0 n6 ∧
 Q (.string (strCut (ByteArray.mk #[48, 49, 50, 51, 52, 53, 54, 55, 56, 57]) n_0 n6)) v) ∧
 ((decide (n_0 < 10)) = false →
 ∃ n7 : Int, ((10 : Int) ≠ 0 ∧ Wr .i64 (Int.tdiv n_0 10) n7) ∧
 ∃ s8 : ByteArray, (Trip Tryd.prog 36 #[.int .i64 n7] v fun r9 w10 => r9 = .string s8 ∧ Sub v w10) ∧
 (10 : Int) ≠ 0 ∧
 ∃ s11 : ByteArray, (Trip Tryd.prog 36 #[.int .i64 (Int.tmod n_0 10)] v fun r12 w13 => r12 = .string s11 ∧ Sub v w13) ∧
 ((s8.size + s11.size : Nat) : Int) ≤ 9223372036854775807 ∧
 Q (.string (s8 ++ s11)) v)))
theorem of36 (n_0 : Int) (v : World) (Q : Value → World → Prop) (h : vc36 n_0 v Q) : Trip Tryd.prog 36 #[.int .i64 n_0] v Q :=
 trip_of_eq (args := [.num .i64 n_0]) (A := ⟨[], [], [], [], psG⟩) Tryd.func36 (by kernel_rfl) (by kernel_rfl) (by kernel_rfl : vc36 n_0 v Q = _) h

def vc37 (n_0 : Int) (v : World) (Q : Value → World → Prop) : Prop :=
 StepT Tryd.prog (Instr.buildSlice 94 14 #[(0, (.string (ByteArray.mk #[]))), (1, (.string (ByteArray.mk #[97, 100, 100]))), (2, (.string (ByteArray.mk #[115, 117, 98]))), (3, (.string (ByteArray.mk #[109, 117, 108]))), (4, (.string (ByteArray.mk #[108, 101, 115, 115]))), (5, (.string (ByteArray.mk #[112, 114, 105, 110, 116]))), (6, (.string (ByteArray.mk #[99, 111, 110]))), (7, (.string (ByteArray.mk #[105, 102]))), (8, (.string (ByteArray.mk #[109, 97, 116, 99, 104]))), (9, (.string (ByteArray.mk #[99, 97, 108, 108]))), (10, (.string (ByteArray.mk #[99, 108, 111, 115, 101]))), (11, (.string (ByteArray.mk #[97, 112, 112, 108, 121]))), (12, (.string (ByteArray.mk #[]))), (13, (.string (ByteArray.mk #[108, 101, 116])))]) v fun r1 w2 =>
 ∃ x3 : Sl, r1 = x3.val ∧
 IxOk x3 n_0 ∧
 ∃ s4 : ByteArray, w2.cell? ((elA x3 n_0 1).add 0) = some (.string s4) ∧
 Q (.string s4) w2
theorem of37 (n_0 : Int) (v : World) (Q : Value → World → Prop) (h : vc37 n_0 v Q) : Trip Tryd.prog 37 #[.int .i64 n_0] v Q :=
 trip_of_eq (args := [.num .i64 n_0]) (A := ⟨[], [], [], [], psG⟩) Tryd.func37 (by kernel_rfl) (by kernel_rfl) (by kernel_rfl : vc37 n_0 v Q = _) h

def vc38 (a_0 : Addr) (s_1 : ByteArray) (v : World) (Q : Value → World → Prop) : Prop :=
 Trip Tryd.prog 56 #[.pointer (some (a_0.add 0))] v fun r1 w2 =>
 r1 = .tuple #[] ∧
 ∃ x3 : Sl, w2.cell? (a_0.add 1) = some (x3.val) ∧
 StepT Tryd.prog (Builtin.append_ #[37, 9] 37 #[(x3.val), (.string s_1)]) w2 fun r4 w5 =>
 ∃ x6 : Sl, r4 = x6.val ∧
 StoreAt w5 a_0 1 [x6.val] fun w7 =>
 Q (.tuple #[.int .i64 (s_1.size : Int), (Vl.mk Value.nilIface rfl).x]) w7
theorem of38 (a_0 : Addr) (s_1 : ByteArray) (v : World) (Q : Value → World → Prop) (h : vc38 a_0 s_1 v Q) : Trip Tryd.prog 38 #[.pointer (some (a_0.add 0)), .string s_1] v Q :=
 trip_of_eq (args := [.pt a_0 0, .st s_1]) (A := ⟨[], [], [], [], psG⟩) Tryd.func38 (by kernel_rfl) (by kernel_rfl) (by kernel_rfl : vc38 a_0 s_1 v Q = _) h

def vc40 (n_0 : Int) (v : World) (Q : Value → World → Prop) : Prop :=
 Q (.bool ((decide (n_0 ≥ (-999))) && (decide (n_0 ≤ 999)))) v
theorem of40 (n_0 : Int) (v : World) (Q : Value → World → Prop) (h : vc40 n_0 v Q) : Trip Tryd.prog 40 #[.int .i64 n_0] v Q :=
 trip_of_eq (args := [.num .i64 n_0]) (A := ⟨[], [], [], [], psG⟩) Tryd.func40 (by kernel_rfl) (by kernel_rfl) (by kernel_rfl : vc40 n_0 v Q = _) h

def vc41 (n_0 : Int) (v : World) (Q : Value → World → Prop) : Prop :=
 ((decide (n_0 = 1)) = true →
 Q (.tuple #[.string (ByteArray.mk #[97, 100, 100]), .bool false]) v) ∧
 ((decide (n_0 = 1)) = false →
 ((decide (n_0 = 2)) = true →
 Q (.tuple #[.string (ByteArray.mk #[115, 117, 98]), .bool false]) v) ∧
 ((decide (n_0 = 2)) = false →
 ((decide (n_0 = 3)) = true →
 Q (.tuple #[.string (ByteArray.mk #[109, 117, 108]), .bool false]) v) ∧
 ((decide (n_0 = 3)) = false →
 ((decide (n_0 = 4)) = true →
 Q (.tuple #[.string (ByteArray.mk #[108, 101, 115, 115]), .bool false]) v) ∧
 ((decide (n_0 = 4)) = false →
 ((decide (n_0 = 5)) = true →
 Q (.tuple #[.string (ByteArray.mk #[112, 114, 105, 110, 116]), .bool false]) v) ∧
 ((decide (n_0 = 5)) = false →
 ((decide (n_0 = 6)) = true →
 Q (.tuple #[.string (ByteArray.mk #[99, 111, 110]), .bool true]) v) ∧
 ((decide (n_0 = 6)) = false →
 ((decide (n_0 = 7)) = true →
 Q (.tuple #[.string (ByteArray.mk #[105, 102]), .bool false]) v) ∧
 ((decide (n_0 = 7)) = false →
 ((decide (n_0 = 8)) = true →
 Q (.tuple #[.string (ByteArray.mk #[109, 97, 116, 99, 104]), .bool true]) v) ∧
 ((decide (n_0 = 8)) = false →
 ((decide (n_0 = 9)) = true →
 Q (.tuple #[.string (ByteArray.mk #[99, 97, 108, 108]), .bool true]) v) ∧
 ((decide (n_0 = 9)) = false →
 ((decide (n_0 = 10)) = true →
 Q (.tuple #[.string (ByteArray.mk #[99, 108, 111, 115, 101]), .bool true]) v) ∧
 ((decide (n_0 = 10)) = false →
 ((decide (n_0 = 11)) = true →
 Q (.tuple #[.string (ByteArray.mk #[97, 112, 112, 108, 121]), .bool false]) v) ∧
 ((decide (n_0 = 11)) = false →
 ((decide (n_0 = 13)) = true →
 Q (.tuple #[.string (ByteArray.mk #[108, 101, 116]), .bool false]) v) ∧
 ((decide (n_0 = 13)) = false →
 Q (.tuple #[.string (ByteArray.mk #[]), .bool false]) v))))))))))))
theorem of41 (n_0 : Int) (v : World) (Q : Value → World → Prop) (h : vc41 n_0 v Q) : Trip Tryd.prog 41 #[.int .i64 n_0] v Q :=
 trip_of_eq (args := [.num .i64 n_0]) (A := ⟨[], [], [], [], psG⟩) Tryd.func41 (by kernel_rfl) (by kernel_rfl) (by kernel_rfl : vc41 n_0 v Q = _) h

def vc42 (a_0 : Addr) (v : World) (Q : Value → World → Prop) : Prop :=
 ∃ n1 : Int, v.cell? (a_0.add 1) = some (.int .i64 n1) ∧
 ∃ s2 : ByteArray, v.cell? (a_0.add 0) = some (.string s2) ∧
 ((decide (n1 ≥ (s2.size : Int))) = true →
 Q (.int .i64 0) v) ∧
 ((decide (n1 ≥ (s2.size : Int))) = false →
 ∃ s3 : ByteArray, v.cell? (a_0.add 0) = some (.string s3) ∧
 ∃ n4 : Int, v.cell? (a_0.add 1) = some (.int .i64 n4) ∧
 StrIxOk s3 n4 ∧
 ∃ n5 : Int, Wr .i64 (strIx s3 n4) n5 ∧
 Q (.int .i64 n5) v)
theorem of42 (a_0 : Addr) (v : World) (Q : Value → World → Prop) (h : vc42 a_0 v Q) : Trip Tryd.prog 42 #[.pointer (some (a_0.add 0))] v Q :=
 trip_of_eq (args := [.pt a_0 0]) (A := ⟨[], [], [], [], psG⟩) Tryd.func42 (by kernel_rfl) (by kernel_rfl) (by kernel_rfl : vc42 a_0 v Q = _) h

def vc43 (a_0 : Addr) (v : World) (Q : Value → World → Prop) : Prop :=
 ∃ I1 : Int → Int → World → Prop, ∃ m2 : Int → Int → World → Nat, I1 0 0 v ∧
 ∀ n3 : Int, ∀ n4 : Int, ∀ w5 : World, I1 n3 n4 w5 →
 ∃ n6 : Int, (Trip Tryd.prog 42 #[.pointer (some (a_0.add 0))] w5 fun r7 w8 => r7 = .int .i64 n6 ∧ Sub w5 w8) ∧
 ∃ q9 : Bool, (Trip Tryd.prog 34 #[.int .i64 n6, .int .i64 48, .int .i64 57] w5 fun r10 w11 => r10 = .bool q9 ∧ Sub w5 w11) ∧
 ((q9 && (decide (n4 < 4))) = true →
 ∃ n12 : Int, Wr .i64 (n3 * 10) n12 ∧
 ∃ n13 : Int, (Trip Tryd.prog 42 #[.pointer (some (a_0.add 0))] w5 fun r14 w15 => r14 = .int .i64 n13 ∧ Sub w5 w15) ∧
 ∃ n16 : Int, Wr .i64 (n12 + n13) n16 ∧
 ∃ n17 : Int, Wr .i64 (n16 - 48) n17 ∧
 ∃ n18 : Int, w5.cell? (a_0.add 1) = some (.int .i64 n18) ∧
 ∃ n19 : Int, Wr .i64 (n18 + 1) n19 ∧
 StoreAt w5 a_0 1 [.int .i64 n19] fun w20 =>
 ∃ n21 : Int, Wr .i64 (n4 + 1) n21 ∧
 I1 n17 n21 w20 ∧
 m2 n17 n21 w20 < m2 n3 n4 w5) ∧
 ((q9 && (decide (n4 < 4))) = false →
 (((decide (n4 = 0)) || (decide (n4 > 3))) = true →
 StoreAt w5 a_0 3 [.bool true] fun w22 =>
 Q (.int .i64 n3) w22) ∧
 (((decide (n4 = 0)) || (decide (n4 > 3))) = false →
 Q (.int .i64 n3) w5))
theorem of43 (a_0 : Addr) (v : World) (Q : Value → World → Prop) (h : vc43 a_0 v Q) : Trip Tryd.prog 43 #[.pointer (some (a_0.add 0))] v Q :=
 trip_of_eq (args := [.pt a_0 0]) (A := ⟨[(3, [(3, .int .i64), (4, .int .i64)], [])], [], [], [], psG⟩) Tryd.func43 (by kernel_rfl) (by kernel_rfl) (by kernel_rfl : vc43 a_0 v Q = _) h

def vc44 (s_0 : ByteArray) (v : World) (Q : Value → World → Prop) : Prop :=
 ∃ I1 : Int → World → Prop, ∃ m2 : Int → World → Nat, I1 1 v ∧
 ∀ n3 : Int, ∀ w4 : World, I1 n3 w4 →
 ((decide (n3 ≤ 13)) = true →
 ∃ s5 : ByteArray, ((!(s_0.toList == (ByteArray.mk #[]).toList)) = true →
 (Trip Tryd.prog 37 #[.int .i64 n3] w4 fun r6 w7 => r6 = .string s5 ∧ Sub w4 w7)) ∧
 (((!(s_0.toList == (ByteArray.mk #[]).toList)) && (s5.toList == s_0.toList)) = true →
 Q (.int .i64 n3) w4) ∧
 (((!(s_0.toList == (ByteArray.mk #[]).toList)) && (s5.toList == s_0.toList)) = false →
 ∃ n8 : Int, Wr .i64 (n3 + 1) n8 ∧
 I1 n8 w4 ∧
 m2 n8 w4 < m2 n3 w4)) ∧
 ((decide (n3 ≤ 13)) = false →
 Q (.int .i64 (-1)) w4)
theorem of44 (s_0 : ByteArray) (v : World) (Q : Value → World → Prop) (h : vc44 s_0 v Q) : Trip Tryd.prog 44 #[.string s_0] v Q :=
 trip_of_eq (args := [.st s_0]) (A := ⟨[(2, [(3, .int .i64)], [])], [], [], [], psG⟩) Tryd.func44 (by kernel_rfl) (by kernel_rfl) (by kernel_rfl : vc44 s_0 v Q = _) h

def vc45 (a_0 : Addr) (v : World) (Q : Value → World → Prop) : Prop :=
 ∃ n1 : Int, v.cell? (a_0.add 1) = some (.int .i64 n1) ∧
 ∃ I2 : World → Prop, ∃ m3 : World → Nat, I2 v ∧
 ∀ w4 : World, I2 w4 →
 ∃ n5 : Int, (Trip Tryd.prog 42 #[.pointer (some (a_0.add 0))] w4 fun r6 w7 => r6 = .int .i64 n5 ∧ Sub w4 w7) ∧
 ∃ q8 : Bool, (Trip Tryd.prog 34 #[.int .i64 n5, .int .i64 97, .int .i64 122] w4 fun r9 w10 => r9 = .bool q8 ∧ Sub w4 w10) ∧
 (q8 = true →
 ∃ n11 : Int, w4.cell? (a_0.add 1) = some (.int .i64 n11) ∧
 ∃ n12 : Int, Wr .i64 (n11 + 1) n12 ∧
 StoreAt w4 a_0 1 [.int .i64 n12] fun w13 =>
 I2 w13 ∧
 m3 w13 < m3 w4) ∧
 (q8 = false →
 ∃ s14 : ByteArray, w4.cell? (a_0.add 0) = some (.string s14) ∧
 ∃ n15 : Int, w4.cell? (a_0.add 1) = some (.int .i64 n15) ∧
 StrOk s14 n1 n15 ∧
 Q (.string (strCut s14 n1 n15)) w4)
theorem of45 (a_0 : Addr) (v : World) (Q : Value → World → Prop) (h : vc45 a_0 v Q) : Trip Tryd.prog 45 #[.pointer (some (a_0.add 0))] v Q :=
 trip_of_eq (args := [.pt a_0 0]) (A := ⟨[(2, [], [])], [], [], [], psG⟩) Tryd.func45 (by kernel_rfl) (by kernel_rfl) (by kernel_rfl : vc45 a_0 v Q = _) h

def vc46 (a_0 : Addr) (s_1 : ByteArray) (v : World) (Q : Value → World → Prop) : Prop :=
 ∃ n1 : Int, v.cell? (a_0.add 1) = some (.int .i64 n1) ∧
 ∃ n2 : Int, Wr .i64 (n1 + (s_1.size : Int)) n2 ∧
 ∃ s3 : ByteArray, v.cell? (a_0.add 0) = some (.string s3) ∧
 ∃ s4 : ByteArray, ((decide (n2 > (s3.size : Int))) = false →
 v.cell? (a_0.add 0) = some (.string s4)) ∧
 ∃ n5 : Int, ((decide (n2 > (s3.size : Int))) = false →
 v.cell? (a_0.add 1) = some (.int .i64 n5)) ∧
 ∃ n6 : Int, ((decide (n2 > (s3.size : Int))) = false →
 v.cell? (a_0.add 1) = some (.int .i64 n6)) ∧
 ∃ n7 : Int, ((decide (n2 > (s3.size : Int))) = false →
 Wr .i64 (n6 + (s_1.size : Int)) n7) ∧
 ((decide (n2 > (s3.size : Int))) = false →
 StrOk s4 n5 n7) ∧
 (((decide (n2 > (s3.size : Int))) || (!((strCut s4 n5 n7).toList == s_1.toList))) = true →
 StoreAt v a_0 3 [.bool true] fun w8 =>
 Q (.tuple #[]) w8) ∧
 (((decide (n2 > (s3.size : Int))) || (!((strCut s4 n5 n7).toList == s_1.toList))) = false →
 ∃ n9 : Int, v.cell? (a_0.add 1) = some (.int .i64 n9) ∧
 ∃ n10 : Int, Wr .i64 (n9 + (s_1.size : Int)) n10 ∧
 StoreAt v a_0 1 [.int .i64 n10] fun w11 =>
 Q (.tuple #[]) w11)
theorem of46 (a_0 : Addr) (s_1 : ByteArray) (v : World) (Q : Value → World → Prop) (h : vc46 a_0 s_1 v Q) : Trip Tryd.prog 46 #[.pointer (some (a_0.add 0)), .string s_1] v Q :=
 trip_of_eq (args := [.pt a_0 0, .st s_1]) (A := ⟨[], [], [], [], psG⟩) Tryd.func46 (by kernel_rfl) (by kernel_rfl) (by kernel_rfl : vc46 a_0 s_1 v Q = _) h

def vc47 (a_0 : Addr) (n_1 : Int) (v : World) (Q : Value → World → Prop) : Prop :=
 ∃ s1 : ByteArray, v.cell? (a_0.add 0) = some (.string s1) ∧
 ∃ s2 : ByteArray, ((s1.toList == (ByteArray.mk #[]).toList) = false →
 v.cell? (a_0.add 0) = some (.string s2)) ∧
 ((s1.toList == (ByteArray.mk #[]).toList) = false →
 StrIxOk s2 0) ∧
 (((s1.toList == (ByteArray.mk #[]).toList) || (!decide (strIx s2 0 = n_1))) = true →
 Q (.bool false) v) ∧
 (((s1.toList == (ByteArray.mk #[]).toList) || (!decide (strIx s2 0 = n_1))) = false →
 ∃ s3 : ByteArray, v.cell? (a_0.add 0) = some (.string s3) ∧
 ((0 : Int) ≤ 1 ∧ 1 ≤ (s3.size : Int)) ∧
 StoreAt v a_0 0 [.string (strCut s3 1 (s3.size : Int))] fun w4 =>
 Q (.bool true) w4)
theorem of47 (a_0 : Addr) (n_1 : Int) (v : World) (Q : Value → World → Prop) (h : vc47 a_0 n_1 v Q) : Trip Tryd.prog 47 #[.pointer (some (a_0.add 0)), .int .u8 n_1] v Q :=
 trip_of_eq (args := [.pt a_0 0, .num .u8 n_1]) (A := ⟨[], [], [], [], psG⟩) Tryd.func47 (by kernel_rfl) (by kernel_rfl) (by kernel_rfl : vc47 a_0 n_1 v Q = _) h

def vc48 (a_0 : Addr) (v : World) (Q : Value → World → Prop) : Prop :=
 ∃ s1 : ByteArray, v.cell? (a_0.add 0) = some (.string s1) ∧
 ∃ n2 : Int, (Trip Tryd.prog 58 #[.string s1, .string (ByteArray.mk #[32, 41])] v fun r3 w4 => r3 = .int .i64 n2 ∧ Sub v w4) ∧
 ((decide (n2 < 0)) = true →
 ∃ s5 : ByteArray, v.cell? (a_0.add 0) = some (.string s5) ∧
 ∃ s6 : ByteArray, v.cell? (a_0.add 0) = some (.string s6) ∧
 StrOk s6 0 (s5.size : Int) ∧
 ∃ s7 : ByteArray, v.cell? (a_0.add 0) = some (.string s7) ∧
 ((0 : Int) ≤ (s5.size : Int) ∧ (s5.size : Int) ≤ (s7.size : Int)) ∧
 StoreAt v a_0 0 [.string (strCut s7 (s5.size : Int) (s7.size : Int))] fun w8 =>
 Q (.string (strCut s6 0 (s5.size : Int))) w8) ∧
 ((decide (n2 < 0)) = false →
 ∃ s9 : ByteArray, v.cell? (a_0.add 0) = some (.string s9) ∧
 StrOk s9 0 n2 ∧
 ∃ s10 : ByteArray, v.cell? (a_0.add 0) = some (.string s10) ∧
 ((0 : Int) ≤ n2 ∧ n2 ≤ (s10.size : Int)) ∧
 StoreAt v a_0 0 [.string (strCut s10 n2 (s10.size : Int))] fun w11 =>
 Q (.string (strCut s9 0 n2)) w11)
theorem of48 (a_0 : Addr) (v : World) (Q : Value → World → Prop) (h : vc48 a_0 v Q) : Trip Tryd.prog 48 #[.pointer (some (a_0.add 0))] v Q :=
 trip_of_eq (args := [.pt a_0 0]) (A := ⟨[], [], [], [], psG⟩) Tryd.func48 (by kernel_rfl) (by kernel_rfl) (by kernel_rfl : vc48 a_0 v Q = _) h

def vc51 (s_0 : ByteArray) (v : World) (Q : Value → World → Prop) : Prop :=
 ∃ s1 : ByteArray, (Trip Tryd.prog 62 #[.string s_0, .string (ByteArray.mk #[48, 49, 50, 51, 52, 53, 54, 55, 56, 57])] v fun r2 w3 => r2 = .string s1 ∧ Sub v w3) ∧
 ∃ I4 : Int → World → Prop, ∃ m5 : Int → World → Nat, I4 1 v ∧
 ∀ n6 : Int, ∀ w7 : World, I4 n6 w7 →
 ((decide (n6 ≤ 13)) = true →
 ∃ s8 : ByteArray, ∃ q9 : Bool, (Trip Tryd.prog 41 #[.int .i64 n6] w7 fun r10 w11 => r10 = .tuple #[.string s8, .bool q9] ∧ Sub w7 w11) ∧
 (((s8.toList == (ByteArray.mk #[]).toList) || (!(s8.toList == s1.toList))) = true →
 ∃ n12 : Int, Wr .i64 (n6 + 1) n12 ∧
 ((.num .i64 0 : SV) = .num .i64 0) ∧
 ((.num .i64 0 : SV) = .num .i64 0) ∧
 ((.sl (Sl.mk none 0 0) : SV) = .sl (Sl.mk none 0 0)) ∧
 I4 n12 w7 ∧
 m5 n12 w7 < m5 n6 w7) ∧
 (((s8.toList == (ByteArray.mk #[]).toList) || (!(s8.toList == s1.toList))) = false →
 ((!q9) = true →
 Q (.tuple #[.agg #[.int .i64 n6, .int .i64 0, .slice none 0 0], .bool (s_0.toList == s1.toList)]) w7) ∧
 ((!q9) = false →
 ((0 : Int) ≤ (s1.size : Int) ∧ (s1.size : Int) ≤ (s_0.size : Int)) ∧
 Trip Tryd.prog 50 #[.string (strCut s_0 (s1.size : Int) (s_0.size : Int))] w7 fun r13 w14 =>
 ∃ n15 : Int, ∃ y16 : Vl, r13 = .tuple #[.int .i64 n15, y16.x] ∧
 (∃ q17 : Bool, PureT Tryd.prog (do eqGuard .eql 68 (.tmp 46) (.const (.nilIface)) (y16.x) ((Vl.mk Value.nilIface rfl).x); binOp .eql 68 (y16.x) ((Vl.mk Value.nilIface rfl).x)) w14 (.bool q17) ∧
 Q (.tuple #[.agg #[.int .i64 n6, .int .i64 n15, .slice none 0 0], .bool q17]) w14) ∧
 ∃ q18 : Bool, PureT Tryd.prog (do eqGuard .eql 68 (.tmp 46) (.const (.nilIface)) (y16.x) ((Vl.mk Value.nilIface rfl).x); binOp .eql 68 (y16.x) ((Vl.mk Value.nilIface rfl).x)) w14 (.bool q18) ∧
 Q (.tuple #[.agg #[.int .i64 n6, .int .i64 n15, .slice none 0 0], .bool q18]) w14))) ∧
 ((decide (n6 ≤ 13)) = false →
 Q (.tuple #[.agg #[.int .i64 0, .int .i64 0, .slice none 0 0], .bool false]) w7)
theorem of51 (s_0 : ByteArray) (v : World) (Q : Value → World → Prop) (h : vc51 s_0 v Q) : Trip Tryd.prog 51 #[.string s_0] v Q :=
 trip_of_eq (args := [.st s_0]) (A := ⟨[(3, [(5, .int .i64)], [])], [], [(10, [])], [], psG⟩) Tryd.func51 (by kernel_rfl) (by kernel_rfl) (by kernel_rfl : vc51 s_0 v Q = _) h

def vc52 (a_0 : Addr) (v : World) (Q : Value → World → Prop) : Prop :=
 Trip Tryd.prog 63 #[.pointer (some (a_0.add 0))] v fun r1 w2 =>
 ∃ x3 : Sl, ∃ x4 : Sl, r1 = .agg #[x3.val, x4.val] ∧
 Trip Tryd.prog 53 #[.pointer (some (a_0.add 0)), .int .i64 (x4.n : Int)] w2 fun r5 w6 =>
 ∃ n7 : Int, r5 = .int .i64 n7 ∧
 Q (.tuple #[.agg #[x3.val, x4.val], .int .i64 n7]) w6
theorem of52 (a_0 : Addr) (v : World) (Q : Value → World → Prop) (h : vc52 a_0 v Q) : Trip Tryd.prog 52 #[.pointer (some (a_0.add 0))] v Q :=
 trip_of_eq (args := [.pt a_0 0]) (A := ⟨[], [], [(2, [])], [], psG⟩) Tryd.func52 (by kernel_rfl) (by kernel_rfl) (by kernel_rfl : vc52 a_0 v Q = _) h

def vc53 (a_0 : Addr) (n_1 : Int) (v : World) (Q : Value → World → Prop) : Prop :=
 ∃ n1 : Int, v.cell? (a_0.add 1) = some (.int .i64 n1) ∧
 ∃ n2 : Int, Wr .i64 (n1 + 1) n2 ∧
 StoreAt v a_0 1 [.int .i64 n2] fun w3 =>
 ∃ x4 : Sl, ((decide (n_1 < 1)) = false →
 w3.cell? (a_0.add 0) = some (x4.val)) ∧
 (((decide (n_1 < 1)) || (decide ((x4.n : Int) = 0))) = true →
 Q (.int .i64 0) w3) ∧
 (((decide (n_1 < 1)) || (decide ((x4.n : Int) = 0))) = false →
 ∃ n5 : Int, w3.cell? (a_0.add 1) = some (.int .i64 n5) ∧
 ∃ n6 : Int, Wr .i64 (n5 - 1) n6 ∧
 ∃ x7 : Sl, w3.cell? (a_0.add 0) = some (x7.val) ∧
 ((decide (n6 < (x7.n : Int))) = true →
 ∃ x8 : Sl, w3.cell? (a_0.add 0) = some (x8.val) ∧
 IxOk x8 n6 ∧
 ∃ n9 : Int, w3.cell? ((elA x8 n6 1).add 0) = some (.int .u8 n9) ∧
 ∃ n10 : Int, Wr .i64 n9 n10 ∧
 (n_1 : Int) ≠ 0 ∧
 Q (.int .i64 (Int.tmod n10 n_1)) w3) ∧
 ((decide (n6 < (x7.n : Int))) = false →
 ∃ x11 : Sl, w3.cell? (a_0.add 0) = some (x11.val) ∧
 ∃ x12 : Sl, w3.cell? (a_0.add 0) = some (x12.val) ∧
 ((x12.n : Int) : Int) ≠ 0 ∧
 IxOk x11 (Int.tmod n6 (x12.n : Int)) ∧
 ∃ n13 : Int, w3.cell? ((elA x11 (Int.tmod n6 (x12.n : Int)) 1).add 0) = some (.int .u8 n13) ∧
 ∃ n14 : Int, Wr .i64 n13 n14 ∧
 ∃ n15 : Int, Wr .i64 (n14 * 131) n15 ∧
 ∃ x16 : Sl, w3.cell? (a_0.add 0) = some (x16.val) ∧
 ∃ n17 : Int, Wr .i64 (n6 * 7) n17 ∧
 ∃ n18 : Int, Wr .i64 (n17 + 3) n18 ∧
 ∃ x19 : Sl, w3.cell? (a_0.add 0) = some (x19.val) ∧
 ((x19.n : Int) : Int) ≠ 0 ∧
 IxOk x16 (Int.tmod n18 (x19.n : Int)) ∧
 ∃ n20 : Int, w3.cell? ((elA x16 (Int.tmod n18 (x19.n : Int)) 1).add 0) = some (.int .u8 n20) ∧
 ∃ n21 : Int, Wr .i64 n20 n21 ∧
 ∃ n22 : Int, Wr .i64 (n21 * 1117) n22 ∧
 ∃ n23 : Int, Wr .i64 (n15 + n22) n23 ∧
 ∃ n24 : Int, Wr .i64 (n6 * 29) n24 ∧
 ∃ n25 : Int, Wr .i64 (n23 + n24) n25 ∧
 ∃ x26 : Sl, w3.cell? (a_0.add 0) = some (x26.val) ∧
 ∃ n27 : Int, (((x26.n : Int) : Int) ≠ 0 ∧ Wr .i64 (Int.tdiv n6 (x26.n : Int)) n27) ∧
 ∃ n28 : Int, Wr .i64 (n27 * 53) n28 ∧
 ∃ n29 : Int, Wr .i64 (n25 + n28) n29 ∧
 ∃ n30 : Int, ((64 : Int) ≠ 0 ∧ Wr .i64 (Int.tdiv n29 64) n30) ∧
 ∃ n31 : Int, PureT Tryd.prog (do eqGuard .xor 3 (.tmp 92) (.tmp 94) (.int .i64 n29) (.int .i64 n30); binOp .xor 3 (.int .i64 n29) (.int .i64 n30)) w3 (.int .i64 n31) ∧
 (n_1 : Int) ≠ 0 ∧
 Q (.int .i64 (Int.tmod n31 n_1)) w3))
theorem of53 (a_0 : Addr) (n_1 : Int) (v : World) (Q : Value → World → Prop) (h : vc53 a_0 n_1 v Q) : Trip Tryd.prog 53 #[.pointer (some (a_0.add 0)), .int .i64 n_1] v Q :=
 trip_of_eq (args := [.pt a_0 0, .num .i64 n_1]) (A := ⟨[], [], [], [], psG⟩) Tryd.func53 (by kernel_rfl) (by kernel_rfl) (by kernel_rfl : vc53 a_0 n_1 v Q = _) h

def vc54 (a_0 : Addr) (n1_0 : Int) (n1_1 : Int) (x1_2 : Sl) (v : World) (Q : Value → World → Prop) : Prop :=
 ((decide ((x1_2.n : Int) > 0)) = true →
 Trip Tryd.prog 53 #[.pointer (some (a_0.add 0)), .int .i64 3] v fun r1 w2 =>
 ∃ n3 : Int, r1 = .int .i64 n3 ∧
 ((decide (n3 > 0)) = true →
 Trip Tryd.prog 64 #[x1_2.val] w2 fun r4 w5 =>
 ∃ x6 : Sl, r4 = x6.val ∧
 Trip Tryd.prog 53 #[.pointer (some (a_0.add 0)), .int .i64 (x6.n : Int)] w5 fun r7 w8 =>
 ∃ n9 : Int, r7 = .int .i64 n9 ∧
 IxOk x6 n9 ∧
 ∃ n10 : Int, ∃ n11 : Int, ∃ x12 : Sl, (w8.cell? ((elA x6 n9 3).add 0) = some (.int .i64 n10) ∧
 w8.cell? ((elA x6 n9 3).add 1) = some (.int .i64 n11) ∧
 w8.cell? ((elA x6 n9 3).add 2) = some (x12.val)) ∧
 Trip Tryd.prog 54 #[.pointer (some (a_0.add 0)), .agg #[.int .i64 n10, .int .i64 n11, x12.val]] w8 fun r13 w14 =>
 ∃ n15 : Int, ∃ n16 : Int, ∃ x17 : Sl, r13 = .agg #[.int .i64 n15, .int .i64 n16, x17.val] ∧
 IxOk x6 n9 ∧
 StoreAt w14 (elA x6 n9 3) 0 [.int .i64 n15, .int .i64 n16, x17.val] fun w18 =>
 Trip Tryd.prog 55 #[.int .i64 n1_0, .int .i64 n1_1, x6.val] w18 fun r19 w20 =>
 ∃ n21 : Int, ∃ n22 : Int, ∃ x23 : Sl, r19 = .agg #[.int .i64 n21, .int .i64 n22, x23.val] ∧
 Q (.agg #[.int .i64 n21, .int .i64 n22, x23.val]) w20) ∧
 ((decide (n3 > 0)) = false →
 Trip Tryd.prog 53 #[.pointer (some (a_0.add 0)), .int .i64 5] w2 fun r24 w25 =>
 ∃ n26 : Int, r24 = .int .i64 n26 ∧
 ((decide (n26 = 0)) = true →
 Trip Tryd.prog 53 #[.pointer (some (a_0.add 0)), .int .i64 15] w25 fun r27 w28 =>
 ∃ n29 : Int, r27 = .int .i64 n29 ∧
 Trip Tryd.prog 55 #[.int .i64 n29, .int .i64 n1_1, x1_2.val] w28 fun r30 w31 =>
 ∃ n32 : Int, ∃ n33 : Int, ∃ x34 : Sl, r30 = .agg #[.int .i64 n32, .int .i64 n33, x34.val] ∧
 Q (.agg #[.int .i64 n32, .int .i64 n33, x34.val]) w31) ∧
 ((decide (n26 = 0)) = false →
 ((decide (n26 = 1)) = true →
 StepT Tryd.prog (Instr.buildSlice 86 4 #[(0, (.int .i64 1)), (1, (.int .i64 (-1))), (2, (.int .i64 1000)), (3, (.int .i64 2))]) w25 fun r35 w36 =>
 ∃ x37 : Sl, r35 = x37.val ∧
 Trip Tryd.prog 65 #[.pointer (some (a_0.add 0)), x37.val] w36 fun r38 w39 =>
 ∃ n40 : Int, r38 = .int .i64 n40 ∧
 ∃ n41 : Int, Wr .i64 (n1_1 + n40) n41 ∧
 Trip Tryd.prog 55 #[.int .i64 n1_0, .int .i64 n41, x1_2.val] w39 fun r42 w43 =>
 ∃ n44 : Int, ∃ n45 : Int, ∃ x46 : Sl, r42 = .agg #[.int .i64 n44, .int .i64 n45, x46.val] ∧
 Q (.agg #[.int .i64 n44, .int .i64 n45, x46.val]) w43) ∧
 ((decide (n26 = 1)) = false →
 ((decide (n26 = 2)) = true →
 Trip Tryd.prog 64 #[x1_2.val] w25 fun r47 w48 =>
 ∃ x49 : Sl, r47 = x49.val ∧
 Trip Tryd.prog 66 #[.int .i64 1] w48 fun r50 w51 =>
 ∃ n52 : Int, ∃ n53 : Int, ∃ x54 : Sl, r50 = .agg #[.int .i64 n52, .int .i64 n53, x54.val] ∧
 StepT Tryd.prog (Instr.buildSlice 27 1 #[(0, (.agg #[.int .i64 n52, .int .i64 n53, x54.val]))]) w51 fun r55 w56 =>
 ∃ x57 : Sl, r55 = x57.val ∧
 StepT Tryd.prog (Builtin.append_ #[27, 27] 27 #[(x49.val), (x57.val)]) w56 fun r58 w59 =>
 ∃ x60 : Sl, r58 = x60.val ∧
 Trip Tryd.prog 55 #[.int .i64 n1_0, .int .i64 n1_1, x60.val] w59 fun r61 w62 =>
 ∃ n63 : Int, ∃ n64 : Int, ∃ x65 : Sl, r61 = .agg #[.int .i64 n63, .int .i64 n64, x65.val] ∧
 Q (.agg #[.int .i64 n63, .int .i64 n64, x65.val]) w62) ∧
 ((decide (n26 = 2)) = false →
 ((decide (n26 = 3)) = true →
 StepT Tryd.prog (Instr.buildSlice 86 6 #[(0, (.int .i64 0)), (1, (.int .i64 1)), (2, (.int .i64 2)), (3, (.int .i64 5)), (4, (.int .i64 100)), (5, (.int .i64 (-1)))]) w25 fun r66 w67 =>
 ∃ x68 : Sl, r66 = x68.val ∧
 Trip Tryd.prog 65 #[.pointer (some (a_0.add 0)), x68.val] w67 fun r69 w70 =>
 ∃ n71 : Int, r69 = .int .i64 n71 ∧
 Trip Tryd.prog 67 #[.int .i64 n71] w70 fun r72 w73 =>
 ∃ n74 : Int, ∃ n75 : Int, ∃ x76 : Sl, r72 = .agg #[.int .i64 n74, .int .i64 n75, x76.val] ∧
 Q (.agg #[.int .i64 n74, .int .i64 n75, x76.val]) w73) ∧
 ((decide (n26 = 3)) = false →
 StepT Tryd.prog (Instr.buildSlice 86 4 #[(0, (.int .i64 0)), (1, (.int .i64 1000)), (2, (.int .i64 (-1000))), (3, (.int .i64 5))]) w25 fun r77 w78 =>
 ∃ x79 : Sl, r77 = x79.val ∧
 Trip Tryd.prog 65 #[.pointer (some (a_0.add 0)), x79.val] w78 fun r80 w81 =>
 ∃ n82 : Int, r80 = .int .i64 n82 ∧
 Trip Tryd.prog 66 #[.int .i64 n82] w81 fun r83 w84 =>
 ∃ n85 : Int, ∃ n86 : Int, ∃ x87 : Sl, r83 = .agg #[.int .i64 n85, .int .i64 n86, x87.val] ∧
 Q (.agg #[.int .i64 n85, .int .i64 n86, x87.val]) w84)))))) ∧
 ((decide ((x1_2.n : Int) > 0)) = false →
 Trip Tryd.prog 53 #[.pointer (some (a_0.add 0)), .int .i64 5] v fun r88 w89 =>
 ∃ n90 : Int, r88 = .int .i64 n90 ∧
 ((decide (n90 = 0)) = true →
 Trip Tryd.prog 53 #[.pointer (some (a_0.add 0)), .int .i64 15] w89 fun r91 w92 =>
 ∃ n93 : Int, r91 = .int .i64 n93 ∧
 Trip Tryd.prog 55 #[.int .i64 n93, .int .i64 n1_1, x1_2.val] w92 fun r94 w95 =>
 ∃ n96 : Int, ∃ n97 : Int, ∃ x98 : Sl, r94 = .agg #[.int .i64 n96, .int .i64 n97, x98.val] ∧
 Q (.agg #[.int .i64 n96, .int .i64 n97, x98.val]) w95) ∧
 ((decide (n90 = 0)) = false →
 ((decide (n90 = 1)) = true →
 StepT Tryd.prog (Instr.buildSlice 86 4 #[(0, (.int .i64 1)), (1, (.int .i64 (-1))), (2, (.int .i64 1000)), (3, (.int .i64 2))]) w89 fun r99 w100 =>
 ∃ x101 : Sl, r99 = x101.val ∧
 Trip Tryd.prog 65 #[.pointer (some (a_0.add 0)), x101.val] w100 fun r102 w103 =>
 ∃ n104 : Int, r102 = .int .i64 n104 ∧
 ∃ n105 : Int, Wr .i64 (n1_1 + n104) n105 ∧
 Trip Tryd.prog 55 #[.int .i64 n1_0, .int .i64 n105, x1_2.val] w103 fun r106 w107 =>
 ∃ n108 : Int, ∃ n109 : Int, ∃ x110 : Sl, r106 = .agg #[.int .i64 n108, .int .i64 n109, x110.val] ∧
 Q (.agg #[.int .i64 n108, .int .i64 n109, x110.val]) w107) ∧
 ((decide (n90 = 1)) = false →
 ((decide (n90 = 2)) = true →
 Trip Tryd.prog 64 #[x1_2.val] w89 fun r111 w112 =>
 ∃ x113 : Sl, r111 = x113.val ∧
 Trip Tryd.prog 66 #[.int .i64 1] w112 fun r114 w115 =>
 ∃ n116 : Int, ∃ n117 : Int, ∃ x118 : Sl, r114 = .agg #[.int .i64 n116, .int .i64 n117, x118.val] ∧
 StepT Tryd.prog (Instr.buildSlice 27 1 #[(0, (.agg #[.int .i64 n116, .int .i64 n117, x118.val]))]) w115 fun r119 w120 =>
 ∃ x121 : Sl, r119 = x121.val ∧
 StepT Tryd.prog (Builtin.append_ #[27, 27] 27 #[(x113.val), (x121.val)]) w120 fun r122 w123 =>
 ∃ x124 : Sl, r122 = x124.val ∧
 Trip Tryd.prog 55 #[.int .i64 n1_0, .int .i64 n1_1, x124.val] w123 fun r125 w126 =>
 ∃ n127 : Int, ∃ n128 : Int, ∃ x129 : Sl, r125 = .agg #[.int .i64 n127, .int .i64 n128, x129.val] ∧
 Q (.agg #[.int .i64 n127, .int .i64 n128, x129.val]) w126) ∧
 ((decide (n90 = 2)) = false →
 ((decide (n90 = 3)) = true →
 StepT Tryd.prog (Instr.buildSlice 86 6 #[(0, (.int .i64 0)), (1, (.int .i64 1)), (2, (.int .i64 2)), (3, (.int .i64 5)), (4, (.int .i64 100)), (5, (.int .i64 (-1)))]) w89 fun r130 w131 =>
 ∃ x132 : Sl, r130 = x132.val ∧
 Trip Tryd.prog 65 #[.pointer (some (a_0.add 0)), x132.val] w131 fun r133 w134 =>
 ∃ n135 : Int, r133 = .int .i64 n135 ∧
 Trip Tryd.prog 67 #[.int .i64 n135] w134 fun r136 w137 =>
 ∃ n138 : Int, ∃ n139 : Int, ∃ x140 : Sl, r136 = .agg #[.int .i64 n138, .int .i64 n139, x140.val] ∧
 Q (.agg #[.int .i64 n138, .int .i64 n139, x140.val]) w137) ∧
 ((decide (n90 = 3)) = false →
 StepT Tryd.prog (Instr.buildSlice 86 4 #[(0, (.int .i64 0)), (1, (.int .i64 1000)), (2, (.int .i64 (-1000))), (3, (.int .i64 5))]) w89 fun r141 w142 =>
 ∃ x143 : Sl, r141 = x143.val ∧
 Trip Tryd.prog 65 #[.pointer (some (a_0.add 0)), x143.val] w142 fun r144 w145 =>
 ∃ n146 : Int, r144 = .int .i64 n146 ∧
 Trip Tryd.prog 66 #[.int .i64 n146] w145 fun r147 w148 =>
 ∃ n149 : Int, ∃ n150 : Int, ∃ x151 : Sl, r147 = .agg #[.int .i64 n149, .int .i64 n150, x151.val] ∧
 Q (.agg #[.int .i64 n149, .int .i64 n150, x151.val]) w148)))))
theorem of54 (a_0 : Addr) (n1_0 : Int) (n1_1 : Int) (x1_2 : Sl) (v : World) (Q : Value → World → Prop) (h : vc54 a_0 n1_0 n1_1 x1_2 v Q) : Trip Tryd.prog 54 #[.pointer (some (a_0.add 0)), .agg #[.int .i64 n1_0, .int .i64 n1_1, x1_2.val]] v Q :=
 trip_of_eq (args := [.pt a_0 0, .ag [.num .i64 n1_0, .num .i64 n1_1, .sl x1_2]]) (A := ⟨[], [], [(8, []), (10, []), (12, [])], [], psG⟩) Tryd.func54 (by kernel_rfl) (by kernel_rfl) (by kernel_rfl : vc54 a_0 n1_0 n1_1 x1_2 v Q = _) h

def vc55 (n_0 : Int) (n_1 : Int) (x_2 : Sl) (v : World) (Q : Value → World → Prop) : Prop :=
 Q (.agg #[.int .i64 n_0, .int .i64 n_1, x_2.val]) v
theorem of55 (n_0 : Int) (n_1 : Int) (x_2 : Sl) (v : World) (Q : Value → World → Prop) (h : vc55 n_0 n_1 x_2 v Q) : Trip Tryd.prog 55 #[.int .i64 n_0, .int .i64 n_1, x_2.val] v Q :=
 trip_of_eq (args := [.num .i64 n_0, .num .i64 n_1, .sl x_2]) (A := ⟨[], [], [], [], psG⟩) Tryd.func55 (by kernel_rfl) (by kernel_rfl) (by kernel_rfl : vc55 n_0 n_1 x_2 v Q = _) h

def vc64 (x_0 : Sl) (v : World) (Q : Value → World → Prop) : Prop :=
 StepT Tryd.prog (Instr.buildSlice 27 0 #[]) v fun r1 w2 =>
 ∃ x3 : Sl, r1 = x3.val ∧
 ∃ I4 : Sl → Int → World → Prop, ∃ m5 : Sl → Int → World → Nat, I4 x3 0 w2 ∧
 ∀ x6 : Sl, ∀ n7 : Int, ∀ w8 : World, I4 x6 n7 w8 →
 ((decide (n7 < (x_0.n : Int))) = true →
 IxOk x_0 n7 ∧
 ∃ n9 : Int, ∃ n10 : Int, ∃ x11 : Sl, (w8.cell? ((elA x_0 n7 3).add 0) = some (.int .i64 n9) ∧
 w8.cell? ((elA x_0 n7 3).add 1) = some (.int .i64 n10) ∧
 w8.cell? ((elA x_0 n7 3).add 2) = some (x11.val)) ∧
 Trip Tryd.prog 86 #[.agg #[.int .i64 n9, .int .i64 n10, x11.val]] w8 fun r12 w13 =>
 ∃ n14 : Int, ∃ n15 : Int, ∃ x16 : Sl, r12 = .agg #[.int .i64 n14, .int .i64 n15, x16.val] ∧
 StepT Tryd.prog (Instr.buildSlice 27 1 #[(0, (.agg #[.int .i64 n14, .int .i64 n15, x16.val]))]) w13 fun r17 w18 =>
 ∃ x19 : Sl, r17 = x19.val ∧
 StepT Tryd.prog (Builtin.append_ #[27, 27] 27 #[(x6.val), (x19.val)]) w18 fun r20 w21 =>
 ∃ x22 : Sl, r20 = x22.val ∧
 ∃ n23 : Int, Wr .i64 (n7 + 1) n23 ∧
 I4 x22 n23 w21 ∧
 m5 x22 n23 w21 < m5 x6 n7 w8) ∧
 ((decide (n7 < (x_0.n : Int))) = false →
 Q (x6.val) w8)
theorem of64 (x_0 : Sl) (v : World) (Q : Value → World → Prop) (h : vc64 x_0 v Q) : Trip Tryd.prog 64 #[x_0.val] v Q :=
 trip_of_eq (args := [.sl x_0]) (A := ⟨[(3, [(3, .sl), (4, .int .i64)], [])], [], [], [], psG⟩) Tryd.func64 (by kernel_rfl) (by kernel_rfl) (by kernel_rfl : vc64 x_0 v Q = _) h

def vc65 (a_0 : Addr) (x_1 : Sl) (v : World) (Q : Value → World → Prop) : Prop :=
 Trip Tryd.prog 53 #[.pointer (some (a_0.add 0)), .int .i64 (x_1.n : Int)] v fun r1 w2 =>
 ∃ n3 : Int, r1 = .int .i64 n3 ∧
 IxOk x_1 n3 ∧
 ∃ n4 : Int, w2.cell? ((elA x_1 n3 1).add 0) = some (.int .i64 n4) ∧
 Q (.int .i64 n4) w2
theorem of65 (a_0 : Addr) (x_1 : Sl) (v : World) (Q : Value → World → Prop) (h : vc65 a_0 x_1 v Q) : Trip Tryd.prog 65 #[.pointer (some (a_0.add 0)), x_1.val] v Q :=
 trip_of_eq (args := [.pt a_0 0, .sl x_1]) (A := ⟨[], [], [], [], psG⟩) Tryd.func65 (by kernel_rfl) (by kernel_rfl) (by kernel_rfl : vc65 a_0 x_1 v Q = _) h

def vc66 (n_0 : Int) (v : World) (Q : Value → World → Prop) : Prop :=
 StepT Tryd.prog (Instr.buildSlice 27 0 #[]) v fun r1 w2 =>
 ∃ x3 : Sl, r1 = x3.val ∧
 Q (.agg #[.int .i64 0, .int .i64 n_0, x3.val]) w2
theorem of66 (n_0 : Int) (v : World) (Q : Value → World → Prop) (h : vc66 n_0 v Q) : Trip Tryd.prog 66 #[.int .i64 n_0] v Q :=
 trip_of_eq (args := [.num .i64 n_0]) (A := ⟨[], [], [], [], psG⟩) Tryd.func66 (by kernel_rfl) (by kernel_rfl) (by kernel_rfl : vc66 n_0 v Q = _) h

def vc67 (n_0 : Int) (v : World) (Q : Value → World → Prop) : Prop :=
 StepT Tryd.prog (Instr.buildSlice 27 0 #[]) v fun r1 w2 =>
 ∃ x3 : Sl, r1 = x3.val ∧
 Q (.agg #[.int .i64 12, .int .i64 n_0, x3.val]) w2
theorem of67 (n_0 : Int) (v : World) (Q : Value → World → Prop) (h : vc67 n_0 v Q) : Trip Tryd.prog 67 #[.int .i64 n_0] v Q :=
 trip_of_eq (args := [.num .i64 n_0]) (A := ⟨[], [], [], [], psG⟩) Tryd.func67 (by kernel_rfl) (by kernel_rfl) (by kernel_rfl : vc67 n_0 v Q = _) h

def vc83 (a_0 : Addr) (v : World) (Q : Value → World → Prop) : Prop :=
 StepT Tryd.prog (Instr.buildSlice 86 0 #[]) v fun r1 w2 =>
 ∃ x3 : Sl, r1 = x3.val ∧
 Trip Tryd.prog 100 #[x3.val] w2 fun r4 w5 =>
 ∃ x6 : Sl, r4 = .agg #[x6.val] ∧
 StepT Tryd.prog (Instr.buildSlice 86 2 #[(0, (.int .i64 0)), (1, (.int .i64 1))]) w5 fun r7 w8 =>
 ∃ x9 : Sl, r7 = x9.val ∧
 Trip Tryd.prog 100 #[x9.val] w8 fun r10 w11 =>
 ∃ x12 : Sl, r10 = .agg #[x12.val] ∧
 StepT Tryd.prog (Instr.buildSlice 145 2 #[(0, (.agg #[x6.val])), (1, (.agg #[x12.val]))]) w11 fun r13 w14 =>
 ∃ x15 : Sl, r13 = x15.val ∧
 StepT Tryd.prog (Instr.buildSlice 86 0 #[]) w14 fun r16 w17 =>
 ∃ x18 : Sl, r16 = x18.val ∧
 Trip Tryd.prog 100 #[x18.val] w17 fun r19 w20 =>
 ∃ x21 : Sl, r19 = .agg #[x21.val] ∧
 StepT Tryd.prog (Instr.buildSlice 86 3 #[(0, (.int .i64 3)), (1, (.int .i64 0)), (2, (.int .i64 3))]) w20 fun r22 w23 =>
 ∃ x24 : Sl, r22 = x24.val ∧
 Trip Tryd.prog 100 #[x24.val] w23 fun r25 w26 =>
 ∃ x27 : Sl, r25 = .agg #[x27.val] ∧
 StepT Tryd.prog (Instr.buildSlice 145 2 #[(0, (.agg #[x21.val])), (1, (.agg #[x27.val]))]) w26 fun r28 w29 =>
 ∃ x30 : Sl, r28 = x30.val ∧
 StepT Tryd.prog (Instr.buildSlice 86 2 #[(0, (.int .i64 1)), (1, (.int .i64 3))]) w29 fun r31 w32 =>
 ∃ x33 : Sl, r31 = x33.val ∧
 Trip Tryd.prog 100 #[x33.val] w32 fun r34 w35 =>
 ∃ x36 : Sl, r34 = .agg #[x36.val] ∧
 StepT Tryd.prog (Instr.buildSlice 145 1 #[(0, (.agg #[x36.val]))]) w35 fun r37 w38 =>
 ∃ x39 : Sl, r37 = x39.val ∧
 StepT Tryd.prog (Instr.buildSlice 86 3 #[(0, (.int .i64 1)), (1, (.int .i64 1)), (2, (.int .i64 0))]) w38 fun r40 w41 =>
 ∃ x42 : Sl, r40 = x42.val ∧
 Trip Tryd.prog 100 #[x42.val] w41 fun r43 w44 =>
 ∃ x45 : Sl, r43 = .agg #[x45.val] ∧
 StepT Tryd.prog (Instr.buildSlice 86 1 #[(0, (.int .i64 0))]) w44 fun r46 w47 =>
 ∃ x48 : Sl, r46 = x48.val ∧
 Trip Tryd.prog 100 #[x48.val] w47 fun r49 w50 =>
 ∃ x51 : Sl, r49 = .agg #[x51.val] ∧
 StepT Tryd.prog (Instr.buildSlice 86 1 #[(0, (.int .i64 3))]) w50 fun r52 w53 =>
 ∃ x54 : Sl, r52 = x54.val ∧
 Trip Tryd.prog 100 #[x54.val] w53 fun r55 w56 =>
 ∃ x57 : Sl, r55 = .agg #[x57.val] ∧
 StepT Tryd.prog (Instr.buildSlice 145 3 #[(0, (.agg #[x45.val])), (1, (.agg #[x51.val])), (2, (.agg #[x57.val]))]) w56 fun r58 w59 =>
 ∃ x60 : Sl, r58 = x60.val ∧
 StepT Tryd.prog (Instr.buildSlice 80 4 #[(0, (.agg #[.int .i64 0, .int .i64 0, x39.val])), (1, (.agg #[.int .i64 1, .int .i64 0, .slice none 0 0])), (2, (.agg #[.int .i64 0, .int .i64 0, x60.val])), (3, (.agg #[.int .i64 0, .int .i64 1, .slice none 0 0]))]) w59 fun r61 w62 =>
 ∃ x63 : Sl, r61 = x63.val ∧
 StepT Tryd.prog (Instr.buildSlice 80 3 #[(0, (.agg #[.int .i64 0, .int .i64 0, x15.val])), (1, (.agg #[.int .i64 0, .int .i64 0, .slice none 0 0])), (2, (.agg #[.int .i64 0, .int .i64 0, x30.val]))]) w62 fun r64 w65 =>
 ∃ x66 : Sl, r64 = x66.val ∧
 Trip Tryd.prog 53 #[.pointer (some (a_0.add 0)), .int .i64 5] w65 fun r67 w68 =>
 ∃ n69 : Int, r67 = .int .i64 n69 ∧
 ((decide (n69 < 4)) = true →
 IxOk x63 n69 ∧
 ∃ n70 : Int, ∃ n71 : Int, ∃ x72 : Sl, (w68.cell? ((elA x63 n69 3).add 0) = some (.int .i64 n70) ∧
 w68.cell? ((elA x63 n69 3).add 1) = some (.int .i64 n71) ∧
 w68.cell? ((elA x63 n69 3).add 2) = some (x72.val)) ∧
 StepT Tryd.prog (Instr.buildSlice 80 1 #[(0, (.agg #[.int .i64 n70, .int .i64 n71, x72.val]))]) w68 fun r73 w74 =>
 ∃ x75 : Sl, r73 = x75.val ∧
 StepT Tryd.prog (Builtin.append_ #[80, 80] 80 #[(x66.val), (x75.val)]) w74 fun r76 w77 =>
 ∃ x78 : Sl, r76 = x78.val ∧
 Q (x78.val) w77) ∧
 ((decide (n69 < 4)) = false →
 Q (x66.val) w68)
theorem of83 (a_0 : Addr) (v : World) (Q : Value → World → Prop) (h : vc83 a_0 v Q) : Trip Tryd.prog 83 #[.pointer (some (a_0.add 0))] v Q :=
 trip_of_eq (args := [.pt a_0 0]) (A := ⟨[], [], [], [], psG⟩) Tryd.func83 (by kernel_rfl) (by kernel_rfl) (by kernel_rfl : vc83 a_0 v Q = _) h

def vc84 (x_0 : Sl) (n_1 : Int) (v : World) (Q : Value → World → Prop) : Prop :=
 Q (.agg #[x_0.val, .int .i64 n_1, .int .i64 0, .int .i64 0, .slice none 0 0]) v
theorem of84 (x_0 : Sl) (n_1 : Int) (v : World) (Q : Value → World → Prop) (h : vc84 x_0 n_1 v Q) : Trip Tryd.prog 84 #[x_0.val, .int .i64 n_1] v Q :=
 trip_of_eq (args := [.sl x_0, .num .i64 n_1]) (A := ⟨[], [], [], [], psG⟩) Tryd.func84 (by kernel_rfl) (by kernel_rfl) (by kernel_rfl : vc84 x_0 n_1 v Q = _) h

def vc85 (a_0 : Addr) (x1_0 : Sl) (x1_1 : Sl) (n_2 : Int) (v : World) (Q : Value → World → Prop) : Prop :=
 IxOk x1_1 n_2 ∧
 ∃ x1 : Sl, v.cell? ((elA x1_1 n_2 5).add 0) = some (x1.val) ∧
 IxOk x1_1 n_2 ∧
 ∃ n2 : Int, v.cell? ((elA x1_1 n_2 5).add 1) = some (.int .i64 n2) ∧
 ∃ n3 : Int, (Trip Tryd.prog 101 #[x1.val, .int .i64 1] v fun r4 w5 => r4 = .int .i64 n3 ∧ Sub v w5) ∧
 Trip Tryd.prog 66 #[.int .i64 0] v fun r6 w7 =>
 ∃ n8 : Int, ∃ n9 : Int, ∃ x10 : Sl, r6 = .agg #[.int .i64 n8, .int .i64 n9, x10.val] ∧
 Trip Tryd.prog 53 #[.pointer (some (a_0.add 0)), .int .i64 4] w7 fun r11 w12 =>
 ∃ n13 : Int, r11 = .int .i64 n13 ∧
 (((decide (n13 < 3)) && (decide (n_2 = 0))) = true →
 Trip Tryd.prog 102 #[.pointer (some (a_0.add 0)), .agg #[x1_0.val, x1_1.val]] w12 fun r14 w15 =>
 ∃ n16 : Int, ∃ n17 : Int, ∃ x18 : Sl, r14 = .agg #[.int .i64 n16, .int .i64 n17, x18.val] ∧
 ∃ n19 : Int, (Trip Tryd.prog 19 #[.agg #[.int .i64 n16, .int .i64 n17, x18.val]] w15 fun r20 w21 => r20 = .int .i64 n19 ∧ Sub w15 w21) ∧
 ((decide (n19 < 0)) = true →
 Trip Tryd.prog 106 #[.pointer (some (a_0.add 0)), .agg #[x1_0.val, x1_1.val], x1.val, .int .i64 n2, .int .i64 12] w15 fun r22 w23 =>
 ∃ n24 : Int, ∃ n25 : Int, ∃ x26 : Sl, r22 = .agg #[.int .i64 n24, .int .i64 n25, x26.val] ∧
 Q (.agg #[.int .i64 n24, .int .i64 n25, x26.val]) w23) ∧
 ((decide (n19 < 0)) = false →
 Q (.agg #[.int .i64 n16, .int .i64 n17, x18.val]) w15)) ∧
 (((decide (n13 < 3)) && (decide (n_2 = 0))) = false →
 ((((decide (n13 < 3)) && (decide (n3 ≥ 0))) && ((decide (n2 = 0)) || (decide (n2 = 1)))) = true →
 Trip Tryd.prog 103 #[.pointer (some (a_0.add 0)), .agg #[x1_0.val, x1_1.val], .int .i64 n_2, .int .i64 n3] w12 fun r27 w28 =>
 ∃ n29 : Int, ∃ n30 : Int, ∃ x31 : Sl, r27 = .agg #[.int .i64 n29, .int .i64 n30, x31.val] ∧
 ∃ n32 : Int, (Trip Tryd.prog 19 #[.agg #[.int .i64 n29, .int .i64 n30, x31.val]] w28 fun r33 w34 => r33 = .int .i64 n32 ∧ Sub w28 w34) ∧
 ((decide (n32 < 0)) = true →
 Trip Tryd.prog 106 #[.pointer (some (a_0.add 0)), .agg #[x1_0.val, x1_1.val], x1.val, .int .i64 n2, .int .i64 12] w28 fun r35 w36 =>
 ∃ n37 : Int, ∃ n38 : Int, ∃ x39 : Sl, r35 = .agg #[.int .i64 n37, .int .i64 n38, x39.val] ∧
 Q (.agg #[.int .i64 n37, .int .i64 n38, x39.val]) w36) ∧
 ((decide (n32 < 0)) = false →
 Q (.agg #[.int .i64 n29, .int .i64 n30, x31.val]) w28)) ∧
 ((((decide (n13 < 3)) && (decide (n3 ≥ 0))) && ((decide (n2 = 0)) || (decide (n2 = 1)))) = false →
 (((decide (n13 < 3)) && (decide ((x1.n : Int) > 0))) = true →
 IxOk x1 0) ∧
 ∃ n40 : Int, (((decide (n13 < 3)) && (decide ((x1.n : Int) > 0))) = true →
 w12.cell? ((elA x1 0 1).add 0) = some (.int .i64 n40)) ∧
 (((((decide (n13 < 3)) && (decide ((x1.n : Int) > 0))) && (decide (n40 = 3))) && ((decide (n2 = 0)) || (decide (n2 = 3)))) = true →
 Trip Tryd.prog 104 #[.pointer (some (a_0.add 0)), .agg #[x1_0.val, x1_1.val], .int .i64 n_2] w12 fun r41 w42 =>
 ∃ n43 : Int, ∃ n44 : Int, ∃ x45 : Sl, r41 = .agg #[.int .i64 n43, .int .i64 n44, x45.val] ∧
 ∃ n46 : Int, (Trip Tryd.prog 19 #[.agg #[.int .i64 n43, .int .i64 n44, x45.val]] w42 fun r47 w48 => r47 = .int .i64 n46 ∧ Sub w42 w48) ∧
 ((decide (n46 < 0)) = true →
 Trip Tryd.prog 106 #[.pointer (some (a_0.add 0)), .agg #[x1_0.val, x1_1.val], x1.val, .int .i64 n2, .int .i64 12] w42 fun r49 w50 =>
 ∃ n51 : Int, ∃ n52 : Int, ∃ x53 : Sl, r49 = .agg #[.int .i64 n51, .int .i64 n52, x53.val] ∧
 Q (.agg #[.int .i64 n51, .int .i64 n52, x53.val]) w50) ∧
 ((decide (n46 < 0)) = false →
 Q (.agg #[.int .i64 n43, .int .i64 n44, x45.val]) w42)) ∧
 (((((decide (n13 < 3)) && (decide ((x1.n : Int) > 0))) && (decide (n40 = 3))) && ((decide (n2 = 0)) || (decide (n2 = 3)))) = false →
 (((decide (n13 < 3)) && (decide ((x1.n : Int) > 0))) = true →
 IxOk x1 0) ∧
 ∃ n54 : Int, (((decide (n13 < 3)) && (decide ((x1.n : Int) > 0))) = true →
 w12.cell? ((elA x1 0 1).add 0) = some (.int .i64 n54)) ∧
 (((((decide (n13 < 3)) && (decide ((x1.n : Int) > 0))) && (decide (n54 = 0))) && ((decide (n2 = 0)) || (decide (n2 = 1)))) = true →
 Trip Tryd.prog 105 #[.pointer (some (a_0.add 0)), .agg #[x1_0.val, x1_1.val], .int .i64 n_2] w12 fun r55 w56 =>
 ∃ n57 : Int, ∃ n58 : Int, ∃ x59 : Sl, r55 = .agg #[.int .i64 n57, .int .i64 n58, x59.val] ∧
 ∃ n60 : Int, (Trip Tryd.prog 19 #[.agg #[.int .i64 n57, .int .i64 n58, x59.val]] w56 fun r61 w62 => r61 = .int .i64 n60 ∧ Sub w56 w62) ∧
 ((decide (n60 < 0)) = true →
 Trip Tryd.prog 106 #[.pointer (some (a_0.add 0)), .agg #[x1_0.val, x1_1.val], x1.val, .int .i64 n2, .int .i64 12] w56 fun r63 w64 =>
 ∃ n65 : Int, ∃ n66 : Int, ∃ x67 : Sl, r63 = .agg #[.int .i64 n65, .int .i64 n66, x67.val] ∧
 Q (.agg #[.int .i64 n65, .int .i64 n66, x67.val]) w64) ∧
 ((decide (n60 < 0)) = false →
 Q (.agg #[.int .i64 n57, .int .i64 n58, x59.val]) w56)) ∧
 (((((decide (n13 < 3)) && (decide ((x1.n : Int) > 0))) && (decide (n54 = 0))) && ((decide (n2 = 0)) || (decide (n2 = 1)))) = false →
 Trip Tryd.prog 106 #[.pointer (some (a_0.add 0)), .agg #[x1_0.val, x1_1.val], x1.val, .int .i64 n2, .int .i64 18] w12 fun r68 w69 =>
 ∃ n70 : Int, ∃ n71 : Int, ∃ x72 : Sl, r68 = .agg #[.int .i64 n70, .int .i64 n71, x72.val] ∧
 ∃ n73 : Int, (Trip Tryd.prog 19 #[.agg #[.int .i64 n70, .int .i64 n71, x72.val]] w69 fun r74 w75 => r74 = .int .i64 n73 ∧ Sub w69 w75) ∧
 ((decide (n73 < 0)) = true →
 Trip Tryd.prog 106 #[.pointer (some (a_0.add 0)), .agg #[x1_0.val, x1_1.val], x1.val, .int .i64 n2, .int .i64 12] w69 fun r76 w77 =>
 ∃ n78 : Int, ∃ n79 : Int, ∃ x80 : Sl, r76 = .agg #[.int .i64 n78, .int .i64 n79, x80.val] ∧
 Q (.agg #[.int .i64 n78, .int .i64 n79, x80.val]) w77) ∧
 ((decide (n73 < 0)) = false →
 Q (.agg #[.int .i64 n70, .int .i64 n71, x72.val]) w69)))))
theorem of85 (a_0 : Addr) (x1_0 : Sl) (x1_1 : Sl) (n_2 : Int) (v : World) (Q : Value → World → Prop) (h : vc85 a_0 x1_0 x1_1 n_2 v Q) : Trip Tryd.prog 85 #[.pointer (some (a_0.add 0)), .agg #[x1_0.val, x1_1.val], .int .i64 n_2] v Q :=
 trip_of_eq (args := [.pt a_0 0, .ag [.sl x1_0, .sl x1_1], .num .i64 n_2]) (A := ⟨[], [], [], [], psG⟩) Tryd.func85 (by kernel_rfl) (by kernel_rfl) (by kernel_rfl : vc85 a_0 x1_0 x1_1 n_2 v Q = _) h

def vc86 (n0_0 : Int) (n0_1 : Int) (x0_2 : Sl) (v : World) (Q : Value → World → Prop) : Prop :=
 Trip Tryd.prog 64 #[x0_2.val] v fun r1 w2 =>
 ∃ x3 : Sl, r1 = x3.val ∧
 Sub v w2 ∧
 Q (.agg #[.int .i64 n0_0, .int .i64 n0_1, x3.val]) w2
theorem of86 (n0_0 : Int) (n0_1 : Int) (x0_2 : Sl) (v : World) (Q : Value → World → Prop) (h : vc86 n0_0 n0_1 x0_2 v Q) : Trip Tryd.prog 86 #[.agg #[.int .i64 n0_0, .int .i64 n0_1, x0_2.val]] v Q :=
 trip_of_eq (args := [.ag [.num .i64 n0_0, .num .i64 n0_1, .sl x0_2]]) (A := ⟨[], [], [(1, [6])], [], psG⟩) Tryd.func86 (by kernel_rfl) (by kernel_rfl) (by kernel_rfl : vc86 n0_0 n0_1 x0_2 v Q = _) h

def vc100 (x_0 : Sl) (v : World) (Q : Value → World → Prop) : Prop :=
 Q (.agg #[x_0.val]) v
theorem of100 (x_0 : Sl) (v : World) (Q : Value → World → Prop) (h : vc100 x_0 v Q) : Trip Tryd.prog 100 #[x_0.val] v Q :=
 trip_of_eq (args := [.sl x_0]) (A := ⟨[], [], [], [], psG⟩) Tryd.func100 (by kernel_rfl) (by kernel_rfl) (by kernel_rfl : vc100 x_0 v Q = _) h

def vc101 (x_0 : Sl) (n_1 : Int) (v : World) (Q : Value → World → Prop) : Prop :=
 ∃ I1 : Int → World → Prop, ∃ m2 : Int → World → Nat, I1 0 v ∧
 ∀ n3 : Int, ∀ w4 : World, I1 n3 w4 →
 ((decide (n3 < (x_0.n : Int))) = true →
 IxOk x_0 n3 ∧
 ∃ n5 : Int, w4.cell? ((elA x_0 n3 1).add 0) = some (.int .i64 n5) ∧
 ((decide (n5 = n_1)) = true →
 Q (.int .i64 n3) w4) ∧
 ((decide (n5 = n_1)) = false →
 ∃ n6 : Int, Wr .i64 (n3 + 1) n6 ∧
 I1 n6 w4 ∧
 m2 n6 w4 < m2 n3 w4)) ∧
 ((decide (n3 < (x_0.n : Int))) = false →
 Q (.int .i64 (-1)) w4)
theorem of101 (x_0 : Sl) (n_1 : Int) (v : World) (Q : Value → World → Prop) (h : vc101 x_0 n_1 v Q) : Trip Tryd.prog 101 #[x_0.val, .int .i64 n_1] v Q :=
 trip_of_eq (args := [.sl x_0, .num .i64 n_1]) (A := ⟨[(2, [(5, .int .i64)], [])], [], [], [], psG⟩) Tryd.func101 (by kernel_rfl) (by kernel_rfl) (by kernel_rfl : vc101 x_0 n_1 v Q = _) h

def vc102 (a_0 : Addr) (x1_0 : Sl) (x1_1 : Sl) (v : World) (Q : Value → World → Prop) : Prop :=
 StepT Tryd.prog (Instr.buildSlice 86 3 #[(0, (.int .i64 1)), (1, (.int .i64 1)), (2, (.int .i64 3))]) v fun r1 w2 =>
 ∃ x3 : Sl, r1 = x3.val ∧
 Trip Tryd.prog 65 #[.pointer (some (a_0.add 0)), x3.val] w2 fun r4 w5 =>
 ∃ n6 : Int, r4 = .int .i64 n6 ∧
 StepT Tryd.prog (Instr.buildSlice 86 1 #[(0, (.int .i64 n6))]) w5 fun r7 w8 =>
 ∃ x9 : Sl, r7 = x9.val ∧
 Trip Tryd.prog 117 #[.pointer (some (a_0.add 0)), .agg #[x1_0.val, x1_1.val], x9.val, .int .i64 0, .int .i64 16] w8 fun r10 w11 =>
 ∃ n12 : Int, ∃ n13 : Int, ∃ x14 : Sl, r10 = .agg #[.int .i64 n12, .int .i64 n13, x14.val] ∧
 Trip Tryd.prog 53 #[.pointer (some (a_0.add 0)), .int .i64 3] w11 fun r15 w16 =>
 ∃ n17 : Int, r15 = .int .i64 n17 ∧
 ((decide (n17 = 0)) = true →
 StepT Tryd.prog (Instr.buildSlice 27 1 #[(0, (.agg #[.int .i64 n12, .int .i64 n13, x14.val]))]) w16 fun r18 w19 =>
 ∃ x20 : Sl, r18 = x20.val ∧
 Trip Tryd.prog 55 #[.int .i64 5, .int .i64 0, x20.val] w19 fun r21 w22 =>
 ∃ n23 : Int, ∃ n24 : Int, ∃ x25 : Sl, r21 = .agg #[.int .i64 n23, .int .i64 n24, x25.val] ∧
 Trip Tryd.prog 118 #[.pointer (some (a_0.add 0)), .int .i64 n6] w22 fun r26 w27 =>
 ∃ n28 : Int, ∃ n29 : Int, ∃ x30 : Sl, r26 = .agg #[.int .i64 n28, .int .i64 n29, x30.val] ∧
 StepT Tryd.prog (Instr.buildSlice 27 2 #[(0, (.agg #[.int .i64 n28, .int .i64 n29, x30.val])), (1, (.agg #[.int .i64 n23, .int .i64 n24, x25.val]))]) w27 fun r31 w32 =>
 ∃ x33 : Sl, r31 = x33.val ∧
 Trip Tryd.prog 55 #[.int .i64 13, .int .i64 0, x33.val] w32 fun r34 w35 =>
 ∃ n36 : Int, ∃ n37 : Int, ∃ x38 : Sl, r34 = .agg #[.int .i64 n36, .int .i64 n37, x38.val] ∧
 Q (.agg #[.int .i64 n36, .int .i64 n37, x38.val]) w35) ∧
 ((decide (n17 = 0)) = false →
 Trip Tryd.prog 118 #[.pointer (some (a_0.add 0)), .int .i64 n6] w16 fun r39 w40 =>
 ∃ n41 : Int, ∃ n42 : Int, ∃ x43 : Sl, r39 = .agg #[.int .i64 n41, .int .i64 n42, x43.val] ∧
 StepT Tryd.prog (Instr.buildSlice 27 2 #[(0, (.agg #[.int .i64 n41, .int .i64 n42, x43.val])), (1, (.agg #[.int .i64 n12, .int .i64 n13, x14.val]))]) w40 fun r44 w45 =>
 ∃ x46 : Sl, r44 = x46.val ∧
 Trip Tryd.prog 55 #[.int .i64 13, .int .i64 0, x46.val] w45 fun r47 w48 =>
 ∃ n49 : Int, ∃ n50 : Int, ∃ x51 : Sl, r47 = .agg #[.int .i64 n49, .int .i64 n50, x51.val] ∧
 Q (.agg #[.int .i64 n49, .int .i64 n50, x51.val]) w48)
theorem of102 (a_0 : Addr) (x1_0 : Sl) (x1_1 : Sl) (v : World) (Q : Value → World → Prop) (h : vc102 a_0 x1_0 x1_1 v Q) : Trip Tryd.prog 102 #[.pointer (some (a_0.add 0)), .agg #[x1_0.val, x1_1.val]] v Q :=
 trip_of_eq (args := [.pt a_0 0, .ag [.sl x1_0, .sl x1_1]]) (A := ⟨[], [], [(5, [])], [], psG⟩) Tryd.func102 (by kernel_rfl) (by kernel_rfl) (by kernel_rfl : vc102 a_0 x1_0 x1_1 v Q = _) h

def vc103 (a_0 : Addr) (x1_0 : Sl) (x1_1 : Sl) (n_2 : Int) (n_3 : Int) (v : World) (Q : Value → World → Prop) : Prop :=
 IxOk x1_1 n_2 ∧
 ∃ x1 : Sl, v.cell? ((elA x1_1 n_2 5).add 0) = some (x1.val) ∧
 StepT Tryd.prog (Instr.buildSlice 86 2 #[(0, (.int .i64 0)), (1, (.int .i64 1))]) v fun r2 w3 =>
 ∃ x4 : Sl, r2 = x4.val ∧
 Trip Tryd.prog 119 #[x1.val, x4.val] w3 fun r5 w6 =>
 ∃ x7 : Sl, r5 = x7.val ∧
 StepT Tryd.prog (Instr.buildSlice 27 0 #[]) w6 fun r8 w9 =>
 ∃ x10 : Sl, r8 = x10.val ∧
 ∃ I11 : Sl → Int → World → Prop, ∃ m12 : Sl → Int → World → Nat, I11 x10 0 w9 ∧
 ∀ x13 : Sl, ∀ n14 : Int, ∀ w15 : World, I11 x13 n14 w15 →
 ((decide (n14 < (x1.n : Int))) = true →
 ((decide (n14 = n_3)) = true →
 ∃ n16 : Int, Wr .i64 ((x1.n : Int) + 1) n16 ∧
 Trip Tryd.prog 67 #[.int .i64 n16] w15 fun r17 w18 =>
 ∃ n19 : Int, ∃ n20 : Int, ∃ x21 : Sl, r17 = .agg #[.int .i64 n19, .int .i64 n20, x21.val] ∧
 StepT Tryd.prog (Instr.buildSlice 27 1 #[(0, (.agg #[.int .i64 n19, .int .i64 n20, x21.val]))]) w18 fun r22 w23 =>
 ∃ x24 : Sl, r22 = x24.val ∧
 StepT Tryd.prog (Builtin.append_ #[27, 27] 27 #[(x13.val), (x24.val)]) w23 fun r25 w26 =>
 ∃ x27 : Sl, r25 = x27.val ∧
 ∃ n28 : Int, Wr .i64 (n14 + 1) n28 ∧
 ((.sl x1_0 : SV) = .sl x1_0) ∧
 ((.sl x1_1 : SV) = .sl x1_1) ∧
 ((.num .i64 0 : SV) = .num .i64 0) ∧
 ((.num .i64 0 : SV) = .num .i64 0) ∧
 ((.sl (Sl.mk none 0 0) : SV) = .sl (Sl.mk none 0 0)) ∧
 I11 x27 n28 w26 ∧
 m12 x27 n28 w26 < m12 x13 n14 w15) ∧
 ((decide (n14 = n_3)) = false →
 IxOk x1 n14 ∧
 ∃ n29 : Int, w15.cell? ((elA x1 n14 1).add 0) = some (.int .i64 n29) ∧
 ((decide (n29 = 0)) = true →
 Trip Tryd.prog 53 #[.pointer (some (a_0.add 0)), .int .i64 2] w15 fun r30 w31 =>
 ∃ n32 : Int, r30 = .int .i64 n32 ∧
 ((decide (n32 = 0)) = true →
 Trip Tryd.prog 67 #[.int .i64 n14] w31 fun r33 w34 =>
 ∃ n35 : Int, ∃ n36 : Int, ∃ x37 : Sl, r33 = .agg #[.int .i64 n35, .int .i64 n36, x37.val] ∧
 Trip Tryd.prog 67 #[.int .i64 (x1.n : Int)] w34 fun r38 w39 =>
 ∃ n40 : Int, ∃ n41 : Int, ∃ x42 : Sl, r38 = .agg #[.int .i64 n40, .int .i64 n41, x42.val] ∧
 StepT Tryd.prog (Instr.buildSlice 27 2 #[(0, (.agg #[.int .i64 n35, .int .i64 n36, x37.val])), (1, (.agg #[.int .i64 n40, .int .i64 n41, x42.val]))]) w39 fun r43 w44 =>
 ∃ x45 : Sl, r43 = x45.val ∧
 Trip Tryd.prog 55 #[.int .i64 1, .int .i64 0, x45.val] w44 fun r46 w47 =>
 ∃ n48 : Int, ∃ n49 : Int, ∃ x50 : Sl, r46 = .agg #[.int .i64 n48, .int .i64 n49, x50.val] ∧
 StepT Tryd.prog (Instr.buildSlice 27 1 #[(0, (.agg #[.int .i64 n48, .int .i64 n49, x50.val]))]) w47 fun r51 w52 =>
 ∃ x53 : Sl, r51 = x53.val ∧
 StepT Tryd.prog (Builtin.append_ #[27, 27] 27 #[(x13.val), (x53.val)]) w52 fun r54 w55 =>
 ∃ x56 : Sl, r54 = x56.val ∧
 ∃ n57 : Int, Wr .i64 (n14 + 1) n57 ∧
 ((.sl x1_0 : SV) = .sl x1_0) ∧
 ((.sl x1_1 : SV) = .sl x1_1) ∧
 ((.num .i64 0 : SV) = .num .i64 0) ∧
 ((.num .i64 0 : SV) = .num .i64 0) ∧
 ((.sl (Sl.mk none 0 0) : SV) = .sl (Sl.mk none 0 0)) ∧
 I11 x56 n57 w55 ∧
 m12 x56 n57 w55 < m12 x13 n14 w15) ∧
 ((decide (n32 = 0)) = false →
 Trip Tryd.prog 67 #[.int .i64 n14] w31 fun r58 w59 =>
 ∃ n60 : Int, ∃ n61 : Int, ∃ x62 : Sl, r58 = .agg #[.int .i64 n60, .int .i64 n61, x62.val] ∧
 StepT Tryd.prog (Instr.buildSlice 27 1 #[(0, (.agg #[.int .i64 n60, .int .i64 n61, x62.val]))]) w59 fun r63 w64 =>
 ∃ x65 : Sl, r63 = x65.val ∧
 StepT Tryd.prog (Builtin.append_ #[27, 27] 27 #[(x13.val), (x65.val)]) w64 fun r66 w67 =>
 ∃ x68 : Sl, r66 = x68.val ∧
 ∃ n69 : Int, Wr .i64 (n14 + 1) n69 ∧
 ((.sl x1_0 : SV) = .sl x1_0) ∧
 ((.sl x1_1 : SV) = .sl x1_1) ∧
 ((.num .i64 0 : SV) = .num .i64 0) ∧
 ((.num .i64 0 : SV) = .num .i64 0) ∧
 ((.sl (Sl.mk none 0 0) : SV) = .sl (Sl.mk none 0 0)) ∧
 I11 x68 n69 w67 ∧
 m12 x68 n69 w67 < m12 x13 n14 w15)) ∧
 ((decide (n29 = 0)) = false →
 Trip Tryd.prog 67 #[.int .i64 n14] w15 fun r70 w71 =>
 ∃ n72 : Int, ∃ n73 : Int, ∃ x74 : Sl, r70 = .agg #[.int .i64 n72, .int .i64 n73, x74.val] ∧
 StepT Tryd.prog (Instr.buildSlice 27 1 #[(0, (.agg #[.int .i64 n72, .int .i64 n73, x74.val]))]) w71 fun r75 w76 =>
 ∃ x77 : Sl, r75 = x77.val ∧
 StepT Tryd.prog (Builtin.append_ #[27, 27] 27 #[(x13.val), (x77.val)]) w76 fun r78 w79 =>
 ∃ x80 : Sl, r78 = x80.val ∧
 ∃ n81 : Int, Wr .i64 (n14 + 1) n81 ∧
 ((.sl x1_0 : SV) = .sl x1_0) ∧
 ((.sl x1_1 : SV) = .sl x1_1) ∧
 ((.num .i64 0 : SV) = .num .i64 0) ∧
 ((.num .i64 0 : SV) = .num .i64 0) ∧
 ((.sl (Sl.mk none 0 0) : SV) = .sl (Sl.mk none 0 0)) ∧
 I11 x80 n81 w79 ∧
 m12 x80 n81 w79 < m12 x13 n14 w15))) ∧
 ((decide (n14 < (x1.n : Int))) = false →
 Trip Tryd.prog 55 #[.int .i64 9, .int .i64 n_2, x13.val] w15 fun r82 w83 =>
 ∃ n84 : Int, ∃ n85 : Int, ∃ x86 : Sl, r82 = .agg #[.int .i64 n84, .int .i64 n85, x86.val] ∧
 IxOk x1_1 n_2 ∧
 ∃ n87 : Int, w83.cell? ((elA x1_1 n_2 5).add 1) = some (.int .i64 n87) ∧
 ((decide (n87 = 1)) = true →
 Trip Tryd.prog 53 #[.pointer (some (a_0.add 0)), .int .i64 5] w83 fun r88 w89 =>
 ∃ n90 : Int, r88 = .int .i64 n90 ∧
 ((decide (n90 > 0)) = true →
 Trip Tryd.prog 117 #[.pointer (some (a_0.add 0)), .agg #[x1_0.val, x1_1.val], x7.val, .int .i64 0, .int .i64 4] w89 fun r91 w92 =>
 ∃ n93 : Int, ∃ n94 : Int, ∃ x95 : Sl, r91 = .agg #[.int .i64 n93, .int .i64 n94, x95.val] ∧
 ((decide ((x1.n : Int) > 1)) = true →
 IxOk x1 0) ∧
 ∃ n96 : Int, ((decide ((x1.n : Int) > 1)) = true →
 w92.cell? ((elA x1 0 1).add 0) = some (.int .i64 n96)) ∧
 (((decide ((x1.n : Int) > 1)) && (decide (n96 = 2))) = true →
 Trip Tryd.prog 67 #[.int .i64 0] w92 fun r97 w98 =>
 ∃ n99 : Int, ∃ n100 : Int, ∃ x101 : Sl, r97 = .agg #[.int .i64 n99, .int .i64 n100, x101.val] ∧
 Trip Tryd.prog 67 #[.int .i64 (x1.n : Int)] w98 fun r102 w103 =>
 ∃ n104 : Int, ∃ n105 : Int, ∃ x106 : Sl, r102 = .agg #[.int .i64 n104, .int .i64 n105, x106.val] ∧
 StepT Tryd.prog (Instr.buildSlice 27 2 #[(0, (.agg #[.int .i64 n99, .int .i64 n100, x101.val])), (1, (.agg #[.int .i64 n104, .int .i64 n105, x106.val]))]) w103 fun r107 w108 =>
 ∃ x109 : Sl, r107 = x109.val ∧
 Trip Tryd.prog 55 #[.int .i64 11, .int .i64 0, x109.val] w108 fun r110 w111 =>
 ∃ n112 : Int, ∃ n113 : Int, ∃ x114 : Sl, r110 = .agg #[.int .i64 n112, .int .i64 n113, x114.val] ∧
 StepT Tryd.prog (Instr.buildSlice 27 2 #[(0, (.agg #[.int .i64 n112, .int .i64 n113, x114.val])), (1, (.agg #[.int .i64 n84, .int .i64 n85, x86.val]))]) w111 fun r115 w116 =>
 ∃ x117 : Sl, r115 = x117.val ∧
 Trip Tryd.prog 55 #[.int .i64 6, .int .i64 1, x117.val] w116 fun r118 w119 =>
 ∃ n120 : Int, ∃ n121 : Int, ∃ x122 : Sl, r118 = .agg #[.int .i64 n120, .int .i64 n121, x122.val] ∧
 IxOk x1_1 n_2 ∧
 ∃ n123 : Int, w119.cell? ((elA x1_1 n_2 5).add 1) = some (.int .i64 n123) ∧
 Trip Tryd.prog 67 #[.int .i64 n_3] w119 fun r124 w125 =>
 ∃ n126 : Int, ∃ n127 : Int, ∃ x128 : Sl, r124 = .agg #[.int .i64 n126, .int .i64 n127, x128.val] ∧
 Sub w119 w125 ∧
 Trip Tryd.prog 117 #[.pointer (some (a_0.add 0)), .agg #[x1_0.val, x1_1.val], x1.val, .int .i64 n123, .int .i64 4] w125 fun r129 w130 =>
 ∃ n131 : Int, ∃ n132 : Int, ∃ x133 : Sl, r129 = .agg #[.int .i64 n131, .int .i64 n132, x133.val] ∧
 StepT Tryd.prog (Instr.buildSlice 27 3 #[(0, (.agg #[.int .i64 n126, .int .i64 n127, x128.val])), (1, (.agg #[.int .i64 n131, .int .i64 n132, x133.val])), (2, (.agg #[.int .i64 n120, .int .i64 n121, x122.val]))]) w130 fun r134 w135 =>
 ∃ x136 : Sl, r134 = x136.val ∧
 Trip Tryd.prog 55 #[.int .i64 8, .int .i64 1, x136.val] w135 fun r137 w138 =>
 ∃ n139 : Int, ∃ n140 : Int, ∃ x141 : Sl, r137 = .agg #[.int .i64 n139, .int .i64 n140, x141.val] ∧
 Q (.agg #[.int .i64 n139, .int .i64 n140, x141.val]) w138) ∧
 (((decide ((x1.n : Int) > 1)) && (decide (n96 = 2))) = false →
 StepT Tryd.prog (Instr.buildSlice 27 2 #[(0, (.agg #[.int .i64 n93, .int .i64 n94, x95.val])), (1, (.agg #[.int .i64 n84, .int .i64 n85, x86.val]))]) w92 fun r142 w143 =>
 ∃ x144 : Sl, r142 = x144.val ∧
 Trip Tryd.prog 55 #[.int .i64 6, .int .i64 1, x144.val] w143 fun r145 w146 =>
 ∃ n147 : Int, ∃ n148 : Int, ∃ x149 : Sl, r145 = .agg #[.int .i64 n147, .int .i64 n148, x149.val] ∧
 IxOk x1_1 n_2 ∧
 ∃ n150 : Int, w146.cell? ((elA x1_1 n_2 5).add 1) = some (.int .i64 n150) ∧
 Trip Tryd.prog 67 #[.int .i64 n_3] w146 fun r151 w152 =>
 ∃ n153 : Int, ∃ n154 : Int, ∃ x155 : Sl, r151 = .agg #[.int .i64 n153, .int .i64 n154, x155.val] ∧
 Sub w146 w152 ∧
 Trip Tryd.prog 117 #[.pointer (some (a_0.add 0)), .agg #[x1_0.val, x1_1.val], x1.val, .int .i64 n150, .int .i64 4] w152 fun r156 w157 =>
 ∃ n158 : Int, ∃ n159 : Int, ∃ x160 : Sl, r156 = .agg #[.int .i64 n158, .int .i64 n159, x160.val] ∧
 StepT Tryd.prog (Instr.buildSlice 27 3 #[(0, (.agg #[.int .i64 n153, .int .i64 n154, x155.val])), (1, (.agg #[.int .i64 n158, .int .i64 n159, x160.val])), (2, (.agg #[.int .i64 n147, .int .i64 n148, x149.val]))]) w157 fun r161 w162 =>
 ∃ x163 : Sl, r161 = x163.val ∧
 Trip Tryd.prog 55 #[.int .i64 8, .int .i64 1, x163.val] w162 fun r164 w165 =>
 ∃ n166 : Int, ∃ n167 : Int, ∃ x168 : Sl, r164 = .agg #[.int .i64 n166, .int .i64 n167, x168.val] ∧
 Q (.agg #[.int .i64 n166, .int .i64 n167, x168.val]) w165)) ∧
 ((decide (n90 > 0)) = false →
 IxOk x1_1 n_2 ∧
 ∃ n169 : Int, w89.cell? ((elA x1_1 n_2 5).add 1) = some (.int .i64 n169) ∧
 ((decide (n169 = 0)) = true →
 StepT Tryd.prog (Instr.buildSlice 86 2 #[(0, (.int .i64 1)), (1, (.int .i64 2))]) w89 fun r170 w171 =>
 ∃ x172 : Sl, r170 = x172.val ∧
 Trip Tryd.prog 65 #[.pointer (some (a_0.add 0)), x172.val] w171 fun r173 w174 =>
 ∃ n175 : Int, r173 = .int .i64 n175 ∧
 Trip Tryd.prog 117 #[.pointer (some (a_0.add 0)), .agg #[x1_0.val, x1_1.val], x7.val, .int .i64 0, .int .i64 4] w174 fun r176 w177 =>
 ∃ n178 : Int, ∃ n179 : Int, ∃ x180 : Sl, r176 = .agg #[.int .i64 n178, .int .i64 n179, x180.val] ∧
 StepT Tryd.prog (Instr.buildSlice 27 2 #[(0, (.agg #[.int .i64 n178, .int .i64 n179, x180.val])), (1, (.agg #[.int .i64 n84, .int .i64 n85, x86.val]))]) w177 fun r181 w182 =>
 ∃ x183 : Sl, r181 = x183.val ∧
 Trip Tryd.prog 55 #[.int .i64 n175, .int .i64 0, x183.val] w182 fun r184 w185 =>
 ∃ n186 : Int, ∃ n187 : Int, ∃ x188 : Sl, r184 = .agg #[.int .i64 n186, .int .i64 n187, x188.val] ∧
 IxOk x1_1 n_2 ∧
 ∃ n189 : Int, w185.cell? ((elA x1_1 n_2 5).add 1) = some (.int .i64 n189) ∧
 Trip Tryd.prog 67 #[.int .i64 n_3] w185 fun r190 w191 =>
 ∃ n192 : Int, ∃ n193 : Int, ∃ x194 : Sl, r190 = .agg #[.int .i64 n192, .int .i64 n193, x194.val] ∧
 Sub w185 w191 ∧
 Trip Tryd.prog 117 #[.pointer (some (a_0.add 0)), .agg #[x1_0.val, x1_1.val], x1.val, .int .i64 n189, .int .i64 4] w191 fun r195 w196 =>
 ∃ n197 : Int, ∃ n198 : Int, ∃ x199 : Sl, r195 = .agg #[.int .i64 n197, .int .i64 n198, x199.val] ∧
 StepT Tryd.prog (Instr.buildSlice 27 3 #[(0, (.agg #[.int .i64 n192, .int .i64 n193, x194.val])), (1, (.agg #[.int .i64 n197, .int .i64 n198, x199.val])), (2, (.agg #[.int .i64 n186, .int .i64 n187, x188.val]))]) w196 fun r200 w201 =>
 ∃ x202 : Sl, r200 = x202.val ∧
 Trip Tryd.prog 55 #[.int .i64 8, .int .i64 1, x202.val] w201 fun r203 w204 =>
 ∃ n205 : Int, ∃ n206 : Int, ∃ x207 : Sl, r203 = .agg #[.int .i64 n205, .int .i64 n206, x207.val] ∧
 Q (.agg #[.int .i64 n205, .int .i64 n206, x207.val]) w204) ∧
 ((decide (n169 = 0)) = false →
 IxOk x1_1 n_2 ∧
 ∃ n208 : Int, w89.cell? ((elA x1_1 n_2 5).add 1) = some (.int .i64 n208) ∧
 Trip Tryd.prog 67 #[.int .i64 n_3] w89 fun r209 w210 =>
 ∃ n211 : Int, ∃ n212 : Int, ∃ x213 : Sl, r209 = .agg #[.int .i64 n211, .int .i64 n212, x213.val] ∧
 Sub w89 w210 ∧
 Trip Tryd.prog 117 #[.pointer (some (a_0.add 0)), .agg #[x1_0.val, x1_1.val], x1.val, .int .i64 n208, .int .i64 4] w210 fun r214 w215 =>
 ∃ n216 : Int, ∃ n217 : Int, ∃ x218 : Sl, r214 = .agg #[.int .i64 n216, .int .i64 n217, x218.val] ∧
 StepT Tryd.prog (Instr.buildSlice 27 3 #[(0, (.agg #[.int .i64 n211, .int .i64 n212, x213.val])), (1, (.agg #[.int .i64 n216, .int .i64 n217, x218.val])), (2, (.agg #[.int .i64 n84, .int .i64 n85, x86.val]))]) w215 fun r219 w220 =>
 ∃ x221 : Sl, r219 = x221.val ∧
 Trip Tryd.prog 55 #[.int .i64 8, .int .i64 1, x221.val] w220 fun r222 w223 =>
 ∃ n224 : Int, ∃ n225 : Int, ∃ x226 : Sl, r222 = .agg #[.int .i64 n224, .int .i64 n225, x226.val] ∧
 Q (.agg #[.int .i64 n224, .int .i64 n225, x226.val]) w223))) ∧
 ((decide (n87 = 1)) = false →
 IxOk x1_1 n_2 ∧
 ∃ n227 : Int, w83.cell? ((elA x1_1 n_2 5).add 1) = some (.int .i64 n227) ∧
 ((decide (n227 = 0)) = true →
 StepT Tryd.prog (Instr.buildSlice 86 2 #[(0, (.int .i64 1)), (1, (.int .i64 2))]) w83 fun r228 w229 =>
 ∃ x230 : Sl, r228 = x230.val ∧
 Trip Tryd.prog 65 #[.pointer (some (a_0.add 0)), x230.val] w229 fun r231 w232 =>
 ∃ n233 : Int, r231 = .int .i64 n233 ∧
 Trip Tryd.prog 117 #[.pointer (some (a_0.add 0)), .agg #[x1_0.val, x1_1.val], x7.val, .int .i64 0, .int .i64 4] w232 fun r234 w235 =>
 ∃ n236 : Int, ∃ n237 : Int, ∃ x238 : Sl, r234 = .agg #[.int .i64 n236, .int .i64 n237, x238.val] ∧
 StepT Tryd.prog (Instr.buildSlice 27 2 #[(0, (.agg #[.int .i64 n236, .int .i64 n237, x238.val])), (1, (.agg #[.int .i64 n84, .int .i64 n85, x86.val]))]) w235 fun r239 w240 =>
 ∃ x241 : Sl, r239 = x241.val ∧
 Trip Tryd.prog 55 #[.int .i64 n233, .int .i64 0, x241.val] w240 fun r242 w243 =>
 ∃ n244 : Int, ∃ n245 : Int, ∃ x246 : Sl, r242 = .agg #[.int .i64 n244, .int .i64 n245, x246.val] ∧
 IxOk x1_1 n_2 ∧
 ∃ n247 : Int, w243.cell? ((elA x1_1 n_2 5).add 1) = some (.int .i64 n247) ∧
 Trip Tryd.prog 67 #[.int .i64 n_3] w243 fun r248 w249 =>
 ∃ n250 : Int, ∃ n251 : Int, ∃ x252 : Sl, r248 = .agg #[.int .i64 n250, .int .i64 n251, x252.val] ∧
 Sub w243 w249 ∧
 Trip Tryd.prog 117 #[.pointer (some (a_0.add 0)), .agg #[x1_0.val, x1_1.val], x1.val, .int .i64 n247, .int .i64 4] w249 fun r253 w254 =>
 ∃ n255 : Int, ∃ n256 : Int, ∃ x257 : Sl, r253 = .agg #[.int .i64 n255, .int .i64 n256, x257.val] ∧
 StepT Tryd.prog (Instr.buildSlice 27 3 #[(0, (.agg #[.int .i64 n250, .int .i64 n251, x252.val])), (1, (.agg #[.int .i64 n255, .int .i64 n256, x257.val])), (2, (.agg #[.int .i64 n244, .int .i64 n245, x246.val]))]) w254 fun r258 w259 =>
 ∃ x260 : Sl, r258 = x260.val ∧
 Trip Tryd.prog 55 #[.int .i64 8, .int .i64 1, x260.val] w259 fun r261 w262 =>
 ∃ n263 : Int, ∃ n264 : Int, ∃ x265 : Sl, r261 = .agg #[.int .i64 n263, .int .i64 n264, x265.val] ∧
 Q (.agg #[.int .i64 n263, .int .i64 n264, x265.val]) w262) ∧
 ((decide (n227 = 0)) = false →
 IxOk x1_1 n_2 ∧
 ∃ n266 : Int, w83.cell? ((elA x1_1 n_2 5).add 1) = some (.int .i64 n266) ∧
 Trip Tryd.prog 67 #[.int .i64 n_3] w83 fun r267 w268 =>
 ∃ n269 : Int, ∃ n270 : Int, ∃ x271 : Sl, r267 = .agg #[.int .i64 n269, .int .i64 n270, x271.val] ∧
 Sub w83 w268 ∧
 Trip Tryd.prog 117 #[.pointer (some (a_0.add 0)), .agg #[x1_0.val, x1_1.val], x1.val, .int .i64 n266, .int .i64 4] w268 fun r272 w273 =>
 ∃ n274 : Int, ∃ n275 : Int, ∃ x276 : Sl, r272 = .agg #[.int .i64 n274, .int .i64 n275, x276.val] ∧
 StepT Tryd.prog (Instr.buildSlice 27 3 #[(0, (.agg #[.int .i64 n269, .int .i64 n270, x271.val])), (1, (.agg #[.int .i64 n274, .int .i64 n275, x276.val])), (2, (.agg #[.int .i64 n84, .int .i64 n85, x86.val]))]) w273 fun r277 w278 =>
 ∃ x279 : Sl, r277 = x279.val ∧
 Trip Tryd.prog 55 #[.int .i64 8, .int .i64 1, x279.val] w278 fun r280 w281 =>
 ∃ n282 : Int, ∃ n283 : Int, ∃ x284 : Sl, r280 = .agg #[.int .i64 n282, .int .i64 n283, x284.val] ∧
 Q (.agg #[.int .i64 n282, .int .i64 n283, x284.val]) w281)))
theorem of103 (a_0 : Addr) (x1_0 : Sl) (x1_1 : Sl) (n_2 : Int) (n_3 : Int) (v : World) (Q : Value → World → Prop) (h : vc103 a_0 x1_0 x1_1 n_2 n_3 v Q) : Trip Tryd.prog 103 #[.pointer (some (a_0.add 0)), .agg #[x1_0.val, x1_1.val], .int .i64 n_2, .int .i64 n_3] v Q :=
 trip_of_eq (args := [.pt a_0 0, .ag [.sl x1_0, .sl x1_1], .num .i64 n_2, .num .i64 n_3]) (A := ⟨[(6, [(12, .sl), (13, .int .i64)], [])], [], [(21, []), (22, [1])], [], psG⟩) Tryd.func103 (by kernel_rfl) (by kernel_rfl) (by kernel_rfl : vc103 a_0 x1_0 x1_1 n_2 n_3 v Q = _) h

def vc104 (a_0 : Addr) (x1_0 : Sl) (x1_1 : Sl) (n_2 : Int) (v : World) (Q : Value → World → Prop) : Prop :=
 IxOk x1_1 n_2 ∧
 ∃ x1 : Sl, v.cell? ((elA x1_1 n_2 5).add 0) = some (x1.val) ∧
 Trip Tryd.prog 67 #[.int .i64 (x1.n : Int)] v fun r2 w3 =>
 ∃ n4 : Int, ∃ n5 : Int, ∃ x6 : Sl, r2 = .agg #[.int .i64 n4, .int .i64 n5, x6.val] ∧
 StepT Tryd.prog (Instr.buildSlice 27 1 #[(0, (.agg #[.int .i64 n4, .int .i64 n5, x6.val]))]) w3 fun r7 w8 =>
 ∃ x9 : Sl, r7 = x9.val ∧
 ∃ n10 : Int, Wr .i64 ((x1.n : Int) + 2) n10 ∧
 Trip Tryd.prog 67 #[.int .i64 n10] w8 fun r11 w12 =>
 ∃ n13 : Int, ∃ n14 : Int, ∃ x15 : Sl, r11 = .agg #[.int .i64 n13, .int .i64 n14, x15.val] ∧
 StepT Tryd.prog (Instr.buildSlice 27 1 #[(0, (.agg #[.int .i64 n13, .int .i64 n14, x15.val]))]) w12 fun r16 w17 =>
 ∃ x18 : Sl, r16 = x18.val ∧
 ∃ I19 : Sl → Sl → Int → World → Prop, ∃ m20 : Sl → Sl → Int → World → Nat, I19 x9 x18 1 w17 ∧
 ∀ x21 : Sl, ∀ x22 : Sl, ∀ n23 : Int, ∀ w24 : World, I19 x21 x22 n23 w24 →
 ((decide (n23 < (x1.n : Int))) = true →
 Trip Tryd.prog 67 #[.int .i64 n23] w24 fun r25 w26 =>
 ∃ n27 : Int, ∃ n28 : Int, ∃ x29 : Sl, r25 = .agg #[.int .i64 n27, .int .i64 n28, x29.val] ∧
 StepT Tryd.prog (Instr.buildSlice 27 1 #[(0, (.agg #[.int .i64 n27, .int .i64 n28, x29.val]))]) w26 fun r30 w31 =>
 ∃ x32 : Sl, r30 = x32.val ∧
 StepT Tryd.prog (Builtin.append_ #[27, 27] 27 #[(x21.val), (x32.val)]) w31 fun r33 w34 =>
 ∃ x35 : Sl, r33 = x35.val ∧
 Trip Tryd.prog 67 #[.int .i64 n23] w34 fun r36 w37 =>
 ∃ n38 : Int, ∃ n39 : Int, ∃ x40 : Sl, r36 = .agg #[.int .i64 n38, .int .i64 n39, x40.val] ∧
 StepT Tryd.prog (Instr.buildSlice 27 1 #[(0, (.agg #[.int .i64 n38, .int .i64 n39, x40.val]))]) w37 fun r41 w42 =>
 ∃ x43 : Sl, r41 = x43.val ∧
 StepT Tryd.prog (Builtin.append_ #[27, 27] 27 #[(x22.val), (x43.val)]) w42 fun r44 w45 =>
 ∃ x46 : Sl, r44 = x46.val ∧
 ∃ n47 : Int, Wr .i64 (n23 + 1) n47 ∧
 ((.sl x1_0 : SV) = .sl x1_0) ∧
 ((.sl x1_1 : SV) = .sl x1_1) ∧
 ((.num .i64 0 : SV) = .num .i64 0) ∧
 ((.num .i64 0 : SV) = .num .i64 0) ∧
 ((.sl (Sl.mk none 0 0) : SV) = .sl (Sl.mk none 0 0)) ∧
 I19 x35 x46 n47 w45 ∧
 m20 x35 x46 n47 w45 < m20 x21 x22 n23 w24) ∧
 ((decide (n23 < (x1.n : Int))) = false →
 Trip Tryd.prog 55 #[.int .i64 9, .int .i64 n_2, x21.val] w24 fun r48 w49 =>
 ∃ n50 : Int, ∃ n51 : Int, ∃ x52 : Sl, r48 = .agg #[.int .i64 n50, .int .i64 n51, x52.val] ∧
 Trip Tryd.prog 55 #[.int .i64 9, .int .i64 n_2, x22.val] w49 fun r53 w54 =>
 ∃ n55 : Int, ∃ n56 : Int, ∃ x57 : Sl, r53 = .agg #[.int .i64 n55, .int .i64 n56, x57.val] ∧
 (StepT Tryd.prog (Instr.buildSlice 86 3 #[(0, (.int .i64 3)), (1, (.int .i64 0)), (2, (.int .i64 3))]) w54 fun r58 w59 =>
 ∃ x60 : Sl, r58 = x60.val ∧
 Sub w54 w59 ∧
 (Trip Tryd.prog 119 #[x1.val, x60.val] w59 fun r61 w62 =>
 ∃ x63 : Sl, r61 = x63.val ∧
 Sub w59 w62 ∧
 (Trip Tryd.prog 117 #[.pointer (some (a_0.add 0)), .agg #[x1_0.val, x1_1.val], x63.val, .int .i64 0, .int .i64 4] w62 fun r64 w65 =>
 ∃ n66 : Int, ∃ n67 : Int, ∃ x68 : Sl, r64 = .agg #[.int .i64 n66, .int .i64 n67, x68.val] ∧
 (StepT Tryd.prog (Instr.buildSlice 27 2 #[(0, (.agg #[.int .i64 n66, .int .i64 n67, x68.val])), (1, (.agg #[.int .i64 n55, .int .i64 n56, x57.val]))]) w65 fun r69 w70 =>
 ∃ x71 : Sl, r69 = x71.val ∧
 (Trip Tryd.prog 55 #[.int .i64 1, .int .i64 0, x71.val] w70 fun r72 w73 =>
 ∃ n74 : Int, ∃ n75 : Int, ∃ x76 : Sl, r72 = .agg #[.int .i64 n74, .int .i64 n75, x76.val] ∧
 (StepT Tryd.prog (Instr.buildSlice 27 2 #[(0, (.agg #[.int .i64 n50, .int .i64 n51, x52.val])), (1, (.agg #[.int .i64 n74, .int .i64 n75, x76.val]))]) w73 fun r77 w78 =>
 ∃ x79 : Sl, r77 = x79.val ∧
 (Trip Tryd.prog 55 #[.int .i64 1, .int .i64 0, x79.val] w78 fun r80 w81 =>
 ∃ n82 : Int, ∃ n83 : Int, ∃ x84 : Sl, r80 = .agg #[.int .i64 n82, .int .i64 n83, x84.val] ∧
 Sub w81 w81 ∧
 IxOk x1_1 n_2 ∧
 ∃ n85 : Int, w81.cell? ((elA x1_1 n_2 5).add 1) = some (.int .i64 n85) ∧
 ((decide (n85 = 3)) = true →
 ∃ n86 : Int, Wr .i64 ((x1.n : Int) + 2) n86 ∧
 StepT Tryd.prog (Instr.buildSlice 86 3 #[(0, (.int .i64 3)), (1, (.int .i64 0)), (2, (.int .i64 3))]) w81 fun r87 w88 =>
 ∃ x89 : Sl, r87 = x89.val ∧
 Sub w81 w88 ∧
 Trip Tryd.prog 119 #[x1.val, x89.val] w88 fun r90 w91 =>
 ∃ x92 : Sl, r90 = x92.val ∧
 Sub w88 w91 ∧
 Trip Tryd.prog 117 #[.pointer (some (a_0.add 0)), .agg #[x1_0.val, x1_1.val], x92.val, .int .i64 0, .int .i64 4] w91 fun r93 w94 =>
 ∃ n95 : Int, ∃ n96 : Int, ∃ x97 : Sl, r93 = .agg #[.int .i64 n95, .int .i64 n96, x97.val] ∧
 Trip Tryd.prog 67 #[.int .i64 n86] w94 fun r98 w99 =>
 ∃ n100 : Int, ∃ n101 : Int, ∃ x102 : Sl, r98 = .agg #[.int .i64 n100, .int .i64 n101, x102.val] ∧
 StepT Tryd.prog (Instr.buildSlice 27 3 #[(0, (.agg #[.int .i64 n50, .int .i64 n51, x52.val])), (1, (.agg #[.int .i64 n95, .int .i64 n96, x97.val])), (2, (.agg #[.int .i64 n100, .int .i64 n101, x102.val]))]) w99 fun r103 w104 =>
 ∃ x105 : Sl, r103 = x105.val ∧
 Trip Tryd.prog 55 #[.int .i64 6, .int .i64 3, x105.val] w104 fun r106 w107 =>
 ∃ n108 : Int, ∃ n109 : Int, ∃ x110 : Sl, r106 = .agg #[.int .i64 n108, .int .i64 n109, x110.val] ∧
 IxOk x1_1 n_2 ∧
 ∃ n111 : Int, w107.cell? ((elA x1_1 n_2 5).add 1) = some (.int .i64 n111) ∧
 Trip Tryd.prog 67 #[.int .i64 0] w107 fun r112 w113 =>
 ∃ n114 : Int, ∃ n115 : Int, ∃ x116 : Sl, r112 = .agg #[.int .i64 n114, .int .i64 n115, x116.val] ∧
 Sub w107 w113 ∧
 Trip Tryd.prog 117 #[.pointer (some (a_0.add 0)), .agg #[x1_0.val, x1_1.val], x1.val, .int .i64 n111, .int .i64 4] w113 fun r117 w118 =>
 ∃ n119 : Int, ∃ n120 : Int, ∃ x121 : Sl, r117 = .agg #[.int .i64 n119, .int .i64 n120, x121.val] ∧
 StepT Tryd.prog (Instr.buildSlice 27 3 #[(0, (.agg #[.int .i64 n114, .int .i64 n115, x116.val])), (1, (.agg #[.int .i64 n119, .int .i64 n120, x121.val])), (2, (.agg #[.int .i64 n108, .int .i64 n109, x110.val]))]) w118 fun r122 w123 =>
 ∃ x124 : Sl, r122 = x124.val ∧
 Trip Tryd.prog 55 #[.int .i64 8, .int .i64 3, x124.val] w123 fun r125 w126 =>
 ∃ n127 : Int, ∃ n128 : Int, ∃ x129 : Sl, r125 = .agg #[.int .i64 n127, .int .i64 n128, x129.val] ∧
 Q (.agg #[.int .i64 n127, .int .i64 n128, x129.val]) w126) ∧
 ((decide (n85 = 3)) = false →
 IxOk x1_1 n_2 ∧
 ∃ n130 : Int, w81.cell? ((elA x1_1 n_2 5).add 1) = some (.int .i64 n130) ∧
 Trip Tryd.prog 67 #[.int .i64 0] w81 fun r131 w132 =>
 ∃ n133 : Int, ∃ n134 : Int, ∃ x135 : Sl, r131 = .agg #[.int .i64 n133, .int .i64 n134, x135.val] ∧
 Sub w81 w132 ∧
 Trip Tryd.prog 117 #[.pointer (some (a_0.add 0)), .agg #[x1_0.val, x1_1.val], x1.val, .int .i64 n130, .int .i64 4] w132 fun r136 w137 =>
 ∃ n138 : Int, ∃ n139 : Int, ∃ x140 : Sl, r136 = .agg #[.int .i64 n138, .int .i64 n139, x140.val] ∧
 StepT Tryd.prog (Instr.buildSlice 27 3 #[(0, (.agg #[.int .i64 n133, .int .i64 n134, x135.val])), (1, (.agg #[.int .i64 n138, .int .i64 n139, x140.val])), (2, (.agg #[.int .i64 n82, .int .i64 n83, x84.val]))]) w137 fun r141 w142 =>
 ∃ x143 : Sl, r141 = x143.val ∧
 Trip Tryd.prog 55 #[.int .i64 8, .int .i64 3, x143.val] w142 fun r144 w145 =>
 ∃ n146 : Int, ∃ n147 : Int, ∃ x148 : Sl, r144 = .agg #[.int .i64 n146, .int .i64 n147, x148.val] ∧
 Q (.agg #[.int .i64 n146, .int .i64 n147, x148.val]) w145)) ∧
 Sub w78 w78 ∧
 Trip Tryd.prog 55 #[.int .i64 1, .int .i64 0, x79.val] w78 fun r149 w150 =>
 ∃ n151 : Int, ∃ n152 : Int, ∃ x153 : Sl, r149 = .agg #[.int .i64 n151, .int .i64 n152, x153.val] ∧
 IxOk x1_1 n_2 ∧
 ∃ n154 : Int, w150.cell? ((elA x1_1 n_2 5).add 1) = some (.int .i64 n154) ∧
 ((decide (n154 = 3)) = true →
 ∃ n155 : Int, Wr .i64 ((x1.n : Int) + 2) n155 ∧
 StepT Tryd.prog (Instr.buildSlice 86 3 #[(0, (.int .i64 3)), (1, (.int .i64 0)), (2, (.int .i64 3))]) w150 fun r156 w157 =>
 ∃ x158 : Sl, r156 = x158.val ∧
 Sub w150 w157 ∧
 Trip Tryd.prog 119 #[x1.val, x158.val] w157 fun r159 w160 =>
 ∃ x161 : Sl, r159 = x161.val ∧
 Sub w157 w160 ∧
 Trip Tryd.prog 117 #[.pointer (some (a_0.add 0)), .agg #[x1_0.val, x1_1.val], x161.val, .int .i64 0, .int .i64 4] w160 fun r162 w163 =>
 ∃ n164 : Int, ∃ n165 : Int, ∃ x166 : Sl, r162 = .agg #[.int .i64 n164, .int .i64 n165, x166.val] ∧
 Trip Tryd.prog 67 #[.int .i64 n155] w163 fun r167 w168 =>
 ∃ n169 : Int, ∃ n170 : Int, ∃ x171 : Sl, r167 = .agg #[.int .i64 n169, .int .i64 n170, x171.val] ∧
 StepT Tryd.prog (Instr.buildSlice 27 3 #[(0, (.agg #[.int .i64 n50, .int .i64 n51, x52.val])), (1, (.agg #[.int .i64 n164, .int .i64 n165, x166.val])), (2, (.agg #[.int .i64 n169, .int .i64 n170, x171.val]))]) w168 fun r172 w173 =>
 ∃ x174 : Sl, r172 = x174.val ∧
 Trip Tryd.prog 55 #[.int .i64 6, .int .i64 3, x174.val] w173 fun r175 w176 =>
 ∃ n177 : Int, ∃ n178 : Int, ∃ x179 : Sl, r175 = .agg #[.int .i64 n177, .int .i64 n178, x179.val] ∧
 IxOk x1_1 n_2 ∧
 ∃ n180 : Int, w176.cell? ((elA x1_1 n_2 5).add 1) = some (.int .i64 n180) ∧
 Trip Tryd.prog 67 #[.int .i64 0] w176 fun r181 w182 =>
 ∃ n183 : Int, ∃ n184 : Int, ∃ x185 : Sl, r181 = .agg #[.int .i64 n183, .int .i64 n184, x185.val] ∧
 Sub w176 w182 ∧
 Trip Tryd.prog 117 #[.pointer (some (a_0.add 0)), .agg #[x1_0.val, x1_1.val], x1.val, .int .i64 n180, .int .i64 4] w182 fun r186 w187 =>
 ∃ n188 : Int, ∃ n189 : Int, ∃ x190 : Sl, r186 = .agg #[.int .i64 n188, .int .i64 n189, x190.val] ∧
 StepT Tryd.prog (Instr.buildSlice 27 3 #[(0, (.agg #[.int .i64 n183, .int .i64 n184, x185.val])), (1, (.agg #[.int .i64 n188, .int .i64 n189, x190.val])), (2, (.agg #[.int .i64 n177, .int .i64 n178, x179.val]))]) w187 fun r191 w192 =>
 ∃ x193 : Sl, r191 = x193.val ∧
 Trip Tryd.prog 55 #[.int .i64 8, .int .i64 3, x193.val] w192 fun r194 w195 =>
 ∃ n196 : Int, ∃ n197 : Int, ∃ x198 : Sl, r194 = .agg #[.int .i64 n196, .int .i64 n197, x198.val] ∧
 Q (.agg #[.int .i64 n196, .int .i64 n197, x198.val]) w195) ∧
 ((decide (n154 = 3)) = false →
 IxOk x1_1 n_2 ∧
 ∃ n199 : Int, w150.cell? ((elA x1_1 n_2 5).add 1) = some (.int .i64 n199) ∧
 Trip Tryd.prog 67 #[.int .i64 0] w150 fun r200 w201 =>
 ∃ n202 : Int, ∃ n203 : Int, ∃ x204 : Sl, r200 = .agg #[.int .i64 n202, .int .i64 n203, x204.val] ∧
 Sub w150 w201 ∧
 Trip Tryd.prog 117 #[.pointer (some (a_0.add 0)), .agg #[x1_0.val, x1_1.val], x1.val, .int .i64 n199, .int .i64 4] w201 fun r205 w206 =>
 ∃ n207 : Int, ∃ n208 : Int, ∃ x209 : Sl, r205 = .agg #[.int .i64 n207, .int .i64 n208, x209.val] ∧
 StepT Tryd.prog (Instr.buildSlice 27 3 #[(0, (.agg #[.int .i64 n202, .int .i64 n203, x204.val])), (1, (.agg #[.int .i64 n207, .int .i64 n208, x209.val])), (2, (.agg #[.int .i64 n151, .int .i64 n152, x153.val]))]) w206 fun r210 w211 =>
 ∃ x212 : Sl, r210 = x212.val ∧
 Trip Tryd.prog 55 #[.int .i64 8, .int .i64 3, x212.val] w211 fun r213 w214 =>
 ∃ n215 : Int, ∃ n216 : Int, ∃ x217 : Sl, r213 = .agg #[.int .i64 n215, .int .i64 n216, x217.val] ∧
 Q (.agg #[.int .i64 n215, .int .i64 n216, x217.val]) w214)) ∧
 Sub w73 w73 ∧
 StepT Tryd.prog (Instr.buildSlice 27 2 #[(0, (.agg #[.int .i64 n50, .int .i64 n51, x52.val])), (1, (.agg #[.int .i64 n74, .int .i64 n75, x76.val]))]) w73 fun r218 w219 =>
 ∃ x220 : Sl, r218 = x220.val ∧
 Trip Tryd.prog 55 #[.int .i64 1, .int .i64 0, x220.val] w219 fun r221 w222 =>
 ∃ n223 : Int, ∃ n224 : Int, ∃ x225 : Sl, r221 = .agg #[.int .i64 n223, .int .i64 n224, x225.val] ∧
 IxOk x1_1 n_2 ∧
 ∃ n226 : Int, w222.cell? ((elA x1_1 n_2 5).add 1) = some (.int .i64 n226) ∧
 ((decide (n226 = 3)) = true →
 ∃ n227 : Int, Wr .i64 ((x1.n : Int) + 2) n227 ∧
 StepT Tryd.prog (Instr.buildSlice 86 3 #[(0, (.int .i64 3)), (1, (.int .i64 0)), (2, (.int .i64 3))]) w222 fun r228 w229 =>
 ∃ x230 : Sl, r228 = x230.val ∧
 Sub w222 w229 ∧
 Trip Tryd.prog 119 #[x1.val, x230.val] w229 fun r231 w232 =>
 ∃ x233 : Sl, r231 = x233.val ∧
 Sub w229 w232 ∧
 Trip Tryd.prog 117 #[.pointer (some (a_0.add 0)), .agg #[x1_0.val, x1_1.val], x233.val, .int .i64 0, .int .i64 4] w232 fun r234 w235 =>
 ∃ n236 : Int, ∃ n237 : Int, ∃ x238 : Sl, r234 = .agg #[.int .i64 n236, .int .i64 n237, x238.val] ∧
 Trip Tryd.prog 67 #[.int .i64 n227] w235 fun r239 w240 =>
 ∃ n241 : Int, ∃ n242 : Int, ∃ x243 : Sl, r239 = .agg #[.int .i64 n241, .int .i64 n242, x243.val] ∧
 StepT Tryd.prog (Instr.buildSlice 27 3 #[(0, (.agg #[.int .i64 n50, .int .i64 n51, x52.val])), (1, (.agg #[.int .i64 n236, .int .i64 n237, x238.val])), (2, (.agg #[.int .i64 n241, .int .i64 n242, x243.val]))]) w240 fun r244 w245 =>
 ∃ x246 : Sl, r244 = x246.val ∧
 Trip Tryd.prog 55 #[.int .i64 6, .int .i64 3, x246.val] w245 fun r247 w248 =>
 ∃ n249 : Int, ∃ n250 : Int, ∃ x251 : Sl, r247 = .agg #[.int .i64 n249, .int .i64 n250, x251.val] ∧
 IxOk x1_1 n_2 ∧
 ∃ n252 : Int, w248.cell? ((elA x1_1 n_2 5).add 1) = some (.int .i64 n252) ∧
 Trip Tryd.prog 67 #[.int .i64 0] w248 fun r253 w254 =>
 ∃ n255 : Int, ∃ n256 : Int, ∃ x257 : Sl, r253 = .agg #[.int .i64 n255, .int .i64 n256, x257.val] ∧
 Sub w248 w254 ∧
 Trip Tryd.prog 117 #[.pointer (some (a_0.add 0)), .agg #[x1_0.val, x1_1.val], x1.val, .int .i64 n252, .int .i64 4] w254 fun r258 w259 =>
 ∃ n260 : Int, ∃ n261 : Int, ∃ x262 : Sl, r258 = .agg #[.int .i64 n260, .int .i64 n261, x262.val] ∧
 StepT Tryd.prog (Instr.buildSlice 27 3 #[(0, (.agg #[.int .i64 n255, .int .i64 n256, x257.val])), (1, (.agg #[.int .i64 n260, .int .i64 n261, x262.val])), (2, (.agg #[.int .i64 n249, .int .i64 n250, x251.val]))]) w259 fun r263 w264 =>
 ∃ x265 : Sl, r263 = x265.val ∧
 Trip Tryd.prog 55 #[.int .i64 8, .int .i64 3, x265.val] w264 fun r266 w267 =>
 ∃ n268 : Int, ∃ n269 : Int, ∃ x270 : Sl, r266 = .agg #[.int .i64 n268, .int .i64 n269, x270.val] ∧
 Q (.agg #[.int .i64 n268, .int .i64 n269, x270.val]) w267) ∧
 ((decide (n226 = 3)) = false →
 IxOk x1_1 n_2 ∧
 ∃ n271 : Int, w222.cell? ((elA x1_1 n_2 5).add 1) = some (.int .i64 n271) ∧
 Trip Tryd.prog 67 #[.int .i64 0] w222 fun r272 w273 =>
 ∃ n274 : Int, ∃ n275 : Int, ∃ x276 : Sl, r272 = .agg #[.int .i64 n274, .int .i64 n275, x276.val] ∧
 Sub w222 w273 ∧
 Trip Tryd.prog 117 #[.pointer (some (a_0.add 0)), .agg #[x1_0.val, x1_1.val], x1.val, .int .i64 n271, .int .i64 4] w273 fun r277 w278 =>
 ∃ n279 : Int, ∃ n280 : Int, ∃ x281 : Sl, r277 = .agg #[.int .i64 n279, .int .i64 n280, x281.val] ∧
 StepT Tryd.prog (Instr.buildSlice 27 3 #[(0, (.agg #[.int .i64 n274, .int .i64 n275, x276.val])), (1, (.agg #[.int .i64 n279, .int .i64 n280, x281.val])), (2, (.agg #[.int .i64 n223, .int .i64 n224, x225.val]))]) w278 fun r282 w283 =>
 ∃ x284 : Sl, r282 = x284.val ∧
 Trip Tryd.prog 55 #[.int .i64 8, .int .i64 3, x284.val] w283 fun r285 w286 =>
 ∃ n287 : Int, ∃ n288 : Int, ∃ x289 : Sl, r285 = .agg #[.int .i64 n287, .int .i64 n288, x289.val] ∧
 Q (.agg #[.int .i64 n287, .int .i64 n288, x289.val]) w286)) ∧
 Sub w70 w70 ∧
 Trip Tryd.prog 55 #[.int .i64 1, .int .i64 0, x71.val] w70 fun r290 w291 =>
 ∃ n292 : Int, ∃ n293 : Int, ∃ x294 : Sl, r290 = .agg #[.int .i64 n292, .int .i64 n293, x294.val] ∧
 StepT Tryd.prog (Instr.buildSlice 27 2 #[(0, (.agg #[.int .i64 n50, .int .i64 n51, x52.val])), (1, (.agg #[.int .i64 n292, .int .i64 n293, x294.val]))]) w291 fun r295 w296 =>
 ∃ x297 : Sl, r295 = x297.val ∧
 Trip Tryd.prog 55 #[.int .i64 1, .int .i64 0, x297.val] w296 fun r298 w299 =>
 ∃ n300 : Int, ∃ n301 : Int, ∃ x302 : Sl, r298 = .agg #[.int .i64 n300, .int .i64 n301, x302.val] ∧
 IxOk x1_1 n_2 ∧
 ∃ n303 : Int, w299.cell? ((elA x1_1 n_2 5).add 1) = some (.int .i64 n303) ∧
 ((decide (n303 = 3)) = true →
 ∃ n304 : Int, Wr .i64 ((x1.n : Int) + 2) n304 ∧
 StepT Tryd.prog (Instr.buildSlice 86 3 #[(0, (.int .i64 3)), (1, (.int .i64 0)), (2, (.int .i64 3))]) w299 fun r305 w306 =>
 ∃ x307 : Sl, r305 = x307.val ∧
 Sub w299 w306 ∧
 Trip Tryd.prog 119 #[x1.val, x307.val] w306 fun r308 w309 =>
 ∃ x310 : Sl, r308 = x310.val ∧
 Sub w306 w309 ∧
 Trip Tryd.prog 117 #[.pointer (some (a_0.add 0)), .agg #[x1_0.val, x1_1.val], x310.val, .int .i64 0, .int .i64 4] w309 fun r311 w312 =>
 ∃ n313 : Int, ∃ n314 : Int, ∃ x315 : Sl, r311 = .agg #[.int .i64 n313, .int .i64 n314, x315.val] ∧
 Trip Tryd.prog 67 #[.int .i64 n304] w312 fun r316 w317 =>
 ∃ n318 : Int, ∃ n319 : Int, ∃ x320 : Sl, r316 = .agg #[.int .i64 n318, .int .i64 n319, x320.val] ∧
 StepT Tryd.prog (Instr.buildSlice 27 3 #[(0, (.agg #[.int .i64 n50, .int .i64 n51, x52.val])), (1, (.agg #[.int .i64 n313, .int .i64 n314, x315.val])), (2, (.agg #[.int .i64 n318, .int .i64 n319, x320.val]))]) w317 fun r321 w322 =>
 ∃ x323 : Sl, r321 = x323.val ∧
 Trip Tryd.prog 55 #[.int .i64 6, .int .i64 3, x323.val] w322 fun r324 w325 =>
 ∃ n326 : Int, ∃ n327 : Int, ∃ x328 : Sl, r324 = .agg #[.int .i64 n326, .int .i64 n327, x328.val] ∧
 IxOk x1_1 n_2 ∧
 ∃ n329 : Int, w325.cell? ((elA x1_1 n_2 5).add 1) = some (.int .i64 n329) ∧
 Trip Tryd.prog 67 #[.int .i64 0] w325 fun r330 w331 =>
 ∃ n332 : Int, ∃ n333 : Int, ∃ x334 : Sl, r330 = .agg #[.int .i64 n332, .int .i64 n333, x334.val] ∧
 Sub w325 w331 ∧
 Trip Tryd.prog 117 #[.pointer (some (a_0.add 0)), .agg #[x1_0.val, x1_1.val], x1.val, .int .i64 n329, .int .i64 4] w331 fun r335 w336 =>
 ∃ n337 : Int, ∃ n338 : Int, ∃ x339 : Sl, r335 = .agg #[.int .i64 n337, .int .i64 n338, x339.val] ∧
 StepT Tryd.prog (Instr.buildSlice 27 3 #[(0, (.agg #[.int .i64 n332, .int .i64 n333, x334.val])), (1, (.agg #[.int .i64 n337, .int .i64 n338, x339.val])), (2, (.agg #[.int .i64 n326, .int .i64 n327, x328.val]))]) w336 fun r340 w341 =>
 ∃ x342 : Sl, r340 = x342.val ∧
 Trip Tryd.prog 55 #[.int .i64 8, .int .i64 3, x342.val] w341 fun r343 w344 =>
 ∃ n345 : Int, ∃ n346 : Int, ∃ x347 : Sl, r343 = .agg #[.int .i64 n345, .int .i64 n346, x347.val] ∧
 Q (.agg #[.int .i64 n345, .int .i64 n346, x347.val]) w344) ∧
 ((decide (n303 = 3)) = false →
 IxOk x1_1 n_2 ∧
 ∃ n348 : Int, w299.cell? ((elA x1_1 n_2 5).add 1) = some (.int .i64 n348) ∧
 Trip Tryd.prog 67 #[.int .i64 0] w299 fun r349 w350 =>
 ∃ n351 : Int, ∃ n352 : Int, ∃ x353 : Sl, r349 = .agg #[.int .i64 n351, .int .i64 n352, x353.val] ∧
 Sub w299 w350 ∧
 Trip Tryd.prog 117 #[.pointer (some (a_0.add 0)), .agg #[x1_0.val, x1_1.val], x1.val, .int .i64 n348, .int .i64 4] w350 fun r354 w355 =>
 ∃ n356 : Int, ∃ n357 : Int, ∃ x358 : Sl, r354 = .agg #[.int .i64 n356, .int .i64 n357, x358.val] ∧
 StepT Tryd.prog (Instr.buildSlice 27 3 #[(0, (.agg #[.int .i64 n351, .int .i64 n352, x353.val])), (1, (.agg #[.int .i64 n356, .int .i64 n357, x358.val])), (2, (.agg #[.int .i64 n300, .int .i64 n301, x302.val]))]) w355 fun r359 w360 =>
 ∃ x361 : Sl, r359 = x361.val ∧
 Trip Tryd.prog 55 #[.int .i64 8, .int .i64 3, x361.val] w360 fun r362 w363 =>
 ∃ n364 : Int, ∃ n365 : Int, ∃ x366 : Sl, r362 = .agg #[.int .i64 n364, .int .i64 n365, x366.val] ∧
 Q (.agg #[.int .i64 n364, .int .i64 n365, x366.val]) w363)) ∧
 Sub w65 w65 ∧
 StepT Tryd.prog (Instr.buildSlice 27 2 #[(0, (.agg #[.int .i64 n66, .int .i64 n67, x68.val])), (1, (.agg #[.int .i64 n55, .int .i64 n56, x57.val]))]) w65 fun r367 w368 =>
 ∃ x369 : Sl, r367 = x369.val ∧
 Trip Tryd.prog 55 #[.int .i64 1, .int .i64 0, x369.val] w368 fun r370 w371 =>
 ∃ n372 : Int, ∃ n373 : Int, ∃ x374 : Sl, r370 = .agg #[.int .i64 n372, .int .i64 n373, x374.val] ∧
 StepT Tryd.prog (Instr.buildSlice 27 2 #[(0, (.agg #[.int .i64 n50, .int .i64 n51, x52.val])), (1, (.agg #[.int .i64 n372, .int .i64 n373, x374.val]))]) w371 fun r375 w376 =>
 ∃ x377 : Sl, r375 = x377.val ∧
 Trip Tryd.prog 55 #[.int .i64 1, .int .i64 0, x377.val] w376 fun r378 w379 =>
 ∃ n380 : Int, ∃ n381 : Int, ∃ x382 : Sl, r378 = .agg #[.int .i64 n380, .int .i64 n381, x382.val] ∧
 IxOk x1_1 n_2 ∧
 ∃ n383 : Int, w379.cell? ((elA x1_1 n_2 5).add 1) = some (.int .i64 n383) ∧
 ((decide (n383 = 3)) = true →
 ∃ n384 : Int, Wr .i64 ((x1.n : Int) + 2) n384 ∧
 StepT Tryd.prog (Instr.buildSlice 86 3 #[(0, (.int .i64 3)), (1, (.int .i64 0)), (2, (.int .i64 3))]) w379 fun r385 w386 =>
 ∃ x387 : Sl, r385 = x387.val ∧
 Sub w379 w386 ∧
 Trip Tryd.prog 119 #[x1.val, x387.val] w386 fun r388 w389 =>
 ∃ x390 : Sl, r388 = x390.val ∧
 Sub w386 w389 ∧
 Trip Tryd.prog 117 #[.pointer (some (a_0.add 0)), .agg #[x1_0.val, x1_1.val], x390.val, .int .i64 0, .int .i64 4] w389 fun r391 w392 =>
 ∃ n393 : Int, ∃ n394 : Int, ∃ x395 : Sl, r391 = .agg #[.int .i64 n393, .int .i64 n394, x395.val] ∧
 Trip Tryd.prog 67 #[.int .i64 n384] w392 fun r396 w397 =>
 ∃ n398 : Int, ∃ n399 : Int, ∃ x400 : Sl, r396 = .agg #[.int .i64 n398, .int .i64 n399, x400.val] ∧
 StepT Tryd.prog (Instr.buildSlice 27 3 #[(0, (.agg #[.int .i64 n50, .int .i64 n51, x52.val])), (1, (.agg #[.int .i64 n393, .int .i64 n394, x395.val])), (2, (.agg #[.int .i64 n398, .int .i64 n399, x400.val]))]) w397 fun r401 w402 =>
 ∃ x403 : Sl, r401 = x403.val ∧
 Trip Tryd.prog 55 #[.int .i64 6, .int .i64 3, x403.val] w402 fun r404 w405 =>
 ∃ n406 : Int, ∃ n407 : Int, ∃ x408 : Sl, r404 = .agg #[.int .i64 n406, .int .i64 n407, x408.val] ∧
 IxOk x1_1 n_2 ∧
 ∃ n409 : Int, w405.cell? ((elA x1_1 n_2 5).add 1) = some (.int .i64 n409) ∧
 Trip Tryd.prog 67 #[.int .i64 0] w405 fun r410 w411 =>
 ∃ n412 : Int, ∃ n413 : Int, ∃ x414 : Sl, r410 = .agg #[.int .i64 n412, .int .i64 n413, x414.val] ∧
 Sub w405 w411 ∧
 Trip Tryd.prog 117 #[.pointer (some (a_0.add 0)), .agg #[x1_0.val, x1_1.val], x1.val, .int .i64 n409, .int .i64 4] w411 fun r415 w416 =>
 ∃ n417 : Int, ∃ n418 : Int, ∃ x419 : Sl, r415 = .agg #[.int .i64 n417, .int .i64 n418, x419.val] ∧
 StepT Tryd.prog (Instr.buildSlice 27 3 #[(0, (.agg #[.int .i64 n412, .int .i64 n413, x414.val])), (1, (.agg #[.int .i64 n417, .int .i64 n418, x419.val])), (2, (.agg #[.int .i64 n406, .int .i64 n407, x408.val]))]) w416 fun r420 w421 =>
 ∃ x422 : Sl, r420 = x422.val ∧
 Trip Tryd.prog 55 #[.int .i64 8, .int .i64 3, x422.val] w421 fun r423 w424 =>
 ∃ n425 : Int, ∃ n426 : Int, ∃ x427 : Sl, r423 = .agg #[.int .i64 n425, .int .i64 n426, x427.val] ∧
 Q (.agg #[.int .i64 n425, .int .i64 n426, x427.val]) w424) ∧
 ((decide (n383 = 3)) = false →
 IxOk x1_1 n_2 ∧
 ∃ n428 : Int, w379.cell? ((elA x1_1 n_2 5).add 1) = some (.int .i64 n428) ∧
 Trip Tryd.prog 67 #[.int .i64 0] w379 fun r429 w430 =>
 ∃ n431 : Int, ∃ n432 : Int, ∃ x433 : Sl, r429 = .agg #[.int .i64 n431, .int .i64 n432, x433.val] ∧
 Sub w379 w430 ∧
 Trip Tryd.prog 117 #[.pointer (some (a_0.add 0)), .agg #[x1_0.val, x1_1.val], x1.val, .int .i64 n428, .int .i64 4] w430 fun r434 w435 =>
 ∃ n436 : Int, ∃ n437 : Int, ∃ x438 : Sl, r434 = .agg #[.int .i64 n436, .int .i64 n437, x438.val] ∧
 StepT Tryd.prog (Instr.buildSlice 27 3 #[(0, (.agg #[.int .i64 n431, .int .i64 n432, x433.val])), (1, (.agg #[.int .i64 n436, .int .i64 n437, x438.val])), (2, (.agg #[.int .i64 n380, .int .i64 n381, x382.val]))]) w435 fun r439 w440 =>
 ∃ x441 : Sl, r439 = x441.val ∧
 Trip Tryd.prog 55 #[.int .i64 8, .int .i64 3, x441.val] w440 fun r442 w443 =>
 ∃ n444 : Int, ∃ n445 : Int, ∃ x446 : Sl, r442 = .agg #[.int .i64 n444, .int .i64 n445, x446.val] ∧
 Q (.agg #[.int .i64 n444, .int .i64 n445, x446.val]) w443)) ∧
 Sub w62 w62 ∧
 Trip Tryd.prog 117 #[.pointer (some (a_0.add 0)), .agg #[x1_0.val, x1_1.val], x63.val, .int .i64 0, .int .i64 4] w62 fun r447 w448 =>
 ∃ n449 : Int, ∃ n450 : Int, ∃ x451 : Sl, r447 = .agg #[.int .i64 n449, .int .i64 n450, x451.val] ∧
 StepT Tryd.prog (Instr.buildSlice 27 2 #[(0, (.agg #[.int .i64 n449, .int .i64 n450, x451.val])), (1, (.agg #[.int .i64 n55, .int .i64 n56, x57.val]))]) w448 fun r452 w453 =>
 ∃ x454 : Sl, r452 = x454.val ∧
 Trip Tryd.prog 55 #[.int .i64 1, .int .i64 0, x454.val] w453 fun r455 w456 =>
 ∃ n457 : Int, ∃ n458 : Int, ∃ x459 : Sl, r455 = .agg #[.int .i64 n457, .int .i64 n458, x459.val] ∧
 StepT Tryd.prog (Instr.buildSlice 27 2 #[(0, (.agg #[.int .i64 n50, .int .i64 n51, x52.val])), (1, (.agg #[.int .i64 n457, .int .i64 n458, x459.val]))]) w456 fun r460 w461 =>
 ∃ x462 : Sl, r460 = x462.val ∧
 Trip Tryd.prog 55 #[.int .i64 1, .int .i64 0, x462.val] w461 fun r463 w464 =>
 ∃ n465 : Int, ∃ n466 : Int, ∃ x467 : Sl, r463 = .agg #[.int .i64 n465, .int .i64 n466, x467.val] ∧
 IxOk x1_1 n_2 ∧
 ∃ n468 : Int, w464.cell? ((elA x1_1 n_2 5).add 1) = some (.int .i64 n468) ∧
 ((decide (n468 = 3)) = true →
 ∃ n469 : Int, Wr .i64 ((x1.n : Int) + 2) n469 ∧
 StepT Tryd.prog (Instr.buildSlice 86 3 #[(0, (.int .i64 3)), (1, (.int .i64 0)), (2, (.int .i64 3))]) w464 fun r470 w471 =>
 ∃ x472 : Sl, r470 = x472.val ∧
 Sub w464 w471 ∧
 Trip Tryd.prog 119 #[x1.val, x472.val] w471 fun r473 w474 =>
 ∃ x475 : Sl, r473 = x475.val ∧
 Sub w471 w474 ∧
 Trip Tryd.prog 117 #[.pointer (some (a_0.add 0)), .agg #[x1_0.val, x1_1.val], x475.val, .int .i64 0, .int .i64 4] w474 fun r476 w477 =>
 ∃ n478 : Int, ∃ n479 : Int, ∃ x480 : Sl, r476 = .agg #[.int .i64 n478, .int .i64 n479, x480.val] ∧
 Trip Tryd.prog 67 #[.int .i64 n469] w477 fun r481 w482 =>
 ∃ n483 : Int, ∃ n484 : Int, ∃ x485 : Sl, r481 = .agg #[.int .i64 n483, .int .i64 n484, x485.val] ∧
 StepT Tryd.prog (Instr.buildSlice 27 3 #[(0, (.agg #[.int .i64 n50, .int .i64 n51, x52.val])), (1, (.agg #[.int .i64 n478, .int .i64 n479, x480.val])), (2, (.agg #[.int .i64 n483, .int .i64 n484, x485.val]))]) w482 fun r486 w487 =>
 ∃ x488 : Sl, r486 = x488.val ∧
 Trip Tryd.prog 55 #[.int .i64 6, .int .i64 3, x488.val] w487 fun r489 w490 =>
 ∃ n491 : Int, ∃ n492 : Int, ∃ x493 : Sl, r489 = .agg #[.int .i64 n491, .int .i64 n492, x493.val] ∧
 IxOk x1_1 n_2 ∧
 ∃ n494 : Int, w490.cell? ((elA x1_1 n_2 5).add 1) = some (.int .i64 n494) ∧
 Trip Tryd.prog 67 #[.int .i64 0] w490 fun r495 w496 =>
 ∃ n497 : Int, ∃ n498 : Int, ∃ x499 : Sl, r495 = .agg #[.int .i64 n497, .int .i64 n498, x499.val] ∧
 Sub w490 w496 ∧
 Trip Tryd.prog 117 #[.pointer (some (a_0.add 0)), .agg #[x1_0.val, x1_1.val], x1.val, .int .i64 n494, .int .i64 4] w496 fun r500 w501 =>
 ∃ n502 : Int, ∃ n503 : Int, ∃ x504 : Sl, r500 = .agg #[.int .i64 n502, .int .i64 n503, x504.val] ∧
 StepT Tryd.prog (Instr.buildSlice 27 3 #[(0, (.agg #[.int .i64 n497, .int .i64 n498, x499.val])), (1, (.agg #[.int .i64 n502, .int .i64 n503, x504.val])), (2, (.agg #[.int .i64 n491, .int .i64 n492, x493.val]))]) w501 fun r505 w506 =>
 ∃ x507 : Sl, r505 = x507.val ∧
 Trip Tryd.prog 55 #[.int .i64 8, .int .i64 3, x507.val] w506 fun r508 w509 =>
 ∃ n510 : Int, ∃ n511 : Int, ∃ x512 : Sl, r508 = .agg #[.int .i64 n510, .int .i64 n511, x512.val] ∧
 Q (.agg #[.int .i64 n510, .int .i64 n511, x512.val]) w509) ∧
 ((decide (n468 = 3)) = false →
 IxOk x1_1 n_2 ∧
 ∃ n513 : Int, w464.cell? ((elA x1_1 n_2 5).add 1) = some (.int .i64 n513) ∧
 Trip Tryd.prog 67 #[.int .i64 0] w464 fun r514 w515 =>
 ∃ n516 : Int, ∃ n517 : Int, ∃ x518 : Sl, r514 = .agg #[.int .i64 n516, .int .i64 n517, x518.val] ∧
 Sub w464 w515 ∧
 Trip Tryd.prog 117 #[.pointer (some (a_0.add 0)), .agg #[x1_0.val, x1_1.val], x1.val, .int .i64 n513, .int .i64 4] w515 fun r519 w520 =>
 ∃ n521 : Int, ∃ n522 : Int, ∃ x523 : Sl, r519 = .agg #[.int .i64 n521, .int .i64 n522, x523.val] ∧
 StepT Tryd.prog (Instr.buildSlice 27 3 #[(0, (.agg #[.int .i64 n516, .int .i64 n517, x518.val])), (1, (.agg #[.int .i64 n521, .int .i64 n522, x523.val])), (2, (.agg #[.int .i64 n465, .int .i64 n466, x467.val]))]) w520 fun r524 w525 =>
 ∃ x526 : Sl, r524 = x526.val ∧
 Trip Tryd.prog 55 #[.int .i64 8, .int .i64 3, x526.val] w525 fun r527 w528 =>
 ∃ n529 : Int, ∃ n530 : Int, ∃ x531 : Sl, r527 = .agg #[.int .i64 n529, .int .i64 n530, x531.val] ∧
 Q (.agg #[.int .i64 n529, .int .i64 n530, x531.val]) w528)) ∧
 Sub w59 w59 ∧
 Trip Tryd.prog 119 #[x1.val, x60.val] w59 fun r532 w533 =>
 ∃ x534 : Sl, r532 = x534.val ∧
 Sub w59 w533 ∧
 Trip Tryd.prog 117 #[.pointer (some (a_0.add 0)), .agg #[x1_0.val, x1_1.val], x534.val, .int .i64 0, .int .i64 4] w533 fun r535 w536 =>
 ∃ n537 : Int, ∃ n538 : Int, ∃ x539 : Sl, r535 = .agg #[.int .i64 n537, .int .i64 n538, x539.val] ∧
 StepT Tryd.prog (Instr.buildSlice 27 2 #[(0, (.agg #[.int .i64 n537, .int .i64 n538, x539.val])), (1, (.agg #[.int .i64 n55, .int .i64 n56, x57.val]))]) w536 fun r540 w541 =>
 ∃ x542 : Sl, r540 = x542.val ∧
 Trip Tryd.prog 55 #[.int .i64 1, .int .i64 0, x542.val] w541 fun r543 w544 =>
 ∃ n545 : Int, ∃ n546 : Int, ∃ x547 : Sl, r543 = .agg #[.int .i64 n545, .int .i64 n546, x547.val] ∧
 StepT Tryd.prog (Instr.buildSlice 27 2 #[(0, (.agg #[.int .i64 n50, .int .i64 n51, x52.val])), (1, (.agg #[.int .i64 n545, .int .i64 n546, x547.val]))]) w544 fun r548 w549 =>
 ∃ x550 : Sl, r548 = x550.val ∧
 Trip Tryd.prog 55 #[.int .i64 1, .int .i64 0, x550.val] w549 fun r551 w552 =>
 ∃ n553 : Int, ∃ n554 : Int, ∃ x555 : Sl, r551 = .agg #[.int .i64 n553, .int .i64 n554, x555.val] ∧
 IxOk x1_1 n_2 ∧
 ∃ n556 : Int, w552.cell? ((elA x1_1 n_2 5).add 1) = some (.int .i64 n556) ∧
 ((decide (n556 = 3)) = true →
 ∃ n557 : Int, Wr .i64 ((x1.n : Int) + 2) n557 ∧
 StepT Tryd.prog (Instr.buildSlice 86 3 #[(0, (.int .i64 3)), (1, (.int .i64 0)), (2, (.int .i64 3))]) w552 fun r558 w559 =>
 ∃ x560 : Sl, r558 = x560.val ∧
 Sub w552 w559 ∧
 Trip Tryd.prog 119 #[x1.val, x560.val] w559 fun r561 w562 =>
 ∃ x563 : Sl, r561 = x563.val ∧
 Sub w559 w562 ∧
 Trip Tryd.prog 117 #[.pointer (some (a_0.add 0)), .agg #[x1_0.val, x1_1.val], x563.val, .int .i64 0, .int .i64 4] w562 fun r564 w565 =>
 ∃ n566 : Int, ∃ n567 : Int, ∃ x568 : Sl, r564 = .agg #[.int .i64 n566, .int .i64 n567, x568.val] ∧
 Trip Tryd.prog 67 #[.int .i64 n557] w565 fun r569 w570 =>
 ∃ n571 : Int, ∃ n572 : Int, ∃ x573 : Sl, r569 = .agg #[.int .i64 n571, .int .i64 n572, x573.val] ∧
 StepT Tryd.prog (Instr.buildSlice 27 3 #[(0, (.agg #[.int .i64 n50, .int .i64 n51, x52.val])), (1, (.agg #[.int .i64 n566, .int .i64 n567, x568.val])), (2, (.agg #[.int .i64 n571, .int .i64 n572, x573.val]))]) w570 fun r574 w575 =>
 ∃ x576 : Sl, r574 = x576.val ∧
 Trip Tryd.prog 55 #[.int .i64 6, .int .i64 3, x576.val] w575 fun r577 w578 =>
 ∃ n579 : Int, ∃ n580 : Int, ∃ x581 : Sl, r577 = .agg #[.int .i64 n579, .int .i64 n580, x581.val] ∧
 IxOk x1_1 n_2 ∧
 ∃ n582 : Int, w578.cell? ((elA x1_1 n_2 5).add 1) = some (.int .i64 n582) ∧
 Trip Tryd.prog 67 #[.int .i64 0] w578 fun r583 w584 =>
 ∃ n585 : Int, ∃ n586 : Int, ∃ x587 : Sl, r583 = .agg #[.int .i64 n585, .int .i64 n586, x587.val] ∧
 Sub w578 w584 ∧
 Trip Tryd.prog 117 #[.pointer (some (a_0.add 0)), .agg #[x1_0.val, x1_1.val], x1.val, .int .i64 n582, .int .i64 4] w584 fun r588 w589 =>
 ∃ n590 : Int, ∃ n591 : Int, ∃ x592 : Sl, r588 = .agg #[.int .i64 n590, .int .i64 n591, x592.val] ∧
 StepT Tryd.prog (Instr.buildSlice 27 3 #[(0, (.agg #[.int .i64 n585, .int .i64 n586, x587.val])), (1, (.agg #[.int .i64 n590, .int .i64 n591, x592.val])), (2, (.agg #[.int .i64 n579, .int .i64 n580, x581.val]))]) w589 fun r593 w594 =>
 ∃ x595 : Sl, r593 = x595.val ∧
 Trip Tryd.prog 55 #[.int .i64 8, .int .i64 3, x595.val] w594 fun r596 w597 =>
 ∃ n598 : Int, ∃ n599 : Int, ∃ x600 : Sl, r596 = .agg #[.int .i64 n598, .int .i64 n599, x600.val] ∧
 Q (.agg #[.int .i64 n598, .int .i64 n599, x600.val]) w597) ∧
 ((decide (n556 = 3)) = false →
 IxOk x1_1 n_2 ∧
 ∃ n601 : Int, w552.cell? ((elA x1_1 n_2 5).add 1) = some (.int .i64 n601) ∧
 Trip Tryd.prog 67 #[.int .i64 0] w552 fun r602 w603 =>
 ∃ n604 : Int, ∃ n605 : Int, ∃ x606 : Sl, r602 = .agg #[.int .i64 n604, .int .i64 n605, x606.val] ∧
 Sub w552 w603 ∧
 Trip Tryd.prog 117 #[.pointer (some (a_0.add 0)), .agg #[x1_0.val, x1_1.val], x1.val, .int .i64 n601, .int .i64 4] w603 fun r607 w608 =>
 ∃ n609 : Int, ∃ n610 : Int, ∃ x611 : Sl, r607 = .agg #[.int .i64 n609, .int .i64 n610, x611.val] ∧
 StepT Tryd.prog (Instr.buildSlice 27 3 #[(0, (.agg #[.int .i64 n604, .int .i64 n605, x606.val])), (1, (.agg #[.int .i64 n609, .int .i64 n610, x611.val])), (2, (.agg #[.int .i64 n553, .int .i64 n554, x555.val]))]) w608 fun r612 w613 =>
 ∃ x614 : Sl, r612 = x614.val ∧
 Trip Tryd.prog 55 #[.int .i64 8, .int .i64 3, x614.val] w613 fun r615 w616 =>
 ∃ n617 : Int, ∃ n618 : Int, ∃ x619 : Sl, r615 = .agg #[.int .i64 n617, .int .i64 n618, x619.val] ∧
 Q (.agg #[.int .i64 n617, .int .i64 n618, x619.val]) w616)) ∧
 Sub w54 w54 ∧
 StepT Tryd.prog (Instr.buildSlice 86 3 #[(0, (.int .i64 3)), (1, (.int .i64 0)), (2, (.int .i64 3))]) w54 fun r620 w621 =>
 ∃ x622 : Sl, r620 = x622.val ∧
 Sub w54 w621 ∧
 Trip Tryd.prog 119 #[x1.val, x622.val] w621 fun r623 w624 =>
 ∃ x625 : Sl, r623 = x625.val ∧
 Sub w621 w624 ∧
 Trip Tryd.prog 117 #[.pointer (some (a_0.add 0)), .agg #[x1_0.val, x1_1.val], x625.val, .int .i64 0, .int .i64 4] w624 fun r626 w627 =>
 ∃ n628 : Int, ∃ n629 : Int, ∃ x630 : Sl, r626 = .agg #[.int .i64 n628, .int .i64 n629, x630.val] ∧
 StepT Tryd.prog (Instr.buildSlice 27 2 #[(0, (.agg #[.int .i64 n628, .int .i64 n629, x630.val])), (1, (.agg #[.int .i64 n55, .int .i64 n56, x57.val]))]) w627 fun r631 w632 =>
 ∃ x633 : Sl, r631 = x633.val ∧
 Trip Tryd.prog 55 #[.int .i64 1, .int .i64 0, x633.val] w632 fun r634 w635 =>
 ∃ n636 : Int, ∃ n637 : Int, ∃ x638 : Sl, r634 = .agg #[.int .i64 n636, .int .i64 n637, x638.val] ∧
 StepT Tryd.prog (Instr.buildSlice 27 2 #[(0, (.agg #[.int .i64 n50, .int .i64 n51, x52.val])), (1, (.agg #[.int .i64 n636, .int .i64 n637, x638.val]))]) w635 fun r639 w640 =>
 ∃ x641 : Sl, r639 = x641.val ∧
 Trip Tryd.prog 55 #[.int .i64 1, .int .i64 0, x641.val] w640 fun r642 w643 =>
 ∃ n644 : Int, ∃ n645 : Int, ∃ x646 : Sl, r642 = .agg #[.int .i64 n644, .int .i64 n645, x646.val] ∧
 IxOk x1_1 n_2 ∧
 ∃ n647 : Int, w643.cell? ((elA x1_1 n_2 5).add 1) = some (.int .i64 n647) ∧
 ((decide (n647 = 3)) = true →
 ∃ n648 : Int, Wr .i64 ((x1.n : Int) + 2) n648 ∧
 StepT Tryd.prog (Instr.buildSlice 86 3 #[(0, (.int .i64 3)), (1, (.int .i64 0)), (2, (.int .i64 3))]) w643 fun r649 w650 =>
 ∃ x651 : Sl, r649 = x651.val ∧
 Sub w643 w650 ∧
 Trip Tryd.prog 119 #[x1.val, x651.val] w650 fun r652 w653 =>
 ∃ x654 : Sl, r652 = x654.val ∧
 Sub w650 w653 ∧
 Trip Tryd.prog 117 #[.pointer (some (a_0.add 0)), .agg #[x1_0.val, x1_1.val], x654.val, .int .i64 0, .int .i64 4] w653 fun r655 w656 =>
 ∃ n657 : Int, ∃ n658 : Int, ∃ x659 : Sl, r655 = .agg #[.int .i64 n657, .int .i64 n658, x659.val] ∧
 Trip Tryd.prog 67 #[.int .i64 n648] w656 fun r660 w661 =>
 ∃ n662 : Int, ∃ n663 : Int, ∃ x664 : Sl, r660 = .agg #[.int .i64 n662, .int .i64 n663, x664.val] ∧
 StepT Tryd.prog (Instr.buildSlice 27 3 #[(0, (.agg #[.int .i64 n50, .int .i64 n51, x52.val])), (1, (.agg #[.int .i64 n657, .int .i64 n658, x659.val])), (2, (.agg #[.int .i64 n662, .int .i64 n663, x664.val]))]) w661 fun r665 w666 =>
 ∃ x667 : Sl, r665 = x667.val ∧
 Trip Tryd.prog 55 #[.int .i64 6, .int .i64 3, x667.val] w666 fun r668 w669 =>
 ∃ n670 : Int, ∃ n671 : Int, ∃ x672 : Sl, r668 = .agg #[.int .i64 n670, .int .i64 n671, x672.val] ∧
 IxOk x1_1 n_2 ∧
 ∃ n673 : Int, w669.cell? ((elA x1_1 n_2 5).add 1) = some (.int .i64 n673) ∧
 Trip Tryd.prog 67 #[.int .i64 0] w669 fun r674 w675 =>
 ∃ n676 : Int, ∃ n677 : Int, ∃ x678 : Sl, r674 = .agg #[.int .i64 n676, .int .i64 n677, x678.val] ∧
 Sub w669 w675 ∧
 Trip Tryd.prog 117 #[.pointer (some (a_0.add 0)), .agg #[x1_0.val, x1_1.val], x1.val, .int .i64 n673, .int .i64 4] w675 fun r679 w680 =>
 ∃ n681 : Int, ∃ n682 : Int, ∃ x683 : Sl, r679 = .agg #[.int .i64 n681, .int .i64 n682, x683.val] ∧
 StepT Tryd.prog (Instr.buildSlice 27 3 #[(0, (.agg #[.int .i64 n676, .int .i64 n677, x678.val])), (1, (.agg #[.int .i64 n681, .int .i64 n682, x683.val])), (2, (.agg #[.int .i64 n670, .int .i64 n671, x672.val]))]) w680 fun r684 w685 =>
 ∃ x686 : Sl, r684 = x686.val ∧
 Trip Tryd.prog 55 #[.int .i64 8, .int .i64 3, x686.val] w685 fun r687 w688 =>
 ∃ n689 : Int, ∃ n690 : Int, ∃ x691 : Sl, r687 = .agg #[.int .i64 n689, .int .i64 n690, x691.val] ∧
 Q (.agg #[.int .i64 n689, .int .i64 n690, x691.val]) w688) ∧
 ((decide (n647 = 3)) = false →
 IxOk x1_1 n_2 ∧
 ∃ n692 : Int, w643.cell? ((elA x1_1 n_2 5).add 1) = some (.int .i64 n692) ∧
 Trip Tryd.prog 67 #[.int .i64 0] w643 fun r693 w694 =>
 ∃ n695 : Int, ∃ n696 : Int, ∃ x697 : Sl, r693 = .agg #[.int .i64 n695, .int .i64 n696, x697.val] ∧
 Sub w643 w694 ∧
 Trip Tryd.prog 117 #[.pointer (some (a_0.add 0)), .agg #[x1_0.val, x1_1.val], x1.val, .int .i64 n692, .int .i64 4] w694 fun r698 w699 =>
 ∃ n700 : Int, ∃ n701 : Int, ∃ x702 : Sl, r698 = .agg #[.int .i64 n700, .int .i64 n701, x702.val] ∧
 StepT Tryd.prog (Instr.buildSlice 27 3 #[(0, (.agg #[.int .i64 n695, .int .i64 n696, x697.val])), (1, (.agg #[.int .i64 n700, .int .i64 n701, x702.val])), (2, (.agg #[.int .i64 n644, .int .i64 n645, x646.val]))]) w699 fun r703 w704 =>
 ∃ x705 : Sl, r703 = x705.val ∧
 Trip Tryd.prog 55 #[.int .i64 8, .int .i64 3, x705.val] w704 fun r706 w707 =>
 ∃ n708 : Int, ∃ n709 : Int, ∃ x710 : Sl, r706 = .agg #[.int .i64 n708, .int .i64 n709, x710.val] ∧
 Q (.agg #[.int .i64 n708, .int .i64 n709, x710.val]) w707))
theorem of104 (a_0 : Addr) (x1_0 : Sl) (x1_1 : Sl) (n_2 : Int) (v : World) (Q : Value → World → Prop) (h : vc104 a_0 x1_0 x1_1 n_2 v Q) : Trip Tryd.prog 104 #[.pointer (some (a_0.add 0)), .agg #[x1_0.val, x1_1.val], .int .i64 n_2] v Q :=
 trip_of_eq (args := [.pt a_0 0, .ag [.sl x1_0, .sl x1_1], .num .i64 n_2]) (A := ⟨[(6, [(9, .sl), (10, .sl), (11, .int .i64)], [])], [], [(12, [4, 5, 12]), (14, [4, 5]), (15, [0])], [], psG⟩) Tryd.func104 (by kernel_rfl) (by kernel_rfl) (by kernel_rfl : vc104 a_0 x1_0 x1_1 n_2 v Q = _) h

end Go.Vc
