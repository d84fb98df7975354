/- Part of the proofs about the heaps and memories: a law is joined in the text whose name ends in W and the law. -/
import Derived.Test.YtelgbndeeccblaaGreatDoorEVcFn
import Derived.Test.YtelgbndeeccblaaGreatDoorProg
import Derived.KernelRfl
namespace Go.Vc
open Go Go.Proofs
set_option linter.all false
abbrev ldF (w : World) (x : Sl) (i : Int) (K : Sl → Int → Int → Int → Sl → Prop) : Prop := ∃ f : Sl, ∃ a : Int, ∃ b : Int, ∃ c : Int, ∃ k : Sl, (w.cell? ((elA x i 5).add 0) = some (f.val) ∧ w.cell? ((elA x i 5).add 1) = some (.int .i64 a) ∧ w.cell? ((elA x i 5).add 2) = some (.int .i64 b) ∧ w.cell? ((elA x i 5).add 3) = some (.int .i64 c) ∧ w.cell? ((elA x i 5).add 4) = some (k.val)) ∧ K f a b c k
abbrev ldT (w : World) (x : Sl) (i : Int) (K : Int → Int → Sl → Prop) : Prop := ∃ a : Int, ∃ b : Int, ∃ k : Sl, (w.cell? ((elA x i 3).add 0) = some (.int .i64 a) ∧ w.cell? ((elA x i 3).add 1) = some (.int .i64 b) ∧ w.cell? ((elA x i 3).add 2) = some (k.val)) ∧ K a b k
abbrev eqS (x : SV) : Prop := x = x
abbrev psG : List Nat := [10, 11, 13, 14, 18, 20, 21, 23, 26, 28, 30, 31, 32, 33, 34, 38, 39, 41, 42, 43, 48, 51, 52, 56, 57, 58, 66, 67, 69, 70, 71, 72, 73, 74, 75, 76, 77, 83, 84, 85, 99, 100, 100, 101, 104, 105, 106, 107, 108, 109, 112, 113, 115, 122, 123, 127, 128, 129, 130, 131, 132, 133, 134, 137, 138, 139, 146, 147, 148, 158, 160, 163, 169, 170, 173, 174, 175, 176, 177, 178, 181, 189, 190, 213, 214, 215, 216, 217, 243, 254]
def vc6 (x_0 : Sl) (v : World) (Q : Value → World → Prop) : Prop :=
 ((decide ((x_0.n : Int) > 1048576)) = true →
 Q (.bool true) v) ∧
 ((decide ((x_0.n : Int) > 1048576)) = false →
 Trip Tryz.prog 24 #[x_0.val] v fun r1 w2 =>
 ∃ s3 : ByteArray, r1 = .string s3 ∧
 Trip Tryz.prog 22 #[.string s3] w2 fun r4 w5 =>
 ∃ n6 : Int, ∃ n7 : Int, ∃ x8 : Sl, ∃ q9 : Bool, r4 = .tuple #[.agg #[.int .i64 n6, .int .i64 n7, x8.val], .bool q9] ∧
 Trip Tryz.prog 25 #[.string s3] w5 fun r10 w11 =>
 ∃ n12 : Int, ∃ n13 : Int, ∃ x14 : Sl, ∃ q15 : Bool, r10 = .tuple #[.agg #[.int .i64 n12, .int .i64 n13, x14.val], .bool q15] ∧
 ∃ q16 : Bool, (Trip Tryz.prog 23 #[.agg #[.int .i64 n6, .int .i64 n7, x8.val], .agg #[.int .i64 n12, .int .i64 n13, x14.val]] w11 fun r17 w18 => r17 = .bool q16 ∧ Sub w11 w18) ∧
 ((((!q16) || (!(q9 == q15))) || (!q9)) = true →
 ∃ q19 : Bool, (Trip Tryz.prog 23 #[.agg #[.int .i64 n6, .int .i64 n7, x8.val], .agg #[.int .i64 n12, .int .i64 n13, x14.val]] w11 fun r20 w21 => r20 = .bool q19 ∧ Sub w11 w21) ∧
 Q (.bool (q19 && (q9 == q15))) w11) ∧
 ((((!q16) || (!(q9 == q15))) || (!q9)) = false →
 ∃ s22 : ByteArray, (Trip Tryz.prog 20 #[.agg #[.int .i64 n6, .int .i64 n7, x8.val]] w11 fun r23 w24 => r23 = .string s22 ∧ Sub w11 w24) ∧
 ∃ n25 : Int, ((s22.toList == s3.toList) = true →
 (Trip Tryz.prog 26 #[.agg #[.int .i64 n6, .int .i64 n7, x8.val]] w11 fun r26 w27 => r26 = .int .i64 n25 ∧ Sub w11 w27)) ∧
 Q (.bool ((s22.toList == s3.toList) && (decide (n25 > 0)))) w11))
theorem of6 (x_0 : Sl) (v : World) (Q : Value → World → Prop) (h : vc6 x_0 v Q) : Trip Tryz.prog 6 #[x_0.val] v Q :=
 trip_of_eq (args := [.sl x_0]) (A := ⟨[], [], [], [], psG⟩) Tryz.func6 (by kernel_rfl) (by kernel_rfl) (by kernel_rfl : vc6 x_0 v Q = _) h

def vc20 (n0_0 : Int) (n0_1 : Int) (x0_2 : Sl) (v : World) (Q : Value → World → Prop) : Prop :=
 ∃ n1 : Int, (Trip Tryz.prog 26 #[.agg #[.int .i64 n0_0, .int .i64 n0_1, x0_2.val]] v fun r2 w3 => r2 = .int .i64 n1 ∧ Sub v w3) ∧
 ((decide (n1 < 0)) = true →
 Q (.string (ByteArray.mk #[])) v) ∧
 ((decide (n1 < 0)) = false →
 NewAt v (.cells #[(Vl.mk (Value.pointer none) rfl).x, .slice none 0 0] 59 (0, 0)) fun a4 w5 =>
 Trip Tryz.prog 55 #[.pointer (some (a4.add 0)), .agg #[.int .i64 n0_0, .int .i64 n0_1, x0_2.val]] w5 fun r6 w7 =>
 ∃ q8 : Bool, r6 = .bool q8 ∧
 ((!q8) = true →
 Q (.string (ByteArray.mk #[])) w7) ∧
 ((!q8) = false →
 Trip Tryz.prog 40 #[.pointer (some (a4.add 0))] w7 fun r9 w10 =>
 ∃ s11 : ByteArray, r9 = .string s11 ∧
 Q (.string s11) w10))
theorem of20 (n0_0 : Int) (n0_1 : Int) (x0_2 : Sl) (v : World) (Q : Value → World → Prop) (h : vc20 n0_0 n0_1 x0_2 v Q) : Trip Tryz.prog 20 #[.agg #[.int .i64 n0_0, .int .i64 n0_1, x0_2.val]] v Q :=
 trip_of_eq (args := [.ag [.num .i64 n0_0, .num .i64 n0_1, .sl x0_2]]) (A := ⟨[], [], [], [3], psG⟩) Tryz.func20 (by kernel_rfl) (by kernel_rfl) (by kernel_rfl : vc20 n0_0 n0_1 x0_2 v Q = _) h

def vc22 (s_0 : ByteArray) (v : World) (Q : Value → World → Prop) : Prop :=
 NewAt v (.cells #[.string ByteArray.empty, .int .i64 0] 94 (0, 0)) fun a1 w2 =>
 StoreAt w2 a1 0 [.string s_0, .int .i64 0] fun w3 =>
 Trip Tryz.prog 59 #[.pointer (some (a1.add 0))] w3 fun r4 w5 =>
 ∃ n6 : Int, ∃ n7 : Int, ∃ x8 : Sl, ∃ q9 : Bool, r4 = .tuple #[.agg #[.int .i64 n6, .int .i64 n7, x8.val], .bool q9] ∧
 ∃ s10 : ByteArray, ((!q9) = false →
 (Trip Tryz.prog 20 #[.agg #[.int .i64 n6, .int .i64 n7, x8.val]] w5 fun r11 w12 => r11 = .string s10 ∧ Sub w5 w12)) ∧
 (((!q9) || (!(s10.toList == s_0.toList))) = true →
 Q (.tuple #[.agg #[.int .i64 0, .int .i64 0, .slice none 0 0], .bool false]) w5) ∧
 (((!q9) || (!(s10.toList == s_0.toList))) = false →
 Q (.tuple #[.agg #[.int .i64 n6, .int .i64 n7, x8.val], .bool true]) w5)
theorem of22 (s_0 : ByteArray) (v : World) (Q : Value → World → Prop) (h : vc22 s_0 v Q) : Trip Tryz.prog 22 #[.string s_0] v Q :=
 trip_of_eq (args := [.st s_0]) (A := ⟨[], [], [], [4], psG⟩) Tryz.func22 (by kernel_rfl) (by kernel_rfl) (by kernel_rfl : vc22 s_0 v Q = _) h

def vc23 (n0_0 : Int) (n0_1 : Int) (x0_2 : Sl) (n1_0 : Int) (n1_1 : Int) (x1_2 : Sl) (v : World) (Q : Value → World → Prop) : Prop :=
 ((((!decide (n0_0 = n1_0)) || (!decide (n0_1 = n1_1))) || (!decide ((x0_2.n : Int) = (x1_2.n : Int)))) = true →
 Q (.bool false) v) ∧
 ((((!decide (n0_0 = n1_0)) || (!decide (n0_1 = n1_1))) || (!decide ((x0_2.n : Int) = (x1_2.n : Int)))) = false →
 ∃ I1 : Int → World → Prop, ∃ m2 : Int → World → Nat, I1 0 v ∧
 ∀ n3 : Int, ∀ w4 : World, I1 n3 w4 →
 ((decide (n3 < (x0_2.n : Int))) = true →
 IxOk x0_2 n3 ∧
 ldT w4 x0_2 n3 fun n5 n6 x7 =>
 IxOk x1_2 n3 ∧
 ldT w4 x1_2 n3 fun n8 n9 x10 =>
 ∃ q11 : Bool, (Trip Tryz.prog 23 #[.agg #[.int .i64 n5, .int .i64 n6, x7.val], .agg #[.int .i64 n8, .int .i64 n9, x10.val]] w4 fun r12 w13 => r12 = .bool q11 ∧ Sub w4 w13) ∧
 ((!q11) = true →
 Q (.bool false) w4) ∧
 ((!q11) = false →
 ∃ n14 : Int, Wr .i64 (n3 + 1) n14 ∧
 eqS (.num .i64 n0_0) ∧
 eqS (.num .i64 n0_1) ∧
 eqS (.sl x0_2) ∧
 eqS (.num .i64 n1_0) ∧
 eqS (.num .i64 n1_1) ∧
 eqS (.sl x1_2) ∧
 I1 n14 w4 ∧
 m2 n14 w4 < m2 n3 w4)) ∧
 ((decide (n3 < (x0_2.n : Int))) = false →
 Q (.bool true) w4))
theorem of23 (n0_0 : Int) (n0_1 : Int) (x0_2 : Sl) (n1_0 : Int) (n1_1 : Int) (x1_2 : Sl) (v : World) (Q : Value → World → Prop) (h : vc23 n0_0 n0_1 x0_2 n1_0 n1_1 x1_2 v Q) : Trip Tryz.prog 23 #[.agg #[.int .i64 n0_0, .int .i64 n0_1, x0_2.val], .agg #[.int .i64 n1_0, .int .i64 n1_1, x1_2.val]] v Q :=
 trip_of_eq (args := [.ag [.num .i64 n0_0, .num .i64 n0_1, .sl x0_2], .ag [.num .i64 n1_0, .num .i64 n1_1, .sl x1_2]]) (A := ⟨[(4, [(5, .int .i64)], [])], [], [], [], psG⟩) Tryz.func23 (by kernel_rfl) (by kernel_rfl) (by kernel_rfl : vc23 n0_0 n0_1 x0_2 n1_0 n1_1 x1_2 v Q = _) h

def vc24 (x_0 : Sl) (v : World) (Q : Value → World → Prop) : Prop :=
 Trip Tryz.prog 54 #[x_0.val] v fun r1 w2 =>
 ∃ a3 : Addr, r1 = .pointer (some (a3.add 0)) ∧
 Trip Tryz.prog 60 #[.pointer (some (a3.add 0))] w2 fun r4 w5 =>
 ∃ x6 : Sl, ∃ x7 : Sl, ∃ n8 : Int, r4 = .tuple #[.agg #[x6.val, x7.val], .int .i64 n8] ∧
 IxOk x7 n8 ∧
 ∃ n9 : Int, ∃ n10 : Int, ∃ x11 : Sl, (w5.cell? ((elA x7 n8 5).add 2) = some (.int .i64 n9) ∧
 w5.cell? ((elA x7 n8 5).add 3) = some (.int .i64 n10) ∧
 w5.cell? ((elA x7 n8 5).add 4) = some (x11.val)) ∧
 ∃ s12 : ByteArray, (Trip Tryz.prog 58 #[.agg #[.int .i64 n9, .int .i64 n10, x11.val]] w5 fun r13 w14 => r13 = .string s12 ∧ Sub w5 w14) ∧
 Trip Tryz.prog 61 #[.pointer (some (a3.add 0)), .int .i64 3] w5 fun r15 w16 =>
 ∃ n17 : Int, r15 = .int .i64 n17 ∧
 ((decide (n17 = 0)) = true →
 Trip Tryz.prog 62 #[.pointer (some (a3.add 0)), .string s12] w16 fun r18 w19 =>
 ∃ s20 : ByteArray, r18 = .string s20 ∧
 Q (.string s20) w19) ∧
 ((decide (n17 = 0)) = false →
 Q (.string s12) w16)
theorem of24 (x_0 : Sl) (v : World) (Q : Value → World → Prop) (h : vc24 x_0 v Q) : Trip Tryz.prog 24 #[x_0.val] v Q :=
 trip_of_eq (args := [.sl x_0]) (A := ⟨[], [], [], [], psG⟩) Tryz.func24 (by kernel_rfl) (by kernel_rfl) (by kernel_rfl : vc24 x_0 v Q = _) h

def vc25 (s_0 : ByteArray) (v : World) (Q : Value → World → Prop) : Prop :=
 NewAt v (.cells #[.string s_0, .int .i64 0, .int .i64 0, .bool false] 79 (0, 0)) fun a1 w2 =>
 Trip Tryz.prog 63 #[.pointer (some (a1.add 0))] w2 fun r3 w4 =>
 ∃ n5 : Int, ∃ n6 : Int, ∃ x7 : Sl, r3 = .agg #[.int .i64 n5, .int .i64 n6, x7.val] ∧
 ∃ q8 : Bool, w4.cell? (a1.add 3) = some (.bool q8) ∧
 ∃ q9 : Bool, ((q8 || (s_0.toList == (ByteArray.mk #[]).toList)) = false →
 (Trip Tryz.prog 57 #[.agg #[.int .i64 n5, .int .i64 n6, x7.val]] w4 fun r10 w11 => r10 = .bool q9 ∧ Sub w4 w11)) ∧
 ∃ s12 : ByteArray, (((q8 || (s_0.toList == (ByteArray.mk #[]).toList)) || (!q9)) = false →
 (Trip Tryz.prog 58 #[.agg #[.int .i64 n5, .int .i64 n6, x7.val]] w4 fun r13 w14 => r13 = .string s12 ∧ Sub w4 w14)) ∧
 ((((q8 || (s_0.toList == (ByteArray.mk #[]).toList)) || (!q9)) || (!(s12.toList == s_0.toList))) = true →
 Q (.tuple #[.agg #[.int .i64 0, .int .i64 0, .slice none 0 0], .bool false]) w4) ∧
 ((((q8 || (s_0.toList == (ByteArray.mk #[]).toList)) || (!q9)) || (!(s12.toList == s_0.toList))) = false →
 Q (.tuple #[.agg #[.int .i64 n5, .int .i64 n6, x7.val], .bool true]) w4)
theorem of25 (s_0 : ByteArray) (v : World) (Q : Value → World → Prop) (h : vc25 s_0 v Q) : Trip Tryz.prog 25 #[.string s_0] v Q :=
 trip_of_eq (args := [.st s_0]) (A := ⟨[], [], [], [8], psG⟩) Tryz.func25 (by kernel_rfl) (by kernel_rfl) (by kernel_rfl : vc25 s_0 v Q = _) h

def vc26 (n0_0 : Int) (n0_1 : Int) (x0_2 : Sl) (v : World) (Q : Value → World → Prop) : Prop :=
 NewAt v (.cells #[.int .i64 0] 3 (0, 0)) fun a1 w2 =>
 StoreAt w2 a1 0 [.int .i64 0] fun w3 =>
 Trip Tryz.prog 64 #[.agg #[.int .i64 n0_0, .int .i64 n0_1, x0_2.val], .pointer (some (a1.add 0))] w3 fun r4 w5 =>
 ∃ q6 : Bool, r4 = .bool q6 ∧
 ((!q6) = true →
 Q (.int .i64 (-1)) w5) ∧
 ((!q6) = false →
 ∃ n7 : Int, w5.cell? (a1.add 0) = some (.int .i64 n7) ∧
 Q (.int .i64 n7) w5)
theorem of26 (n0_0 : Int) (n0_1 : Int) (x0_2 : Sl) (v : World) (Q : Value → World → Prop) (h : vc26 n0_0 n0_1 x0_2 v Q) : Trip Tryz.prog 26 #[.agg #[.int .i64 n0_0, .int .i64 n0_1, x0_2.val]] v Q :=
 trip_of_eq (args := [.ag [.num .i64 n0_0, .num .i64 n0_1, .sl x0_2]]) (A := ⟨[], [], [], [3], psG⟩) Tryz.func26 (by kernel_rfl) (by kernel_rfl) (by kernel_rfl : vc26 n0_0 n0_1 x0_2 v Q = _) h

def vc43 (a_0 : Addr) (v : World) (Q : Value → World → Prop) : Prop :=
 ∃ n1 : Int, v.cell? (a_0.add 1) = some (.int .i64 n1) ∧
 ∃ s2 : ByteArray, v.cell? (a_0.add 0) = some (.string s2) ∧
 ((decide (n1 ≥ (s2.size : Int))) = true →
 Q (.int .i64 0) v) ∧
 ((decide (n1 ≥ (s2.size : Int))) = false →
 ∃ s3 : ByteArray, v.cell? (a_0.add 0) = some (.string s3) ∧
 ∃ n4 : Int, v.cell? (a_0.add 1) = some (.int .i64 n4) ∧
 StrIxOk s3 n4 ∧
 ∃ n5 : Int, Wr .i64 (strIx s3 n4) n5 ∧
 Q (.int .i64 n5) v)
theorem of43 (a_0 : Addr) (v : World) (Q : Value → World → Prop) (h : vc43 a_0 v Q) : Trip Tryz.prog 43 #[.pointer (some (a_0.add 0))] v Q :=
 trip_of_eq (args := [.pt a_0 0]) (A := ⟨[], [], [], [], psG⟩) Tryz.func43 (by kernel_rfl) (by kernel_rfl) (by kernel_rfl : vc43 a_0 v Q = _) h

def vc54 (x_0 : Sl) (v : World) (Q : Value → World → Prop) : Prop :=
 ((decide ((x_0.n : Int) > 2000)) = true →
 CutOk x_0 0 2000 ∧
 NewAt v (.cells #[(x_0.cut 0 2000 1).val, .int .i64 0] 137 (0, 0)) fun a1 w2 =>
 Q (.pointer (some (a1.add 0))) w2) ∧
 ((decide ((x_0.n : Int) > 2000)) = false →
 NewAt v (.cells #[x_0.val, .int .i64 0] 137 (0, 0)) fun a3 w4 =>
 Q (.pointer (some (a3.add 0))) w4)
theorem of54 (x_0 : Sl) (v : World) (Q : Value → World → Prop) (h : vc54 x_0 v Q) : Trip Tryz.prog 54 #[x_0.val] v Q :=
 trip_of_eq (args := [.sl x_0]) (A := ⟨[], [], [], [10], psG⟩) Tryz.func54 (by kernel_rfl) (by kernel_rfl) (by kernel_rfl : vc54 x_0 v Q = _) h

def vc55 (a_0 : Addr) (n1_0 : Int) (n1_1 : Int) (x1_2 : Sl) (v : World) (Q : Value → World → Prop) : Prop :=
 ((decide (n1_0 = 0)) = true →
 ∃ s1 : ByteArray, (Trip Tryz.prog 38 #[.int .i64 n1_1] v fun r2 w3 => r2 = .string s1 ∧ Sub v w3) ∧
 Trip Tryz.prog 37 #[.pointer (some (a_0.add 0)), .string s1] v fun r4 w5 =>
 ∃ n6 : Int, ∃ y7 : Vl, r4 = .tuple #[.int .i64 n6, y7.x] ∧
 ∃ q8 : Bool, ((decide ((x1_2.n : Int) = 0)) = true →
 (Trip Tryz.prog 104 #[.int .i64 n1_1] w5 fun r9 w10 => r9 = .bool q8 ∧ Sub w5 w10)) ∧
 Q (.bool ((decide ((x1_2.n : Int) = 0)) && q8)) w5) ∧
 ((decide (n1_0 = 0)) = false →
 ((decide (n1_0 = 12)) = true →
 ∃ s11 : ByteArray, (Trip Tryz.prog 38 #[.int .i64 n1_1] v fun r12 w13 => r12 = .string s11 ∧ Sub v w13) ∧
 (((ByteArray.mk #[118]).size + s11.size : Nat) : Int) ≤ 9223372036854775807 ∧
 Trip Tryz.prog 37 #[.pointer (some (a_0.add 0)), .string ((ByteArray.mk #[118]) ++ s11)] v fun r14 w15 =>
 ∃ n16 : Int, ∃ y17 : Vl, r14 = .tuple #[.int .i64 n16, y17.x] ∧
 Q (.bool ((decide ((x1_2.n : Int) = 0)) && ((decide (n1_1 ≥ 0)) && (decide (n1_1 ≤ 99))))) w15) ∧
 ((decide (n1_0 = 12)) = false →
 ∃ s18 : ByteArray, ∃ q19 : Bool, (Trip Tryz.prog 105 #[.int .i64 n1_0] v fun r20 w21 => r20 = .tuple #[.string s18, .bool q19] ∧ Sub v w21) ∧
 (((ByteArray.mk #[40]).size + s18.size : Nat) : Int) ≤ 9223372036854775807 ∧
 Trip Tryz.prog 37 #[.pointer (some (a_0.add 0)), .string ((ByteArray.mk #[40]) ++ s18)] v fun r22 w23 =>
 ∃ n24 : Int, ∃ y25 : Vl, r22 = .tuple #[.int .i64 n24, y25.x] ∧
 ((((s18.toList == (ByteArray.mk #[]).toList) || (q19 && (!((decide (n1_1 ≥ 0)) && (decide (n1_1 ≤ 99)))))) || ((!q19) && (!decide (n1_1 = 0)))) = true →
 Q (.bool false) w23) ∧
 ((((s18.toList == (ByteArray.mk #[]).toList) || (q19 && (!((decide (n1_1 ≥ 0)) && (decide (n1_1 ≤ 99)))))) || ((!q19) && (!decide (n1_1 = 0)))) = false →
 (q19 = true →
 ∃ s26 : ByteArray, (Trip Tryz.prog 38 #[.int .i64 n1_1] w23 fun r27 w28 => r27 = .string s26 ∧ Sub w23 w28) ∧
 Trip Tryz.prog 37 #[.pointer (some (a_0.add 0)), .string s26] w23 fun r29 w30 =>
 ∃ n31 : Int, ∃ y32 : Vl, r29 = .tuple #[.int .i64 n31, y32.x] ∧
 ∃ I33 : Int → World → Prop, ∃ m34 : Int → World → Nat, I33 0 w30 ∧
 ∀ n35 : Int, ∀ w36 : World, I33 n35 w36 →
 ((decide (n35 < (x1_2.n : Int))) = true →
 IxOk x1_2 n35 ∧
 ldT w36 x1_2 n35 fun n37 n38 x39 =>
 Trip Tryz.prog 37 #[.pointer (some (a_0.add 0)), .string (ByteArray.mk #[32])] w36 fun r40 w41 =>
 ∃ n42 : Int, ∃ y43 : Vl, r40 = .tuple #[.int .i64 n42, y43.x] ∧
 Trip Tryz.prog 55 #[.pointer (some (a_0.add 0)), .agg #[.int .i64 n37, .int .i64 n38, x39.val]] w41 fun r44 w45 =>
 ∃ q46 : Bool, r44 = .bool q46 ∧
 ((!q46) = true →
 Q (.bool false) w45) ∧
 ((!q46) = false →
 ∃ n47 : Int, Wr .i64 (n35 + 1) n47 ∧
 eqS (.num .i64 n1_0) ∧
 eqS (.num .i64 n1_1) ∧
 eqS (.sl x1_2) ∧
 I33 n47 w45 ∧
 m34 n47 w45 < m34 n35 w36)) ∧
 ((decide (n35 < (x1_2.n : Int))) = false →
 Trip Tryz.prog 37 #[.pointer (some (a_0.add 0)), .string (ByteArray.mk #[41])] w36 fun r48 w49 =>
 ∃ n50 : Int, ∃ y51 : Vl, r48 = .tuple #[.int .i64 n50, y51.x] ∧
 Q (.bool true) w49)) ∧
 (q19 = false →
 ∃ I52 : Int → World → Prop, ∃ m53 : Int → World → Nat, I52 0 w23 ∧
 ∀ n54 : Int, ∀ w55 : World, I52 n54 w55 →
 ((decide (n54 < (x1_2.n : Int))) = true →
 IxOk x1_2 n54 ∧
 ldT w55 x1_2 n54 fun n56 n57 x58 =>
 Trip Tryz.prog 37 #[.pointer (some (a_0.add 0)), .string (ByteArray.mk #[32])] w55 fun r59 w60 =>
 ∃ n61 : Int, ∃ y62 : Vl, r59 = .tuple #[.int .i64 n61, y62.x] ∧
 Trip Tryz.prog 55 #[.pointer (some (a_0.add 0)), .agg #[.int .i64 n56, .int .i64 n57, x58.val]] w60 fun r63 w64 =>
 ∃ q65 : Bool, r63 = .bool q65 ∧
 ((!q65) = true →
 Q (.bool false) w64) ∧
 ((!q65) = false →
 ∃ n66 : Int, Wr .i64 (n54 + 1) n66 ∧
 eqS (.num .i64 n1_0) ∧
 eqS (.num .i64 n1_1) ∧
 eqS (.sl x1_2) ∧
 I52 n66 w64 ∧
 m53 n66 w64 < m53 n54 w55)) ∧
 ((decide (n54 < (x1_2.n : Int))) = false →
 Trip Tryz.prog 37 #[.pointer (some (a_0.add 0)), .string (ByteArray.mk #[41])] w55 fun r67 w68 =>
 ∃ n69 : Int, ∃ y70 : Vl, r67 = .tuple #[.int .i64 n69, y70.x] ∧
 Q (.bool true) w68)))))
theorem of55 (a_0 : Addr) (n1_0 : Int) (n1_1 : Int) (x1_2 : Sl) (v : World) (Q : Value → World → Prop) (h : vc55 a_0 n1_0 n1_1 x1_2 v Q) : Trip Tryz.prog 55 #[.pointer (some (a_0.add 0)), .agg #[.int .i64 n1_0, .int .i64 n1_1, x1_2.val]] v Q :=
 trip_of_eq (args := [.pt a_0 0, .ag [.num .i64 n1_0, .num .i64 n1_1, .sl x1_2]]) (A := ⟨[(16, [(90, .int .i64)], [])], [], [], [], psG⟩) Tryz.func55 (by kernel_rfl) (by kernel_rfl) (by kernel_rfl : vc55 a_0 n1_0 n1_1 x1_2 v Q = _) h

def vc56 (n0_0 : Int) (n0_1 : Int) (x0_2 : Sl) (v : World) (Q : Value → World → Prop) : Prop :=
 ∃ n1 : Int, (Trip Tryz.prog 106 #[.agg #[.int .i64 n0_0, .int .i64 n0_1, x0_2.val], .int .i64 30] v fun r2 w3 => r2 = .int .i64 n1 ∧ Sub v w3) ∧
 ((decide (n1 < 0)) = true →
 Q (.int .i64 (-1)) v) ∧
 ((decide (n1 < 0)) = false →
 ∃ n4 : Int, Wr .i64 (30 - n1) n4 ∧
 Q (.int .i64 n4) v)
theorem of56 (n0_0 : Int) (n0_1 : Int) (x0_2 : Sl) (v : World) (Q : Value → World → Prop) (h : vc56 n0_0 n0_1 x0_2 v Q) : Trip Tryz.prog 56 #[.agg #[.int .i64 n0_0, .int .i64 n0_1, x0_2.val]] v Q :=
 trip_of_eq (args := [.ag [.num .i64 n0_0, .num .i64 n0_1, .sl x0_2]]) (A := ⟨[], [], [], [], psG⟩) Tryz.func56 (by kernel_rfl) (by kernel_rfl) (by kernel_rfl : vc56 n0_0 n0_1 x0_2 v Q = _) h

def vc57 (n0_0 : Int) (n0_1 : Int) (x0_2 : Sl) (v : World) (Q : Value → World → Prop) : Prop :=
 ∃ q1 : Bool, (Trip Tryz.prog 107 #[.int .i64 n0_0, .int .i64 0, .int .i64 13] v fun r2 w3 => r2 = .bool q1 ∧ Sub v w3) ∧
 (((!q1) || (((decide (n0_0 = 0)) || (decide (n0_0 = 12))) && (decide ((x0_2.n : Int) > 0)))) = true →
 Q (.bool false) v) ∧
 (((!q1) || (((decide (n0_0 = 0)) || (decide (n0_0 = 12))) && (decide ((x0_2.n : Int) > 0)))) = false →
 ∃ q4 : Bool, ((decide (n0_0 = 0)) = true →
 (Trip Tryz.prog 107 #[.int .i64 n0_1, .int .i64 (-999), .int .i64 999] v fun r5 w6 => r5 = .bool q4 ∧ Sub v w6)) ∧
 (((decide (n0_0 = 0)) && (!q4)) = true →
 Q (.bool false) v) ∧
 (((decide (n0_0 = 0)) && (!q4)) = false →
 ∃ q7 : Bool, ((decide (n0_0 = 12)) = false →
 (Trip Tryz.prog 108 #[.int .i64 n0_0] v fun r8 w9 => r8 = .bool q7 ∧ Sub v w9)) ∧
 ∃ q10 : Bool, (((decide (n0_0 = 12)) || q7) = true →
 (Trip Tryz.prog 107 #[.int .i64 n0_1, .int .i64 0, .int .i64 99] v fun r11 w12 => r11 = .bool q10 ∧ Sub v w12)) ∧
 ((((decide (n0_0 = 12)) || q7) && (!q10)) = true →
 Q (.bool false) v) ∧
 ((((decide (n0_0 = 12)) || q7) && (!q10)) = false →
 ∃ q13 : Bool, (((!decide (n0_0 = 0)) && (!decide (n0_0 = 12))) = true →
 (Trip Tryz.prog 108 #[.int .i64 n0_0] v fun r14 w15 => r14 = .bool q13 ∧ Sub v w15)) ∧
 (((((!decide (n0_0 = 0)) && (!decide (n0_0 = 12))) && (!q13)) && (!decide (n0_1 = 0))) = true →
 Q (.bool false) v) ∧
 (((((!decide (n0_0 = 0)) && (!decide (n0_0 = 12))) && (!q13)) && (!decide (n0_1 = 0))) = false →
 ∃ I16 : Int → World → Prop, ∃ m17 : Int → World → Nat, I16 0 v ∧
 ∀ n18 : Int, ∀ w19 : World, I16 n18 w19 →
 ((decide (n18 < (x0_2.n : Int))) = true →
 IxOk x0_2 n18 ∧
 ldT w19 x0_2 n18 fun n20 n21 x22 =>
 ∃ q23 : Bool, (Trip Tryz.prog 57 #[.agg #[.int .i64 n20, .int .i64 n21, x22.val]] w19 fun r24 w25 => r24 = .bool q23 ∧ Sub w19 w25) ∧
 ((!q23) = true →
 Q (.bool false) w19) ∧
 ((!q23) = false →
 ∃ n26 : Int, Wr .i64 (n18 + 1) n26 ∧
 eqS (.num .i64 n0_0) ∧
 eqS (.num .i64 n0_1) ∧
 eqS (.sl x0_2) ∧
 I16 n26 w19 ∧
 m17 n26 w19 < m17 n18 w19)) ∧
 ((decide (n18 < (x0_2.n : Int))) = false →
 Q (.bool true) w19)))))
theorem of57 (n0_0 : Int) (n0_1 : Int) (x0_2 : Sl) (v : World) (Q : Value → World → Prop) (h : vc57 n0_0 n0_1 x0_2 v Q) : Trip Tryz.prog 57 #[.agg #[.int .i64 n0_0, .int .i64 n0_1, x0_2.val]] v Q :=
 trip_of_eq (args := [.ag [.num .i64 n0_0, .num .i64 n0_1, .sl x0_2]]) (A := ⟨[(10, [(3, .int .i64)], [])], [], [], [], psG⟩) Tryz.func57 (by kernel_rfl) (by kernel_rfl) (by kernel_rfl : vc57 n0_0 n0_1 x0_2 v Q = _) h

def vc58 (n0_0 : Int) (n0_1 : Int) (x0_2 : Sl) (v : World) (Q : Value → World → Prop) : Prop :=
 ((decide (n0_0 = 0)) = true →
 ∃ s1 : ByteArray, (Trip Tryz.prog 77 #[.int .i64 n0_1] v fun r2 w3 => r2 = .string s1 ∧ Sub v w3) ∧
 Q (.string s1) v) ∧
 ((decide (n0_0 = 0)) = false →
 ((decide (n0_0 = 12)) = true →
 ∃ s4 : ByteArray, (Trip Tryz.prog 77 #[.int .i64 n0_1] v fun r5 w6 => r5 = .string s4 ∧ Sub v w6) ∧
 (((ByteArray.mk #[118]).size + s4.size : Nat) : Int) ≤ 9223372036854775807 ∧
 Q (.string ((ByteArray.mk #[118]) ++ s4)) v) ∧
 ((decide (n0_0 = 12)) = false →
 ∃ s7 : ByteArray, (Trip Tryz.prog 109 #[.int .i64 n0_0] v fun r8 w9 => r8 = .string s7 ∧ Sub v w9) ∧
 (((ByteArray.mk #[40]).size + s7.size : Nat) : Int) ≤ 9223372036854775807 ∧
 ∃ q10 : Bool, (Trip Tryz.prog 108 #[.int .i64 n0_0] v fun r11 w12 => r11 = .bool q10 ∧ Sub v w12) ∧
 (q10 = true →
 ∃ s13 : ByteArray, (Trip Tryz.prog 77 #[.int .i64 n0_1] v fun r14 w15 => r14 = .string s13 ∧ Sub v w15) ∧
 ((((ByteArray.mk #[40]) ++ s7).size + s13.size : Nat) : Int) ≤ 9223372036854775807 ∧
 ∃ I16 : ByteArray → Int → World → Prop, ∃ m17 : ByteArray → Int → World → Nat, I16 (((ByteArray.mk #[40]) ++ s7) ++ s13) 0 v ∧
 ∀ s18 : ByteArray, ∀ n19 : Int, ∀ w20 : World, I16 s18 n19 w20 →
 ((decide (n19 < (x0_2.n : Int))) = true →
 ((s18.size + (ByteArray.mk #[32]).size : Nat) : Int) ≤ 9223372036854775807 ∧
 IxOk x0_2 n19 ∧
 ldT w20 x0_2 n19 fun n21 n22 x23 =>
 ∃ s24 : ByteArray, (Trip Tryz.prog 58 #[.agg #[.int .i64 n21, .int .i64 n22, x23.val]] w20 fun r25 w26 => r25 = .string s24 ∧ Sub w20 w26) ∧
 (((s18 ++ (ByteArray.mk #[32])).size + s24.size : Nat) : Int) ≤ 9223372036854775807 ∧
 ∃ n27 : Int, Wr .i64 (n19 + 1) n27 ∧
 eqS (.num .i64 n0_0) ∧
 eqS (.num .i64 n0_1) ∧
 eqS (.sl x0_2) ∧
 I16 ((s18 ++ (ByteArray.mk #[32])) ++ s24) n27 w20 ∧
 m17 ((s18 ++ (ByteArray.mk #[32])) ++ s24) n27 w20 < m17 s18 n19 w20) ∧
 ((decide (n19 < (x0_2.n : Int))) = false →
 ((s18.size + (ByteArray.mk #[41]).size : Nat) : Int) ≤ 9223372036854775807 ∧
 Q (.string (s18 ++ (ByteArray.mk #[41]))) w20)) ∧
 (q10 = false →
 ∃ I28 : ByteArray → Int → World → Prop, ∃ m29 : ByteArray → Int → World → Nat, I28 ((ByteArray.mk #[40]) ++ s7) 0 v ∧
 ∀ s30 : ByteArray, ∀ n31 : Int, ∀ w32 : World, I28 s30 n31 w32 →
 ((decide (n31 < (x0_2.n : Int))) = true →
 ((s30.size + (ByteArray.mk #[32]).size : Nat) : Int) ≤ 9223372036854775807 ∧
 IxOk x0_2 n31 ∧
 ldT w32 x0_2 n31 fun n33 n34 x35 =>
 ∃ s36 : ByteArray, (Trip Tryz.prog 58 #[.agg #[.int .i64 n33, .int .i64 n34, x35.val]] w32 fun r37 w38 => r37 = .string s36 ∧ Sub w32 w38) ∧
 (((s30 ++ (ByteArray.mk #[32])).size + s36.size : Nat) : Int) ≤ 9223372036854775807 ∧
 ∃ n39 : Int, Wr .i64 (n31 + 1) n39 ∧
 eqS (.num .i64 n0_0) ∧
 eqS (.num .i64 n0_1) ∧
 eqS (.sl x0_2) ∧
 I28 ((s30 ++ (ByteArray.mk #[32])) ++ s36) n39 w32 ∧
 m29 ((s30 ++ (ByteArray.mk #[32])) ++ s36) n39 w32 < m29 s30 n31 w32) ∧
 ((decide (n31 < (x0_2.n : Int))) = false →
 ((s30.size + (ByteArray.mk #[41]).size : Nat) : Int) ≤ 9223372036854775807 ∧
 Q (.string (s30 ++ (ByteArray.mk #[41]))) w32))))
theorem of58 (n0_0 : Int) (n0_1 : Int) (x0_2 : Sl) (v : World) (Q : Value → World → Prop) (h : vc58 n0_0 n0_1 x0_2 v Q) : Trip Tryz.prog 58 #[.agg #[.int .i64 n0_0, .int .i64 n0_1, x0_2.val]] v Q :=
 trip_of_eq (args := [.ag [.num .i64 n0_0, .num .i64 n0_1, .sl x0_2]]) (A := ⟨[(9, [(3, .str), (4, .int .i64)], [])], [], [], [], psG⟩) Tryz.func58 (by kernel_rfl) (by kernel_rfl) (by kernel_rfl : vc58 n0_0 n0_1 x0_2 v Q = _) h

def vc59 (a_0 : Addr) (v : World) (Q : Value → World → Prop) : Prop :=
 ∃ n1 : Int, v.cell? (a_0.add 1) = some (.int .i64 n1) ∧
 ∃ n2 : Int, Wr .i64 (n1 + 1) n2 ∧
 StoreAt v a_0 1 [.int .i64 n2] fun w3 =>
 ∃ n4 : Int, w3.cell? (a_0.add 1) = some (.int .i64 n4) ∧
 ((decide (n4 > 30)) = true →
 Q (.tuple #[.agg #[.int .i64 0, .int .i64 0, .slice none 0 0], .bool false]) w3) ∧
 ((decide (n4 > 30)) = false →
 Trip Tryz.prog 110 #[.pointer (some (a_0.add 0)), .int .u8 40] w3 fun r5 w6 =>
 ∃ q7 : Bool, r5 = .bool q7 ∧
 ((!q7) = true →
 Trip Tryz.prog 111 #[.pointer (some (a_0.add 0))] w6 fun r8 w9 =>
 ∃ s10 : ByteArray, r8 = .string s10 ∧
 ∃ s11 : ByteArray, ∃ q12 : Bool, (Trip Tryz.prog 112 #[.string s10, .string (ByteArray.mk #[118])] w9 fun r13 w14 => r13 = .tuple #[.string s11, .bool q12] ∧ Sub w9 w14) ∧
 (q12 = true →
 Trip Tryz.prog 93 #[.string s11] w9 fun r15 w16 =>
 ∃ n17 : Int, ∃ y18 : Vl, r15 = .tuple #[.int .i64 n17, y18.x] ∧
 (∃ q19 : Bool, PureT Tryz.prog (do eqGuard .eql 64 (.tmp 46) (.const (.nilIface)) (y18.x) ((Vl.mk Value.nilIface rfl).x); binOp .eql 64 (y18.x) ((Vl.mk Value.nilIface rfl).x)) w16 (.bool q19) ∧
 Q (.tuple #[.agg #[.int .i64 12, .int .i64 n17, .slice none 0 0], .bool q19]) w16) ∧
 ∃ q20 : Bool, PureT Tryz.prog (do eqGuard .eql 64 (.tmp 46) (.const (.nilIface)) (y18.x) ((Vl.mk Value.nilIface rfl).x); binOp .eql 64 (y18.x) ((Vl.mk Value.nilIface rfl).x)) w16 (.bool q20) ∧
 Q (.tuple #[.agg #[.int .i64 12, .int .i64 n17, .slice none 0 0], .bool q20]) w16) ∧
 (q12 = false →
 Trip Tryz.prog 93 #[.string s10] w9 fun r21 w22 =>
 ∃ n23 : Int, ∃ y24 : Vl, r21 = .tuple #[.int .i64 n23, y24.x] ∧
 (∃ q25 : Bool, PureT Tryz.prog (do eqGuard .eql 64 (.tmp 46) (.const (.nilIface)) (y24.x) ((Vl.mk Value.nilIface rfl).x); binOp .eql 64 (y24.x) ((Vl.mk Value.nilIface rfl).x)) w22 (.bool q25) ∧
 Q (.tuple #[.agg #[.int .i64 0, .int .i64 n23, .slice none 0 0], .bool q25]) w22) ∧
 ∃ q26 : Bool, PureT Tryz.prog (do eqGuard .eql 64 (.tmp 46) (.const (.nilIface)) (y24.x) ((Vl.mk Value.nilIface rfl).x); binOp .eql 64 (y24.x) ((Vl.mk Value.nilIface rfl).x)) w22 (.bool q26) ∧
 Q (.tuple #[.agg #[.int .i64 0, .int .i64 n23, .slice none 0 0], .bool q26]) w22)) ∧
 ((!q7) = false →
 Trip Tryz.prog 111 #[.pointer (some (a_0.add 0))] w6 fun r27 w28 =>
 ∃ s29 : ByteArray, r27 = .string s29 ∧
 ∃ n30 : Int, ∃ n31 : Int, ∃ x32 : Sl, ∃ q33 : Bool, (Trip Tryz.prog 113 #[.string s29] w28 fun r34 w35 => r34 = .tuple #[.agg #[.int .i64 n30, .int .i64 n31, x32.val], .bool q33] ∧ Sub w28 w35) ∧
 ∃ I36 : Bool → Sl → World → Prop, ∃ m37 : Bool → Sl → World → Nat, I36 q33 x32 w28 ∧
 ∀ q38 : Bool, ∀ x39 : Sl, ∀ w40 : World, I36 q38 x39 w40 →
 (q38 = true →
 Trip Tryz.prog 110 #[.pointer (some (a_0.add 0)), .int .u8 32] w40 fun r41 w42 =>
 ∃ q43 : Bool, r41 = .bool q43 ∧
 (q43 = true →
 Trip Tryz.prog 59 #[.pointer (some (a_0.add 0))] w42 fun r44 w45 =>
 ∃ n46 : Int, ∃ n47 : Int, ∃ x48 : Sl, ∃ q49 : Bool, r44 = .tuple #[.agg #[.int .i64 n46, .int .i64 n47, x48.val], .bool q49] ∧
 StepT Tryz.prog (Instr.buildSlice 40 1 #[(0, (.agg #[.int .i64 n46, .int .i64 n47, x48.val]))]) w45 fun r50 w51 =>
 ∃ x52 : Sl, r50 = x52.val ∧
 StepT Tryz.prog (Builtin.append_ #[40, 40] 40 #[(x39.val), (x52.val)]) w51 fun r53 w54 =>
 ∃ x55 : Sl, r53 = x55.val ∧
 eqS (.num .i64 0) ∧
 eqS (.num .i64 0) ∧
 eqS (.sl (Sl.mk none 0 0)) ∧
 eqS (.num .i64 n30) ∧
 eqS (.num .i64 n31) ∧
 I36 q49 x55 w54 ∧
 m37 q49 x55 w54 < m37 q38 x39 w40) ∧
 (q43 = false →
 (q38 = true →
 Trip Tryz.prog 110 #[.pointer (some (a_0.add 0)), .int .u8 41] w42 fun r56 w57 =>
 ∃ q58 : Bool, r56 = .bool q58 ∧
 Q (.tuple #[.agg #[.int .i64 n30, .int .i64 n31, x39.val], .bool q58]) w57 ∧
 Q (.tuple #[.agg #[.int .i64 n30, .int .i64 n31, x39.val], .bool q58]) w57) ∧
 (q38 = false →
 Q (.tuple #[.agg #[.int .i64 n30, .int .i64 n31, x39.val], .bool false]) w42 ∧
 Q (.tuple #[.agg #[.int .i64 n30, .int .i64 n31, x39.val], .bool false]) w42))) ∧
 (q38 = false →
 (q38 = true →
 Trip Tryz.prog 110 #[.pointer (some (a_0.add 0)), .int .u8 41] w40 fun r59 w60 =>
 ∃ q61 : Bool, r59 = .bool q61 ∧
 Q (.tuple #[.agg #[.int .i64 n30, .int .i64 n31, x39.val], .bool q61]) w60 ∧
 Q (.tuple #[.agg #[.int .i64 n30, .int .i64 n31, x39.val], .bool q61]) w60) ∧
 (q38 = false →
 Q (.tuple #[.agg #[.int .i64 n30, .int .i64 n31, x39.val], .bool false]) w40 ∧
 Q (.tuple #[.agg #[.int .i64 n30, .int .i64 n31, x39.val], .bool false]) w40))))
theorem of59 (a_0 : Addr) (v : World) (Q : Value → World → Prop) (h : vc59 a_0 v Q) : Trip Tryz.prog 59 #[.pointer (some (a_0.add 0))] v Q :=
 trip_of_eq (args := [.pt a_0 0]) (A := ⟨[(13, [(11, .bool)], [(1, 2, .sl)])], [], [(11, []), (17, [])], [], psG⟩) Tryz.func59 (by kernel_rfl) (by kernel_rfl) (by kernel_rfl : vc59 a_0 v Q = _) h

def vc60 (a_0 : Addr) (v : World) (Q : Value → World → Prop) : Prop :=
 Trip Tryz.prog 68 #[.pointer (some (a_0.add 0))] v fun r1 w2 =>
 ∃ x3 : Sl, ∃ x4 : Sl, r1 = .agg #[x3.val, x4.val] ∧
 Trip Tryz.prog 61 #[.pointer (some (a_0.add 0)), .int .i64 (x4.n : Int)] w2 fun r5 w6 =>
 ∃ n7 : Int, r5 = .int .i64 n7 ∧
 Q (.tuple #[.agg #[x3.val, x4.val], .int .i64 n7]) w6
theorem of60 (a_0 : Addr) (v : World) (Q : Value → World → Prop) (h : vc60 a_0 v Q) : Trip Tryz.prog 60 #[.pointer (some (a_0.add 0))] v Q :=
 trip_of_eq (args := [.pt a_0 0]) (A := ⟨[], [], [(2, [])], [], psG⟩) Tryz.func60 (by kernel_rfl) (by kernel_rfl) (by kernel_rfl : vc60 a_0 v Q = _) h

def vc61 (a_0 : Addr) (n_1 : Int) (v : World) (Q : Value → World → Prop) : Prop :=
 ∃ n1 : Int, v.cell? (a_0.add 1) = some (.int .i64 n1) ∧
 ∃ n2 : Int, Wr .i64 (n1 + 1) n2 ∧
 StoreAt v a_0 1 [.int .i64 n2] fun w3 =>
 ∃ x4 : Sl, ((decide (n_1 < 1)) = false →
 w3.cell? (a_0.add 0) = some (x4.val)) ∧
 (((decide (n_1 < 1)) || (decide ((x4.n : Int) = 0))) = true →
 Q (.int .i64 0) w3) ∧
 (((decide (n_1 < 1)) || (decide ((x4.n : Int) = 0))) = false →
 ∃ n5 : Int, w3.cell? (a_0.add 1) = some (.int .i64 n5) ∧
 ∃ n6 : Int, Wr .i64 (n5 - 1) n6 ∧
 ∃ x7 : Sl, w3.cell? (a_0.add 0) = some (x7.val) ∧
 ((decide (n6 < (x7.n : Int))) = true →
 ∃ x8 : Sl, w3.cell? (a_0.add 0) = some (x8.val) ∧
 IxOk x8 n6 ∧
 ∃ n9 : Int, w3.cell? ((elA x8 n6 1).add 0) = some (.int .u8 n9) ∧
 ∃ n10 : Int, Wr .i64 n9 n10 ∧
 (n_1 : Int) ≠ 0 ∧
 Q (.int .i64 (Int.tmod n10 n_1)) w3) ∧
 ((decide (n6 < (x7.n : Int))) = false →
 ∃ x11 : Sl, w3.cell? (a_0.add 0) = some (x11.val) ∧
 ∃ x12 : Sl, w3.cell? (a_0.add 0) = some (x12.val) ∧
 ((x12.n : Int) : Int) ≠ 0 ∧
 IxOk x11 (Int.tmod n6 (x12.n : Int)) ∧
 ∃ n13 : Int, w3.cell? ((elA x11 (Int.tmod n6 (x12.n : Int)) 1).add 0) = some (.int .u8 n13) ∧
 ∃ n14 : Int, Wr .i64 n13 n14 ∧
 ∃ n15 : Int, Wr .i64 (n14 * 131) n15 ∧
 ∃ x16 : Sl, w3.cell? (a_0.add 0) = some (x16.val) ∧
 ∃ n17 : Int, Wr .i64 (n6 * 7) n17 ∧
 ∃ n18 : Int, Wr .i64 (n17 + 3) n18 ∧
 ∃ x19 : Sl, w3.cell? (a_0.add 0) = some (x19.val) ∧
 ((x19.n : Int) : Int) ≠ 0 ∧
 IxOk x16 (Int.tmod n18 (x19.n : Int)) ∧
 ∃ n20 : Int, w3.cell? ((elA x16 (Int.tmod n18 (x19.n : Int)) 1).add 0) = some (.int .u8 n20) ∧
 ∃ n21 : Int, Wr .i64 n20 n21 ∧
 ∃ n22 : Int, Wr .i64 (n21 * 1117) n22 ∧
 ∃ n23 : Int, Wr .i64 (n15 + n22) n23 ∧
 ∃ n24 : Int, Wr .i64 (n6 * 29) n24 ∧
 ∃ n25 : Int, Wr .i64 (n23 + n24) n25 ∧
 ∃ x26 : Sl, w3.cell? (a_0.add 0) = some (x26.val) ∧
 ∃ n27 : Int, (((x26.n : Int) : Int) ≠ 0 ∧ Wr .i64 (Int.tdiv n6 (x26.n : Int)) n27) ∧
 ∃ n28 : Int, Wr .i64 (n27 * 53) n28 ∧
 ∃ n29 : Int, Wr .i64 (n25 + n28) n29 ∧
 ∃ n30 : Int, ((64 : Int) ≠ 0 ∧ Wr .i64 (Int.tdiv n29 64) n30) ∧
 ∃ n31 : Int, PureT Tryz.prog (do eqGuard .xor 3 (.tmp 92) (.tmp 94) (.int .i64 n29) (.int .i64 n30); binOp .xor 3 (.int .i64 n29) (.int .i64 n30)) w3 (.int .i64 n31) ∧
 (n_1 : Int) ≠ 0 ∧
 Q (.int .i64 (Int.tmod n31 n_1)) w3))
theorem of61 (a_0 : Addr) (n_1 : Int) (v : World) (Q : Value → World → Prop) (h : vc61 a_0 n_1 v Q) : Trip Tryz.prog 61 #[.pointer (some (a_0.add 0)), .int .i64 n_1] v Q :=
 trip_of_eq (args := [.pt a_0 0, .num .i64 n_1]) (A := ⟨[], [], [], [], psG⟩) Tryz.func61 (by kernel_rfl) (by kernel_rfl) (by kernel_rfl : vc61 a_0 n_1 v Q = _) h

def vc62 (a_0 : Addr) (s_1 : ByteArray) (v : World) (Q : Value → World → Prop) : Prop :=
 ∃ n1 : Int, Wr .i64 ((s_1.size : Int) + 1) n1 ∧
 Trip Tryz.prog 61 #[.pointer (some (a_0.add 0)), .int .i64 n1] v fun r2 w3 =>
 ∃ n4 : Int, r2 = .int .i64 n4 ∧
 Trip Tryz.prog 61 #[.pointer (some (a_0.add 0)), .int .i64 5] w3 fun r5 w6 =>
 ∃ n7 : Int, r5 = .int .i64 n7 ∧
 ((decide (n7 = 0)) = true →
 ((decide (n7 = 0)) = true →
 ((decide (n4 < (s_1.size : Int))) = true →
 ∃ n8 : Int, Wr .i64 (n4 + 1) n8 ∧
 (StrOk s_1 0 n4 ∧
 (StepT Tryz.prog (Instr.buildSlice 83 9 #[(0, (.string (ByteArray.mk #[48]))), (1, (.string (ByteArray.mk #[49]))), (2, (.string (ByteArray.mk #[32]))), (3, (.string (ByteArray.mk #[45]))), (4, (.string (ByteArray.mk #[44]))), (5, (.string (ByteArray.mk #[40]))), (6, (.string (ByteArray.mk #[41]))), (7, (.string (ByteArray.mk #[118]))), (8, (.string (ByteArray.mk #[97])))]) w6 fun r9 w10 =>
 ∃ x11 : Sl, r9 = x11.val ∧
 (Trip Tryz.prog 114 #[.pointer (some (a_0.add 0)), x11.val] w10 fun r12 w13 =>
 ∃ s14 : ByteArray, r12 = .string s14 ∧
 (((strCut s_1 0 n4).size + s14.size : Nat) : Int) ≤ 9223372036854775807 ∧
 ((0 : Int) ≤ n8 ∧ n8 ≤ (s_1.size : Int)) ∧
 ((((strCut s_1 0 n4) ++ s14).size + (strCut s_1 n8 (s_1.size : Int)).size : Nat) : Int) ≤ 9223372036854775807 ∧
 Q (.string (((strCut s_1 0 n4) ++ s14) ++ (strCut s_1 n8 (s_1.size : Int)))) w13) ∧
 ((0 : Int) ≤ n8 ∧ n8 ≤ (s_1.size : Int)) ∧
 Trip Tryz.prog 114 #[.pointer (some (a_0.add 0)), x11.val] w10 fun r15 w16 =>
 ∃ s17 : ByteArray, r15 = .string s17 ∧
 (((strCut s_1 0 n4).size + s17.size : Nat) : Int) ≤ 9223372036854775807 ∧
 ((((strCut s_1 0 n4) ++ s17).size + (strCut s_1 n8 (s_1.size : Int)).size : Nat) : Int) ≤ 9223372036854775807 ∧
 Q (.string (((strCut s_1 0 n4) ++ s17) ++ (strCut s_1 n8 (s_1.size : Int)))) w16) ∧
 ((0 : Int) ≤ n8 ∧ n8 ≤ (s_1.size : Int)) ∧
 StepT Tryz.prog (Instr.buildSlice 83 9 #[(0, (.string (ByteArray.mk #[48]))), (1, (.string (ByteArray.mk #[49]))), (2, (.string (ByteArray.mk #[32]))), (3, (.string (ByteArray.mk #[45]))), (4, (.string (ByteArray.mk #[44]))), (5, (.string (ByteArray.mk #[40]))), (6, (.string (ByteArray.mk #[41]))), (7, (.string (ByteArray.mk #[118]))), (8, (.string (ByteArray.mk #[97])))]) w6 fun r18 w19 =>
 ∃ x20 : Sl, r18 = x20.val ∧
 Trip Tryz.prog 114 #[.pointer (some (a_0.add 0)), x20.val] w19 fun r21 w22 =>
 ∃ s23 : ByteArray, r21 = .string s23 ∧
 (((strCut s_1 0 n4).size + s23.size : Nat) : Int) ≤ 9223372036854775807 ∧
 ((((strCut s_1 0 n4) ++ s23).size + (strCut s_1 n8 (s_1.size : Int)).size : Nat) : Int) ≤ 9223372036854775807 ∧
 Q (.string (((strCut s_1 0 n4) ++ s23) ++ (strCut s_1 n8 (s_1.size : Int)))) w22) ∧
 (StepT Tryz.prog (Instr.buildSlice 83 9 #[(0, (.string (ByteArray.mk #[48]))), (1, (.string (ByteArray.mk #[49]))), (2, (.string (ByteArray.mk #[32]))), (3, (.string (ByteArray.mk #[45]))), (4, (.string (ByteArray.mk #[44]))), (5, (.string (ByteArray.mk #[40]))), (6, (.string (ByteArray.mk #[41]))), (7, (.string (ByteArray.mk #[118]))), (8, (.string (ByteArray.mk #[97])))]) w6 fun r24 w25 =>
 ∃ x26 : Sl, r24 = x26.val ∧
 (StrOk s_1 0 n4 ∧
 (Trip Tryz.prog 114 #[.pointer (some (a_0.add 0)), x26.val] w25 fun r27 w28 =>
 ∃ s29 : ByteArray, r27 = .string s29 ∧
 (((strCut s_1 0 n4).size + s29.size : Nat) : Int) ≤ 9223372036854775807 ∧
 ((0 : Int) ≤ n8 ∧ n8 ≤ (s_1.size : Int)) ∧
 ((((strCut s_1 0 n4) ++ s29).size + (strCut s_1 n8 (s_1.size : Int)).size : Nat) : Int) ≤ 9223372036854775807 ∧
 Q (.string (((strCut s_1 0 n4) ++ s29) ++ (strCut s_1 n8 (s_1.size : Int)))) w28) ∧
 ((0 : Int) ≤ n8 ∧ n8 ≤ (s_1.size : Int)) ∧
 Trip Tryz.prog 114 #[.pointer (some (a_0.add 0)), x26.val] w25 fun r30 w31 =>
 ∃ s32 : ByteArray, r30 = .string s32 ∧
 (((strCut s_1 0 n4).size + s32.size : Nat) : Int) ≤ 9223372036854775807 ∧
 ((((strCut s_1 0 n4) ++ s32).size + (strCut s_1 n8 (s_1.size : Int)).size : Nat) : Int) ≤ 9223372036854775807 ∧
 Q (.string (((strCut s_1 0 n4) ++ s32) ++ (strCut s_1 n8 (s_1.size : Int)))) w31) ∧
 (Trip Tryz.prog 114 #[.pointer (some (a_0.add 0)), x26.val] w25 fun r33 w34 =>
 ∃ s35 : ByteArray, r33 = .string s35 ∧
 StrOk s_1 0 n4 ∧
 (((strCut s_1 0 n4).size + s35.size : Nat) : Int) ≤ 9223372036854775807 ∧
 ((0 : Int) ≤ n8 ∧ n8 ≤ (s_1.size : Int)) ∧
 ((((strCut s_1 0 n4) ++ s35).size + (strCut s_1 n8 (s_1.size : Int)).size : Nat) : Int) ≤ 9223372036854775807 ∧
 Q (.string (((strCut s_1 0 n4) ++ s35) ++ (strCut s_1 n8 (s_1.size : Int)))) w34) ∧
 ((0 : Int) ≤ n8 ∧ n8 ≤ (s_1.size : Int)) ∧
 (StrOk s_1 0 n4 ∧
 Trip Tryz.prog 114 #[.pointer (some (a_0.add 0)), x26.val] w25 fun r36 w37 =>
 ∃ s38 : ByteArray, r36 = .string s38 ∧
 (((strCut s_1 0 n4).size + s38.size : Nat) : Int) ≤ 9223372036854775807 ∧
 ((((strCut s_1 0 n4) ++ s38).size + (strCut s_1 n8 (s_1.size : Int)).size : Nat) : Int) ≤ 9223372036854775807 ∧
 Q (.string (((strCut s_1 0 n4) ++ s38) ++ (strCut s_1 n8 (s_1.size : Int)))) w37) ∧
 Trip Tryz.prog 114 #[.pointer (some (a_0.add 0)), x26.val] w25 fun r39 w40 =>
 ∃ s41 : ByteArray, r39 = .string s41 ∧
 StrOk s_1 0 n4 ∧
 (((strCut s_1 0 n4).size + s41.size : Nat) : Int) ≤ 9223372036854775807 ∧
 ((((strCut s_1 0 n4) ++ s41).size + (strCut s_1 n8 (s_1.size : Int)).size : Nat) : Int) ≤ 9223372036854775807 ∧
 Q (.string (((strCut s_1 0 n4) ++ s41) ++ (strCut s_1 n8 (s_1.size : Int)))) w40) ∧
 ((0 : Int) ≤ n8 ∧ n8 ≤ (s_1.size : Int)) ∧
 (StrOk s_1 0 n4 ∧
 StepT Tryz.prog (Instr.buildSlice 83 9 #[(0, (.string (ByteArray.mk #[48]))), (1, (.string (ByteArray.mk #[49]))), (2, (.string (ByteArray.mk #[32]))), (3, (.string (ByteArray.mk #[45]))), (4, (.string (ByteArray.mk #[44]))), (5, (.string (ByteArray.mk #[40]))), (6, (.string (ByteArray.mk #[41]))), (7, (.string (ByteArray.mk #[118]))), (8, (.string (ByteArray.mk #[97])))]) w6 fun r42 w43 =>
 ∃ x44 : Sl, r42 = x44.val ∧
 Trip Tryz.prog 114 #[.pointer (some (a_0.add 0)), x44.val] w43 fun r45 w46 =>
 ∃ s47 : ByteArray, r45 = .string s47 ∧
 (((strCut s_1 0 n4).size + s47.size : Nat) : Int) ≤ 9223372036854775807 ∧
 ((((strCut s_1 0 n4) ++ s47).size + (strCut s_1 n8 (s_1.size : Int)).size : Nat) : Int) ≤ 9223372036854775807 ∧
 Q (.string (((strCut s_1 0 n4) ++ s47) ++ (strCut s_1 n8 (s_1.size : Int)))) w46) ∧
 StepT Tryz.prog (Instr.buildSlice 83 9 #[(0, (.string (ByteArray.mk #[48]))), (1, (.string (ByteArray.mk #[49]))), (2, (.string (ByteArray.mk #[32]))), (3, (.string (ByteArray.mk #[45]))), (4, (.string (ByteArray.mk #[44]))), (5, (.string (ByteArray.mk #[40]))), (6, (.string (ByteArray.mk #[41]))), (7, (.string (ByteArray.mk #[118]))), (8, (.string (ByteArray.mk #[97])))]) w6 fun r48 w49 =>
 ∃ x50 : Sl, r48 = x50.val ∧
 (StrOk s_1 0 n4 ∧
 Trip Tryz.prog 114 #[.pointer (some (a_0.add 0)), x50.val] w49 fun r51 w52 =>
 ∃ s53 : ByteArray, r51 = .string s53 ∧
 (((strCut s_1 0 n4).size + s53.size : Nat) : Int) ≤ 9223372036854775807 ∧
 ((((strCut s_1 0 n4) ++ s53).size + (strCut s_1 n8 (s_1.size : Int)).size : Nat) : Int) ≤ 9223372036854775807 ∧
 Q (.string (((strCut s_1 0 n4) ++ s53) ++ (strCut s_1 n8 (s_1.size : Int)))) w52) ∧
 Trip Tryz.prog 114 #[.pointer (some (a_0.add 0)), x50.val] w49 fun r54 w55 =>
 ∃ s56 : ByteArray, r54 = .string s56 ∧
 StrOk s_1 0 n4 ∧
 (((strCut s_1 0 n4).size + s56.size : Nat) : Int) ≤ 9223372036854775807 ∧
 ((((strCut s_1 0 n4) ++ s56).size + (strCut s_1 n8 (s_1.size : Int)).size : Nat) : Int) ≤ 9223372036854775807 ∧
 Q (.string (((strCut s_1 0 n4) ++ s56) ++ (strCut s_1 n8 (s_1.size : Int)))) w55) ∧
 ((decide (n4 < (s_1.size : Int))) = false →
 Q (.string s_1) w6)) ∧
 ((decide (n7 = 0)) = false →
 ((decide (n7 = 2)) = true →
 StrOk s_1 0 n4 ∧
 Q (.string (strCut s_1 0 n4)) w6) ∧
 ((decide (n7 = 2)) = false →
 ((decide (n7 = 3)) = true →
 StepT Tryz.prog (Instr.buildSlice 83 6 #[(0, (.string (ByteArray.mk #[48]))), (1, (.string (ByteArray.mk #[32]))), (2, (.string (ByteArray.mk #[41]))), (3, (.string (ByteArray.mk #[10]))), (4, (.string (ByteArray.mk #[120]))), (5, (.string (ByteArray.mk #[32, 49])))]) w6 fun r57 w58 =>
 ∃ x59 : Sl, r57 = x59.val ∧
 Trip Tryz.prog 114 #[.pointer (some (a_0.add 0)), x59.val] w58 fun r60 w61 =>
 ∃ s62 : ByteArray, r60 = .string s62 ∧
 ((s_1.size + s62.size : Nat) : Int) ≤ 9223372036854775807 ∧
 Q (.string (s_1 ++ s62)) w61) ∧
 ((decide (n7 = 3)) = false →
 Q (.string s_1) w6)))) ∧
 ((decide (n7 = 0)) = false →
 ((decide (n7 = 1)) = true →
 ((decide (n4 < (s_1.size : Int))) = true →
 ∃ n63 : Int, Wr .i64 (n4 + 1) n63 ∧
 (StrOk s_1 0 n4 ∧
 (StepT Tryz.prog (Instr.buildSlice 83 9 #[(0, (.string (ByteArray.mk #[48]))), (1, (.string (ByteArray.mk #[49]))), (2, (.string (ByteArray.mk #[32]))), (3, (.string (ByteArray.mk #[45]))), (4, (.string (ByteArray.mk #[44]))), (5, (.string (ByteArray.mk #[40]))), (6, (.string (ByteArray.mk #[41]))), (7, (.string (ByteArray.mk #[118]))), (8, (.string (ByteArray.mk #[97])))]) w6 fun r64 w65 =>
 ∃ x66 : Sl, r64 = x66.val ∧
 (Trip Tryz.prog 114 #[.pointer (some (a_0.add 0)), x66.val] w65 fun r67 w68 =>
 ∃ s69 : ByteArray, r67 = .string s69 ∧
 (((strCut s_1 0 n4).size + s69.size : Nat) : Int) ≤ 9223372036854775807 ∧
 ((0 : Int) ≤ n63 ∧ n63 ≤ (s_1.size : Int)) ∧
 ((((strCut s_1 0 n4) ++ s69).size + (strCut s_1 n63 (s_1.size : Int)).size : Nat) : Int) ≤ 9223372036854775807 ∧
 Q (.string (((strCut s_1 0 n4) ++ s69) ++ (strCut s_1 n63 (s_1.size : Int)))) w68) ∧
 ((0 : Int) ≤ n63 ∧ n63 ≤ (s_1.size : Int)) ∧
 Trip Tryz.prog 114 #[.pointer (some (a_0.add 0)), x66.val] w65 fun r70 w71 =>
 ∃ s72 : ByteArray, r70 = .string s72 ∧
 (((strCut s_1 0 n4).size + s72.size : Nat) : Int) ≤ 9223372036854775807 ∧
 ((((strCut s_1 0 n4) ++ s72).size + (strCut s_1 n63 (s_1.size : Int)).size : Nat) : Int) ≤ 9223372036854775807 ∧
 Q (.string (((strCut s_1 0 n4) ++ s72) ++ (strCut s_1 n63 (s_1.size : Int)))) w71) ∧
 ((0 : Int) ≤ n63 ∧ n63 ≤ (s_1.size : Int)) ∧
 StepT Tryz.prog (Instr.buildSlice 83 9 #[(0, (.string (ByteArray.mk #[48]))), (1, (.string (ByteArray.mk #[49]))), (2, (.string (ByteArray.mk #[32]))), (3, (.string (ByteArray.mk #[45]))), (4, (.string (ByteArray.mk #[44]))), (5, (.string (ByteArray.mk #[40]))), (6, (.string (ByteArray.mk #[41]))), (7, (.string (ByteArray.mk #[118]))), (8, (.string (ByteArray.mk #[97])))]) w6 fun r73 w74 =>
 ∃ x75 : Sl, r73 = x75.val ∧
 Trip Tryz.prog 114 #[.pointer (some (a_0.add 0)), x75.val] w74 fun r76 w77 =>
 ∃ s78 : ByteArray, r76 = .string s78 ∧
 (((strCut s_1 0 n4).size + s78.size : Nat) : Int) ≤ 9223372036854775807 ∧
 ((((strCut s_1 0 n4) ++ s78).size + (strCut s_1 n63 (s_1.size : Int)).size : Nat) : Int) ≤ 9223372036854775807 ∧
 Q (.string (((strCut s_1 0 n4) ++ s78) ++ (strCut s_1 n63 (s_1.size : Int)))) w77) ∧
 (StepT Tryz.prog (Instr.buildSlice 83 9 #[(0, (.string (ByteArray.mk #[48]))), (1, (.string (ByteArray.mk #[49]))), (2, (.string (ByteArray.mk #[32]))), (3, (.string (ByteArray.mk #[45]))), (4, (.string (ByteArray.mk #[44]))), (5, (.string (ByteArray.mk #[40]))), (6, (.string (ByteArray.mk #[41]))), (7, (.string (ByteArray.mk #[118]))), (8, (.string (ByteArray.mk #[97])))]) w6 fun r79 w80 =>
 ∃ x81 : Sl, r79 = x81.val ∧
 (StrOk s_1 0 n4 ∧
 (Trip Tryz.prog 114 #[.pointer (some (a_0.add 0)), x81.val] w80 fun r82 w83 =>
 ∃ s84 : ByteArray, r82 = .string s84 ∧
 (((strCut s_1 0 n4).size + s84.size : Nat) : Int) ≤ 9223372036854775807 ∧
 ((0 : Int) ≤ n63 ∧ n63 ≤ (s_1.size : Int)) ∧
 ((((strCut s_1 0 n4) ++ s84).size + (strCut s_1 n63 (s_1.size : Int)).size : Nat) : Int) ≤ 9223372036854775807 ∧
 Q (.string (((strCut s_1 0 n4) ++ s84) ++ (strCut s_1 n63 (s_1.size : Int)))) w83) ∧
 ((0 : Int) ≤ n63 ∧ n63 ≤ (s_1.size : Int)) ∧
 Trip Tryz.prog 114 #[.pointer (some (a_0.add 0)), x81.val] w80 fun r85 w86 =>
 ∃ s87 : ByteArray, r85 = .string s87 ∧
 (((strCut s_1 0 n4).size + s87.size : Nat) : Int) ≤ 9223372036854775807 ∧
 ((((strCut s_1 0 n4) ++ s87).size + (strCut s_1 n63 (s_1.size : Int)).size : Nat) : Int) ≤ 9223372036854775807 ∧
 Q (.string (((strCut s_1 0 n4) ++ s87) ++ (strCut s_1 n63 (s_1.size : Int)))) w86) ∧
 (Trip Tryz.prog 114 #[.pointer (some (a_0.add 0)), x81.val] w80 fun r88 w89 =>
 ∃ s90 : ByteArray, r88 = .string s90 ∧
 StrOk s_1 0 n4 ∧
 (((strCut s_1 0 n4).size + s90.size : Nat) : Int) ≤ 9223372036854775807 ∧
 ((0 : Int) ≤ n63 ∧ n63 ≤ (s_1.size : Int)) ∧
 ((((strCut s_1 0 n4) ++ s90).size + (strCut s_1 n63 (s_1.size : Int)).size : Nat) : Int) ≤ 9223372036854775807 ∧
 Q (.string (((strCut s_1 0 n4) ++ s90) ++ (strCut s_1 n63 (s_1.size : Int)))) w89) ∧
 ((0 : Int) ≤ n63 ∧ n63 ≤ (s_1.size : Int)) ∧
 (StrOk s_1 0 n4 ∧
 Trip Tryz.prog 114 #[.pointer (some (a_0.add 0)), x81.val] w80 fun r91 w92 =>
 ∃ s93 : ByteArray, r91 = .string s93 ∧
 (((strCut s_1 0 n4).size + s93.size : Nat) : Int) ≤ 9223372036854775807 ∧
 ((((strCut s_1 0 n4) ++ s93).size + (strCut s_1 n63 (s_1.size : Int)).size : Nat) : Int) ≤ 9223372036854775807 ∧
 Q (.string (((strCut s_1 0 n4) ++ s93) ++ (strCut s_1 n63 (s_1.size : Int)))) w92) ∧
 Trip Tryz.prog 114 #[.pointer (some (a_0.add 0)), x81.val] w80 fun r94 w95 =>
 ∃ s96 : ByteArray, r94 = .string s96 ∧
 StrOk s_1 0 n4 ∧
 (((strCut s_1 0 n4).size + s96.size : Nat) : Int) ≤ 9223372036854775807 ∧
 ((((strCut s_1 0 n4) ++ s96).size + (strCut s_1 n63 (s_1.size : Int)).size : Nat) : Int) ≤ 9223372036854775807 ∧
 Q (.string (((strCut s_1 0 n4) ++ s96) ++ (strCut s_1 n63 (s_1.size : Int)))) w95) ∧
 ((0 : Int) ≤ n63 ∧ n63 ≤ (s_1.size : Int)) ∧
 (StrOk s_1 0 n4 ∧
 StepT Tryz.prog (Instr.buildSlice 83 9 #[(0, (.string (ByteArray.mk #[48]))), (1, (.string (ByteArray.mk #[49]))), (2, (.string (ByteArray.mk #[32]))), (3, (.string (ByteArray.mk #[45]))), (4, (.string (ByteArray.mk #[44]))), (5, (.string (ByteArray.mk #[40]))), (6, (.string (ByteArray.mk #[41]))), (7, (.string (ByteArray.mk #[118]))), (8, (.string (ByteArray.mk #[97])))]) w6 fun r97 w98 =>
 ∃ x99 : Sl, r97 = x99.val ∧
 Trip Tryz.prog 114 #[.pointer (some (a_0.add 0)), x99.val] w98 fun r100 w101 =>
 ∃ s102 : ByteArray, r100 = .string s102 ∧
 (((strCut s_1 0 n4).size + s102.size : Nat) : Int) ≤ 9223372036854775807 ∧
 ((((strCut s_1 0 n4) ++ s102).size + (strCut s_1 n63 (s_1.size : Int)).size : Nat) : Int) ≤ 9223372036854775807 ∧
 Q (.string (((strCut s_1 0 n4) ++ s102) ++ (strCut s_1 n63 (s_1.size : Int)))) w101) ∧
 StepT Tryz.prog (Instr.buildSlice 83 9 #[(0, (.string (ByteArray.mk #[48]))), (1, (.string (ByteArray.mk #[49]))), (2, (.string (ByteArray.mk #[32]))), (3, (.string (ByteArray.mk #[45]))), (4, (.string (ByteArray.mk #[44]))), (5, (.string (ByteArray.mk #[40]))), (6, (.string (ByteArray.mk #[41]))), (7, (.string (ByteArray.mk #[118]))), (8, (.string (ByteArray.mk #[97])))]) w6 fun r103 w104 =>
 ∃ x105 : Sl, r103 = x105.val ∧
 (StrOk s_1 0 n4 ∧
 Trip Tryz.prog 114 #[.pointer (some (a_0.add 0)), x105.val] w104 fun r106 w107 =>
 ∃ s108 : ByteArray, r106 = .string s108 ∧
 (((strCut s_1 0 n4).size + s108.size : Nat) : Int) ≤ 9223372036854775807 ∧
 ((((strCut s_1 0 n4) ++ s108).size + (strCut s_1 n63 (s_1.size : Int)).size : Nat) : Int) ≤ 9223372036854775807 ∧
 Q (.string (((strCut s_1 0 n4) ++ s108) ++ (strCut s_1 n63 (s_1.size : Int)))) w107) ∧
 Trip Tryz.prog 114 #[.pointer (some (a_0.add 0)), x105.val] w104 fun r109 w110 =>
 ∃ s111 : ByteArray, r109 = .string s111 ∧
 StrOk s_1 0 n4 ∧
 (((strCut s_1 0 n4).size + s111.size : Nat) : Int) ≤ 9223372036854775807 ∧
 ((((strCut s_1 0 n4) ++ s111).size + (strCut s_1 n63 (s_1.size : Int)).size : Nat) : Int) ≤ 9223372036854775807 ∧
 Q (.string (((strCut s_1 0 n4) ++ s111) ++ (strCut s_1 n63 (s_1.size : Int)))) w110) ∧
 ((decide (n4 < (s_1.size : Int))) = false →
 Q (.string s_1) w6)) ∧
 ((decide (n7 = 1)) = false →
 ((decide (n7 = 2)) = true →
 StrOk s_1 0 n4 ∧
 Q (.string (strCut s_1 0 n4)) w6) ∧
 ((decide (n7 = 2)) = false →
 ((decide (n7 = 3)) = true →
 StepT Tryz.prog (Instr.buildSlice 83 6 #[(0, (.string (ByteArray.mk #[48]))), (1, (.string (ByteArray.mk #[32]))), (2, (.string (ByteArray.mk #[41]))), (3, (.string (ByteArray.mk #[10]))), (4, (.string (ByteArray.mk #[120]))), (5, (.string (ByteArray.mk #[32, 49])))]) w6 fun r112 w113 =>
 ∃ x114 : Sl, r112 = x114.val ∧
 Trip Tryz.prog 114 #[.pointer (some (a_0.add 0)), x114.val] w113 fun r115 w116 =>
 ∃ s117 : ByteArray, r115 = .string s117 ∧
 ((s_1.size + s117.size : Nat) : Int) ≤ 9223372036854775807 ∧
 Q (.string (s_1 ++ s117)) w116) ∧
 ((decide (n7 = 3)) = false →
 Q (.string s_1) w6))))
theorem of62 (a_0 : Addr) (s_1 : ByteArray) (v : World) (Q : Value → World → Prop) (h : vc62 a_0 s_1 v Q) : Trip Tryz.prog 62 #[.pointer (some (a_0.add 0)), .string s_1] v Q :=
 trip_of_eq (args := [.pt a_0 0, .st s_1]) (A := ⟨[], [], [(6, [])], [], psG⟩) Tryz.func62 (by kernel_rfl) (by kernel_rfl) (by kernel_rfl : vc62 a_0 s_1 v Q = _) h

def vc63 (a_0 : Addr) (v : World) (Q : Value → World → Prop) : Prop :=
 ∃ n1 : Int, v.cell? (a_0.add 2) = some (.int .i64 n1) ∧
 ∃ n2 : Int, Wr .i64 (n1 + 1) n2 ∧
 StoreAt v a_0 2 [.int .i64 n2] fun w3 =>
 ∃ q4 : Bool, w3.cell? (a_0.add 3) = some (.bool q4) ∧
 ∃ n5 : Int, (q4 = false →
 w3.cell? (a_0.add 2) = some (.int .i64 n5)) ∧
 ((q4 || (decide (n5 > 30))) = true →
 StoreAt w3 a_0 3 [.bool true] fun w6 =>
 Q (.agg #[.int .i64 0, .int .i64 0, .slice none 0 0]) w6) ∧
 ((q4 || (decide (n5 > 30))) = false →
 ∃ n7 : Int, (Trip Tryz.prog 43 #[.pointer (some (a_0.add 0))] w3 fun r8 w9 => r8 = .int .i64 n7 ∧ Sub w3 w9) ∧
 ((decide (n7 = 118)) = true →
 ∃ n10 : Int, w3.cell? (a_0.add 1) = some (.int .i64 n10) ∧
 ∃ n11 : Int, Wr .i64 (n10 + 1) n11 ∧
 StoreAt w3 a_0 1 [.int .i64 n11] fun w12 =>
 Trip Tryz.prog 87 #[.pointer (some (a_0.add 0))] w12 fun r13 w14 =>
 ∃ n15 : Int, r13 = .int .i64 n15 ∧
 StepT Tryz.prog (Instr.buildSlice 40 0 #[]) w14 fun r16 w17 =>
 ∃ x18 : Sl, r16 = x18.val ∧
 Q (.agg #[.int .i64 12, .int .i64 n15, x18.val]) w17) ∧
 ((decide (n7 = 118)) = false →
 ∃ n19 : Int, (Trip Tryz.prog 43 #[.pointer (some (a_0.add 0))] w3 fun r20 w21 => r20 = .int .i64 n19 ∧ Sub w3 w21) ∧
 ((decide (n19 = 45)) = true →
 ∃ n22 : Int, w3.cell? (a_0.add 1) = some (.int .i64 n22) ∧
 ∃ n23 : Int, Wr .i64 (n22 + 1) n23 ∧
 StoreAt w3 a_0 1 [.int .i64 n23] fun w24 =>
 Trip Tryz.prog 87 #[.pointer (some (a_0.add 0))] w24 fun r25 w26 =>
 ∃ n27 : Int, r25 = .int .i64 n27 ∧
 ∃ n28 : Int, Wr .i64 (0 - n27) n28 ∧
 StepT Tryz.prog (Instr.buildSlice 40 0 #[]) w26 fun r29 w30 =>
 ∃ x31 : Sl, r29 = x31.val ∧
 Q (.agg #[.int .i64 0, .int .i64 n28, x31.val]) w30) ∧
 ((decide (n19 = 45)) = false →
 ∃ n32 : Int, (Trip Tryz.prog 43 #[.pointer (some (a_0.add 0))] w3 fun r33 w34 => r33 = .int .i64 n32 ∧ Sub w3 w34) ∧
 ((!decide (n32 = 40)) = true →
 Trip Tryz.prog 87 #[.pointer (some (a_0.add 0))] w3 fun r35 w36 =>
 ∃ n37 : Int, r35 = .int .i64 n37 ∧
 StepT Tryz.prog (Instr.buildSlice 40 0 #[]) w36 fun r38 w39 =>
 ∃ x40 : Sl, r38 = x40.val ∧
 Q (.agg #[.int .i64 0, .int .i64 n37, x40.val]) w39) ∧
 ((!decide (n32 = 40)) = false →
 ∃ n41 : Int, w3.cell? (a_0.add 1) = some (.int .i64 n41) ∧
 ∃ n42 : Int, Wr .i64 (n41 + 1) n42 ∧
 StoreAt w3 a_0 1 [.int .i64 n42] fun w43 =>
 Trip Tryz.prog 116 #[.pointer (some (a_0.add 0))] w43 fun r44 w45 =>
 ∃ s46 : ByteArray, r44 = .string s46 ∧
 ∃ n47 : Int, (Trip Tryz.prog 115 #[.string s46] w45 fun r48 w49 => r48 = .int .i64 n47 ∧ Sub w45 w49) ∧
 ((decide (n47 < 0)) = true →
 StoreAt w45 a_0 3 [.bool true] fun w50 =>
 Q (.agg #[.int .i64 0, .int .i64 0, .slice none 0 0]) w50) ∧
 ((decide (n47 < 0)) = false →
 ∃ q51 : Bool, (Trip Tryz.prog 108 #[.int .i64 n47] w45 fun r52 w53 => r52 = .bool q51 ∧ Sub w45 w53) ∧
 (q51 = true →
 Trip Tryz.prog 87 #[.pointer (some (a_0.add 0))] w45 fun r54 w55 =>
 ∃ n56 : Int, r54 = .int .i64 n56 ∧
 StepT Tryz.prog (Instr.buildSlice 40 0 #[]) w55 fun r57 w58 =>
 ∃ x59 : Sl, r57 = x59.val ∧
 ∃ I60 : Sl → World → Prop, ∃ m61 : Sl → World → Nat, I60 x59 w58 ∧
 ∀ x62 : Sl, ∀ w63 : World, I60 x62 w63 →
 ∃ q64 : Bool, w63.cell? (a_0.add 3) = some (.bool q64) ∧
 ∃ n65 : Int, ((!q64) = true →
 (Trip Tryz.prog 43 #[.pointer (some (a_0.add 0))] w63 fun r66 w67 => r66 = .int .i64 n65 ∧ Sub w63 w67)) ∧
 (((!q64) && (decide (n65 = 32))) = true →
 ∃ n68 : Int, w63.cell? (a_0.add 1) = some (.int .i64 n68) ∧
 ∃ n69 : Int, Wr .i64 (n68 + 1) n69 ∧
 StoreAt w63 a_0 1 [.int .i64 n69] fun w70 =>
 Trip Tryz.prog 63 #[.pointer (some (a_0.add 0))] w70 fun r71 w72 =>
 ∃ n73 : Int, ∃ n74 : Int, ∃ x75 : Sl, r71 = .agg #[.int .i64 n73, .int .i64 n74, x75.val] ∧
 StepT Tryz.prog (Instr.buildSlice 40 1 #[(0, (.agg #[.int .i64 n73, .int .i64 n74, x75.val]))]) w72 fun r76 w77 =>
 ∃ x78 : Sl, r76 = x78.val ∧
 StepT Tryz.prog (Builtin.append_ #[40, 40] 40 #[(x62.val), (x78.val)]) w77 fun r79 w80 =>
 ∃ x81 : Sl, r79 = x81.val ∧
 eqS (.num .i64 0) ∧
 eqS (.num .i64 0) ∧
 eqS (.sl (Sl.mk none 0 0)) ∧
 I60 x81 w80 ∧
 m61 x81 w80 < m61 x62 w63) ∧
 (((!q64) && (decide (n65 = 32))) = false →
 Trip Tryz.prog 86 #[.pointer (some (a_0.add 0)), .string (ByteArray.mk #[41])] w63 fun r82 w83 =>
 r82 = .tuple #[] ∧
 Q (.agg #[.int .i64 n47, .int .i64 n56, x62.val]) w83)) ∧
 (q51 = false →
 StepT Tryz.prog (Instr.buildSlice 40 0 #[]) w45 fun r84 w85 =>
 ∃ x86 : Sl, r84 = x86.val ∧
 ∃ I87 : Sl → World → Prop, ∃ m88 : Sl → World → Nat, I87 x86 w85 ∧
 ∀ x89 : Sl, ∀ w90 : World, I87 x89 w90 →
 ∃ q91 : Bool, w90.cell? (a_0.add 3) = some (.bool q91) ∧
 ∃ n92 : Int, ((!q91) = true →
 (Trip Tryz.prog 43 #[.pointer (some (a_0.add 0))] w90 fun r93 w94 => r93 = .int .i64 n92 ∧ Sub w90 w94)) ∧
 (((!q91) && (decide (n92 = 32))) = true →
 ∃ n95 : Int, w90.cell? (a_0.add 1) = some (.int .i64 n95) ∧
 ∃ n96 : Int, Wr .i64 (n95 + 1) n96 ∧
 StoreAt w90 a_0 1 [.int .i64 n96] fun w97 =>
 Trip Tryz.prog 63 #[.pointer (some (a_0.add 0))] w97 fun r98 w99 =>
 ∃ n100 : Int, ∃ n101 : Int, ∃ x102 : Sl, r98 = .agg #[.int .i64 n100, .int .i64 n101, x102.val] ∧
 StepT Tryz.prog (Instr.buildSlice 40 1 #[(0, (.agg #[.int .i64 n100, .int .i64 n101, x102.val]))]) w99 fun r103 w104 =>
 ∃ x105 : Sl, r103 = x105.val ∧
 StepT Tryz.prog (Builtin.append_ #[40, 40] 40 #[(x89.val), (x105.val)]) w104 fun r106 w107 =>
 ∃ x108 : Sl, r106 = x108.val ∧
 eqS (.num .i64 0) ∧
 eqS (.num .i64 0) ∧
 eqS (.sl (Sl.mk none 0 0)) ∧
 I87 x108 w107 ∧
 m88 x108 w107 < m88 x89 w90) ∧
 (((!q91) && (decide (n92 = 32))) = false →
 Trip Tryz.prog 86 #[.pointer (some (a_0.add 0)), .string (ByteArray.mk #[41])] w90 fun r109 w110 =>
 r109 = .tuple #[] ∧
 Q (.agg #[.int .i64 n47, .int .i64 0, x89.val]) w110)))))))
theorem of63 (a_0 : Addr) (v : World) (Q : Value → World → Prop) (h : vc63 a_0 v Q) : Trip Tryz.prog 63 #[.pointer (some (a_0.add 0))] v Q :=
 trip_of_eq (args := [.pt a_0 0]) (A := ⟨[(22, [(5, .sl)], [])], [], [], [], psG⟩) Tryz.func63 (by kernel_rfl) (by kernel_rfl) (by kernel_rfl : vc63 a_0 v Q = _) h

def vc64 (n0_0 : Int) (n0_1 : Int) (x0_2 : Sl) (a_1 : Addr) (v : World) (Q : Value → World → Prop) : Prop :=
 ∃ n1 : Int, v.cell? (a_1.add 0) = some (.int .i64 n1) ∧
 ∃ n2 : Int, Wr .i64 (n1 + 1) n2 ∧
 StoreAt v a_1 0 [.int .i64 n2] fun w3 =>
 ∃ n4 : Int, w3.cell? (a_1.add 0) = some (.int .i64 n4) ∧
 ((decide (n4 > 30)) = true →
 Q (.bool false) w3) ∧
 ((decide (n4 > 30)) = false →
 ∃ I5 : Int → World → Prop, ∃ m6 : Int → World → Nat, I5 0 w3 ∧
 ∀ n7 : Int, ∀ w8 : World, I5 n7 w8 →
 ((decide (n7 < (x0_2.n : Int))) = true →
 IxOk x0_2 n7 ∧
 ldT w8 x0_2 n7 fun n9 n10 x11 =>
 Trip Tryz.prog 64 #[.agg #[.int .i64 n9, .int .i64 n10, x11.val], .pointer (some (a_1.add 0))] w8 fun r12 w13 =>
 ∃ q14 : Bool, r12 = .bool q14 ∧
 ((!q14) = true →
 Q (.bool false) w13) ∧
 ((!q14) = false →
 ∃ n15 : Int, Wr .i64 (n7 + 1) n15 ∧
 eqS (.num .i64 n0_0) ∧
 eqS (.num .i64 n0_1) ∧
 eqS (.sl x0_2) ∧
 I5 n15 w13 ∧
 m6 n15 w13 < m6 n7 w8)) ∧
 ((decide (n7 < (x0_2.n : Int))) = false →
 Q (.bool true) w8))
theorem of64 (n0_0 : Int) (n0_1 : Int) (x0_2 : Sl) (a_1 : Addr) (v : World) (Q : Value → World → Prop) (h : vc64 n0_0 n0_1 x0_2 a_1 v Q) : Trip Tryz.prog 64 #[.agg #[.int .i64 n0_0, .int .i64 n0_1, x0_2.val], .pointer (some (a_1.add 0))] v Q :=
 trip_of_eq (args := [.ag [.num .i64 n0_0, .num .i64 n0_1, .sl x0_2], .pt a_1 0]) (A := ⟨[(5, [(19, .int .i64)], [])], [], [], [], psG⟩) Tryz.func64 (by kernel_rfl) (by kernel_rfl) (by kernel_rfl : vc64 n0_0 n0_1 x0_2 a_1 v Q = _) h

def vc68 (a_0 : Addr) (v : World) (Q : Value → World → Prop) : Prop :=
 Trip Tryz.prog 118 #[.pointer (some (a_0.add 0))] v fun r1 w2 =>
 ∃ x3 : Sl, r1 = x3.val ∧
 ∃ J4 : Sl → World → Prop, (StepT Tryz.prog (Instr.buildSlice 68 1 #[(0, (.int .i64 1))]) w2 fun r5 w6 =>
 ∃ x7 : Sl, r5 = x7.val ∧
 Trip Tryz.prog 119 #[x7.val, .int .i64 0] w6 fun r8 w9 =>
 ∃ x10 : Sl, ∃ n11 : Int, ∃ n12 : Int, ∃ n13 : Int, ∃ x14 : Sl, r8 = .agg #[x10.val, .int .i64 n11, .int .i64 n12, .int .i64 n13, x14.val] ∧
 StepT Tryz.prog (Instr.buildSlice 68 2 #[(0, (.int .i64 1)), (1, (.int .i64 1))]) w9 fun r15 w16 =>
 ∃ x17 : Sl, r15 = x17.val ∧
 Trip Tryz.prog 119 #[x17.val, .int .i64 1] w16 fun r18 w19 =>
 ∃ x20 : Sl, ∃ n21 : Int, ∃ n22 : Int, ∃ n23 : Int, ∃ x24 : Sl, r18 = .agg #[x20.val, .int .i64 n21, .int .i64 n22, .int .i64 n23, x24.val] ∧
 StepT Tryz.prog (Instr.buildSlice 68 1 #[(0, (.int .i64 1))]) w19 fun r25 w26 =>
 ∃ x27 : Sl, r25 = x27.val ∧
 Trip Tryz.prog 119 #[x27.val, .int .i64 1] w26 fun r28 w29 =>
 ∃ x30 : Sl, ∃ n31 : Int, ∃ n32 : Int, ∃ n33 : Int, ∃ x34 : Sl, r28 = .agg #[x30.val, .int .i64 n31, .int .i64 n32, .int .i64 n33, x34.val] ∧
 StepT Tryz.prog (Instr.buildSlice 68 2 #[(0, (.int .i64 1)), (1, (.int .i64 0))]) w29 fun r35 w36 =>
 ∃ x37 : Sl, r35 = x37.val ∧
 Trip Tryz.prog 119 #[x37.val, .int .i64 1] w36 fun r38 w39 =>
 ∃ x40 : Sl, ∃ n41 : Int, ∃ n42 : Int, ∃ n43 : Int, ∃ x44 : Sl, r38 = .agg #[x40.val, .int .i64 n41, .int .i64 n42, .int .i64 n43, x44.val] ∧
 StepT Tryz.prog (Instr.buildSlice 68 2 #[(0, (.int .i64 2)), (1, (.int .i64 1))]) w39 fun r45 w46 =>
 ∃ x47 : Sl, r45 = x47.val ∧
 Trip Tryz.prog 119 #[x47.val, .int .i64 1] w46 fun r48 w49 =>
 ∃ x50 : Sl, ∃ n51 : Int, ∃ n52 : Int, ∃ n53 : Int, ∃ x54 : Sl, r48 = .agg #[x50.val, .int .i64 n51, .int .i64 n52, .int .i64 n53, x54.val] ∧
 StepT Tryz.prog (Instr.buildSlice 68 2 #[(0, (.int .i64 1)), (1, (.int .i64 1))]) w49 fun r55 w56 =>
 ∃ x57 : Sl, r55 = x57.val ∧
 Trip Tryz.prog 119 #[x57.val, .int .i64 0] w56 fun r58 w59 =>
 ∃ x60 : Sl, ∃ n61 : Int, ∃ n62 : Int, ∃ n63 : Int, ∃ x64 : Sl, r58 = .agg #[x60.val, .int .i64 n61, .int .i64 n62, .int .i64 n63, x64.val] ∧
 StepT Tryz.prog (Instr.buildSlice 29 6 #[(0, (.agg #[x10.val, .int .i64 n11, .int .i64 n12, .int .i64 n13, x14.val])), (1, (.agg #[x20.val, .int .i64 n21, .int .i64 n22, .int .i64 n23, x24.val])), (2, (.agg #[x30.val, .int .i64 n31, .int .i64 n32, .int .i64 n33, x34.val])), (3, (.agg #[x40.val, .int .i64 n41, .int .i64 n42, .int .i64 n43, x44.val])), (4, (.agg #[x50.val, .int .i64 n51, .int .i64 n52, .int .i64 n53, x54.val])), (5, (.agg #[x60.val, .int .i64 n61, .int .i64 n62, .int .i64 n63, x64.val]))]) w59 fun r65 w66 =>
 ∃ x67 : Sl, r65 = x67.val ∧
 eqS (.sl (Sl.mk none 0 0)) ∧
 eqS (.sl (Sl.mk none 0 0)) ∧
 eqS (.sl x3) ∧
 eqS (.sl (Sl.mk none 0 0)) ∧
 J4 x67 w66) ∧
 ∀ x68 : Sl, ∀ w69 : World, J4 x68 w69 →
 ∃ J70 : Sl → World → Prop, (StepT Tryz.prog (Instr.buildSlice 68 1 #[(0, (.int .i64 3))]) w69 fun r71 w72 =>
 ∃ x73 : Sl, r71 = x73.val ∧
 Trip Tryz.prog 119 #[x73.val, .int .i64 0] w72 fun r74 w75 =>
 ∃ x76 : Sl, ∃ n77 : Int, ∃ n78 : Int, ∃ n79 : Int, ∃ x80 : Sl, r74 = .agg #[x76.val, .int .i64 n77, .int .i64 n78, .int .i64 n79, x80.val] ∧
 StepT Tryz.prog (Instr.buildSlice 68 1 #[(0, (.int .i64 0))]) w75 fun r81 w82 =>
 ∃ x83 : Sl, r81 = x83.val ∧
 Trip Tryz.prog 119 #[x83.val, .int .i64 1] w82 fun r84 w85 =>
 ∃ x86 : Sl, ∃ n87 : Int, ∃ n88 : Int, ∃ n89 : Int, ∃ x90 : Sl, r84 = .agg #[x86.val, .int .i64 n87, .int .i64 n88, .int .i64 n89, x90.val] ∧
 StepT Tryz.prog (Instr.buildSlice 68 2 #[(0, (.int .i64 0)), (1, (.int .i64 1))]) w85 fun r91 w92 =>
 ∃ x93 : Sl, r91 = x93.val ∧
 Trip Tryz.prog 119 #[x93.val, .int .i64 1] w92 fun r94 w95 =>
 ∃ x96 : Sl, ∃ n97 : Int, ∃ n98 : Int, ∃ n99 : Int, ∃ x100 : Sl, r94 = .agg #[x96.val, .int .i64 n97, .int .i64 n98, .int .i64 n99, x100.val] ∧
 StepT Tryz.prog (Instr.buildSlice 68 2 #[(0, (.int .i64 3)), (1, (.int .i64 0))]) w95 fun r101 w102 =>
 ∃ x103 : Sl, r101 = x103.val ∧
 Trip Tryz.prog 119 #[x103.val, .int .i64 3] w102 fun r104 w105 =>
 ∃ x106 : Sl, ∃ n107 : Int, ∃ n108 : Int, ∃ n109 : Int, ∃ x110 : Sl, r104 = .agg #[x106.val, .int .i64 n107, .int .i64 n108, .int .i64 n109, x110.val] ∧
 StepT Tryz.prog (Instr.buildSlice 68 1 #[(0, (.int .i64 3))]) w105 fun r111 w112 =>
 ∃ x113 : Sl, r111 = x113.val ∧
 Trip Tryz.prog 119 #[x113.val, .int .i64 1] w112 fun r114 w115 =>
 ∃ x116 : Sl, ∃ n117 : Int, ∃ n118 : Int, ∃ n119 : Int, ∃ x120 : Sl, r114 = .agg #[x116.val, .int .i64 n117, .int .i64 n118, .int .i64 n119, x120.val] ∧
 StepT Tryz.prog (Instr.buildSlice 68 3 #[(0, (.int .i64 1)), (1, (.int .i64 3)), (2, (.int .i64 0))]) w115 fun r121 w122 =>
 ∃ x123 : Sl, r121 = x123.val ∧
 Trip Tryz.prog 119 #[x123.val, .int .i64 0] w122 fun r124 w125 =>
 ∃ x126 : Sl, ∃ n127 : Int, ∃ n128 : Int, ∃ n129 : Int, ∃ x130 : Sl, r124 = .agg #[x126.val, .int .i64 n127, .int .i64 n128, .int .i64 n129, x130.val] ∧
 StepT Tryz.prog (Instr.buildSlice 29 6 #[(0, (.agg #[x76.val, .int .i64 n77, .int .i64 n78, .int .i64 n79, x80.val])), (1, (.agg #[x86.val, .int .i64 n87, .int .i64 n88, .int .i64 n89, x90.val])), (2, (.agg #[x96.val, .int .i64 n97, .int .i64 n98, .int .i64 n99, x100.val])), (3, (.agg #[x106.val, .int .i64 n107, .int .i64 n108, .int .i64 n109, x110.val])), (4, (.agg #[x116.val, .int .i64 n117, .int .i64 n118, .int .i64 n119, x120.val])), (5, (.agg #[x126.val, .int .i64 n127, .int .i64 n128, .int .i64 n129, x130.val]))]) w125 fun r131 w132 =>
 ∃ x133 : Sl, r131 = x133.val ∧
 eqS (.sl (Sl.mk none 0 0)) ∧
 eqS (.sl (Sl.mk none 0 0)) ∧
 eqS (.sl x3) ∧
 eqS (.sl (Sl.mk none 0 0)) ∧
 J70 x133 w132) ∧
 ∀ x134 : Sl, ∀ w135 : World, J70 x134 w135 →
 ∃ J136 : Sl → World → Prop, (StepT Tryz.prog (Instr.buildSlice 68 1 #[(0, (.int .i64 0))]) w135 fun r137 w138 =>
 ∃ x139 : Sl, r137 = x139.val ∧
 Trip Tryz.prog 119 #[x139.val, .int .i64 0] w138 fun r140 w141 =>
 ∃ x142 : Sl, ∃ n143 : Int, ∃ n144 : Int, ∃ n145 : Int, ∃ x146 : Sl, r140 = .agg #[x142.val, .int .i64 n143, .int .i64 n144, .int .i64 n145, x146.val] ∧
 StepT Tryz.prog (Instr.buildSlice 68 2 #[(0, (.int .i64 0)), (1, (.int .i64 0))]) w141 fun r147 w148 =>
 ∃ x149 : Sl, r147 = x149.val ∧
 Trip Tryz.prog 119 #[x149.val, .int .i64 0] w148 fun r150 w151 =>
 ∃ x152 : Sl, ∃ n153 : Int, ∃ n154 : Int, ∃ n155 : Int, ∃ x156 : Sl, r150 = .agg #[x152.val, .int .i64 n153, .int .i64 n154, .int .i64 n155, x156.val] ∧
 StepT Tryz.prog (Instr.buildSlice 68 2 #[(0, (.int .i64 1)), (1, (.int .i64 0))]) w151 fun r157 w158 =>
 ∃ x159 : Sl, r157 = x159.val ∧
 Trip Tryz.prog 119 #[x159.val, .int .i64 0] w158 fun r160 w161 =>
 ∃ x162 : Sl, ∃ n163 : Int, ∃ n164 : Int, ∃ n165 : Int, ∃ x166 : Sl, r160 = .agg #[x162.val, .int .i64 n163, .int .i64 n164, .int .i64 n165, x166.val] ∧
 StepT Tryz.prog (Instr.buildSlice 68 1 #[(0, (.int .i64 0))]) w161 fun r167 w168 =>
 ∃ x169 : Sl, r167 = x169.val ∧
 Trip Tryz.prog 119 #[x169.val, .int .i64 1] w168 fun r170 w171 =>
 ∃ x172 : Sl, ∃ n173 : Int, ∃ n174 : Int, ∃ n175 : Int, ∃ x176 : Sl, r170 = .agg #[x172.val, .int .i64 n173, .int .i64 n174, .int .i64 n175, x176.val] ∧
 StepT Tryz.prog (Instr.buildSlice 29 4 #[(0, (.agg #[x142.val, .int .i64 n143, .int .i64 n144, .int .i64 n145, x146.val])), (1, (.agg #[x152.val, .int .i64 n153, .int .i64 n154, .int .i64 n155, x156.val])), (2, (.agg #[x162.val, .int .i64 n163, .int .i64 n164, .int .i64 n165, x166.val])), (3, (.agg #[x172.val, .int .i64 n173, .int .i64 n174, .int .i64 n175, x176.val]))]) w171 fun r177 w178 =>
 ∃ x179 : Sl, r177 = x179.val ∧
 eqS (.sl (Sl.mk none 0 0)) ∧
 eqS (.sl (Sl.mk none 0 0)) ∧
 eqS (.sl x3) ∧
 eqS (.sl (Sl.mk none 0 0)) ∧
 J136 x179 w178) ∧
 ∀ x180 : Sl, ∀ w181 : World, J136 x180 w181 →
 ∃ J182 : Sl → World → Prop, (StepT Tryz.prog (Instr.buildSlice 68 0 #[]) w181 fun r183 w184 =>
 ∃ x185 : Sl, r183 = x185.val ∧
 Sub w181 w184 ∧
 Trip Tryz.prog 119 #[x185.val, .int .i64 0] w184 fun r186 w187 =>
 ∃ x188 : Sl, ∃ n189 : Int, ∃ n190 : Int, ∃ n191 : Int, ∃ x192 : Sl, r186 = .agg #[x188.val, .int .i64 n189, .int .i64 n190, .int .i64 n191, x192.val] ∧
 Sub w184 w187 ∧
 Trip Tryz.prog 61 #[.pointer (some (a_0.add 0)), .int .i64 (x68.n : Int)] w187 fun r193 w194 =>
 ∃ n195 : Int, r193 = .int .i64 n195 ∧
 (IxOk x68 n195 ∧
 (ldF w194 x68 n195 fun x196 n197 n198 n199 x200 =>
 Trip Tryz.prog 61 #[.pointer (some (a_0.add 0)), .int .i64 (x134.n : Int)] w194 fun r201 w202 =>
 ∃ n203 : Int, r201 = .int .i64 n203 ∧
 (IxOk x134 n203 ∧
 (ldF w202 x134 n203 fun x204 n205 n206 n207 x208 =>
 Trip Tryz.prog 61 #[.pointer (some (a_0.add 0)), .int .i64 (x180.n : Int)] w202 fun r209 w210 =>
 ∃ n211 : Int, r209 = .int .i64 n211 ∧
 IxOk x180 n211 ∧
 ldF w210 x180 n211 fun x212 n213 n214 n215 x216 =>
 StepT Tryz.prog (Instr.buildSlice 29 4 #[(0, (.agg #[x188.val, .int .i64 n189, .int .i64 n190, .int .i64 n191, x192.val])), (1, (.agg #[x196.val, .int .i64 n197, .int .i64 n198, .int .i64 n199, x200.val])), (2, (.agg #[x204.val, .int .i64 n205, .int .i64 n206, .int .i64 n207, x208.val])), (3, (.agg #[x212.val, .int .i64 n213, .int .i64 n214, .int .i64 n215, x216.val]))]) w210 fun r217 w218 =>
 ∃ x219 : Sl, r217 = x219.val ∧
 eqS (.sl (Sl.mk none 0 0)) ∧
 eqS (.sl (Sl.mk none 0 0)) ∧
 eqS (.sl x3) ∧
 J182 x219 w218) ∧
 Trip Tryz.prog 61 #[.pointer (some (a_0.add 0)), .int .i64 (x180.n : Int)] w202 fun r220 w221 =>
 ∃ n222 : Int, r220 = .int .i64 n222 ∧
 ldF w221 x134 n203 fun x223 n224 n225 n226 x227 =>
 IxOk x180 n222 ∧
 ldF w221 x180 n222 fun x228 n229 n230 n231 x232 =>
 StepT Tryz.prog (Instr.buildSlice 29 4 #[(0, (.agg #[x188.val, .int .i64 n189, .int .i64 n190, .int .i64 n191, x192.val])), (1, (.agg #[x196.val, .int .i64 n197, .int .i64 n198, .int .i64 n199, x200.val])), (2, (.agg #[x223.val, .int .i64 n224, .int .i64 n225, .int .i64 n226, x227.val])), (3, (.agg #[x228.val, .int .i64 n229, .int .i64 n230, .int .i64 n231, x232.val]))]) w221 fun r233 w234 =>
 ∃ x235 : Sl, r233 = x235.val ∧
 eqS (.sl (Sl.mk none 0 0)) ∧
 eqS (.sl (Sl.mk none 0 0)) ∧
 eqS (.sl x3) ∧
 J182 x235 w234) ∧
 Trip Tryz.prog 61 #[.pointer (some (a_0.add 0)), .int .i64 (x180.n : Int)] w202 fun r236 w237 =>
 ∃ n238 : Int, r236 = .int .i64 n238 ∧
 IxOk x134 n203 ∧
 ldF w237 x134 n203 fun x239 n240 n241 n242 x243 =>
 IxOk x180 n238 ∧
 ldF w237 x180 n238 fun x244 n245 n246 n247 x248 =>
 StepT Tryz.prog (Instr.buildSlice 29 4 #[(0, (.agg #[x188.val, .int .i64 n189, .int .i64 n190, .int .i64 n191, x192.val])), (1, (.agg #[x196.val, .int .i64 n197, .int .i64 n198, .int .i64 n199, x200.val])), (2, (.agg #[x239.val, .int .i64 n240, .int .i64 n241, .int .i64 n242, x243.val])), (3, (.agg #[x244.val, .int .i64 n245, .int .i64 n246, .int .i64 n247, x248.val]))]) w237 fun r249 w250 =>
 ∃ x251 : Sl, r249 = x251.val ∧
 eqS (.sl (Sl.mk none 0 0)) ∧
 eqS (.sl (Sl.mk none 0 0)) ∧
 eqS (.sl x3) ∧
 J182 x251 w250) ∧
 Trip Tryz.prog 61 #[.pointer (some (a_0.add 0)), .int .i64 (x134.n : Int)] w194 fun r252 w253 =>
 ∃ n254 : Int, r252 = .int .i64 n254 ∧
 (ldF w253 x68 n195 fun x255 n256 n257 n258 x259 =>
 (IxOk x134 n254 ∧
 (ldF w253 x134 n254 fun x260 n261 n262 n263 x264 =>
 Trip Tryz.prog 61 #[.pointer (some (a_0.add 0)), .int .i64 (x180.n : Int)] w253 fun r265 w266 =>
 ∃ n267 : Int, r265 = .int .i64 n267 ∧
 IxOk x180 n267 ∧
 ldF w266 x180 n267 fun x268 n269 n270 n271 x272 =>
 StepT Tryz.prog (Instr.buildSlice 29 4 #[(0, (.agg #[x188.val, .int .i64 n189, .int .i64 n190, .int .i64 n191, x192.val])), (1, (.agg #[x255.val, .int .i64 n256, .int .i64 n257, .int .i64 n258, x259.val])), (2, (.agg #[x260.val, .int .i64 n261, .int .i64 n262, .int .i64 n263, x264.val])), (3, (.agg #[x268.val, .int .i64 n269, .int .i64 n270, .int .i64 n271, x272.val]))]) w266 fun r273 w274 =>
 ∃ x275 : Sl, r273 = x275.val ∧
 eqS (.sl (Sl.mk none 0 0)) ∧
 eqS (.sl (Sl.mk none 0 0)) ∧
 eqS (.sl x3) ∧
 J182 x275 w274) ∧
 Trip Tryz.prog 61 #[.pointer (some (a_0.add 0)), .int .i64 (x180.n : Int)] w253 fun r276 w277 =>
 ∃ n278 : Int, r276 = .int .i64 n278 ∧
 ldF w277 x134 n254 fun x279 n280 n281 n282 x283 =>
 IxOk x180 n278 ∧
 ldF w277 x180 n278 fun x284 n285 n286 n287 x288 =>
 StepT Tryz.prog (Instr.buildSlice 29 4 #[(0, (.agg #[x188.val, .int .i64 n189, .int .i64 n190, .int .i64 n191, x192.val])), (1, (.agg #[x255.val, .int .i64 n256, .int .i64 n257, .int .i64 n258, x259.val])), (2, (.agg #[x279.val, .int .i64 n280, .int .i64 n281, .int .i64 n282, x283.val])), (3, (.agg #[x284.val, .int .i64 n285, .int .i64 n286, .int .i64 n287, x288.val]))]) w277 fun r289 w290 =>
 ∃ x291 : Sl, r289 = x291.val ∧
 eqS (.sl (Sl.mk none 0 0)) ∧
 eqS (.sl (Sl.mk none 0 0)) ∧
 eqS (.sl x3) ∧
 J182 x291 w290) ∧
 Trip Tryz.prog 61 #[.pointer (some (a_0.add 0)), .int .i64 (x180.n : Int)] w253 fun r292 w293 =>
 ∃ n294 : Int, r292 = .int .i64 n294 ∧
 IxOk x134 n254 ∧
 ldF w293 x134 n254 fun x295 n296 n297 n298 x299 =>
 IxOk x180 n294 ∧
 ldF w293 x180 n294 fun x300 n301 n302 n303 x304 =>
 StepT Tryz.prog (Instr.buildSlice 29 4 #[(0, (.agg #[x188.val, .int .i64 n189, .int .i64 n190, .int .i64 n191, x192.val])), (1, (.agg #[x255.val, .int .i64 n256, .int .i64 n257, .int .i64 n258, x259.val])), (2, (.agg #[x295.val, .int .i64 n296, .int .i64 n297, .int .i64 n298, x299.val])), (3, (.agg #[x300.val, .int .i64 n301, .int .i64 n302, .int .i64 n303, x304.val]))]) w293 fun r305 w306 =>
 ∃ x307 : Sl, r305 = x307.val ∧
 eqS (.sl (Sl.mk none 0 0)) ∧
 eqS (.sl (Sl.mk none 0 0)) ∧
 eqS (.sl x3) ∧
 J182 x307 w306) ∧
 (IxOk x134 n254 ∧
 (ldF w253 x68 n195 fun x308 n309 n310 n311 x312 =>
 (ldF w253 x134 n254 fun x313 n314 n315 n316 x317 =>
 Trip Tryz.prog 61 #[.pointer (some (a_0.add 0)), .int .i64 (x180.n : Int)] w253 fun r318 w319 =>
 ∃ n320 : Int, r318 = .int .i64 n320 ∧
 IxOk x180 n320 ∧
 ldF w319 x180 n320 fun x321 n322 n323 n324 x325 =>
 StepT Tryz.prog (Instr.buildSlice 29 4 #[(0, (.agg #[x188.val, .int .i64 n189, .int .i64 n190, .int .i64 n191, x192.val])), (1, (.agg #[x308.val, .int .i64 n309, .int .i64 n310, .int .i64 n311, x312.val])), (2, (.agg #[x313.val, .int .i64 n314, .int .i64 n315, .int .i64 n316, x317.val])), (3, (.agg #[x321.val, .int .i64 n322, .int .i64 n323, .int .i64 n324, x325.val]))]) w319 fun r326 w327 =>
 ∃ x328 : Sl, r326 = x328.val ∧
 eqS (.sl (Sl.mk none 0 0)) ∧
 eqS (.sl (Sl.mk none 0 0)) ∧
 eqS (.sl x3) ∧
 J182 x328 w327) ∧
 Trip Tryz.prog 61 #[.pointer (some (a_0.add 0)), .int .i64 (x180.n : Int)] w253 fun r329 w330 =>
 ∃ n331 : Int, r329 = .int .i64 n331 ∧
 ldF w330 x134 n254 fun x332 n333 n334 n335 x336 =>
 IxOk x180 n331 ∧
 ldF w330 x180 n331 fun x337 n338 n339 n340 x341 =>
 StepT Tryz.prog (Instr.buildSlice 29 4 #[(0, (.agg #[x188.val, .int .i64 n189, .int .i64 n190, .int .i64 n191, x192.val])), (1, (.agg #[x308.val, .int .i64 n309, .int .i64 n310, .int .i64 n311, x312.val])), (2, (.agg #[x332.val, .int .i64 n333, .int .i64 n334, .int .i64 n335, x336.val])), (3, (.agg #[x337.val, .int .i64 n338, .int .i64 n339, .int .i64 n340, x341.val]))]) w330 fun r342 w343 =>
 ∃ x344 : Sl, r342 = x344.val ∧
 eqS (.sl (Sl.mk none 0 0)) ∧
 eqS (.sl (Sl.mk none 0 0)) ∧
 eqS (.sl x3) ∧
 J182 x344 w343) ∧
 (ldF w253 x134 n254 fun x345 n346 n347 n348 x349 =>
 (ldF w253 x68 n195 fun x350 n351 n352 n353 x354 =>
 Trip Tryz.prog 61 #[.pointer (some (a_0.add 0)), .int .i64 (x180.n : Int)] w253 fun r355 w356 =>
 ∃ n357 : Int, r355 = .int .i64 n357 ∧
 IxOk x180 n357 ∧
 ldF w356 x180 n357 fun x358 n359 n360 n361 x362 =>
 StepT Tryz.prog (Instr.buildSlice 29 4 #[(0, (.agg #[x188.val, .int .i64 n189, .int .i64 n190, .int .i64 n191, x192.val])), (1, (.agg #[x350.val, .int .i64 n351, .int .i64 n352, .int .i64 n353, x354.val])), (2, (.agg #[x345.val, .int .i64 n346, .int .i64 n347, .int .i64 n348, x349.val])), (3, (.agg #[x358.val, .int .i64 n359, .int .i64 n360, .int .i64 n361, x362.val]))]) w356 fun r363 w364 =>
 ∃ x365 : Sl, r363 = x365.val ∧
 eqS (.sl (Sl.mk none 0 0)) ∧
 eqS (.sl (Sl.mk none 0 0)) ∧
 eqS (.sl x3) ∧
 J182 x365 w364) ∧
 Trip Tryz.prog 61 #[.pointer (some (a_0.add 0)), .int .i64 (x180.n : Int)] w253 fun r366 w367 =>
 ∃ n368 : Int, r366 = .int .i64 n368 ∧
 ldF w367 x68 n195 fun x369 n370 n371 n372 x373 =>
 IxOk x180 n368 ∧
 ldF w367 x180 n368 fun x374 n375 n376 n377 x378 =>
 StepT Tryz.prog (Instr.buildSlice 29 4 #[(0, (.agg #[x188.val, .int .i64 n189, .int .i64 n190, .int .i64 n191, x192.val])), (1, (.agg #[x369.val, .int .i64 n370, .int .i64 n371, .int .i64 n372, x373.val])), (2, (.agg #[x345.val, .int .i64 n346, .int .i64 n347, .int .i64 n348, x349.val])), (3, (.agg #[x374.val, .int .i64 n375, .int .i64 n376, .int .i64 n377, x378.val]))]) w367 fun r379 w380 =>
 ∃ x381 : Sl, r379 = x381.val ∧
 eqS (.sl (Sl.mk none 0 0)) ∧
 eqS (.sl (Sl.mk none 0 0)) ∧
 eqS (.sl x3) ∧
 J182 x381 w380) ∧
 Trip Tryz.prog 61 #[.pointer (some (a_0.add 0)), .int .i64 (x180.n : Int)] w253 fun r382 w383 =>
 ∃ n384 : Int, r382 = .int .i64 n384 ∧
 ldF w383 x68 n195 fun x385 n386 n387 n388 x389 =>
 ldF w383 x134 n254 fun x390 n391 n392 n393 x394 =>
 IxOk x180 n384 ∧
 ldF w383 x180 n384 fun x395 n396 n397 n398 x399 =>
 StepT Tryz.prog (Instr.buildSlice 29 4 #[(0, (.agg #[x188.val, .int .i64 n189, .int .i64 n190, .int .i64 n191, x192.val])), (1, (.agg #[x385.val, .int .i64 n386, .int .i64 n387, .int .i64 n388, x389.val])), (2, (.agg #[x390.val, .int .i64 n391, .int .i64 n392, .int .i64 n393, x394.val])), (3, (.agg #[x395.val, .int .i64 n396, .int .i64 n397, .int .i64 n398, x399.val]))]) w383 fun r400 w401 =>
 ∃ x402 : Sl, r400 = x402.val ∧
 eqS (.sl (Sl.mk none 0 0)) ∧
 eqS (.sl (Sl.mk none 0 0)) ∧
 eqS (.sl x3) ∧
 J182 x402 w401) ∧
 Trip Tryz.prog 61 #[.pointer (some (a_0.add 0)), .int .i64 (x180.n : Int)] w253 fun r403 w404 =>
 ∃ n405 : Int, r403 = .int .i64 n405 ∧
 ldF w404 x68 n195 fun x406 n407 n408 n409 x410 =>
 IxOk x134 n254 ∧
 ldF w404 x134 n254 fun x411 n412 n413 n414 x415 =>
 IxOk x180 n405 ∧
 ldF w404 x180 n405 fun x416 n417 n418 n419 x420 =>
 StepT Tryz.prog (Instr.buildSlice 29 4 #[(0, (.agg #[x188.val, .int .i64 n189, .int .i64 n190, .int .i64 n191, x192.val])), (1, (.agg #[x406.val, .int .i64 n407, .int .i64 n408, .int .i64 n409, x410.val])), (2, (.agg #[x411.val, .int .i64 n412, .int .i64 n413, .int .i64 n414, x415.val])), (3, (.agg #[x416.val, .int .i64 n417, .int .i64 n418, .int .i64 n419, x420.val]))]) w404 fun r421 w422 =>
 ∃ x423 : Sl, r421 = x423.val ∧
 eqS (.sl (Sl.mk none 0 0)) ∧
 eqS (.sl (Sl.mk none 0 0)) ∧
 eqS (.sl x3) ∧
 J182 x423 w422) ∧
 Trip Tryz.prog 61 #[.pointer (some (a_0.add 0)), .int .i64 (x134.n : Int)] w194 fun r424 w425 =>
 ∃ n426 : Int, r424 = .int .i64 n426 ∧
 (IxOk x68 n195 ∧
 (ldF w425 x68 n195 fun x427 n428 n429 n430 x431 =>
 (IxOk x134 n426 ∧
 (ldF w425 x134 n426 fun x432 n433 n434 n435 x436 =>
 Trip Tryz.prog 61 #[.pointer (some (a_0.add 0)), .int .i64 (x180.n : Int)] w425 fun r437 w438 =>
 ∃ n439 : Int, r437 = .int .i64 n439 ∧
 IxOk x180 n439 ∧
 ldF w438 x180 n439 fun x440 n441 n442 n443 x444 =>
 StepT Tryz.prog (Instr.buildSlice 29 4 #[(0, (.agg #[x188.val, .int .i64 n189, .int .i64 n190, .int .i64 n191, x192.val])), (1, (.agg #[x427.val, .int .i64 n428, .int .i64 n429, .int .i64 n430, x431.val])), (2, (.agg #[x432.val, .int .i64 n433, .int .i64 n434, .int .i64 n435, x436.val])), (3, (.agg #[x440.val, .int .i64 n441, .int .i64 n442, .int .i64 n443, x444.val]))]) w438 fun r445 w446 =>
 ∃ x447 : Sl, r445 = x447.val ∧
 eqS (.sl (Sl.mk none 0 0)) ∧
 eqS (.sl (Sl.mk none 0 0)) ∧
 eqS (.sl x3) ∧
 J182 x447 w446) ∧
 Trip Tryz.prog 61 #[.pointer (some (a_0.add 0)), .int .i64 (x180.n : Int)] w425 fun r448 w449 =>
 ∃ n450 : Int, r448 = .int .i64 n450 ∧
 ldF w449 x134 n426 fun x451 n452 n453 n454 x455 =>
 IxOk x180 n450 ∧
 ldF w449 x180 n450 fun x456 n457 n458 n459 x460 =>
 StepT Tryz.prog (Instr.buildSlice 29 4 #[(0, (.agg #[x188.val, .int .i64 n189, .int .i64 n190, .int .i64 n191, x192.val])), (1, (.agg #[x427.val, .int .i64 n428, .int .i64 n429, .int .i64 n430, x431.val])), (2, (.agg #[x451.val, .int .i64 n452, .int .i64 n453, .int .i64 n454, x455.val])), (3, (.agg #[x456.val, .int .i64 n457, .int .i64 n458, .int .i64 n459, x460.val]))]) w449 fun r461 w462 =>
 ∃ x463 : Sl, r461 = x463.val ∧
 eqS (.sl (Sl.mk none 0 0)) ∧
 eqS (.sl (Sl.mk none 0 0)) ∧
 eqS (.sl x3) ∧
 J182 x463 w462) ∧
 Trip Tryz.prog 61 #[.pointer (some (a_0.add 0)), .int .i64 (x180.n : Int)] w425 fun r464 w465 =>
 ∃ n466 : Int, r464 = .int .i64 n466 ∧
 IxOk x134 n426 ∧
 ldF w465 x134 n426 fun x467 n468 n469 n470 x471 =>
 IxOk x180 n466 ∧
 ldF w465 x180 n466 fun x472 n473 n474 n475 x476 =>
 StepT Tryz.prog (Instr.buildSlice 29 4 #[(0, (.agg #[x188.val, .int .i64 n189, .int .i64 n190, .int .i64 n191, x192.val])), (1, (.agg #[x427.val, .int .i64 n428, .int .i64 n429, .int .i64 n430, x431.val])), (2, (.agg #[x467.val, .int .i64 n468, .int .i64 n469, .int .i64 n470, x471.val])), (3, (.agg #[x472.val, .int .i64 n473, .int .i64 n474, .int .i64 n475, x476.val]))]) w465 fun r477 w478 =>
 ∃ x479 : Sl, r477 = x479.val ∧
 eqS (.sl (Sl.mk none 0 0)) ∧
 eqS (.sl (Sl.mk none 0 0)) ∧
 eqS (.sl x3) ∧
 J182 x479 w478) ∧
 (IxOk x134 n426 ∧
 (ldF w425 x68 n195 fun x480 n481 n482 n483 x484 =>
 (ldF w425 x134 n426 fun x485 n486 n487 n488 x489 =>
 Trip Tryz.prog 61 #[.pointer (some (a_0.add 0)), .int .i64 (x180.n : Int)] w425 fun r490 w491 =>
 ∃ n492 : Int, r490 = .int .i64 n492 ∧
 IxOk x180 n492 ∧
 ldF w491 x180 n492 fun x493 n494 n495 n496 x497 =>
 StepT Tryz.prog (Instr.buildSlice 29 4 #[(0, (.agg #[x188.val, .int .i64 n189, .int .i64 n190, .int .i64 n191, x192.val])), (1, (.agg #[x480.val, .int .i64 n481, .int .i64 n482, .int .i64 n483, x484.val])), (2, (.agg #[x485.val, .int .i64 n486, .int .i64 n487, .int .i64 n488, x489.val])), (3, (.agg #[x493.val, .int .i64 n494, .int .i64 n495, .int .i64 n496, x497.val]))]) w491 fun r498 w499 =>
 ∃ x500 : Sl, r498 = x500.val ∧
 eqS (.sl (Sl.mk none 0 0)) ∧
 eqS (.sl (Sl.mk none 0 0)) ∧
 eqS (.sl x3) ∧
 J182 x500 w499) ∧
 Trip Tryz.prog 61 #[.pointer (some (a_0.add 0)), .int .i64 (x180.n : Int)] w425 fun r501 w502 =>
 ∃ n503 : Int, r501 = .int .i64 n503 ∧
 ldF w502 x134 n426 fun x504 n505 n506 n507 x508 =>
 IxOk x180 n503 ∧
 ldF w502 x180 n503 fun x509 n510 n511 n512 x513 =>
 StepT Tryz.prog (Instr.buildSlice 29 4 #[(0, (.agg #[x188.val, .int .i64 n189, .int .i64 n190, .int .i64 n191, x192.val])), (1, (.agg #[x480.val, .int .i64 n481, .int .i64 n482, .int .i64 n483, x484.val])), (2, (.agg #[x504.val, .int .i64 n505, .int .i64 n506, .int .i64 n507, x508.val])), (3, (.agg #[x509.val, .int .i64 n510, .int .i64 n511, .int .i64 n512, x513.val]))]) w502 fun r514 w515 =>
 ∃ x516 : Sl, r514 = x516.val ∧
 eqS (.sl (Sl.mk none 0 0)) ∧
 eqS (.sl (Sl.mk none 0 0)) ∧
 eqS (.sl x3) ∧
 J182 x516 w515) ∧
 (ldF w425 x134 n426 fun x517 n518 n519 n520 x521 =>
 (ldF w425 x68 n195 fun x522 n523 n524 n525 x526 =>
 Trip Tryz.prog 61 #[.pointer (some (a_0.add 0)), .int .i64 (x180.n : Int)] w425 fun r527 w528 =>
 ∃ n529 : Int, r527 = .int .i64 n529 ∧
 IxOk x180 n529 ∧
 ldF w528 x180 n529 fun x530 n531 n532 n533 x534 =>
 StepT Tryz.prog (Instr.buildSlice 29 4 #[(0, (.agg #[x188.val, .int .i64 n189, .int .i64 n190, .int .i64 n191, x192.val])), (1, (.agg #[x522.val, .int .i64 n523, .int .i64 n524, .int .i64 n525, x526.val])), (2, (.agg #[x517.val, .int .i64 n518, .int .i64 n519, .int .i64 n520, x521.val])), (3, (.agg #[x530.val, .int .i64 n531, .int .i64 n532, .int .i64 n533, x534.val]))]) w528 fun r535 w536 =>
 ∃ x537 : Sl, r535 = x537.val ∧
 eqS (.sl (Sl.mk none 0 0)) ∧
 eqS (.sl (Sl.mk none 0 0)) ∧
 eqS (.sl x3) ∧
 J182 x537 w536) ∧
 Trip Tryz.prog 61 #[.pointer (some (a_0.add 0)), .int .i64 (x180.n : Int)] w425 fun r538 w539 =>
 ∃ n540 : Int, r538 = .int .i64 n540 ∧
 ldF w539 x68 n195 fun x541 n542 n543 n544 x545 =>
 IxOk x180 n540 ∧
 ldF w539 x180 n540 fun x546 n547 n548 n549 x550 =>
 StepT Tryz.prog (Instr.buildSlice 29 4 #[(0, (.agg #[x188.val, .int .i64 n189, .int .i64 n190, .int .i64 n191, x192.val])), (1, (.agg #[x541.val, .int .i64 n542, .int .i64 n543, .int .i64 n544, x545.val])), (2, (.agg #[x517.val, .int .i64 n518, .int .i64 n519, .int .i64 n520, x521.val])), (3, (.agg #[x546.val, .int .i64 n547, .int .i64 n548, .int .i64 n549, x550.val]))]) w539 fun r551 w552 =>
 ∃ x553 : Sl, r551 = x553.val ∧
 eqS (.sl (Sl.mk none 0 0)) ∧
 eqS (.sl (Sl.mk none 0 0)) ∧
 eqS (.sl x3) ∧
 J182 x553 w552) ∧
 Trip Tryz.prog 61 #[.pointer (some (a_0.add 0)), .int .i64 (x180.n : Int)] w425 fun r554 w555 =>
 ∃ n556 : Int, r554 = .int .i64 n556 ∧
 ldF w555 x68 n195 fun x557 n558 n559 n560 x561 =>
 ldF w555 x134 n426 fun x562 n563 n564 n565 x566 =>
 IxOk x180 n556 ∧
 ldF w555 x180 n556 fun x567 n568 n569 n570 x571 =>
 StepT Tryz.prog (Instr.buildSlice 29 4 #[(0, (.agg #[x188.val, .int .i64 n189, .int .i64 n190, .int .i64 n191, x192.val])), (1, (.agg #[x557.val, .int .i64 n558, .int .i64 n559, .int .i64 n560, x561.val])), (2, (.agg #[x562.val, .int .i64 n563, .int .i64 n564, .int .i64 n565, x566.val])), (3, (.agg #[x567.val, .int .i64 n568, .int .i64 n569, .int .i64 n570, x571.val]))]) w555 fun r572 w573 =>
 ∃ x574 : Sl, r572 = x574.val ∧
 eqS (.sl (Sl.mk none 0 0)) ∧
 eqS (.sl (Sl.mk none 0 0)) ∧
 eqS (.sl x3) ∧
 J182 x574 w573) ∧
 Trip Tryz.prog 61 #[.pointer (some (a_0.add 0)), .int .i64 (x180.n : Int)] w425 fun r575 w576 =>
 ∃ n577 : Int, r575 = .int .i64 n577 ∧
 ldF w576 x68 n195 fun x578 n579 n580 n581 x582 =>
 IxOk x134 n426 ∧
 ldF w576 x134 n426 fun x583 n584 n585 n586 x587 =>
 IxOk x180 n577 ∧
 ldF w576 x180 n577 fun x588 n589 n590 n591 x592 =>
 StepT Tryz.prog (Instr.buildSlice 29 4 #[(0, (.agg #[x188.val, .int .i64 n189, .int .i64 n190, .int .i64 n191, x192.val])), (1, (.agg #[x578.val, .int .i64 n579, .int .i64 n580, .int .i64 n581, x582.val])), (2, (.agg #[x583.val, .int .i64 n584, .int .i64 n585, .int .i64 n586, x587.val])), (3, (.agg #[x588.val, .int .i64 n589, .int .i64 n590, .int .i64 n591, x592.val]))]) w576 fun r593 w594 =>
 ∃ x595 : Sl, r593 = x595.val ∧
 eqS (.sl (Sl.mk none 0 0)) ∧
 eqS (.sl (Sl.mk none 0 0)) ∧
 eqS (.sl x3) ∧
 J182 x595 w594) ∧
 (IxOk x134 n426 ∧
 (IxOk x68 n195 ∧
 (ldF w425 x68 n195 fun x596 n597 n598 n599 x600 =>
 (ldF w425 x134 n426 fun x601 n602 n603 n604 x605 =>
 Trip Tryz.prog 61 #[.pointer (some (a_0.add 0)), .int .i64 (x180.n : Int)] w425 fun r606 w607 =>
 ∃ n608 : Int, r606 = .int .i64 n608 ∧
 IxOk x180 n608 ∧
 ldF w607 x180 n608 fun x609 n610 n611 n612 x613 =>
 StepT Tryz.prog (Instr.buildSlice 29 4 #[(0, (.agg #[x188.val, .int .i64 n189, .int .i64 n190, .int .i64 n191, x192.val])), (1, (.agg #[x596.val, .int .i64 n597, .int .i64 n598, .int .i64 n599, x600.val])), (2, (.agg #[x601.val, .int .i64 n602, .int .i64 n603, .int .i64 n604, x605.val])), (3, (.agg #[x609.val, .int .i64 n610, .int .i64 n611, .int .i64 n612, x613.val]))]) w607 fun r614 w615 =>
 ∃ x616 : Sl, r614 = x616.val ∧
 eqS (.sl (Sl.mk none 0 0)) ∧
 eqS (.sl (Sl.mk none 0 0)) ∧
 eqS (.sl x3) ∧
 J182 x616 w615) ∧
 Trip Tryz.prog 61 #[.pointer (some (a_0.add 0)), .int .i64 (x180.n : Int)] w425 fun r617 w618 =>
 ∃ n619 : Int, r617 = .int .i64 n619 ∧
 ldF w618 x134 n426 fun x620 n621 n622 n623 x624 =>
 IxOk x180 n619 ∧
 ldF w618 x180 n619 fun x625 n626 n627 n628 x629 =>
 StepT Tryz.prog (Instr.buildSlice 29 4 #[(0, (.agg #[x188.val, .int .i64 n189, .int .i64 n190, .int .i64 n191, x192.val])), (1, (.agg #[x596.val, .int .i64 n597, .int .i64 n598, .int .i64 n599, x600.val])), (2, (.agg #[x620.val, .int .i64 n621, .int .i64 n622, .int .i64 n623, x624.val])), (3, (.agg #[x625.val, .int .i64 n626, .int .i64 n627, .int .i64 n628, x629.val]))]) w618 fun r630 w631 =>
 ∃ x632 : Sl, r630 = x632.val ∧
 eqS (.sl (Sl.mk none 0 0)) ∧
 eqS (.sl (Sl.mk none 0 0)) ∧
 eqS (.sl x3) ∧
 J182 x632 w631) ∧
 (ldF w425 x134 n426 fun x633 n634 n635 n636 x637 =>
 (ldF w425 x68 n195 fun x638 n639 n640 n641 x642 =>
 Trip Tryz.prog 61 #[.pointer (some (a_0.add 0)), .int .i64 (x180.n : Int)] w425 fun r643 w644 =>
 ∃ n645 : Int, r643 = .int .i64 n645 ∧
 IxOk x180 n645 ∧
 ldF w644 x180 n645 fun x646 n647 n648 n649 x650 =>
 StepT Tryz.prog (Instr.buildSlice 29 4 #[(0, (.agg #[x188.val, .int .i64 n189, .int .i64 n190, .int .i64 n191, x192.val])), (1, (.agg #[x638.val, .int .i64 n639, .int .i64 n640, .int .i64 n641, x642.val])), (2, (.agg #[x633.val, .int .i64 n634, .int .i64 n635, .int .i64 n636, x637.val])), (3, (.agg #[x646.val, .int .i64 n647, .int .i64 n648, .int .i64 n649, x650.val]))]) w644 fun r651 w652 =>
 ∃ x653 : Sl, r651 = x653.val ∧
 eqS (.sl (Sl.mk none 0 0)) ∧
 eqS (.sl (Sl.mk none 0 0)) ∧
 eqS (.sl x3) ∧
 J182 x653 w652) ∧
 Trip Tryz.prog 61 #[.pointer (some (a_0.add 0)), .int .i64 (x180.n : Int)] w425 fun r654 w655 =>
 ∃ n656 : Int, r654 = .int .i64 n656 ∧
 ldF w655 x68 n195 fun x657 n658 n659 n660 x661 =>
 IxOk x180 n656 ∧
 ldF w655 x180 n656 fun x662 n663 n664 n665 x666 =>
 StepT Tryz.prog (Instr.buildSlice 29 4 #[(0, (.agg #[x188.val, .int .i64 n189, .int .i64 n190, .int .i64 n191, x192.val])), (1, (.agg #[x657.val, .int .i64 n658, .int .i64 n659, .int .i64 n660, x661.val])), (2, (.agg #[x633.val, .int .i64 n634, .int .i64 n635, .int .i64 n636, x637.val])), (3, (.agg #[x662.val, .int .i64 n663, .int .i64 n664, .int .i64 n665, x666.val]))]) w655 fun r667 w668 =>
 ∃ x669 : Sl, r667 = x669.val ∧
 eqS (.sl (Sl.mk none 0 0)) ∧
 eqS (.sl (Sl.mk none 0 0)) ∧
 eqS (.sl x3) ∧
 J182 x669 w668) ∧
 Trip Tryz.prog 61 #[.pointer (some (a_0.add 0)), .int .i64 (x180.n : Int)] w425 fun r670 w671 =>
 ∃ n672 : Int, r670 = .int .i64 n672 ∧
 ldF w671 x68 n195 fun x673 n674 n675 n676 x677 =>
 ldF w671 x134 n426 fun x678 n679 n680 n681 x682 =>
 IxOk x180 n672 ∧
 ldF w671 x180 n672 fun x683 n684 n685 n686 x687 =>
 StepT Tryz.prog (Instr.buildSlice 29 4 #[(0, (.agg #[x188.val, .int .i64 n189, .int .i64 n190, .int .i64 n191, x192.val])), (1, (.agg #[x673.val, .int .i64 n674, .int .i64 n675, .int .i64 n676, x677.val])), (2, (.agg #[x678.val, .int .i64 n679, .int .i64 n680, .int .i64 n681, x682.val])), (3, (.agg #[x683.val, .int .i64 n684, .int .i64 n685, .int .i64 n686, x687.val]))]) w671 fun r688 w689 =>
 ∃ x690 : Sl, r688 = x690.val ∧
 eqS (.sl (Sl.mk none 0 0)) ∧
 eqS (.sl (Sl.mk none 0 0)) ∧
 eqS (.sl x3) ∧
 J182 x690 w689) ∧
 (ldF w425 x134 n426 fun x691 n692 n693 n694 x695 =>
 (IxOk x68 n195 ∧
 (ldF w425 x68 n195 fun x696 n697 n698 n699 x700 =>
 Trip Tryz.prog 61 #[.pointer (some (a_0.add 0)), .int .i64 (x180.n : Int)] w425 fun r701 w702 =>
 ∃ n703 : Int, r701 = .int .i64 n703 ∧
 IxOk x180 n703 ∧
 ldF w702 x180 n703 fun x704 n705 n706 n707 x708 =>
 StepT Tryz.prog (Instr.buildSlice 29 4 #[(0, (.agg #[x188.val, .int .i64 n189, .int .i64 n190, .int .i64 n191, x192.val])), (1, (.agg #[x696.val, .int .i64 n697, .int .i64 n698, .int .i64 n699, x700.val])), (2, (.agg #[x691.val, .int .i64 n692, .int .i64 n693, .int .i64 n694, x695.val])), (3, (.agg #[x704.val, .int .i64 n705, .int .i64 n706, .int .i64 n707, x708.val]))]) w702 fun r709 w710 =>
 ∃ x711 : Sl, r709 = x711.val ∧
 eqS (.sl (Sl.mk none 0 0)) ∧
 eqS (.sl (Sl.mk none 0 0)) ∧
 eqS (.sl x3) ∧
 J182 x711 w710) ∧
 Trip Tryz.prog 61 #[.pointer (some (a_0.add 0)), .int .i64 (x180.n : Int)] w425 fun r712 w713 =>
 ∃ n714 : Int, r712 = .int .i64 n714 ∧
 ldF w713 x68 n195 fun x715 n716 n717 n718 x719 =>
 IxOk x180 n714 ∧
 ldF w713 x180 n714 fun x720 n721 n722 n723 x724 =>
 StepT Tryz.prog (Instr.buildSlice 29 4 #[(0, (.agg #[x188.val, .int .i64 n189, .int .i64 n190, .int .i64 n191, x192.val])), (1, (.agg #[x715.val, .int .i64 n716, .int .i64 n717, .int .i64 n718, x719.val])), (2, (.agg #[x691.val, .int .i64 n692, .int .i64 n693, .int .i64 n694, x695.val])), (3, (.agg #[x720.val, .int .i64 n721, .int .i64 n722, .int .i64 n723, x724.val]))]) w713 fun r725 w726 =>
 ∃ x727 : Sl, r725 = x727.val ∧
 eqS (.sl (Sl.mk none 0 0)) ∧
 eqS (.sl (Sl.mk none 0 0)) ∧
 eqS (.sl x3) ∧
 J182 x727 w726) ∧
 Trip Tryz.prog 61 #[.pointer (some (a_0.add 0)), .int .i64 (x180.n : Int)] w425 fun r728 w729 =>
 ∃ n730 : Int, r728 = .int .i64 n730 ∧
 IxOk x68 n195 ∧
 ldF w729 x68 n195 fun x731 n732 n733 n734 x735 =>
 IxOk x180 n730 ∧
 ldF w729 x180 n730 fun x736 n737 n738 n739 x740 =>
 StepT Tryz.prog (Instr.buildSlice 29 4 #[(0, (.agg #[x188.val, .int .i64 n189, .int .i64 n190, .int .i64 n191, x192.val])), (1, (.agg #[x731.val, .int .i64 n732, .int .i64 n733, .int .i64 n734, x735.val])), (2, (.agg #[x691.val, .int .i64 n692, .int .i64 n693, .int .i64 n694, x695.val])), (3, (.agg #[x736.val, .int .i64 n737, .int .i64 n738, .int .i64 n739, x740.val]))]) w729 fun r741 w742 =>
 ∃ x743 : Sl, r741 = x743.val ∧
 eqS (.sl (Sl.mk none 0 0)) ∧
 eqS (.sl (Sl.mk none 0 0)) ∧
 eqS (.sl x3) ∧
 J182 x743 w742) ∧
 Trip Tryz.prog 61 #[.pointer (some (a_0.add 0)), .int .i64 (x180.n : Int)] w425 fun r744 w745 =>
 ∃ n746 : Int, r744 = .int .i64 n746 ∧
 IxOk x68 n195 ∧
 ldF w745 x68 n195 fun x747 n748 n749 n750 x751 =>
 ldF w745 x134 n426 fun x752 n753 n754 n755 x756 =>
 IxOk x180 n746 ∧
 ldF w745 x180 n746 fun x757 n758 n759 n760 x761 =>
 StepT Tryz.prog (Instr.buildSlice 29 4 #[(0, (.agg #[x188.val, .int .i64 n189, .int .i64 n190, .int .i64 n191, x192.val])), (1, (.agg #[x747.val, .int .i64 n748, .int .i64 n749, .int .i64 n750, x751.val])), (2, (.agg #[x752.val, .int .i64 n753, .int .i64 n754, .int .i64 n755, x756.val])), (3, (.agg #[x757.val, .int .i64 n758, .int .i64 n759, .int .i64 n760, x761.val]))]) w745 fun r762 w763 =>
 ∃ x764 : Sl, r762 = x764.val ∧
 eqS (.sl (Sl.mk none 0 0)) ∧
 eqS (.sl (Sl.mk none 0 0)) ∧
 eqS (.sl x3) ∧
 J182 x764 w763) ∧
 Trip Tryz.prog 61 #[.pointer (some (a_0.add 0)), .int .i64 (x180.n : Int)] w425 fun r765 w766 =>
 ∃ n767 : Int, r765 = .int .i64 n767 ∧
 IxOk x68 n195 ∧
 ldF w766 x68 n195 fun x768 n769 n770 n771 x772 =>
 IxOk x134 n426 ∧
 ldF w766 x134 n426 fun x773 n774 n775 n776 x777 =>
 IxOk x180 n767 ∧
 ldF w766 x180 n767 fun x778 n779 n780 n781 x782 =>
 StepT Tryz.prog (Instr.buildSlice 29 4 #[(0, (.agg #[x188.val, .int .i64 n189, .int .i64 n190, .int .i64 n191, x192.val])), (1, (.agg #[x768.val, .int .i64 n769, .int .i64 n770, .int .i64 n771, x772.val])), (2, (.agg #[x773.val, .int .i64 n774, .int .i64 n775, .int .i64 n776, x777.val])), (3, (.agg #[x778.val, .int .i64 n779, .int .i64 n780, .int .i64 n781, x782.val]))]) w766 fun r783 w784 =>
 ∃ x785 : Sl, r783 = x785.val ∧
 eqS (.sl (Sl.mk none 0 0)) ∧
 eqS (.sl (Sl.mk none 0 0)) ∧
 eqS (.sl x3) ∧
 J182 x785 w784) ∧
 ∀ x786 : Sl, ∀ w787 : World, J182 x786 w787 →
 StepT Tryz.prog (Instr.buildSlice 68 5 #[(0, (.int .i64 4)), (1, (.int .i64 4)), (2, (.int .i64 3)), (3, (.int .i64 2)), (4, (.int .i64 4))]) w787 fun r788 w789 =>
 ∃ x790 : Sl, r788 = x790.val ∧
 Trip Tryz.prog 120 #[.pointer (some (a_0.add 0)), x790.val] w789 fun r791 w792 =>
 ∃ n793 : Int, r791 = .int .i64 n793 ∧
 CutOk x786 0 n793 ∧
 ∃ n794 : Int, Wr .i64 (n793 - 1) n794 ∧
 ∃ I795 : Int → World → Prop, ∃ m796 : Int → World → Nat, I795 n794 w792 ∧
 ∀ n797 : Int, ∀ w798 : World, I795 n797 w798 →
 ((decide (n797 ≥ 0)) = true →
 Trip Tryz.prog 121 #[.pointer (some (a_0.add 0)), .agg #[x3.val, (x786.cut 0 n793 5).val], .int .i64 n797] w798 fun r799 w800 =>
 ∃ n801 : Int, ∃ n802 : Int, ∃ x803 : Sl, r799 = .agg #[.int .i64 n801, .int .i64 n802, x803.val] ∧
 IxOk (x786.cut 0 n793 5) n797 ∧
 ∃ x804 : Sl, w800.cell? ((elA (x786.cut 0 n793 5) n797 5).add 0) = some (x804.val) ∧
 IxOk (x786.cut 0 n793 5) n797 ∧
 ∃ n805 : Int, w800.cell? ((elA (x786.cut 0 n793 5) n797 5).add 1) = some (.int .i64 n805) ∧
 IxOk (x786.cut 0 n793 5) n797 ∧
 StoreAt w800 (elA (x786.cut 0 n793 5) n797 5) 0 [x804.val, .int .i64 n805, .int .i64 n801, .int .i64 n802, x803.val] fun w806 =>
 ∃ n807 : Int, Wr .i64 (n797 - 1) n807 ∧
 eqS (.sl (Sl.mk none 0 0)) ∧
 eqS (.sl (Sl.mk none 0 0)) ∧
 eqS (.sl x3) ∧
 eqS (.sl (x786.cut 0 n793 5)) ∧
 I795 n807 w806 ∧
 m796 n807 w806 < m796 n797 w798) ∧
 ((decide (n797 ≥ 0)) = false →
 Q (.agg #[x3.val, (x786.cut 0 n793 5).val]) w798)
theorem of68 (a_0 : Addr) (v : World) (Q : Value → World → Prop) (h : vc68 a_0 v Q) : Trip Tryz.prog 68 #[.pointer (some (a_0.add 0))] v Q :=
 trip_of_eq (args := [.pt a_0 0]) (A := ⟨[(9, [(8, .int .i64)], [])], [(3, [(4, .sl)], []), (4, [(5, .sl)], []), (5, [(6, .sl)], []), (6, [], [(1, 1, .sl)])], [(5, [0, 1]), (12, [])], [], psG⟩) Tryz.func68 (by kernel_rfl) (by kernel_rfl) (by kernel_rfl : vc68 a_0 v Q = _) h

def vc77 (n_0 : Int) (v : World) (Q : Value → World → Prop) : Prop :=
 ∃ n1 : Int, ((decide (n_0 < 0)) = true →
 Wr .i64 (0 - n_0) n1) ∧
 (((decide (n_0 < 0)) && (decide (n_0 = n1))) = true →
 Q (.string (ByteArray.mk #[45, 57, 50, 50, 51, 51, 55, 50, 48, 51, 54, 56, 53, 52, 55, 55, 53, 56, 48, 56])) v) ∧
 (((decide (n_0 < 0)) && (decide (n_0 = n1))) = false →
 ((decide (n_0 < 0)) = true →
 ∃ n2 : Int, Wr .i64 (0 - n_0) n2 ∧
 ∃ s3 : ByteArray, (Trip Tryz.prog 77 #[.int .i64 n2] v fun r4 w5 => r4 = .string s3 ∧ Sub v w5) ∧
 (((ByteArray.mk #[45]).size + s3.size : Nat) : Int) ≤ 9223372036854775807 ∧
 Q (.string ((ByteArray.mk #[45]) ++ s3)) v) ∧
 ((decide (n_0 < 0)) = false →
 ((decide (n_0 < 10)) = true →
 ∃ n6 : Int, Wr .i64 (n_0 + 1) n6 ∧
 StrOk (ByteArray.mk #[48, 49, 50, 51, 52, 53, 54, 55, 56, 57]) n_0 n6 ∧
 Q (.string (strCut (ByteArray.mk #[48, 49, 50, 51, 52, 53, 54, 55, 56, 57]) n_0 n6)) v) ∧
 ((decide (n_0 < 10)) = false →
 ∃ n7 : Int, ((10 : Int) ≠ 0 ∧ Wr .i64 (Int.tdiv n_0 10) n7) ∧
 ∃ s8 : ByteArray, (Trip Tryz.prog 77 #[.int .i64 n7] v fun r9 w10 => r9 = .string s8 ∧ Sub v w10) ∧
 (10 : Int) ≠ 0 ∧
 ∃ s11 : ByteArray, (Trip Tryz.prog 77 #[.int .i64 (Int.tmod n_0 10)] v fun r12 w13 => r12 = .string s11 ∧ Sub v w13) ∧
 ((s8.size + s11.size : Nat) : Int) ≤ 9223372036854775807 ∧
 Q (.string (s8 ++ s11)) v)))
theorem of77 (n_0 : Int) (v : World) (Q : Value → World → Prop) (h : vc77 n_0 v Q) : Trip Tryz.prog 77 #[.int .i64 n_0] v Q :=
 trip_of_eq (args := [.num .i64 n_0]) (A := ⟨[], [], [], [], psG⟩) Tryz.func77 (by kernel_rfl) (by kernel_rfl) (by kernel_rfl : vc77 n_0 v Q = _) h

def vc86 (a_0 : Addr) (s_1 : ByteArray) (v : World) (Q : Value → World → Prop) : Prop :=
 ∃ n1 : Int, v.cell? (a_0.add 1) = some (.int .i64 n1) ∧
 ∃ n2 : Int, Wr .i64 (n1 + (s_1.size : Int)) n2 ∧
 ∃ s3 : ByteArray, v.cell? (a_0.add 0) = some (.string s3) ∧
 ∃ s4 : ByteArray, ((decide (n2 > (s3.size : Int))) = false →
 v.cell? (a_0.add 0) = some (.string s4)) ∧
 ∃ n5 : Int, ((decide (n2 > (s3.size : Int))) = false →
 v.cell? (a_0.add 1) = some (.int .i64 n5)) ∧
 ∃ n6 : Int, ((decide (n2 > (s3.size : Int))) = false →
 v.cell? (a_0.add 1) = some (.int .i64 n6)) ∧
 ∃ n7 : Int, ((decide (n2 > (s3.size : Int))) = false →
 Wr .i64 (n6 + (s_1.size : Int)) n7) ∧
 ((decide (n2 > (s3.size : Int))) = false →
 StrOk s4 n5 n7) ∧
 (((decide (n2 > (s3.size : Int))) || (!((strCut s4 n5 n7).toList == s_1.toList))) = true →
 StoreAt v a_0 3 [.bool true] fun w8 =>
 Q (.tuple #[]) w8) ∧
 (((decide (n2 > (s3.size : Int))) || (!((strCut s4 n5 n7).toList == s_1.toList))) = false →
 ∃ n9 : Int, v.cell? (a_0.add 1) = some (.int .i64 n9) ∧
 ∃ n10 : Int, Wr .i64 (n9 + (s_1.size : Int)) n10 ∧
 StoreAt v a_0 1 [.int .i64 n10] fun w11 =>
 Q (.tuple #[]) w11)
theorem of86 (a_0 : Addr) (s_1 : ByteArray) (v : World) (Q : Value → World → Prop) (h : vc86 a_0 s_1 v Q) : Trip Tryz.prog 86 #[.pointer (some (a_0.add 0)), .string s_1] v Q :=
 trip_of_eq (args := [.pt a_0 0, .st s_1]) (A := ⟨[], [], [], [], psG⟩) Tryz.func86 (by kernel_rfl) (by kernel_rfl) (by kernel_rfl : vc86 a_0 s_1 v Q = _) h

def vc87 (a_0 : Addr) (v : World) (Q : Value → World → Prop) : Prop :=
 ∃ I1 : Int → Int → World → Prop, ∃ m2 : Int → Int → World → Nat, I1 0 0 v ∧
 ∀ n3 : Int, ∀ n4 : Int, ∀ w5 : World, I1 n3 n4 w5 →
 ∃ n6 : Int, (Trip Tryz.prog 43 #[.pointer (some (a_0.add 0))] w5 fun r7 w8 => r7 = .int .i64 n6 ∧ Sub w5 w8) ∧
 ∃ q9 : Bool, (Trip Tryz.prog 107 #[.int .i64 n6, .int .i64 48, .int .i64 57] w5 fun r10 w11 => r10 = .bool q9 ∧ Sub w5 w11) ∧
 ((q9 && (decide (n4 < 4))) = true →
 ∃ n12 : Int, Wr .i64 (n3 * 10) n12 ∧
 ∃ n13 : Int, (Trip Tryz.prog 43 #[.pointer (some (a_0.add 0))] w5 fun r14 w15 => r14 = .int .i64 n13 ∧ Sub w5 w15) ∧
 ∃ n16 : Int, Wr .i64 (n12 + n13) n16 ∧
 ∃ n17 : Int, Wr .i64 (n16 - 48) n17 ∧
 ∃ n18 : Int, w5.cell? (a_0.add 1) = some (.int .i64 n18) ∧
 ∃ n19 : Int, Wr .i64 (n18 + 1) n19 ∧
 StoreAt w5 a_0 1 [.int .i64 n19] fun w20 =>
 ∃ n21 : Int, Wr .i64 (n4 + 1) n21 ∧
 I1 n17 n21 w20 ∧
 m2 n17 n21 w20 < m2 n3 n4 w5) ∧
 ((q9 && (decide (n4 < 4))) = false →
 (((decide (n4 = 0)) || (decide (n4 > 3))) = true →
 StoreAt w5 a_0 3 [.bool true] fun w22 =>
 Q (.int .i64 n3) w22) ∧
 (((decide (n4 = 0)) || (decide (n4 > 3))) = false →
 Q (.int .i64 n3) w5))
theorem of87 (a_0 : Addr) (v : World) (Q : Value → World → Prop) (h : vc87 a_0 v Q) : Trip Tryz.prog 87 #[.pointer (some (a_0.add 0))] v Q :=
 trip_of_eq (args := [.pt a_0 0]) (A := ⟨[(3, [(3, .int .i64), (4, .int .i64)], [])], [], [], [], psG⟩) Tryz.func87 (by kernel_rfl) (by kernel_rfl) (by kernel_rfl : vc87 a_0 v Q = _) h

def vc103 (n_0 : Int) (n_1 : Int) (x_2 : Sl) (v : World) (Q : Value → World → Prop) : Prop :=
 Q (.agg #[.int .i64 n_0, .int .i64 n_1, x_2.val]) v
theorem of103 (n_0 : Int) (n_1 : Int) (x_2 : Sl) (v : World) (Q : Value → World → Prop) (h : vc103 n_0 n_1 x_2 v Q) : Trip Tryz.prog 103 #[.int .i64 n_0, .int .i64 n_1, x_2.val] v Q :=
 trip_of_eq (args := [.num .i64 n_0, .num .i64 n_1, .sl x_2]) (A := ⟨[], [], [], [], psG⟩) Tryz.func103 (by kernel_rfl) (by kernel_rfl) (by kernel_rfl : vc103 n_0 n_1 x_2 v Q = _) h

def vc104 (n_0 : Int) (v : World) (Q : Value → World → Prop) : Prop :=
 Q (.bool ((decide (n_0 ≥ (-999))) && (decide (n_0 ≤ 999)))) v
theorem of104 (n_0 : Int) (v : World) (Q : Value → World → Prop) (h : vc104 n_0 v Q) : Trip Tryz.prog 104 #[.int .i64 n_0] v Q :=
 trip_of_eq (args := [.num .i64 n_0]) (A := ⟨[], [], [], [], psG⟩) Tryz.func104 (by kernel_rfl) (by kernel_rfl) (by kernel_rfl : vc104 n_0 v Q = _) h

def vc105 (n_0 : Int) (v : World) (Q : Value → World → Prop) : Prop :=
 ((decide (n_0 = 1)) = true →
 Q (.tuple #[.string (ByteArray.mk #[97, 100, 100]), .bool false]) v) ∧
 ((decide (n_0 = 1)) = false →
 ((decide (n_0 = 2)) = true →
 Q (.tuple #[.string (ByteArray.mk #[115, 117, 98]), .bool false]) v) ∧
 ((decide (n_0 = 2)) = false →
 ((decide (n_0 = 3)) = true →
 Q (.tuple #[.string (ByteArray.mk #[109, 117, 108]), .bool false]) v) ∧
 ((decide (n_0 = 3)) = false →
 ((decide (n_0 = 4)) = true →
 Q (.tuple #[.string (ByteArray.mk #[108, 101, 115, 115]), .bool false]) v) ∧
 ((decide (n_0 = 4)) = false →
 ((decide (n_0 = 5)) = true →
 Q (.tuple #[.string (ByteArray.mk #[112, 114, 105, 110, 116]), .bool false]) v) ∧
 ((decide (n_0 = 5)) = false →
 ((decide (n_0 = 6)) = true →
 Q (.tuple #[.string (ByteArray.mk #[99, 111, 110]), .bool true]) v) ∧
 ((decide (n_0 = 6)) = false →
 ((decide (n_0 = 7)) = true →
 Q (.tuple #[.string (ByteArray.mk #[105, 102]), .bool false]) v) ∧
 ((decide (n_0 = 7)) = false →
 ((decide (n_0 = 8)) = true →
 Q (.tuple #[.string (ByteArray.mk #[109, 97, 116, 99, 104]), .bool true]) v) ∧
 ((decide (n_0 = 8)) = false →
 ((decide (n_0 = 9)) = true →
 Q (.tuple #[.string (ByteArray.mk #[99, 97, 108, 108]), .bool true]) v) ∧
 ((decide (n_0 = 9)) = false →
 ((decide (n_0 = 10)) = true →
 Q (.tuple #[.string (ByteArray.mk #[99, 108, 111, 115, 101]), .bool true]) v) ∧
 ((decide (n_0 = 10)) = false →
 ((decide (n_0 = 11)) = true →
 Q (.tuple #[.string (ByteArray.mk #[97, 112, 112, 108, 121]), .bool false]) v) ∧
 ((decide (n_0 = 11)) = false →
 ((decide (n_0 = 13)) = true →
 Q (.tuple #[.string (ByteArray.mk #[108, 101, 116]), .bool false]) v) ∧
 ((decide (n_0 = 13)) = false →
 Q (.tuple #[.string (ByteArray.mk #[]), .bool false]) v))))))))))))
theorem of105 (n_0 : Int) (v : World) (Q : Value → World → Prop) (h : vc105 n_0 v Q) : Trip Tryz.prog 105 #[.int .i64 n_0] v Q :=
 trip_of_eq (args := [.num .i64 n_0]) (A := ⟨[], [], [], [], psG⟩) Tryz.func105 (by kernel_rfl) (by kernel_rfl) (by kernel_rfl : vc105 n_0 v Q = _) h

def vc106 (n0_0 : Int) (n0_1 : Int) (x0_2 : Sl) (n_1 : Int) (v : World) (Q : Value → World → Prop) : Prop :=
 ((decide (n_1 < 1)) = true →
 Q (.int .i64 (-1)) v) ∧
 ((decide (n_1 < 1)) = false →
 ∃ n1 : Int, Wr .i64 (n_1 - 1) n1 ∧
 ∃ I2 : Int → Int → World → Prop, ∃ m3 : Int → Int → World → Nat, I2 n1 0 v ∧
 ∀ n4 : Int, ∀ n5 : Int, ∀ w6 : World, I2 n4 n5 w6 →
 ((decide (n5 < (x0_2.n : Int))) = true →
 IxOk x0_2 n5 ∧
 ldT w6 x0_2 n5 fun n7 n8 x9 =>
 ∃ n10 : Int, (Trip Tryz.prog 106 #[.agg #[.int .i64 n7, .int .i64 n8, x9.val], .int .i64 n4] w6 fun r11 w12 => r11 = .int .i64 n10 ∧ Sub w6 w12) ∧
 ((decide (n10 < 0)) = true →
 Q (.int .i64 (-1)) w6) ∧
 ((decide (n10 < 0)) = false →
 ∃ n13 : Int, Wr .i64 (n5 + 1) n13 ∧
 eqS (.num .i64 n0_0) ∧
 eqS (.num .i64 n0_1) ∧
 eqS (.sl x0_2) ∧
 I2 n10 n13 w6 ∧
 m3 n10 n13 w6 < m3 n4 n5 w6)) ∧
 ((decide (n5 < (x0_2.n : Int))) = false →
 Q (.int .i64 n4) w6))
theorem of106 (n0_0 : Int) (n0_1 : Int) (x0_2 : Sl) (n_1 : Int) (v : World) (Q : Value → World → Prop) (h : vc106 n0_0 n0_1 x0_2 n_1 v Q) : Trip Tryz.prog 106 #[.agg #[.int .i64 n0_0, .int .i64 n0_1, x0_2.val], .int .i64 n_1] v Q :=
 trip_of_eq (args := [.ag [.num .i64 n0_0, .num .i64 n0_1, .sl x0_2], .num .i64 n_1]) (A := ⟨[(5, [(1, .int .i64), (5, .int .i64)], [])], [], [], [], psG⟩) Tryz.func106 (by kernel_rfl) (by kernel_rfl) (by kernel_rfl : vc106 n0_0 n0_1 x0_2 n_1 v Q = _) h

def vc107 (n_0 : Int) (n_1 : Int) (n_2 : Int) (v : World) (Q : Value → World → Prop) : Prop :=
 Q (.bool ((decide (n_1 ≤ n_0)) && (decide (n_0 ≤ n_2)))) v
theorem of107 (n_0 : Int) (n_1 : Int) (n_2 : Int) (v : World) (Q : Value → World → Prop) (h : vc107 n_0 n_1 n_2 v Q) : Trip Tryz.prog 107 #[.int .i64 n_0, .int .i64 n_1, .int .i64 n_2] v Q :=
 trip_of_eq (args := [.num .i64 n_0, .num .i64 n_1, .num .i64 n_2]) (A := ⟨[], [], [], [], psG⟩) Tryz.func107 (by kernel_rfl) (by kernel_rfl) (by kernel_rfl : vc107 n_0 n_1 n_2 v Q = _) h

def vc108 (n_0 : Int) (v : World) (Q : Value → World → Prop) : Prop :=
 Q (.bool ((((decide (n_0 = 6)) || (decide (n_0 = 8))) || (decide (n_0 = 9))) || (decide (n_0 = 10)))) v
theorem of108 (n_0 : Int) (v : World) (Q : Value → World → Prop) (h : vc108 n_0 v Q) : Trip Tryz.prog 108 #[.int .i64 n_0] v Q :=
 trip_of_eq (args := [.num .i64 n_0]) (A := ⟨[], [], [], [], psG⟩) Tryz.func108 (by kernel_rfl) (by kernel_rfl) (by kernel_rfl : vc108 n_0 v Q = _) h

def vc109 (n_0 : Int) (v : World) (Q : Value → World → Prop) : Prop :=
 StepT Tryz.prog (Instr.buildSlice 83 14 #[(0, (.string (ByteArray.mk #[]))), (1, (.string (ByteArray.mk #[97, 100, 100]))), (2, (.string (ByteArray.mk #[115, 117, 98]))), (3, (.string (ByteArray.mk #[109, 117, 108]))), (4, (.string (ByteArray.mk #[108, 101, 115, 115]))), (5, (.string (ByteArray.mk #[112, 114, 105, 110, 116]))), (6, (.string (ByteArray.mk #[99, 111, 110]))), (7, (.string (ByteArray.mk #[105, 102]))), (8, (.string (ByteArray.mk #[109, 97, 116, 99, 104]))), (9, (.string (ByteArray.mk #[99, 97, 108, 108]))), (10, (.string (ByteArray.mk #[99, 108, 111, 115, 101]))), (11, (.string (ByteArray.mk #[97, 112, 112, 108, 121]))), (12, (.string (ByteArray.mk #[]))), (13, (.string (ByteArray.mk #[108, 101, 116])))]) v fun r1 w2 =>
 ∃ x3 : Sl, r1 = x3.val ∧
 IxOk x3 n_0 ∧
 ∃ s4 : ByteArray, w2.cell? ((elA x3 n_0 1).add 0) = some (.string s4) ∧
 Q (.string s4) w2
theorem of109 (n_0 : Int) (v : World) (Q : Value → World → Prop) (h : vc109 n_0 v Q) : Trip Tryz.prog 109 #[.int .i64 n_0] v Q :=
 trip_of_eq (args := [.num .i64 n_0]) (A := ⟨[], [], [], [], psG⟩) Tryz.func109 (by kernel_rfl) (by kernel_rfl) (by kernel_rfl : vc109 n_0 v Q = _) h

def vc110 (a_0 : Addr) (n_1 : Int) (v : World) (Q : Value → World → Prop) : Prop :=
 ∃ s1 : ByteArray, v.cell? (a_0.add 0) = some (.string s1) ∧
 ∃ s2 : ByteArray, ((s1.toList == (ByteArray.mk #[]).toList) = false →
 v.cell? (a_0.add 0) = some (.string s2)) ∧
 ((s1.toList == (ByteArray.mk #[]).toList) = false →
 StrIxOk s2 0) ∧
 (((s1.toList == (ByteArray.mk #[]).toList) || (!decide (strIx s2 0 = n_1))) = true →
 Q (.bool false) v) ∧
 (((s1.toList == (ByteArray.mk #[]).toList) || (!decide (strIx s2 0 = n_1))) = false →
 ∃ s3 : ByteArray, v.cell? (a_0.add 0) = some (.string s3) ∧
 ((0 : Int) ≤ 1 ∧ 1 ≤ (s3.size : Int)) ∧
 StoreAt v a_0 0 [.string (strCut s3 1 (s3.size : Int))] fun w4 =>
 Q (.bool true) w4)
theorem of110 (a_0 : Addr) (n_1 : Int) (v : World) (Q : Value → World → Prop) (h : vc110 a_0 n_1 v Q) : Trip Tryz.prog 110 #[.pointer (some (a_0.add 0)), .int .u8 n_1] v Q :=
 trip_of_eq (args := [.pt a_0 0, .num .u8 n_1]) (A := ⟨[], [], [], [], psG⟩) Tryz.func110 (by kernel_rfl) (by kernel_rfl) (by kernel_rfl : vc110 a_0 n_1 v Q = _) h

def vc111 (a_0 : Addr) (v : World) (Q : Value → World → Prop) : Prop :=
 ∃ s1 : ByteArray, v.cell? (a_0.add 0) = some (.string s1) ∧
 ∃ n2 : Int, (Trip Tryz.prog 158 #[.string s1, .string (ByteArray.mk #[32, 41])] v fun r3 w4 => r3 = .int .i64 n2 ∧ Sub v w4) ∧
 ((decide (n2 < 0)) = true →
 ∃ s5 : ByteArray, v.cell? (a_0.add 0) = some (.string s5) ∧
 ∃ s6 : ByteArray, v.cell? (a_0.add 0) = some (.string s6) ∧
 StrOk s6 0 (s5.size : Int) ∧
 ∃ s7 : ByteArray, v.cell? (a_0.add 0) = some (.string s7) ∧
 ((0 : Int) ≤ (s5.size : Int) ∧ (s5.size : Int) ≤ (s7.size : Int)) ∧
 StoreAt v a_0 0 [.string (strCut s7 (s5.size : Int) (s7.size : Int))] fun w8 =>
 Q (.string (strCut s6 0 (s5.size : Int))) w8) ∧
 ((decide (n2 < 0)) = false →
 ∃ s9 : ByteArray, v.cell? (a_0.add 0) = some (.string s9) ∧
 StrOk s9 0 n2 ∧
 ∃ s10 : ByteArray, v.cell? (a_0.add 0) = some (.string s10) ∧
 ((0 : Int) ≤ n2 ∧ n2 ≤ (s10.size : Int)) ∧
 StoreAt v a_0 0 [.string (strCut s10 n2 (s10.size : Int))] fun w11 =>
 Q (.string (strCut s9 0 n2)) w11)
theorem of111 (a_0 : Addr) (v : World) (Q : Value → World → Prop) (h : vc111 a_0 v Q) : Trip Tryz.prog 111 #[.pointer (some (a_0.add 0))] v Q :=
 trip_of_eq (args := [.pt a_0 0]) (A := ⟨[], [], [], [], psG⟩) Tryz.func111 (by kernel_rfl) (by kernel_rfl) (by kernel_rfl : vc111 a_0 v Q = _) h

def vc113 (s_0 : ByteArray) (v : World) (Q : Value → World → Prop) : Prop :=
 ∃ s1 : ByteArray, (Trip Tryz.prog 160 #[.string s_0, .string (ByteArray.mk #[48, 49, 50, 51, 52, 53, 54, 55, 56, 57])] v fun r2 w3 => r2 = .string s1 ∧ Sub v w3) ∧
 ∃ I4 : Int → World → Prop, ∃ m5 : Int → World → Nat, I4 1 v ∧
 ∀ n6 : Int, ∀ w7 : World, I4 n6 w7 →
 ((decide (n6 ≤ 13)) = true →
 ∃ s8 : ByteArray, ∃ q9 : Bool, (Trip Tryz.prog 105 #[.int .i64 n6] w7 fun r10 w11 => r10 = .tuple #[.string s8, .bool q9] ∧ Sub w7 w11) ∧
 (((s8.toList == (ByteArray.mk #[]).toList) || (!(s8.toList == s1.toList))) = true →
 ∃ n12 : Int, Wr .i64 (n6 + 1) n12 ∧
 eqS (.num .i64 0) ∧
 eqS (.num .i64 0) ∧
 eqS (.sl (Sl.mk none 0 0)) ∧
 I4 n12 w7 ∧
 m5 n12 w7 < m5 n6 w7) ∧
 (((s8.toList == (ByteArray.mk #[]).toList) || (!(s8.toList == s1.toList))) = false →
 ((!q9) = true →
 Q (.tuple #[.agg #[.int .i64 n6, .int .i64 0, .slice none 0 0], .bool (s_0.toList == s1.toList)]) w7) ∧
 ((!q9) = false →
 ((0 : Int) ≤ (s1.size : Int) ∧ (s1.size : Int) ≤ (s_0.size : Int)) ∧
 Trip Tryz.prog 93 #[.string (strCut s_0 (s1.size : Int) (s_0.size : Int))] w7 fun r13 w14 =>
 ∃ n15 : Int, ∃ y16 : Vl, r13 = .tuple #[.int .i64 n15, y16.x] ∧
 (∃ q17 : Bool, PureT Tryz.prog (do eqGuard .eql 64 (.tmp 46) (.const (.nilIface)) (y16.x) ((Vl.mk Value.nilIface rfl).x); binOp .eql 64 (y16.x) ((Vl.mk Value.nilIface rfl).x)) w14 (.bool q17) ∧
 Q (.tuple #[.agg #[.int .i64 n6, .int .i64 n15, .slice none 0 0], .bool q17]) w14) ∧
 ∃ q18 : Bool, PureT Tryz.prog (do eqGuard .eql 64 (.tmp 46) (.const (.nilIface)) (y16.x) ((Vl.mk Value.nilIface rfl).x); binOp .eql 64 (y16.x) ((Vl.mk Value.nilIface rfl).x)) w14 (.bool q18) ∧
 Q (.tuple #[.agg #[.int .i64 n6, .int .i64 n15, .slice none 0 0], .bool q18]) w14))) ∧
 ((decide (n6 ≤ 13)) = false →
 Q (.tuple #[.agg #[.int .i64 0, .int .i64 0, .slice none 0 0], .bool false]) w7)
theorem of113 (s_0 : ByteArray) (v : World) (Q : Value → World → Prop) (h : vc113 s_0 v Q) : Trip Tryz.prog 113 #[.string s_0] v Q :=
 trip_of_eq (args := [.st s_0]) (A := ⟨[(3, [(5, .int .i64)], [])], [], [(10, [])], [], psG⟩) Tryz.func113 (by kernel_rfl) (by kernel_rfl) (by kernel_rfl : vc113 s_0 v Q = _) h

def vc114 (a_0 : Addr) (x_1 : Sl) (v : World) (Q : Value → World → Prop) : Prop :=
 Trip Tryz.prog 61 #[.pointer (some (a_0.add 0)), .int .i64 (x_1.n : Int)] v fun r1 w2 =>
 ∃ n3 : Int, r1 = .int .i64 n3 ∧
 IxOk x_1 n3 ∧
 ∃ s4 : ByteArray, w2.cell? ((elA x_1 n3 1).add 0) = some (.string s4) ∧
 Q (.string s4) w2
theorem of114 (a_0 : Addr) (x_1 : Sl) (v : World) (Q : Value → World → Prop) (h : vc114 a_0 x_1 v Q) : Trip Tryz.prog 114 #[.pointer (some (a_0.add 0)), x_1.val] v Q :=
 trip_of_eq (args := [.pt a_0 0, .sl x_1]) (A := ⟨[], [], [], [], psG⟩) Tryz.func114 (by kernel_rfl) (by kernel_rfl) (by kernel_rfl : vc114 a_0 x_1 v Q = _) h

def vc115 (s_0 : ByteArray) (v : World) (Q : Value → World → Prop) : Prop :=
 ∃ I1 : Int → World → Prop, ∃ m2 : Int → World → Nat, I1 1 v ∧
 ∀ n3 : Int, ∀ w4 : World, I1 n3 w4 →
 ((decide (n3 ≤ 13)) = true →
 ∃ s5 : ByteArray, ((!(s_0.toList == (ByteArray.mk #[]).toList)) = true →
 (Trip Tryz.prog 109 #[.int .i64 n3] w4 fun r6 w7 => r6 = .string s5 ∧ Sub w4 w7)) ∧
 (((!(s_0.toList == (ByteArray.mk #[]).toList)) && (s5.toList == s_0.toList)) = true →
 Q (.int .i64 n3) w4) ∧
 (((!(s_0.toList == (ByteArray.mk #[]).toList)) && (s5.toList == s_0.toList)) = false →
 ∃ n8 : Int, Wr .i64 (n3 + 1) n8 ∧
 I1 n8 w4 ∧
 m2 n8 w4 < m2 n3 w4)) ∧
 ((decide (n3 ≤ 13)) = false →
 Q (.int .i64 (-1)) w4)
theorem of115 (s_0 : ByteArray) (v : World) (Q : Value → World → Prop) (h : vc115 s_0 v Q) : Trip Tryz.prog 115 #[.string s_0] v Q :=
 trip_of_eq (args := [.st s_0]) (A := ⟨[(2, [(3, .int .i64)], [])], [], [], [], psG⟩) Tryz.func115 (by kernel_rfl) (by kernel_rfl) (by kernel_rfl : vc115 s_0 v Q = _) h

def vc116 (a_0 : Addr) (v : World) (Q : Value → World → Prop) : Prop :=
 ∃ n1 : Int, v.cell? (a_0.add 1) = some (.int .i64 n1) ∧
 ∃ I2 : World → Prop, ∃ m3 : World → Nat, I2 v ∧
 ∀ w4 : World, I2 w4 →
 ∃ n5 : Int, (Trip Tryz.prog 43 #[.pointer (some (a_0.add 0))] w4 fun r6 w7 => r6 = .int .i64 n5 ∧ Sub w4 w7) ∧
 ∃ q8 : Bool, (Trip Tryz.prog 107 #[.int .i64 n5, .int .i64 97, .int .i64 122] w4 fun r9 w10 => r9 = .bool q8 ∧ Sub w4 w10) ∧
 (q8 = true →
 ∃ n11 : Int, w4.cell? (a_0.add 1) = some (.int .i64 n11) ∧
 ∃ n12 : Int, Wr .i64 (n11 + 1) n12 ∧
 StoreAt w4 a_0 1 [.int .i64 n12] fun w13 =>
 I2 w13 ∧
 m3 w13 < m3 w4) ∧
 (q8 = false →
 ∃ s14 : ByteArray, w4.cell? (a_0.add 0) = some (.string s14) ∧
 ∃ n15 : Int, w4.cell? (a_0.add 1) = some (.int .i64 n15) ∧
 StrOk s14 n1 n15 ∧
 Q (.string (strCut s14 n1 n15)) w4)
theorem of116 (a_0 : Addr) (v : World) (Q : Value → World → Prop) (h : vc116 a_0 v Q) : Trip Tryz.prog 116 #[.pointer (some (a_0.add 0))] v Q :=
 trip_of_eq (args := [.pt a_0 0]) (A := ⟨[(2, [], [])], [], [], [], psG⟩) Tryz.func116 (by kernel_rfl) (by kernel_rfl) (by kernel_rfl : vc116 a_0 v Q = _) h

def vc118 (a_0 : Addr) (v : World) (Q : Value → World → Prop) : Prop :=
 StepT Tryz.prog (Instr.buildSlice 68 0 #[]) v fun r1 w2 =>
 ∃ x3 : Sl, r1 = x3.val ∧
 Trip Tryz.prog 162 #[x3.val] w2 fun r4 w5 =>
 ∃ x6 : Sl, r4 = .agg #[x6.val] ∧
 StepT Tryz.prog (Instr.buildSlice 68 2 #[(0, (.int .i64 0)), (1, (.int .i64 1))]) w5 fun r7 w8 =>
 ∃ x9 : Sl, r7 = x9.val ∧
 Trip Tryz.prog 162 #[x9.val] w8 fun r10 w11 =>
 ∃ x12 : Sl, r10 = .agg #[x12.val] ∧
 StepT Tryz.prog (Instr.buildSlice 60 2 #[(0, (.agg #[x6.val])), (1, (.agg #[x12.val]))]) w11 fun r13 w14 =>
 ∃ x15 : Sl, r13 = x15.val ∧
 StepT Tryz.prog (Instr.buildSlice 68 0 #[]) w14 fun r16 w17 =>
 ∃ x18 : Sl, r16 = x18.val ∧
 Trip Tryz.prog 162 #[x18.val] w17 fun r19 w20 =>
 ∃ x21 : Sl, r19 = .agg #[x21.val] ∧
 StepT Tryz.prog (Instr.buildSlice 68 3 #[(0, (.int .i64 3)), (1, (.int .i64 0)), (2, (.int .i64 3))]) w20 fun r22 w23 =>
 ∃ x24 : Sl, r22 = x24.val ∧
 Trip Tryz.prog 162 #[x24.val] w23 fun r25 w26 =>
 ∃ x27 : Sl, r25 = .agg #[x27.val] ∧
 StepT Tryz.prog (Instr.buildSlice 60 2 #[(0, (.agg #[x21.val])), (1, (.agg #[x27.val]))]) w26 fun r28 w29 =>
 ∃ x30 : Sl, r28 = x30.val ∧
 StepT Tryz.prog (Instr.buildSlice 68 2 #[(0, (.int .i64 1)), (1, (.int .i64 3))]) w29 fun r31 w32 =>
 ∃ x33 : Sl, r31 = x33.val ∧
 Trip Tryz.prog 162 #[x33.val] w32 fun r34 w35 =>
 ∃ x36 : Sl, r34 = .agg #[x36.val] ∧
 StepT Tryz.prog (Instr.buildSlice 60 1 #[(0, (.agg #[x36.val]))]) w35 fun r37 w38 =>
 ∃ x39 : Sl, r37 = x39.val ∧
 StepT Tryz.prog (Instr.buildSlice 68 3 #[(0, (.int .i64 1)), (1, (.int .i64 1)), (2, (.int .i64 0))]) w38 fun r40 w41 =>
 ∃ x42 : Sl, r40 = x42.val ∧
 Trip Tryz.prog 162 #[x42.val] w41 fun r43 w44 =>
 ∃ x45 : Sl, r43 = .agg #[x45.val] ∧
 StepT Tryz.prog (Instr.buildSlice 68 1 #[(0, (.int .i64 0))]) w44 fun r46 w47 =>
 ∃ x48 : Sl, r46 = x48.val ∧
 Trip Tryz.prog 162 #[x48.val] w47 fun r49 w50 =>
 ∃ x51 : Sl, r49 = .agg #[x51.val] ∧
 StepT Tryz.prog (Instr.buildSlice 68 1 #[(0, (.int .i64 3))]) w50 fun r52 w53 =>
 ∃ x54 : Sl, r52 = x54.val ∧
 Trip Tryz.prog 162 #[x54.val] w53 fun r55 w56 =>
 ∃ x57 : Sl, r55 = .agg #[x57.val] ∧
 StepT Tryz.prog (Instr.buildSlice 60 3 #[(0, (.agg #[x45.val])), (1, (.agg #[x51.val])), (2, (.agg #[x57.val]))]) w56 fun r58 w59 =>
 ∃ x60 : Sl, r58 = x60.val ∧
 StepT Tryz.prog (Instr.buildSlice 28 4 #[(0, (.agg #[.int .i64 0, .int .i64 0, x39.val])), (1, (.agg #[.int .i64 1, .int .i64 0, .slice none 0 0])), (2, (.agg #[.int .i64 0, .int .i64 0, x60.val])), (3, (.agg #[.int .i64 0, .int .i64 1, .slice none 0 0]))]) w59 fun r61 w62 =>
 ∃ x63 : Sl, r61 = x63.val ∧
 StepT Tryz.prog (Instr.buildSlice 28 3 #[(0, (.agg #[.int .i64 0, .int .i64 0, x15.val])), (1, (.agg #[.int .i64 0, .int .i64 0, .slice none 0 0])), (2, (.agg #[.int .i64 0, .int .i64 0, x30.val]))]) w62 fun r64 w65 =>
 ∃ x66 : Sl, r64 = x66.val ∧
 Trip Tryz.prog 61 #[.pointer (some (a_0.add 0)), .int .i64 5] w65 fun r67 w68 =>
 ∃ n69 : Int, r67 = .int .i64 n69 ∧
 ((decide (n69 < 4)) = true →
 IxOk x63 n69 ∧
 ldT w68 x63 n69 fun n70 n71 x72 =>
 StepT Tryz.prog (Instr.buildSlice 28 1 #[(0, (.agg #[.int .i64 n70, .int .i64 n71, x72.val]))]) w68 fun r73 w74 =>
 ∃ x75 : Sl, r73 = x75.val ∧
 StepT Tryz.prog (Builtin.append_ #[28, 28] 28 #[(x66.val), (x75.val)]) w74 fun r76 w77 =>
 ∃ x78 : Sl, r76 = x78.val ∧
 Q (x78.val) w77) ∧
 ((decide (n69 < 4)) = false →
 Q (x66.val) w68)
theorem of118 (a_0 : Addr) (v : World) (Q : Value → World → Prop) (h : vc118 a_0 v Q) : Trip Tryz.prog 118 #[.pointer (some (a_0.add 0))] v Q :=
 trip_of_eq (args := [.pt a_0 0]) (A := ⟨[], [], [], [], psG⟩) Tryz.func118 (by kernel_rfl) (by kernel_rfl) (by kernel_rfl : vc118 a_0 v Q = _) h

def vc119 (x_0 : Sl) (n_1 : Int) (v : World) (Q : Value → World → Prop) : Prop :=
 Q (.agg #[x_0.val, .int .i64 n_1, .int .i64 0, .int .i64 0, .slice none 0 0]) v
theorem of119 (x_0 : Sl) (n_1 : Int) (v : World) (Q : Value → World → Prop) (h : vc119 x_0 n_1 v Q) : Trip Tryz.prog 119 #[x_0.val, .int .i64 n_1] v Q :=
 trip_of_eq (args := [.sl x_0, .num .i64 n_1]) (A := ⟨[], [], [], [], psG⟩) Tryz.func119 (by kernel_rfl) (by kernel_rfl) (by kernel_rfl : vc119 x_0 n_1 v Q = _) h

def vc120 (a_0 : Addr) (x_1 : Sl) (v : World) (Q : Value → World → Prop) : Prop :=
 Trip Tryz.prog 61 #[.pointer (some (a_0.add 0)), .int .i64 (x_1.n : Int)] v fun r1 w2 =>
 ∃ n3 : Int, r1 = .int .i64 n3 ∧
 IxOk x_1 n3 ∧
 ∃ n4 : Int, w2.cell? ((elA x_1 n3 1).add 0) = some (.int .i64 n4) ∧
 Q (.int .i64 n4) w2
theorem of120 (a_0 : Addr) (x_1 : Sl) (v : World) (Q : Value → World → Prop) (h : vc120 a_0 x_1 v Q) : Trip Tryz.prog 120 #[.pointer (some (a_0.add 0)), x_1.val] v Q :=
 trip_of_eq (args := [.pt a_0 0, .sl x_1]) (A := ⟨[], [], [], [], psG⟩) Tryz.func120 (by kernel_rfl) (by kernel_rfl) (by kernel_rfl : vc120 a_0 x_1 v Q = _) h

def vc121 (a_0 : Addr) (x1_0 : Sl) (x1_1 : Sl) (n_2 : Int) (v : World) (Q : Value → World → Prop) : Prop :=
 IxOk x1_1 n_2 ∧
 ∃ x1 : Sl, v.cell? ((elA x1_1 n_2 5).add 0) = some (x1.val) ∧
 IxOk x1_1 n_2 ∧
 ∃ n2 : Int, v.cell? ((elA x1_1 n_2 5).add 1) = some (.int .i64 n2) ∧
 ∃ n3 : Int, (Trip Tryz.prog 163 #[x1.val, .int .i64 1] v fun r4 w5 => r4 = .int .i64 n3 ∧ Sub v w5) ∧
 Trip Tryz.prog 156 #[.int .i64 0] v fun r6 w7 =>
 ∃ n8 : Int, ∃ n9 : Int, ∃ x10 : Sl, r6 = .agg #[.int .i64 n8, .int .i64 n9, x10.val] ∧
 Trip Tryz.prog 61 #[.pointer (some (a_0.add 0)), .int .i64 4] w7 fun r11 w12 =>
 ∃ n13 : Int, r11 = .int .i64 n13 ∧
 ∃ J14 : Int → Int → Sl → World → Prop, ((((decide (n13 < 3)) && (decide (n_2 = 0))) = true →
 Trip Tryz.prog 164 #[.pointer (some (a_0.add 0)), .agg #[x1_0.val, x1_1.val]] w12 fun r15 w16 =>
 ∃ n17 : Int, ∃ n18 : Int, ∃ x19 : Sl, r15 = .agg #[.int .i64 n17, .int .i64 n18, x19.val] ∧
 eqS (.sl x1_0) ∧
 eqS (.sl x1_1) ∧
 eqS (.num .i64 0) ∧
 eqS (.num .i64 0) ∧
 eqS (.sl (Sl.mk none 0 0)) ∧
 J14 n17 n18 x19 w16) ∧
 (((decide (n13 < 3)) && (decide (n_2 = 0))) = false →
 ((((decide (n13 < 3)) && (decide (n3 ≥ 0))) && ((decide (n2 = 0)) || (decide (n2 = 1)))) = true →
 Trip Tryz.prog 165 #[.pointer (some (a_0.add 0)), .agg #[x1_0.val, x1_1.val], .int .i64 n_2, .int .i64 n3] w12 fun r20 w21 =>
 ∃ n22 : Int, ∃ n23 : Int, ∃ x24 : Sl, r20 = .agg #[.int .i64 n22, .int .i64 n23, x24.val] ∧
 eqS (.sl x1_0) ∧
 eqS (.sl x1_1) ∧
 eqS (.num .i64 0) ∧
 eqS (.num .i64 0) ∧
 eqS (.sl (Sl.mk none 0 0)) ∧
 J14 n22 n23 x24 w21) ∧
 ((((decide (n13 < 3)) && (decide (n3 ≥ 0))) && ((decide (n2 = 0)) || (decide (n2 = 1)))) = false →
 (((decide (n13 < 3)) && (decide ((x1.n : Int) > 0))) = true →
 IxOk x1 0) ∧
 ∃ n25 : Int, (((decide (n13 < 3)) && (decide ((x1.n : Int) > 0))) = true →
 w12.cell? ((elA x1 0 1).add 0) = some (.int .i64 n25)) ∧
 (((((decide (n13 < 3)) && (decide ((x1.n : Int) > 0))) && (decide (n25 = 3))) && ((decide (n2 = 0)) || (decide (n2 = 3)))) = true →
 Trip Tryz.prog 166 #[.pointer (some (a_0.add 0)), .agg #[x1_0.val, x1_1.val], .int .i64 n_2] w12 fun r26 w27 =>
 ∃ n28 : Int, ∃ n29 : Int, ∃ x30 : Sl, r26 = .agg #[.int .i64 n28, .int .i64 n29, x30.val] ∧
 eqS (.sl x1_0) ∧
 eqS (.sl x1_1) ∧
 eqS (.num .i64 0) ∧
 eqS (.num .i64 0) ∧
 eqS (.sl (Sl.mk none 0 0)) ∧
 J14 n28 n29 x30 w27) ∧
 (((((decide (n13 < 3)) && (decide ((x1.n : Int) > 0))) && (decide (n25 = 3))) && ((decide (n2 = 0)) || (decide (n2 = 3)))) = false →
 (((decide (n13 < 3)) && (decide ((x1.n : Int) > 0))) = true →
 IxOk x1 0) ∧
 ∃ n31 : Int, (((decide (n13 < 3)) && (decide ((x1.n : Int) > 0))) = true →
 w12.cell? ((elA x1 0 1).add 0) = some (.int .i64 n31)) ∧
 (((((decide (n13 < 3)) && (decide ((x1.n : Int) > 0))) && (decide (n31 = 0))) && ((decide (n2 = 0)) || (decide (n2 = 1)))) = true →
 Trip Tryz.prog 167 #[.pointer (some (a_0.add 0)), .agg #[x1_0.val, x1_1.val], .int .i64 n_2] w12 fun r32 w33 =>
 ∃ n34 : Int, ∃ n35 : Int, ∃ x36 : Sl, r32 = .agg #[.int .i64 n34, .int .i64 n35, x36.val] ∧
 eqS (.sl x1_0) ∧
 eqS (.sl x1_1) ∧
 eqS (.num .i64 0) ∧
 eqS (.num .i64 0) ∧
 eqS (.sl (Sl.mk none 0 0)) ∧
 J14 n34 n35 x36 w33) ∧
 (((((decide (n13 < 3)) && (decide ((x1.n : Int) > 0))) && (decide (n31 = 0))) && ((decide (n2 = 0)) || (decide (n2 = 1)))) = false →
 Trip Tryz.prog 168 #[.pointer (some (a_0.add 0)), .agg #[x1_0.val, x1_1.val], x1.val, .int .i64 n2, .int .i64 18] w12 fun r37 w38 =>
 ∃ n39 : Int, ∃ n40 : Int, ∃ x41 : Sl, r37 = .agg #[.int .i64 n39, .int .i64 n40, x41.val] ∧
 eqS (.sl x1_0) ∧
 eqS (.sl x1_1) ∧
 eqS (.num .i64 0) ∧
 eqS (.num .i64 0) ∧
 eqS (.sl (Sl.mk none 0 0)) ∧
 J14 n39 n40 x41 w38))))) ∧
 ∀ n42 : Int, ∀ n43 : Int, ∀ x44 : Sl, ∀ w45 : World, J14 n42 n43 x44 w45 →
 ∃ n46 : Int, (Trip Tryz.prog 56 #[.agg #[.int .i64 n42, .int .i64 n43, x44.val]] w45 fun r47 w48 => r47 = .int .i64 n46 ∧ Sub w45 w48) ∧
 ((decide (n46 < 0)) = true →
 Trip Tryz.prog 168 #[.pointer (some (a_0.add 0)), .agg #[x1_0.val, x1_1.val], x1.val, .int .i64 n2, .int .i64 12] w45 fun r49 w50 =>
 ∃ n51 : Int, ∃ n52 : Int, ∃ x53 : Sl, r49 = .agg #[.int .i64 n51, .int .i64 n52, x53.val] ∧
 Q (.agg #[.int .i64 n51, .int .i64 n52, x53.val]) w50) ∧
 ((decide (n46 < 0)) = false →
 Q (.agg #[.int .i64 n42, .int .i64 n43, x44.val]) w45)
theorem of121 (a_0 : Addr) (x1_0 : Sl) (x1_1 : Sl) (n_2 : Int) (v : World) (Q : Value → World → Prop) (h : vc121 a_0 x1_0 x1_1 n_2 v Q) : Trip Tryz.prog 121 #[.pointer (some (a_0.add 0)), .agg #[x1_0.val, x1_1.val], .int .i64 n_2] v Q :=
 trip_of_eq (args := [.pt a_0 0, .ag [.sl x1_0, .sl x1_1], .num .i64 n_2]) (A := ⟨[], [(15, [], [(2, 0, .int .i64), (2, 1, .int .i64), (2, 2, .sl)])], [], [], psG⟩) Tryz.func121 (by kernel_rfl) (by kernel_rfl) (by kernel_rfl : vc121 a_0 x1_0 x1_1 n_2 v Q = _) h

def vc133 (x_0 : Sl) (n_1 : Int) (v : World) (Q : Value → World → Prop) : Prop :=
 ∃ I1 : Int → World → Prop, ∃ m2 : Int → World → Nat, I1 0 v ∧
 ∀ n3 : Int, ∀ w4 : World, I1 n3 w4 →
 ((decide (n3 < (x_0.n : Int))) = true →
 ∃ n5 : Int, (Trip Tryz.prog 178 #[x_0.val, .int .i64 n3] w4 fun r6 w7 => r6 = .int .i64 n5 ∧ Sub w4 w7) ∧
 IxOk x_0 n3 ∧
 ∃ x8 : Sl, w4.cell? ((elA x_0 n3 3).add 2) = some (x8.val) ∧
 ∃ n9 : Int, Wr .i64 (n5 + (x8.n : Int)) n9 ∧
 ∃ n10 : Int, Wr .i64 (n9 - 1) n10 ∧
 ∃ q11 : Bool, (Trip Tryz.prog 107 #[.int .i64 n_1, .int .i64 n5, .int .i64 n10] w4 fun r12 w13 => r12 = .bool q11 ∧ Sub w4 w13) ∧
 (q11 = true →
 ∃ n14 : Int, Wr .i64 (n3 + 1) n14 ∧
 Q (.int .i64 n14) w4) ∧
 (q11 = false →
 ∃ n15 : Int, Wr .i64 (n3 + 1) n15 ∧
 I1 n15 w4 ∧
 m2 n15 w4 < m2 n3 w4)) ∧
 ((decide (n3 < (x_0.n : Int))) = false →
 Q (.int .i64 (-1)) w4)
theorem of133 (x_0 : Sl) (n_1 : Int) (v : World) (Q : Value → World → Prop) (h : vc133 x_0 n_1 v Q) : Trip Tryz.prog 133 #[x_0.val, .int .i64 n_1] v Q :=
 trip_of_eq (args := [.sl x_0, .num .i64 n_1]) (A := ⟨[(2, [(5, .int .i64)], [])], [], [], [], psG⟩) Tryz.func133 (by kernel_rfl) (by kernel_rfl) (by kernel_rfl : vc133 x_0 n_1 v Q = _) h

def vc135 (x_0 : Sl) (n_1 : Int) (v : World) (Q : Value → World → Prop) : Prop :=
 ∃ n1 : Int, (Trip Tryz.prog 133 #[x_0.val, .int .i64 n_1] v fun r2 w3 => r2 = .int .i64 n1 ∧ Sub v w3) ∧
 ((decide (n1 < 1)) = true →
 StepT Tryz.prog (Instr.buildSlice 68 0 #[]) v fun r4 w5 =>
 ∃ x6 : Sl, r4 = x6.val ∧
 Q (x6.val) w5) ∧
 ((decide (n1 < 1)) = false →
 ∃ n7 : Int, Wr .i64 (n1 - 1) n7 ∧
 IxOk x_0 n7 ∧
 ∃ x8 : Sl, v.cell? ((elA x_0 n7 3).add 2) = some (x8.val) ∧
 ∃ n9 : Int, Wr .i64 (n1 - 1) n9 ∧
 ∃ n10 : Int, (Trip Tryz.prog 178 #[x_0.val, .int .i64 n9] v fun r11 w12 => r11 = .int .i64 n10 ∧ Sub v w12) ∧
 ∃ n13 : Int, Wr .i64 (n_1 - n10) n13 ∧
 IxOk x8 n13 ∧
 ∃ x14 : Sl, v.cell? ((elA x8 n13 1).add 0) = some (x14.val) ∧
 Q (x14.val) v)
theorem of135 (x_0 : Sl) (n_1 : Int) (v : World) (Q : Value → World → Prop) (h : vc135 x_0 n_1 v Q) : Trip Tryz.prog 135 #[x_0.val, .int .i64 n_1] v Q :=
 trip_of_eq (args := [.sl x_0, .num .i64 n_1]) (A := ⟨[], [], [], [], psG⟩) Tryz.func135 (by kernel_rfl) (by kernel_rfl) (by kernel_rfl : vc135 x_0 n_1 v Q = _) h

end Go.Vc
