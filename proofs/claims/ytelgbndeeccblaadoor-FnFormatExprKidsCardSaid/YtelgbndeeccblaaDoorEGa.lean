/- Part of the proofs about the heaps and memories: a law is joined in the text whose name ends in W and the law. -/
import Derived.Test.YtelgbndeeccblaaDoorEVcFn
import Derived.Test.YtelgbndeeccblaaDoorProg
import Derived.KernelRfl
namespace Go.Vc
open Go Go.Proofs
set_option linter.all false
abbrev psG : List Nat := [6, 7, 9, 10, 14, 16, 18, 19, 20, 21, 25, 29, 33, 34, 35, 36, 37, 39, 40, 41, 42, 44, 49, 51, 58, 62, 101, 133, 135, 139, 140, 141, 142]
def vc5 (x_0 : Sl) (v : World) (Q : Value → World → Prop) : Prop :=
 ((decide ((x_0.n : Int) > 1048576)) = true →
 Q (.bool true) v) ∧
 ((decide ((x_0.n : Int) > 1048576)) = false →
 Trip Tryd.prog 15 #[x_0.val] v fun r1 w2 =>
 ∃ n3 : Int, ∃ n4 : Int, ∃ x5 : Sl, r1 = .agg #[.int .i64 n3, .int .i64 n4, x5.val] ∧
 ∃ s6 : ByteArray, (Trip Tryd.prog 9 #[.agg #[.int .i64 n3, .int .i64 n4, x5.val]] w2 fun r7 w8 => r7 = .string s6 ∧ Sub w2 w8) ∧
 ∃ s9 : ByteArray, (Trip Tryd.prog 7 #[.agg #[.int .i64 n3, .int .i64 n4, x5.val]] w2 fun r10 w11 => r10 = .string s9 ∧ Sub w2 w11) ∧
 ∃ n12 : Int, (((!(s6.toList == s9.toList)) || (s6.toList == (ByteArray.mk #[]).toList)) = false →
 (Trip Tryd.prog 16 #[.agg #[.int .i64 n3, .int .i64 n4, x5.val]] w2 fun r13 w14 => r13 = .int .i64 n12 ∧ Sub w2 w14)) ∧
 ∃ n15 : Int, (((!(s6.toList == s9.toList)) || (s6.toList == (ByteArray.mk #[]).toList)) = false →
 Wr .i64 (2 * n12) n15) ∧
 ∃ n16 : Int, (((!(s6.toList == s9.toList)) || (s6.toList == (ByteArray.mk #[]).toList)) = false →
 Wr .i64 (n15 + 1) n16) ∧
 ((((!(s6.toList == s9.toList)) || (s6.toList == (ByteArray.mk #[]).toList)) || (decide (n16 > 30))) = true →
 ∃ s17 : ByteArray, (Trip Tryd.prog 7 #[.agg #[.int .i64 n3, .int .i64 n4, x5.val]] w2 fun r18 w19 => r18 = .string s17 ∧ Sub w2 w19) ∧
 Q (.bool (s6.toList == s17.toList)) w2) ∧
 ((((!(s6.toList == s9.toList)) || (s6.toList == (ByteArray.mk #[]).toList)) || (decide (n16 > 30))) = false →
 StepT Tryd.prog (Instr.buildSlice 27 2 #[(0, (.agg #[.int .i64 n3, .int .i64 n4, x5.val])), (1, (.agg #[.int .i64 n3, .int .i64 n4, x5.val]))]) w2 fun r20 w21 =>
 ∃ x22 : Sl, r20 = x22.val ∧
 Trip Tryd.prog 17 #[.int .i64 1, x22.val] w21 fun r23 w24 =>
 ∃ n25 : Int, ∃ n26 : Int, ∃ x27 : Sl, r23 = .agg #[.int .i64 n25, .int .i64 n26, x27.val] ∧
 ∃ s28 : ByteArray, (Trip Tryd.prog 9 #[.agg #[.int .i64 n25, .int .i64 n26, x27.val]] w24 fun r29 w30 => r29 = .string s28 ∧ Sub w24 w30) ∧
 (((ByteArray.mk #[40, 97, 100, 100, 32]).size + s6.size : Nat) : Int) ≤ 9223372036854775807 ∧
 ((((ByteArray.mk #[40, 97, 100, 100, 32]) ++ s6).size + (ByteArray.mk #[32]).size : Nat) : Int) ≤ 9223372036854775807 ∧
 (((((ByteArray.mk #[40, 97, 100, 100, 32]) ++ s6) ++ (ByteArray.mk #[32])).size + s6.size : Nat) : Int) ≤ 9223372036854775807 ∧
 ((((((ByteArray.mk #[40, 97, 100, 100, 32]) ++ s6) ++ (ByteArray.mk #[32])) ++ s6).size + (ByteArray.mk #[41]).size : Nat) : Int) ≤ 9223372036854775807 ∧
 Q (.bool (s28.toList == (((((ByteArray.mk #[40, 97, 100, 100, 32]) ++ s6) ++ (ByteArray.mk #[32])) ++ s6) ++ (ByteArray.mk #[41])).toList)) w24))
theorem of5 (x_0 : Sl) (v : World) (Q : Value → World → Prop) (h : vc5 x_0 v Q) : Trip Tryd.prog 5 #[x_0.val] v Q :=
 trip_of_eq (args := [.sl x_0]) (A := ⟨[], [], [], [], psG⟩) Tryd.func5 (by kernel_rfl) (by kernel_rfl) (by kernel_rfl : vc5 x_0 v Q = _) h

def vc7 (n0_0 : Int) (n0_1 : Int) (x0_2 : Sl) (v : World) (Q : Value → World → Prop) : Prop :=
 ∃ n1 : Int, (Trip Tryd.prog 19 #[.agg #[.int .i64 n0_0, .int .i64 n0_1, x0_2.val]] v fun r2 w3 => r2 = .int .i64 n1 ∧ Sub v w3) ∧
 ∃ q4 : Bool, ((decide (n1 < 0)) = false →
 (Trip Tryd.prog 20 #[.agg #[.int .i64 n0_0, .int .i64 n0_1, x0_2.val]] v fun r5 w6 => r5 = .bool q4 ∧ Sub v w6)) ∧
 (((decide (n1 < 0)) || (!q4)) = true →
 Q (.string (ByteArray.mk #[])) v) ∧
 (((decide (n1 < 0)) || (!q4)) = false →
 ∃ s7 : ByteArray, (Trip Tryd.prog 21 #[.agg #[.int .i64 n0_0, .int .i64 n0_1, x0_2.val]] v fun r8 w9 => r8 = .string s7 ∧ Sub v w9) ∧
 Q (.string s7) v)
theorem of7 (n0_0 : Int) (n0_1 : Int) (x0_2 : Sl) (v : World) (Q : Value → World → Prop) (h : vc7 n0_0 n0_1 x0_2 v Q) : Trip Tryd.prog 7 #[.agg #[.int .i64 n0_0, .int .i64 n0_1, x0_2.val]] v Q :=
 trip_of_eq (args := [.ag [.num .i64 n0_0, .num .i64 n0_1, .sl x0_2]]) (A := ⟨[], [], [], [], psG⟩) Tryd.func7 (by kernel_rfl) (by kernel_rfl) (by kernel_rfl : vc7 n0_0 n0_1 x0_2 v Q = _) h

def vc9 (n0_0 : Int) (n0_1 : Int) (x0_2 : Sl) (v : World) (Q : Value → World → Prop) : Prop :=
 ∃ n1 : Int, (Trip Tryd.prog 16 #[.agg #[.int .i64 n0_0, .int .i64 n0_1, x0_2.val]] v fun r2 w3 => r2 = .int .i64 n1 ∧ Sub v w3) ∧
 ((decide (n1 < 0)) = true →
 Q (.string (ByteArray.mk #[])) v) ∧
 ((decide (n1 < 0)) = false →
 NewAt v (.cells #[(Vl.mk (Value.pointer none) rfl).x, .slice none 0 0] 47 (0, 0)) fun a4 w5 =>
 Trip Tryd.prog 23 #[.pointer (some (a4.add 0)), .agg #[.int .i64 n0_0, .int .i64 n0_1, x0_2.val]] w5 fun r6 w7 =>
 ∃ q8 : Bool, r6 = .bool q8 ∧
 ((!q8) = true →
 Q (.string (ByteArray.mk #[])) w7) ∧
 ((!q8) = false →
 Trip Tryd.prog 24 #[.pointer (some (a4.add 0))] w7 fun r9 w10 =>
 ∃ s11 : ByteArray, r9 = .string s11 ∧
 Q (.string s11) w10))
theorem of9 (n0_0 : Int) (n0_1 : Int) (x0_2 : Sl) (v : World) (Q : Value → World → Prop) (h : vc9 n0_0 n0_1 x0_2 v Q) : Trip Tryd.prog 9 #[.agg #[.int .i64 n0_0, .int .i64 n0_1, x0_2.val]] v Q :=
 trip_of_eq (args := [.ag [.num .i64 n0_0, .num .i64 n0_1, .sl x0_2]]) (A := ⟨[], [], [], [3], psG⟩) Tryd.func9 (by kernel_rfl) (by kernel_rfl) (by kernel_rfl : vc9 n0_0 n0_1 x0_2 v Q = _) h

def vc15 (x_0 : Sl) (v : World) (Q : Value → World → Prop) : Prop :=
 Trip Tryd.prog 31 #[x_0.val] v fun r1 w2 =>
 ∃ a3 : Addr, r1 = .pointer (some (a3.add 0)) ∧
 Trip Tryd.prog 30 #[.pointer (some (a3.add 0))] w2 fun r4 w5 =>
 ∃ n6 : Int, ∃ n7 : Int, ∃ x8 : Sl, r4 = .agg #[.int .i64 n6, .int .i64 n7, x8.val] ∧
 Q (.agg #[.int .i64 n6, .int .i64 n7, x8.val]) w5
theorem of15 (x_0 : Sl) (v : World) (Q : Value → World → Prop) (h : vc15 x_0 v Q) : Trip Tryd.prog 15 #[x_0.val] v Q :=
 trip_of_eq (args := [.sl x_0]) (A := ⟨[], [], [], [], psG⟩) Tryd.func15 (by kernel_rfl) (by kernel_rfl) (by kernel_rfl : vc15 x_0 v Q = _) h

def vc16 (n0_0 : Int) (n0_1 : Int) (x0_2 : Sl) (v : World) (Q : Value → World → Prop) : Prop :=
 NewAt v (.cells #[.int .i64 0] 3 (0, 0)) fun a1 w2 =>
 StoreAt w2 a1 0 [.int .i64 0] fun w3 =>
 Trip Tryd.prog 32 #[.agg #[.int .i64 n0_0, .int .i64 n0_1, x0_2.val], .pointer (some (a1.add 0))] w3 fun r4 w5 =>
 ∃ q6 : Bool, r4 = .bool q6 ∧
 ((!q6) = true →
 Q (.int .i64 (-1)) w5) ∧
 ((!q6) = false →
 ∃ n7 : Int, w5.cell? (a1.add 0) = some (.int .i64 n7) ∧
 Q (.int .i64 n7) w5)
theorem of16 (n0_0 : Int) (n0_1 : Int) (x0_2 : Sl) (v : World) (Q : Value → World → Prop) (h : vc16 n0_0 n0_1 x0_2 v Q) : Trip Tryd.prog 16 #[.agg #[.int .i64 n0_0, .int .i64 n0_1, x0_2.val]] v Q :=
 trip_of_eq (args := [.ag [.num .i64 n0_0, .num .i64 n0_1, .sl x0_2]]) (A := ⟨[], [], [], [3], psG⟩) Tryd.func16 (by kernel_rfl) (by kernel_rfl) (by kernel_rfl : vc16 n0_0 n0_1 x0_2 v Q = _) h

def vc17 (n_0 : Int) (x_1 : Sl) (v : World) (Q : Value → World → Prop) : Prop :=
 Q (.agg #[.int .i64 n_0, .int .i64 0, x_1.val]) v
theorem of17 (n_0 : Int) (x_1 : Sl) (v : World) (Q : Value → World → Prop) (h : vc17 n_0 x_1 v Q) : Trip Tryd.prog 17 #[.int .i64 n_0, x_1.val] v Q :=
 trip_of_eq (args := [.num .i64 n_0, .sl x_1]) (A := ⟨[], [], [], [], psG⟩) Tryd.func17 (by kernel_rfl) (by kernel_rfl) (by kernel_rfl : vc17 n_0 x_1 v Q = _) h

def vc19 (n0_0 : Int) (n0_1 : Int) (x0_2 : Sl) (v : World) (Q : Value → World → Prop) : Prop :=
 ∃ n1 : Int, (Trip Tryd.prog 33 #[.agg #[.int .i64 n0_0, .int .i64 n0_1, x0_2.val], .int .i64 30] v fun r2 w3 => r2 = .int .i64 n1 ∧ Sub v w3) ∧
 ((decide (n1 < 0)) = true →
 Q (.int .i64 (-1)) v) ∧
 ((decide (n1 < 0)) = false →
 ∃ n4 : Int, Wr .i64 (30 - n1) n4 ∧
 Q (.int .i64 n4) v)
theorem of19 (n0_0 : Int) (n0_1 : Int) (x0_2 : Sl) (v : World) (Q : Value → World → Prop) (h : vc19 n0_0 n0_1 x0_2 v Q) : Trip Tryd.prog 19 #[.agg #[.int .i64 n0_0, .int .i64 n0_1, x0_2.val]] v Q :=
 trip_of_eq (args := [.ag [.num .i64 n0_0, .num .i64 n0_1, .sl x0_2]]) (A := ⟨[], [], [], [], psG⟩) Tryd.func19 (by kernel_rfl) (by kernel_rfl) (by kernel_rfl : vc19 n0_0 n0_1 x0_2 v Q = _) h

def vc20 (n0_0 : Int) (n0_1 : Int) (x0_2 : Sl) (v : World) (Q : Value → World → Prop) : Prop :=
 ∃ q1 : Bool, (Trip Tryd.prog 34 #[.int .i64 n0_0, .int .i64 0, .int .i64 13] v fun r2 w3 => r2 = .bool q1 ∧ Sub v w3) ∧
 (((!q1) || (((decide (n0_0 = 0)) || (decide (n0_0 = 12))) && (decide ((x0_2.n : Int) > 0)))) = true →
 Q (.bool false) v) ∧
 (((!q1) || (((decide (n0_0 = 0)) || (decide (n0_0 = 12))) && (decide ((x0_2.n : Int) > 0)))) = false →
 ∃ q4 : Bool, ((decide (n0_0 = 0)) = true →
 (Trip Tryd.prog 34 #[.int .i64 n0_1, .int .i64 (-999), .int .i64 999] v fun r5 w6 => r5 = .bool q4 ∧ Sub v w6)) ∧
 (((decide (n0_0 = 0)) && (!q4)) = true →
 Q (.bool false) v) ∧
 (((decide (n0_0 = 0)) && (!q4)) = false →
 ∃ q7 : Bool, ((decide (n0_0 = 12)) = false →
 (Trip Tryd.prog 35 #[.int .i64 n0_0] v fun r8 w9 => r8 = .bool q7 ∧ Sub v w9)) ∧
 ∃ q10 : Bool, (((decide (n0_0 = 12)) || q7) = true →
 (Trip Tryd.prog 34 #[.int .i64 n0_1, .int .i64 0, .int .i64 99] v fun r11 w12 => r11 = .bool q10 ∧ Sub v w12)) ∧
 ((((decide (n0_0 = 12)) || q7) && (!q10)) = true →
 Q (.bool false) v) ∧
 ((((decide (n0_0 = 12)) || q7) && (!q10)) = false →
 ∃ q13 : Bool, (((!decide (n0_0 = 0)) && (!decide (n0_0 = 12))) = true →
 (Trip Tryd.prog 35 #[.int .i64 n0_0] v fun r14 w15 => r14 = .bool q13 ∧ Sub v w15)) ∧
 (((((!decide (n0_0 = 0)) && (!decide (n0_0 = 12))) && (!q13)) && (!decide (n0_1 = 0))) = true →
 Q (.bool false) v) ∧
 (((((!decide (n0_0 = 0)) && (!decide (n0_0 = 12))) && (!q13)) && (!decide (n0_1 = 0))) = false →
 ∃ I16 : Int → World → Prop, ∃ m17 : Int → World → Nat, I16 0 v ∧
 ∀ n18 : Int, ∀ w19 : World, I16 n18 w19 →
 ((decide (n18 < (x0_2.n : Int))) = true →
 IxOk x0_2 n18 ∧
 ∃ n20 : Int, ∃ n21 : Int, ∃ x22 : Sl, (w19.cell? ((elA x0_2 n18 3).add 0) = some (.int .i64 n20) ∧
 w19.cell? ((elA x0_2 n18 3).add 1) = some (.int .i64 n21) ∧
 w19.cell? ((elA x0_2 n18 3).add 2) = some (x22.val)) ∧
 ∃ q23 : Bool, (Trip Tryd.prog 20 #[.agg #[.int .i64 n20, .int .i64 n21, x22.val]] w19 fun r24 w25 => r24 = .bool q23 ∧ Sub w19 w25) ∧
 ((!q23) = true →
 Q (.bool false) w19) ∧
 ((!q23) = false →
 ∃ n26 : Int, Wr .i64 (n18 + 1) n26 ∧
 ((.num .i64 n0_0 : SV) = .num .i64 n0_0) ∧
 ((.num .i64 n0_1 : SV) = .num .i64 n0_1) ∧
 ((.sl x0_2 : SV) = .sl x0_2) ∧
 I16 n26 w19 ∧
 m17 n26 w19 < m17 n18 w19)) ∧
 ((decide (n18 < (x0_2.n : Int))) = false →
 Q (.bool true) w19)))))
theorem of20 (n0_0 : Int) (n0_1 : Int) (x0_2 : Sl) (v : World) (Q : Value → World → Prop) (h : vc20 n0_0 n0_1 x0_2 v Q) : Trip Tryd.prog 20 #[.agg #[.int .i64 n0_0, .int .i64 n0_1, x0_2.val]] v Q :=
 trip_of_eq (args := [.ag [.num .i64 n0_0, .num .i64 n0_1, .sl x0_2]]) (A := ⟨[(10, [(3, .int .i64)], [])], [], [], [], psG⟩) Tryd.func20 (by kernel_rfl) (by kernel_rfl) (by kernel_rfl : vc20 n0_0 n0_1 x0_2 v Q = _) h

def vc21 (n0_0 : Int) (n0_1 : Int) (x0_2 : Sl) (v : World) (Q : Value → World → Prop) : Prop :=
 ((decide (n0_0 = 0)) = true →
 ∃ s1 : ByteArray, (Trip Tryd.prog 36 #[.int .i64 n0_1] v fun r2 w3 => r2 = .string s1 ∧ Sub v w3) ∧
 Q (.string s1) v) ∧
 ((decide (n0_0 = 0)) = false →
 ((decide (n0_0 = 12)) = true →
 ∃ s4 : ByteArray, (Trip Tryd.prog 36 #[.int .i64 n0_1] v fun r5 w6 => r5 = .string s4 ∧ Sub v w6) ∧
 (((ByteArray.mk #[118]).size + s4.size : Nat) : Int) ≤ 9223372036854775807 ∧
 Q (.string ((ByteArray.mk #[118]) ++ s4)) v) ∧
 ((decide (n0_0 = 12)) = false →
 ∃ s7 : ByteArray, (Trip Tryd.prog 37 #[.int .i64 n0_0] v fun r8 w9 => r8 = .string s7 ∧ Sub v w9) ∧
 (((ByteArray.mk #[40]).size + s7.size : Nat) : Int) ≤ 9223372036854775807 ∧
 ∃ q10 : Bool, (Trip Tryd.prog 35 #[.int .i64 n0_0] v fun r11 w12 => r11 = .bool q10 ∧ Sub v w12) ∧
 (q10 = true →
 ∃ s13 : ByteArray, (Trip Tryd.prog 36 #[.int .i64 n0_1] v fun r14 w15 => r14 = .string s13 ∧ Sub v w15) ∧
 ((((ByteArray.mk #[40]) ++ s7).size + s13.size : Nat) : Int) ≤ 9223372036854775807 ∧
 ∃ I16 : ByteArray → Int → World → Prop, ∃ m17 : ByteArray → Int → World → Nat, I16 (((ByteArray.mk #[40]) ++ s7) ++ s13) 0 v ∧
 ∀ s18 : ByteArray, ∀ n19 : Int, ∀ w20 : World, I16 s18 n19 w20 →
 ((decide (n19 < (x0_2.n : Int))) = true →
 ((s18.size + (ByteArray.mk #[32]).size : Nat) : Int) ≤ 9223372036854775807 ∧
 IxOk x0_2 n19 ∧
 ∃ n21 : Int, ∃ n22 : Int, ∃ x23 : Sl, (w20.cell? ((elA x0_2 n19 3).add 0) = some (.int .i64 n21) ∧
 w20.cell? ((elA x0_2 n19 3).add 1) = some (.int .i64 n22) ∧
 w20.cell? ((elA x0_2 n19 3).add 2) = some (x23.val)) ∧
 ∃ s24 : ByteArray, (Trip Tryd.prog 21 #[.agg #[.int .i64 n21, .int .i64 n22, x23.val]] w20 fun r25 w26 => r25 = .string s24 ∧ Sub w20 w26) ∧
 (((s18 ++ (ByteArray.mk #[32])).size + s24.size : Nat) : Int) ≤ 9223372036854775807 ∧
 ∃ n27 : Int, Wr .i64 (n19 + 1) n27 ∧
 ((.num .i64 n0_0 : SV) = .num .i64 n0_0) ∧
 ((.num .i64 n0_1 : SV) = .num .i64 n0_1) ∧
 ((.sl x0_2 : SV) = .sl x0_2) ∧
 I16 ((s18 ++ (ByteArray.mk #[32])) ++ s24) n27 w20 ∧
 m17 ((s18 ++ (ByteArray.mk #[32])) ++ s24) n27 w20 < m17 s18 n19 w20) ∧
 ((decide (n19 < (x0_2.n : Int))) = false →
 ((s18.size + (ByteArray.mk #[41]).size : Nat) : Int) ≤ 9223372036854775807 ∧
 Q (.string (s18 ++ (ByteArray.mk #[41]))) w20)) ∧
 (q10 = false →
 ∃ I28 : ByteArray → Int → World → Prop, ∃ m29 : ByteArray → Int → World → Nat, I28 ((ByteArray.mk #[40]) ++ s7) 0 v ∧
 ∀ s30 : ByteArray, ∀ n31 : Int, ∀ w32 : World, I28 s30 n31 w32 →
 ((decide (n31 < (x0_2.n : Int))) = true →
 ((s30.size + (ByteArray.mk #[32]).size : Nat) : Int) ≤ 9223372036854775807 ∧
 IxOk x0_2 n31 ∧
 ∃ n33 : Int, ∃ n34 : Int, ∃ x35 : Sl, (w32.cell? ((elA x0_2 n31 3).add 0) = some (.int .i64 n33) ∧
 w32.cell? ((elA x0_2 n31 3).add 1) = some (.int .i64 n34) ∧
 w32.cell? ((elA x0_2 n31 3).add 2) = some (x35.val)) ∧
 ∃ s36 : ByteArray, (Trip Tryd.prog 21 #[.agg #[.int .i64 n33, .int .i64 n34, x35.val]] w32 fun r37 w38 => r37 = .string s36 ∧ Sub w32 w38) ∧
 (((s30 ++ (ByteArray.mk #[32])).size + s36.size : Nat) : Int) ≤ 9223372036854775807 ∧
 ∃ n39 : Int, Wr .i64 (n31 + 1) n39 ∧
 ((.num .i64 n0_0 : SV) = .num .i64 n0_0) ∧
 ((.num .i64 n0_1 : SV) = .num .i64 n0_1) ∧
 ((.sl x0_2 : SV) = .sl x0_2) ∧
 I28 ((s30 ++ (ByteArray.mk #[32])) ++ s36) n39 w32 ∧
 m29 ((s30 ++ (ByteArray.mk #[32])) ++ s36) n39 w32 < m29 s30 n31 w32) ∧
 ((decide (n31 < (x0_2.n : Int))) = false →
 ((s30.size + (ByteArray.mk #[41]).size : Nat) : Int) ≤ 9223372036854775807 ∧
 Q (.string (s30 ++ (ByteArray.mk #[41]))) w32))))
theorem of21 (n0_0 : Int) (n0_1 : Int) (x0_2 : Sl) (v : World) (Q : Value → World → Prop) (h : vc21 n0_0 n0_1 x0_2 v Q) : Trip Tryd.prog 21 #[.agg #[.int .i64 n0_0, .int .i64 n0_1, x0_2.val]] v Q :=
 trip_of_eq (args := [.ag [.num .i64 n0_0, .num .i64 n0_1, .sl x0_2]]) (A := ⟨[(9, [(3, .str), (4, .int .i64)], [])], [], [], [], psG⟩) Tryd.func21 (by kernel_rfl) (by kernel_rfl) (by kernel_rfl : vc21 n0_0 n0_1 x0_2 v Q = _) h

def vc23 (a_0 : Addr) (n1_0 : Int) (n1_1 : Int) (x1_2 : Sl) (v : World) (Q : Value → World → Prop) : Prop :=
 ((decide (n1_0 = 0)) = true →
 ∃ s1 : ByteArray, (Trip Tryd.prog 39 #[.int .i64 n1_1] v fun r2 w3 => r2 = .string s1 ∧ Sub v w3) ∧
 Trip Tryd.prog 38 #[.pointer (some (a_0.add 0)), .string s1] v fun r4 w5 =>
 ∃ n6 : Int, ∃ y7 : Vl, r4 = .tuple #[.int .i64 n6, y7.x] ∧
 ∃ q8 : Bool, ((decide ((x1_2.n : Int) = 0)) = true →
 (Trip Tryd.prog 40 #[.int .i64 n1_1] w5 fun r9 w10 => r9 = .bool q8 ∧ Sub w5 w10)) ∧
 Q (.bool ((decide ((x1_2.n : Int) = 0)) && q8)) w5) ∧
 ((decide (n1_0 = 0)) = false →
 ((decide (n1_0 = 12)) = true →
 ∃ s11 : ByteArray, (Trip Tryd.prog 39 #[.int .i64 n1_1] v fun r12 w13 => r12 = .string s11 ∧ Sub v w13) ∧
 (((ByteArray.mk #[118]).size + s11.size : Nat) : Int) ≤ 9223372036854775807 ∧
 Trip Tryd.prog 38 #[.pointer (some (a_0.add 0)), .string ((ByteArray.mk #[118]) ++ s11)] v fun r14 w15 =>
 ∃ n16 : Int, ∃ y17 : Vl, r14 = .tuple #[.int .i64 n16, y17.x] ∧
 Q (.bool ((decide ((x1_2.n : Int) = 0)) && ((decide (n1_1 ≥ 0)) && (decide (n1_1 ≤ 99))))) w15) ∧
 ((decide (n1_0 = 12)) = false →
 ∃ s18 : ByteArray, ∃ q19 : Bool, (Trip Tryd.prog 41 #[.int .i64 n1_0] v fun r20 w21 => r20 = .tuple #[.string s18, .bool q19] ∧ Sub v w21) ∧
 (((ByteArray.mk #[40]).size + s18.size : Nat) : Int) ≤ 9223372036854775807 ∧
 Trip Tryd.prog 38 #[.pointer (some (a_0.add 0)), .string ((ByteArray.mk #[40]) ++ s18)] v fun r22 w23 =>
 ∃ n24 : Int, ∃ y25 : Vl, r22 = .tuple #[.int .i64 n24, y25.x] ∧
 ((((s18.toList == (ByteArray.mk #[]).toList) || (q19 && (!((decide (n1_1 ≥ 0)) && (decide (n1_1 ≤ 99)))))) || ((!q19) && (!decide (n1_1 = 0)))) = true →
 Q (.bool false) w23) ∧
 ((((s18.toList == (ByteArray.mk #[]).toList) || (q19 && (!((decide (n1_1 ≥ 0)) && (decide (n1_1 ≤ 99)))))) || ((!q19) && (!decide (n1_1 = 0)))) = false →
 (q19 = true →
 ∃ s26 : ByteArray, (Trip Tryd.prog 39 #[.int .i64 n1_1] w23 fun r27 w28 => r27 = .string s26 ∧ Sub w23 w28) ∧
 Trip Tryd.prog 38 #[.pointer (some (a_0.add 0)), .string s26] w23 fun r29 w30 =>
 ∃ n31 : Int, ∃ y32 : Vl, r29 = .tuple #[.int .i64 n31, y32.x] ∧
 ∃ I33 : Int → World → Prop, ∃ m34 : Int → World → Nat, I33 0 w30 ∧
 ∀ n35 : Int, ∀ w36 : World, I33 n35 w36 →
 ((decide (n35 < (x1_2.n : Int))) = true →
 IxOk x1_2 n35 ∧
 ∃ n37 : Int, ∃ n38 : Int, ∃ x39 : Sl, (w36.cell? ((elA x1_2 n35 3).add 0) = some (.int .i64 n37) ∧
 w36.cell? ((elA x1_2 n35 3).add 1) = some (.int .i64 n38) ∧
 w36.cell? ((elA x1_2 n35 3).add 2) = some (x39.val)) ∧
 Trip Tryd.prog 38 #[.pointer (some (a_0.add 0)), .string (ByteArray.mk #[32])] w36 fun r40 w41 =>
 ∃ n42 : Int, ∃ y43 : Vl, r40 = .tuple #[.int .i64 n42, y43.x] ∧
 Trip Tryd.prog 23 #[.pointer (some (a_0.add 0)), .agg #[.int .i64 n37, .int .i64 n38, x39.val]] w41 fun r44 w45 =>
 ∃ q46 : Bool, r44 = .bool q46 ∧
 ((!q46) = true →
 Q (.bool false) w45) ∧
 ((!q46) = false →
 ∃ n47 : Int, Wr .i64 (n35 + 1) n47 ∧
 ((.num .i64 n1_0 : SV) = .num .i64 n1_0) ∧
 ((.num .i64 n1_1 : SV) = .num .i64 n1_1) ∧
 ((.sl x1_2 : SV) = .sl x1_2) ∧
 I33 n47 w45 ∧
 m34 n47 w45 < m34 n35 w36)) ∧
 ((decide (n35 < (x1_2.n : Int))) = false →
 Trip Tryd.prog 38 #[.pointer (some (a_0.add 0)), .string (ByteArray.mk #[41])] w36 fun r48 w49 =>
 ∃ n50 : Int, ∃ y51 : Vl, r48 = .tuple #[.int .i64 n50, y51.x] ∧
 Q (.bool true) w49)) ∧
 (q19 = false →
 ∃ I52 : Int → World → Prop, ∃ m53 : Int → World → Nat, I52 0 w23 ∧
 ∀ n54 : Int, ∀ w55 : World, I52 n54 w55 →
 ((decide (n54 < (x1_2.n : Int))) = true →
 IxOk x1_2 n54 ∧
 ∃ n56 : Int, ∃ n57 : Int, ∃ x58 : Sl, (w55.cell? ((elA x1_2 n54 3).add 0) = some (.int .i64 n56) ∧
 w55.cell? ((elA x1_2 n54 3).add 1) = some (.int .i64 n57) ∧
 w55.cell? ((elA x1_2 n54 3).add 2) = some (x58.val)) ∧
 Trip Tryd.prog 38 #[.pointer (some (a_0.add 0)), .string (ByteArray.mk #[32])] w55 fun r59 w60 =>
 ∃ n61 : Int, ∃ y62 : Vl, r59 = .tuple #[.int .i64 n61, y62.x] ∧
 Trip Tryd.prog 23 #[.pointer (some (a_0.add 0)), .agg #[.int .i64 n56, .int .i64 n57, x58.val]] w60 fun r63 w64 =>
 ∃ q65 : Bool, r63 = .bool q65 ∧
 ((!q65) = true →
 Q (.bool false) w64) ∧
 ((!q65) = false →
 ∃ n66 : Int, Wr .i64 (n54 + 1) n66 ∧
 ((.num .i64 n1_0 : SV) = .num .i64 n1_0) ∧
 ((.num .i64 n1_1 : SV) = .num .i64 n1_1) ∧
 ((.sl x1_2 : SV) = .sl x1_2) ∧
 I52 n66 w64 ∧
 m53 n66 w64 < m53 n54 w55)) ∧
 ((decide (n54 < (x1_2.n : Int))) = false →
 Trip Tryd.prog 38 #[.pointer (some (a_0.add 0)), .string (ByteArray.mk #[41])] w55 fun r67 w68 =>
 ∃ n69 : Int, ∃ y70 : Vl, r67 = .tuple #[.int .i64 n69, y70.x] ∧
 Q (.bool true) w68)))))
theorem of23 (a_0 : Addr) (n1_0 : Int) (n1_1 : Int) (x1_2 : Sl) (v : World) (Q : Value → World → Prop) (h : vc23 a_0 n1_0 n1_1 x1_2 v Q) : Trip Tryd.prog 23 #[.pointer (some (a_0.add 0)), .agg #[.int .i64 n1_0, .int .i64 n1_1, x1_2.val]] v Q :=
 trip_of_eq (args := [.pt a_0 0, .ag [.num .i64 n1_0, .num .i64 n1_1, .sl x1_2]]) (A := ⟨[(16, [(90, .int .i64)], [])], [], [], [], psG⟩) Tryd.func23 (by kernel_rfl) (by kernel_rfl) (by kernel_rfl : vc23 a_0 n1_0 n1_1 x1_2 v Q = _) h

def vc30 (a_0 : Addr) (v : World) (Q : Value → World → Prop) : Prop :=
 Trip Tryd.prog 52 #[.pointer (some (a_0.add 0))] v fun r1 w2 =>
 ∃ x3 : Sl, ∃ x4 : Sl, ∃ n5 : Int, r1 = .tuple #[.agg #[x3.val, x4.val], .int .i64 n5] ∧
 IxOk x4 n5 ∧
 ∃ n6 : Int, ∃ n7 : Int, ∃ x8 : Sl, (w2.cell? ((elA x4 n5 5).add 2) = some (.int .i64 n6) ∧
 w2.cell? ((elA x4 n5 5).add 3) = some (.int .i64 n7) ∧
 w2.cell? ((elA x4 n5 5).add 4) = some (x8.val)) ∧
 Trip Tryd.prog 53 #[.pointer (some (a_0.add 0)), .int .i64 8] w2 fun r9 w10 =>
 ∃ n11 : Int, r9 = .int .i64 n11 ∧
 ((decide (n11 = 0)) = true →
 Trip Tryd.prog 54 #[.pointer (some (a_0.add 0)), .agg #[.int .i64 n6, .int .i64 n7, x8.val]] w10 fun r12 w13 =>
 ∃ n14 : Int, ∃ n15 : Int, ∃ x16 : Sl, r12 = .agg #[.int .i64 n14, .int .i64 n15, x16.val] ∧
 Q (.agg #[.int .i64 n14, .int .i64 n15, x16.val]) w13) ∧
 ((decide (n11 = 0)) = false →
 ((decide (n11 = 1)) = true →
 StepT Tryd.prog (Instr.buildSlice 27 2 #[(0, (.agg #[.int .i64 n6, .int .i64 n7, x8.val])), (1, (.agg #[.int .i64 n6, .int .i64 n7, x8.val]))]) w10 fun r17 w18 =>
 ∃ x19 : Sl, r17 = x19.val ∧
 Trip Tryd.prog 55 #[.int .i64 1, .int .i64 0, x19.val] w18 fun r20 w21 =>
 ∃ n22 : Int, ∃ n23 : Int, ∃ x24 : Sl, r20 = .agg #[.int .i64 n22, .int .i64 n23, x24.val] ∧
 Q (.agg #[.int .i64 n22, .int .i64 n23, x24.val]) w21) ∧
 ((decide (n11 = 1)) = false →
 ((decide (n11 = 2)) = true →
 StepT Tryd.prog (Instr.buildSlice 27 2 #[(0, (.agg #[.int .i64 n6, .int .i64 n7, x8.val])), (1, (.agg #[.int .i64 n6, .int .i64 n7, x8.val]))]) w10 fun r25 w26 =>
 ∃ x27 : Sl, r25 = x27.val ∧
 Sub w10 w26 ∧
 Trip Tryd.prog 55 #[.int .i64 1, .int .i64 0, x27.val] w26 fun r28 w29 =>
 ∃ n30 : Int, ∃ n31 : Int, ∃ x32 : Sl, r28 = .agg #[.int .i64 n30, .int .i64 n31, x32.val] ∧
 Sub w26 w29 ∧
 StepT Tryd.prog (Instr.buildSlice 27 2 #[(0, (.agg #[.int .i64 n6, .int .i64 n7, x8.val])), (1, (.agg #[.int .i64 n30, .int .i64 n31, x32.val]))]) w29 fun r33 w34 =>
 ∃ x35 : Sl, r33 = x35.val ∧
 Trip Tryd.prog 55 #[.int .i64 13, .int .i64 0, x35.val] w34 fun r36 w37 =>
 ∃ n38 : Int, ∃ n39 : Int, ∃ x40 : Sl, r36 = .agg #[.int .i64 n38, .int .i64 n39, x40.val] ∧
 Q (.agg #[.int .i64 n38, .int .i64 n39, x40.val]) w37) ∧
 ((decide (n11 = 2)) = false →
 Q (.agg #[.int .i64 n6, .int .i64 n7, x8.val]) w10)))
theorem of30 (a_0 : Addr) (v : World) (Q : Value → World → Prop) (h : vc30 a_0 v Q) : Trip Tryd.prog 30 #[.pointer (some (a_0.add 0))] v Q :=
 trip_of_eq (args := [.pt a_0 0]) (A := ⟨[], [], [(9, [3, 4])], [], psG⟩) Tryd.func30 (by kernel_rfl) (by kernel_rfl) (by kernel_rfl : vc30 a_0 v Q = _) h

def vc31 (x_0 : Sl) (v : World) (Q : Value → World → Prop) : Prop :=
 ((decide ((x_0.n : Int) > 2000)) = true →
 CutOk x_0 0 2000 ∧
 NewAt v (.cells #[(x_0.cut 0 2000 1).val, .int .i64 0] 93 (0, 0)) fun a1 w2 =>
 Q (.pointer (some (a1.add 0))) w2) ∧
 ((decide ((x_0.n : Int) > 2000)) = false →
 NewAt v (.cells #[x_0.val, .int .i64 0] 93 (0, 0)) fun a3 w4 =>
 Q (.pointer (some (a3.add 0))) w4)
theorem of31 (x_0 : Sl) (v : World) (Q : Value → World → Prop) (h : vc31 x_0 v Q) : Trip Tryd.prog 31 #[x_0.val] v Q :=
 trip_of_eq (args := [.sl x_0]) (A := ⟨[], [], [], [10], psG⟩) Tryd.func31 (by kernel_rfl) (by kernel_rfl) (by kernel_rfl : vc31 x_0 v Q = _) h

def vc32 (n0_0 : Int) (n0_1 : Int) (x0_2 : Sl) (a_1 : Addr) (v : World) (Q : Value → World → Prop) : Prop :=
 ∃ n1 : Int, v.cell? (a_1.add 0) = some (.int .i64 n1) ∧
 ∃ n2 : Int, Wr .i64 (n1 + 1) n2 ∧
 StoreAt v a_1 0 [.int .i64 n2] fun w3 =>
 ∃ n4 : Int, w3.cell? (a_1.add 0) = some (.int .i64 n4) ∧
 ((decide (n4 > 30)) = true →
 Q (.bool false) w3) ∧
 ((decide (n4 > 30)) = false →
 ∃ I5 : Int → World → Prop, ∃ m6 : Int → World → Nat, I5 0 w3 ∧
 ∀ n7 : Int, ∀ w8 : World, I5 n7 w8 →
 ((decide (n7 < (x0_2.n : Int))) = true →
 IxOk x0_2 n7 ∧
 ∃ n9 : Int, ∃ n10 : Int, ∃ x11 : Sl, (w8.cell? ((elA x0_2 n7 3).add 0) = some (.int .i64 n9) ∧
 w8.cell? ((elA x0_2 n7 3).add 1) = some (.int .i64 n10) ∧
 w8.cell? ((elA x0_2 n7 3).add 2) = some (x11.val)) ∧
 Trip Tryd.prog 32 #[.agg #[.int .i64 n9, .int .i64 n10, x11.val], .pointer (some (a_1.add 0))] w8 fun r12 w13 =>
 ∃ q14 : Bool, r12 = .bool q14 ∧
 ((!q14) = true →
 Q (.bool false) w13) ∧
 ((!q14) = false →
 ∃ n15 : Int, Wr .i64 (n7 + 1) n15 ∧
 ((.num .i64 n0_0 : SV) = .num .i64 n0_0) ∧
 ((.num .i64 n0_1 : SV) = .num .i64 n0_1) ∧
 ((.sl x0_2 : SV) = .sl x0_2) ∧
 I5 n15 w13 ∧
 m6 n15 w13 < m6 n7 w8)) ∧
 ((decide (n7 < (x0_2.n : Int))) = false →
 Q (.bool true) w8))
theorem of32 (n0_0 : Int) (n0_1 : Int) (x0_2 : Sl) (a_1 : Addr) (v : World) (Q : Value → World → Prop) (h : vc32 n0_0 n0_1 x0_2 a_1 v Q) : Trip Tryd.prog 32 #[.agg #[.int .i64 n0_0, .int .i64 n0_1, x0_2.val], .pointer (some (a_1.add 0))] v Q :=
 trip_of_eq (args := [.ag [.num .i64 n0_0, .num .i64 n0_1, .sl x0_2], .pt a_1 0]) (A := ⟨[(5, [(19, .int .i64)], [])], [], [], [], psG⟩) Tryd.func32 (by kernel_rfl) (by kernel_rfl) (by kernel_rfl : vc32 n0_0 n0_1 x0_2 a_1 v Q = _) h

def vc33 (n0_0 : Int) (n0_1 : Int) (x0_2 : Sl) (n_1 : Int) (v : World) (Q : Value → World → Prop) : Prop :=
 ((decide (n_1 < 1)) = true →
 Q (.int .i64 (-1)) v) ∧
 ((decide (n_1 < 1)) = false →
 ∃ n1 : Int, Wr .i64 (n_1 - 1) n1 ∧
 ∃ I2 : Int → Int → World → Prop, ∃ m3 : Int → Int → World → Nat, I2 n1 0 v ∧
 ∀ n4 : Int, ∀ n5 : Int, ∀ w6 : World, I2 n4 n5 w6 →
 ((decide (n5 < (x0_2.n : Int))) = true →
 IxOk x0_2 n5 ∧
 ∃ n7 : Int, ∃ n8 : Int, ∃ x9 : Sl, (w6.cell? ((elA x0_2 n5 3).add 0) = some (.int .i64 n7) ∧
 w6.cell? ((elA x0_2 n5 3).add 1) = some (.int .i64 n8) ∧
 w6.cell? ((elA x0_2 n5 3).add 2) = some (x9.val)) ∧
 ∃ n10 : Int, (Trip Tryd.prog 33 #[.agg #[.int .i64 n7, .int .i64 n8, x9.val], .int .i64 n4] w6 fun r11 w12 => r11 = .int .i64 n10 ∧ Sub w6 w12) ∧
 ((decide (n10 < 0)) = true →
 Q (.int .i64 (-1)) w6) ∧
 ((decide (n10 < 0)) = false →
 ∃ n13 : Int, Wr .i64 (n5 + 1) n13 ∧
 ((.num .i64 n0_0 : SV) = .num .i64 n0_0) ∧
 ((.num .i64 n0_1 : SV) = .num .i64 n0_1) ∧
 ((.sl x0_2 : SV) = .sl x0_2) ∧
 I2 n10 n13 w6 ∧
 m3 n10 n13 w6 < m3 n4 n5 w6)) ∧
 ((decide (n5 < (x0_2.n : Int))) = false →
 Q (.int .i64 n4) w6))
theorem of33 (n0_0 : Int) (n0_1 : Int) (x0_2 : Sl) (n_1 : Int) (v : World) (Q : Value → World → Prop) (h : vc33 n0_0 n0_1 x0_2 n_1 v Q) : Trip Tryd.prog 33 #[.agg #[.int .i64 n0_0, .int .i64 n0_1, x0_2.val], .int .i64 n_1] v Q :=
 trip_of_eq (args := [.ag [.num .i64 n0_0, .num .i64 n0_1, .sl x0_2], .num .i64 n_1]) (A := ⟨[(5, [(1, .int .i64), (5, .int .i64)], [])], [], [], [], psG⟩) Tryd.func33 (by kernel_rfl) (by kernel_rfl) (by kernel_rfl : vc33 n0_0 n0_1 x0_2 n_1 v Q = _) h

def vc34 (n_0 : Int) (n_1 : Int) (n_2 : Int) (v : World) (Q : Value → World → Prop) : Prop :=
 Q (.bool ((decide (n_1 ≤ n_0)) && (decide (n_0 ≤ n_2)))) v
theorem of34 (n_0 : Int) (n_1 : Int) (n_2 : Int) (v : World) (Q : Value → World → Prop) (h : vc34 n_0 n_1 n_2 v Q) : Trip Tryd.prog 34 #[.int .i64 n_0, .int .i64 n_1, .int .i64 n_2] v Q :=
 trip_of_eq (args := [.num .i64 n_0, .num .i64 n_1, .num .i64 n_2]) (A := ⟨[], [], [], [], psG⟩) Tryd.func34 (by kernel_rfl) (by kernel_rfl) (by kernel_rfl : vc34 n_0 n_1 n_2 v Q = _) h

def vc35 (n_0 : Int) (v : World) (Q : Value → World → Prop) : Prop :=
 Q (.bool ((((decide (n_0 = 6)) || (decide (n_0 = 8))) || (decide (n_0 = 9))) || (decide (n_0 = 10)))) v
theorem of35 (n_0 : Int) (v : World) (Q : Value → World → Prop) (h : vc35 n_0 v Q) : Trip Tryd.prog 35 #[.int .i64 n_0] v Q :=
 trip_of_eq (args := [.num .i64 n_0]) (A := ⟨[], [], [], [], psG⟩) Tryd.func35 (by kernel_rfl) (by kernel_rfl) (by kernel_rfl : vc35 n_0 v Q = _) h

def vc36 (n_0 : Int) (v : World) (Q : Value → World → Prop) : Prop :=
 ∃ n1 : Int, ((decide (n_0 < 0)) = true →
 Wr .i64 (0 - n_0) n1) ∧
 (((decide (n_0 < 0)) && (decide (n_0 = n1))) = true →
 Q (.string (ByteArray.mk #[45, 57, 50, 50, 51, 51, 55, 50, 48, 51, 54, 56, 53, 52, 55, 55, 53, 56, 48, 56])) v) ∧
 (((decide (n_0 < 0)) && (decide (n_0 = n1))) = false →
 ((decide (n_0 < 0)) = true →
 ∃ n2 : Int, Wr .i64 (0 - n_0) n2 ∧
 ∃ s3 : ByteArray, (Trip Tryd.prog 36 #[.int .i64 n2] v fun r4 w5 => r4 = .string s3 ∧ Sub v w5) ∧
 (((ByteArray.mk #[45]).size + s3.size : Nat) : Int) ≤ 9223372036854775807 ∧
 Q (.string ((ByteArray.mk #[45]) ++ s3)) v) ∧
 ((decide (n_0 < 0)) = false →
 ((decide (n_0 < 10)) = true →
 ∃ n6 : Int, Wr .i64 (n_0 + 1) n6 ∧
 StrOk (ByteArray.mk #[48, 49, 50, 51, 52, 53, 54, 55, 56, 57]) n_0 n6 ∧
 Q (.string (strCut (ByteArray.mk #[48, 49, 50, 51, 52, 53, 54, 55, 56, 57]) n_0 n6)) v) ∧
 ((decide (n_0 < 10)) = false →
 ∃ n7 : Int, ((10 : Int) ≠ 0 ∧ Wr .i64 (Int.tdiv n_0 10) n7) ∧
 ∃ s8 : ByteArray, (Trip Tryd.prog 36 #[.int .i64 n7] v fun r9 w10 => r9 = .string s8 ∧ Sub v w10) ∧
 (10 : Int) ≠ 0 ∧
 ∃ s11 : ByteArray, (Trip Tryd.prog 36 #[.int .i64 (Int.tmod n_0 10)] v fun r12 w13 => r12 = .string s11 ∧ Sub v w13) ∧
 ((s8.size + s11.size : Nat) : Int) ≤ 9223372036854775807 ∧
 Q (.string (s8 ++ s11)) v)))
theorem of36 (n_0 : Int) (v : World) (Q : Value → World → Prop) (h : vc36 n_0 v Q) : Trip Tryd.prog 36 #[.int .i64 n_0] v Q :=
 trip_of_eq (args := [.num .i64 n_0]) (A := ⟨[], [], [], [], psG⟩) Tryd.func36 (by kernel_rfl) (by kernel_rfl) (by kernel_rfl : vc36 n_0 v Q = _) h

def vc37 (n_0 : Int) (v : World) (Q : Value → World → Prop) : Prop :=
 StepT Tryd.prog (Instr.buildSlice 94 14 #[(0, (.string (ByteArray.mk #[]))), (1, (.string (ByteArray.mk #[97, 100, 100]))), (2, (.string (ByteArray.mk #[115, 117, 98]))), (3, (.string (ByteArray.mk #[109, 117, 108]))), (4, (.string (ByteArray.mk #[108, 101, 115, 115]))), (5, (.string (ByteArray.mk #[112, 114, 105, 110, 116]))), (6, (.string (ByteArray.mk #[99, 111, 110]))), (7, (.string (ByteArray.mk #[105, 102]))), (8, (.string (ByteArray.mk #[109, 97, 116, 99, 104]))), (9, (.string (ByteArray.mk #[99, 97, 108, 108]))), (10, (.string (ByteArray.mk #[99, 108, 111, 115, 101]))), (11, (.string (ByteArray.mk #[97, 112, 112, 108, 121]))), (12, (.string (ByteArray.mk #[]))), (13, (.string (ByteArray.mk #[108, 101, 116])))]) v fun r1 w2 =>
 ∃ x3 : Sl, r1 = x3.val ∧
 IxOk x3 n_0 ∧
 ∃ s4 : ByteArray, w2.cell? ((elA x3 n_0 1).add 0) = some (.string s4) ∧
 Q (.string s4) w2
theorem of37 (n_0 : Int) (v : World) (Q : Value → World → Prop) (h : vc37 n_0 v Q) : Trip Tryd.prog 37 #[.int .i64 n_0] v Q :=
 trip_of_eq (args := [.num .i64 n_0]) (A := ⟨[], [], [], [], psG⟩) Tryd.func37 (by kernel_rfl) (by kernel_rfl) (by kernel_rfl : vc37 n_0 v Q = _) h

def vc40 (n_0 : Int) (v : World) (Q : Value → World → Prop) : Prop :=
 Q (.bool ((decide (n_0 ≥ (-999))) && (decide (n_0 ≤ 999)))) v
theorem of40 (n_0 : Int) (v : World) (Q : Value → World → Prop) (h : vc40 n_0 v Q) : Trip Tryd.prog 40 #[.int .i64 n_0] v Q :=
 trip_of_eq (args := [.num .i64 n_0]) (A := ⟨[], [], [], [], psG⟩) Tryd.func40 (by kernel_rfl) (by kernel_rfl) (by kernel_rfl : vc40 n_0 v Q = _) h

def vc41 (n_0 : Int) (v : World) (Q : Value → World → Prop) : Prop :=
 ((decide (n_0 = 1)) = true →
 Q (.tuple #[.string (ByteArray.mk #[97, 100, 100]), .bool false]) v) ∧
 ((decide (n_0 = 1)) = false →
 ((decide (n_0 = 2)) = true →
 Q (.tuple #[.string (ByteArray.mk #[115, 117, 98]), .bool false]) v) ∧
 ((decide (n_0 = 2)) = false →
 ((decide (n_0 = 3)) = true →
 Q (.tuple #[.string (ByteArray.mk #[109, 117, 108]), .bool false]) v) ∧
 ((decide (n_0 = 3)) = false →
 ((decide (n_0 = 4)) = true →
 Q (.tuple #[.string (ByteArray.mk #[108, 101, 115, 115]), .bool false]) v) ∧
 ((decide (n_0 = 4)) = false →
 ((decide (n_0 = 5)) = true →
 Q (.tuple #[.string (ByteArray.mk #[112, 114, 105, 110, 116]), .bool false]) v) ∧
 ((decide (n_0 = 5)) = false →
 ((decide (n_0 = 6)) = true →
 Q (.tuple #[.string (ByteArray.mk #[99, 111, 110]), .bool true]) v) ∧
 ((decide (n_0 = 6)) = false →
 ((decide (n_0 = 7)) = true →
 Q (.tuple #[.string (ByteArray.mk #[105, 102]), .bool false]) v) ∧
 ((decide (n_0 = 7)) = false →
 ((decide (n_0 = 8)) = true →
 Q (.tuple #[.string (ByteArray.mk #[109, 97, 116, 99, 104]), .bool true]) v) ∧
 ((decide (n_0 = 8)) = false →
 ((decide (n_0 = 9)) = true →
 Q (.tuple #[.string (ByteArray.mk #[99, 97, 108, 108]), .bool true]) v) ∧
 ((decide (n_0 = 9)) = false →
 ((decide (n_0 = 10)) = true →
 Q (.tuple #[.string (ByteArray.mk #[99, 108, 111, 115, 101]), .bool true]) v) ∧
 ((decide (n_0 = 10)) = false →
 ((decide (n_0 = 11)) = true →
 Q (.tuple #[.string (ByteArray.mk #[97, 112, 112, 108, 121]), .bool false]) v) ∧
 ((decide (n_0 = 11)) = false →
 ((decide (n_0 = 13)) = true →
 Q (.tuple #[.string (ByteArray.mk #[108, 101, 116]), .bool false]) v) ∧
 ((decide (n_0 = 13)) = false →
 Q (.tuple #[.string (ByteArray.mk #[]), .bool false]) v))))))))))))
theorem of41 (n_0 : Int) (v : World) (Q : Value → World → Prop) (h : vc41 n_0 v Q) : Trip Tryd.prog 41 #[.int .i64 n_0] v Q :=
 trip_of_eq (args := [.num .i64 n_0]) (A := ⟨[], [], [], [], psG⟩) Tryd.func41 (by kernel_rfl) (by kernel_rfl) (by kernel_rfl : vc41 n_0 v Q = _) h

def vc52 (a_0 : Addr) (v : World) (Q : Value → World → Prop) : Prop :=
 Trip Tryd.prog 63 #[.pointer (some (a_0.add 0))] v fun r1 w2 =>
 ∃ x3 : Sl, ∃ x4 : Sl, r1 = .agg #[x3.val, x4.val] ∧
 Trip Tryd.prog 53 #[.pointer (some (a_0.add 0)), .int .i64 (x4.n : Int)] w2 fun r5 w6 =>
 ∃ n7 : Int, r5 = .int .i64 n7 ∧
 Q (.tuple #[.agg #[x3.val, x4.val], .int .i64 n7]) w6
theorem of52 (a_0 : Addr) (v : World) (Q : Value → World → Prop) (h : vc52 a_0 v Q) : Trip Tryd.prog 52 #[.pointer (some (a_0.add 0))] v Q :=
 trip_of_eq (args := [.pt a_0 0]) (A := ⟨[], [], [(2, [])], [], psG⟩) Tryd.func52 (by kernel_rfl) (by kernel_rfl) (by kernel_rfl : vc52 a_0 v Q = _) h

def vc53 (a_0 : Addr) (n_1 : Int) (v : World) (Q : Value → World → Prop) : Prop :=
 ∃ n1 : Int, v.cell? (a_0.add 1) = some (.int .i64 n1) ∧
 ∃ n2 : Int, Wr .i64 (n1 + 1) n2 ∧
 StoreAt v a_0 1 [.int .i64 n2] fun w3 =>
 ∃ x4 : Sl, ((decide (n_1 < 1)) = false →
 w3.cell? (a_0.add 0) = some (x4.val)) ∧
 (((decide (n_1 < 1)) || (decide ((x4.n : Int) = 0))) = true →
 Q (.int .i64 0) w3) ∧
 (((decide (n_1 < 1)) || (decide ((x4.n : Int) = 0))) = false →
 ∃ n5 : Int, w3.cell? (a_0.add 1) = some (.int .i64 n5) ∧
 ∃ n6 : Int, Wr .i64 (n5 - 1) n6 ∧
 ∃ x7 : Sl, w3.cell? (a_0.add 0) = some (x7.val) ∧
 ((decide (n6 < (x7.n : Int))) = true →
 ∃ x8 : Sl, w3.cell? (a_0.add 0) = some (x8.val) ∧
 IxOk x8 n6 ∧
 ∃ n9 : Int, w3.cell? ((elA x8 n6 1).add 0) = some (.int .u8 n9) ∧
 ∃ n10 : Int, Wr .i64 n9 n10 ∧
 (n_1 : Int) ≠ 0 ∧
 Q (.int .i64 (Int.tmod n10 n_1)) w3) ∧
 ((decide (n6 < (x7.n : Int))) = false →
 ∃ x11 : Sl, w3.cell? (a_0.add 0) = some (x11.val) ∧
 ∃ x12 : Sl, w3.cell? (a_0.add 0) = some (x12.val) ∧
 ((x12.n : Int) : Int) ≠ 0 ∧
 IxOk x11 (Int.tmod n6 (x12.n : Int)) ∧
 ∃ n13 : Int, w3.cell? ((elA x11 (Int.tmod n6 (x12.n : Int)) 1).add 0) = some (.int .u8 n13) ∧
 ∃ n14 : Int, Wr .i64 n13 n14 ∧
 ∃ n15 : Int, Wr .i64 (n14 * 131) n15 ∧
 ∃ x16 : Sl, w3.cell? (a_0.add 0) = some (x16.val) ∧
 ∃ n17 : Int, Wr .i64 (n6 * 7) n17 ∧
 ∃ n18 : Int, Wr .i64 (n17 + 3) n18 ∧
 ∃ x19 : Sl, w3.cell? (a_0.add 0) = some (x19.val) ∧
 ((x19.n : Int) : Int) ≠ 0 ∧
 IxOk x16 (Int.tmod n18 (x19.n : Int)) ∧
 ∃ n20 : Int, w3.cell? ((elA x16 (Int.tmod n18 (x19.n : Int)) 1).add 0) = some (.int .u8 n20) ∧
 ∃ n21 : Int, Wr .i64 n20 n21 ∧
 ∃ n22 : Int, Wr .i64 (n21 * 1117) n22 ∧
 ∃ n23 : Int, Wr .i64 (n15 + n22) n23 ∧
 ∃ n24 : Int, Wr .i64 (n6 * 29) n24 ∧
 ∃ n25 : Int, Wr .i64 (n23 + n24) n25 ∧
 ∃ x26 : Sl, w3.cell? (a_0.add 0) = some (x26.val) ∧
 ∃ n27 : Int, (((x26.n : Int) : Int) ≠ 0 ∧ Wr .i64 (Int.tdiv n6 (x26.n : Int)) n27) ∧
 ∃ n28 : Int, Wr .i64 (n27 * 53) n28 ∧
 ∃ n29 : Int, Wr .i64 (n25 + n28) n29 ∧
 ∃ n30 : Int, ((64 : Int) ≠ 0 ∧ Wr .i64 (Int.tdiv n29 64) n30) ∧
 ∃ n31 : Int, PureT Tryd.prog (do eqGuard .xor 3 (.tmp 92) (.tmp 94) (.int .i64 n29) (.int .i64 n30); binOp .xor 3 (.int .i64 n29) (.int .i64 n30)) w3 (.int .i64 n31) ∧
 (n_1 : Int) ≠ 0 ∧
 Q (.int .i64 (Int.tmod n31 n_1)) w3))
theorem of53 (a_0 : Addr) (n_1 : Int) (v : World) (Q : Value → World → Prop) (h : vc53 a_0 n_1 v Q) : Trip Tryd.prog 53 #[.pointer (some (a_0.add 0)), .int .i64 n_1] v Q :=
 trip_of_eq (args := [.pt a_0 0, .num .i64 n_1]) (A := ⟨[], [], [], [], psG⟩) Tryd.func53 (by kernel_rfl) (by kernel_rfl) (by kernel_rfl : vc53 a_0 n_1 v Q = _) h

def vc54 (a_0 : Addr) (n1_0 : Int) (n1_1 : Int) (x1_2 : Sl) (v : World) (Q : Value → World → Prop) : Prop :=
 ∃ J1 : World → Prop, (((decide ((x1_2.n : Int) > 0)) = true →
 Trip Tryd.prog 53 #[.pointer (some (a_0.add 0)), .int .i64 3] v fun r2 w3 =>
 ∃ n4 : Int, r2 = .int .i64 n4 ∧
 ((decide (n4 > 0)) = true →
 Trip Tryd.prog 64 #[x1_2.val] w3 fun r5 w6 =>
 ∃ x7 : Sl, r5 = x7.val ∧
 Trip Tryd.prog 53 #[.pointer (some (a_0.add 0)), .int .i64 (x7.n : Int)] w6 fun r8 w9 =>
 ∃ n10 : Int, r8 = .int .i64 n10 ∧
 IxOk x7 n10 ∧
 ∃ n11 : Int, ∃ n12 : Int, ∃ x13 : Sl, (w9.cell? ((elA x7 n10 3).add 0) = some (.int .i64 n11) ∧
 w9.cell? ((elA x7 n10 3).add 1) = some (.int .i64 n12) ∧
 w9.cell? ((elA x7 n10 3).add 2) = some (x13.val)) ∧
 Trip Tryd.prog 54 #[.pointer (some (a_0.add 0)), .agg #[.int .i64 n11, .int .i64 n12, x13.val]] w9 fun r14 w15 =>
 ∃ n16 : Int, ∃ n17 : Int, ∃ x18 : Sl, r14 = .agg #[.int .i64 n16, .int .i64 n17, x18.val] ∧
 IxOk x7 n10 ∧
 StoreAt w15 (elA x7 n10 3) 0 [.int .i64 n16, .int .i64 n17, x18.val] fun w19 =>
 Trip Tryd.prog 55 #[.int .i64 n1_0, .int .i64 n1_1, x7.val] w19 fun r20 w21 =>
 ∃ n22 : Int, ∃ n23 : Int, ∃ x24 : Sl, r20 = .agg #[.int .i64 n22, .int .i64 n23, x24.val] ∧
 Q (.agg #[.int .i64 n22, .int .i64 n23, x24.val]) w21) ∧
 ((decide (n4 > 0)) = false →
 ((.num .i64 n1_0 : SV) = .num .i64 n1_0) ∧
 ((.num .i64 n1_1 : SV) = .num .i64 n1_1) ∧
 ((.sl x1_2 : SV) = .sl x1_2) ∧
 ((.num .i64 0 : SV) = .num .i64 0) ∧
 ((.num .i64 0 : SV) = .num .i64 0) ∧
 ((.sl (Sl.mk none 0 0) : SV) = .sl (Sl.mk none 0 0)) ∧
 J1 w3)) ∧
 ((decide ((x1_2.n : Int) > 0)) = false →
 ((.num .i64 n1_0 : SV) = .num .i64 n1_0) ∧
 ((.num .i64 n1_1 : SV) = .num .i64 n1_1) ∧
 ((.sl x1_2 : SV) = .sl x1_2) ∧
 ((.num .i64 0 : SV) = .num .i64 0) ∧
 ((.num .i64 0 : SV) = .num .i64 0) ∧
 ((.sl (Sl.mk none 0 0) : SV) = .sl (Sl.mk none 0 0)) ∧
 J1 v)) ∧
 ∀ w25 : World, J1 w25 →
 Trip Tryd.prog 53 #[.pointer (some (a_0.add 0)), .int .i64 5] w25 fun r26 w27 =>
 ∃ n28 : Int, r26 = .int .i64 n28 ∧
 ((decide (n28 = 0)) = true →
 Trip Tryd.prog 53 #[.pointer (some (a_0.add 0)), .int .i64 15] w27 fun r29 w30 =>
 ∃ n31 : Int, r29 = .int .i64 n31 ∧
 Trip Tryd.prog 55 #[.int .i64 n31, .int .i64 n1_1, x1_2.val] w30 fun r32 w33 =>
 ∃ n34 : Int, ∃ n35 : Int, ∃ x36 : Sl, r32 = .agg #[.int .i64 n34, .int .i64 n35, x36.val] ∧
 Q (.agg #[.int .i64 n34, .int .i64 n35, x36.val]) w33) ∧
 ((decide (n28 = 0)) = false →
 ((decide (n28 = 1)) = true →
 StepT Tryd.prog (Instr.buildSlice 86 4 #[(0, (.int .i64 1)), (1, (.int .i64 (-1))), (2, (.int .i64 1000)), (3, (.int .i64 2))]) w27 fun r37 w38 =>
 ∃ x39 : Sl, r37 = x39.val ∧
 Trip Tryd.prog 65 #[.pointer (some (a_0.add 0)), x39.val] w38 fun r40 w41 =>
 ∃ n42 : Int, r40 = .int .i64 n42 ∧
 ∃ n43 : Int, Wr .i64 (n1_1 + n42) n43 ∧
 Trip Tryd.prog 55 #[.int .i64 n1_0, .int .i64 n43, x1_2.val] w41 fun r44 w45 =>
 ∃ n46 : Int, ∃ n47 : Int, ∃ x48 : Sl, r44 = .agg #[.int .i64 n46, .int .i64 n47, x48.val] ∧
 Q (.agg #[.int .i64 n46, .int .i64 n47, x48.val]) w45) ∧
 ((decide (n28 = 1)) = false →
 ((decide (n28 = 2)) = true →
 Trip Tryd.prog 64 #[x1_2.val] w27 fun r49 w50 =>
 ∃ x51 : Sl, r49 = x51.val ∧
 Trip Tryd.prog 66 #[.int .i64 1] w50 fun r52 w53 =>
 ∃ n54 : Int, ∃ n55 : Int, ∃ x56 : Sl, r52 = .agg #[.int .i64 n54, .int .i64 n55, x56.val] ∧
 StepT Tryd.prog (Instr.buildSlice 27 1 #[(0, (.agg #[.int .i64 n54, .int .i64 n55, x56.val]))]) w53 fun r57 w58 =>
 ∃ x59 : Sl, r57 = x59.val ∧
 StepT Tryd.prog (Builtin.append_ #[27, 27] 27 #[(x51.val), (x59.val)]) w58 fun r60 w61 =>
 ∃ x62 : Sl, r60 = x62.val ∧
 Trip Tryd.prog 55 #[.int .i64 n1_0, .int .i64 n1_1, x62.val] w61 fun r63 w64 =>
 ∃ n65 : Int, ∃ n66 : Int, ∃ x67 : Sl, r63 = .agg #[.int .i64 n65, .int .i64 n66, x67.val] ∧
 Q (.agg #[.int .i64 n65, .int .i64 n66, x67.val]) w64) ∧
 ((decide (n28 = 2)) = false →
 ((decide (n28 = 3)) = true →
 StepT Tryd.prog (Instr.buildSlice 86 6 #[(0, (.int .i64 0)), (1, (.int .i64 1)), (2, (.int .i64 2)), (3, (.int .i64 5)), (4, (.int .i64 100)), (5, (.int .i64 (-1)))]) w27 fun r68 w69 =>
 ∃ x70 : Sl, r68 = x70.val ∧
 Trip Tryd.prog 65 #[.pointer (some (a_0.add 0)), x70.val] w69 fun r71 w72 =>
 ∃ n73 : Int, r71 = .int .i64 n73 ∧
 Trip Tryd.prog 67 #[.int .i64 n73] w72 fun r74 w75 =>
 ∃ n76 : Int, ∃ n77 : Int, ∃ x78 : Sl, r74 = .agg #[.int .i64 n76, .int .i64 n77, x78.val] ∧
 Q (.agg #[.int .i64 n76, .int .i64 n77, x78.val]) w75) ∧
 ((decide (n28 = 3)) = false →
 StepT Tryd.prog (Instr.buildSlice 86 4 #[(0, (.int .i64 0)), (1, (.int .i64 1000)), (2, (.int .i64 (-1000))), (3, (.int .i64 5))]) w27 fun r79 w80 =>
 ∃ x81 : Sl, r79 = x81.val ∧
 Trip Tryd.prog 65 #[.pointer (some (a_0.add 0)), x81.val] w80 fun r82 w83 =>
 ∃ n84 : Int, r82 = .int .i64 n84 ∧
 Trip Tryd.prog 66 #[.int .i64 n84] w83 fun r85 w86 =>
 ∃ n87 : Int, ∃ n88 : Int, ∃ x89 : Sl, r85 = .agg #[.int .i64 n87, .int .i64 n88, x89.val] ∧
 Q (.agg #[.int .i64 n87, .int .i64 n88, x89.val]) w86))))
theorem of54 (a_0 : Addr) (n1_0 : Int) (n1_1 : Int) (x1_2 : Sl) (v : World) (Q : Value → World → Prop) (h : vc54 a_0 n1_0 n1_1 x1_2 v Q) : Trip Tryd.prog 54 #[.pointer (some (a_0.add 0)), .agg #[.int .i64 n1_0, .int .i64 n1_1, x1_2.val]] v Q :=
 trip_of_eq (args := [.pt a_0 0, .ag [.num .i64 n1_0, .num .i64 n1_1, .sl x1_2]]) (A := ⟨[], [(6, [], [])], [(8, []), (10, []), (12, [])], [], psG⟩) Tryd.func54 (by kernel_rfl) (by kernel_rfl) (by kernel_rfl : vc54 a_0 n1_0 n1_1 x1_2 v Q = _) h

def vc55 (n_0 : Int) (n_1 : Int) (x_2 : Sl) (v : World) (Q : Value → World → Prop) : Prop :=
 Q (.agg #[.int .i64 n_0, .int .i64 n_1, x_2.val]) v
theorem of55 (n_0 : Int) (n_1 : Int) (x_2 : Sl) (v : World) (Q : Value → World → Prop) (h : vc55 n_0 n_1 x_2 v Q) : Trip Tryd.prog 55 #[.int .i64 n_0, .int .i64 n_1, x_2.val] v Q :=
 trip_of_eq (args := [.num .i64 n_0, .num .i64 n_1, .sl x_2]) (A := ⟨[], [], [], [], psG⟩) Tryd.func55 (by kernel_rfl) (by kernel_rfl) (by kernel_rfl : vc55 n_0 n_1 x_2 v Q = _) h

def vc63 (a_0 : Addr) (v : World) (Q : Value → World → Prop) : Prop :=
 Trip Tryd.prog 83 #[.pointer (some (a_0.add 0))] v fun r1 w2 =>
 ∃ x3 : Sl, r1 = x3.val ∧
 ∃ J4 : Sl → World → Prop, (StepT Tryd.prog (Instr.buildSlice 86 1 #[(0, (.int .i64 1))]) w2 fun r5 w6 =>
 ∃ x7 : Sl, r5 = x7.val ∧
 Trip Tryd.prog 84 #[x7.val, .int .i64 0] w6 fun r8 w9 =>
 ∃ x10 : Sl, ∃ n11 : Int, ∃ n12 : Int, ∃ n13 : Int, ∃ x14 : Sl, r8 = .agg #[x10.val, .int .i64 n11, .int .i64 n12, .int .i64 n13, x14.val] ∧
 StepT Tryd.prog (Instr.buildSlice 86 2 #[(0, (.int .i64 1)), (1, (.int .i64 1))]) w9 fun r15 w16 =>
 ∃ x17 : Sl, r15 = x17.val ∧
 Trip Tryd.prog 84 #[x17.val, .int .i64 1] w16 fun r18 w19 =>
 ∃ x20 : Sl, ∃ n21 : Int, ∃ n22 : Int, ∃ n23 : Int, ∃ x24 : Sl, r18 = .agg #[x20.val, .int .i64 n21, .int .i64 n22, .int .i64 n23, x24.val] ∧
 StepT Tryd.prog (Instr.buildSlice 86 1 #[(0, (.int .i64 1))]) w19 fun r25 w26 =>
 ∃ x27 : Sl, r25 = x27.val ∧
 Trip Tryd.prog 84 #[x27.val, .int .i64 1] w26 fun r28 w29 =>
 ∃ x30 : Sl, ∃ n31 : Int, ∃ n32 : Int, ∃ n33 : Int, ∃ x34 : Sl, r28 = .agg #[x30.val, .int .i64 n31, .int .i64 n32, .int .i64 n33, x34.val] ∧
 StepT Tryd.prog (Instr.buildSlice 86 2 #[(0, (.int .i64 1)), (1, (.int .i64 0))]) w29 fun r35 w36 =>
 ∃ x37 : Sl, r35 = x37.val ∧
 Trip Tryd.prog 84 #[x37.val, .int .i64 1] w36 fun r38 w39 =>
 ∃ x40 : Sl, ∃ n41 : Int, ∃ n42 : Int, ∃ n43 : Int, ∃ x44 : Sl, r38 = .agg #[x40.val, .int .i64 n41, .int .i64 n42, .int .i64 n43, x44.val] ∧
 StepT Tryd.prog (Instr.buildSlice 86 2 #[(0, (.int .i64 2)), (1, (.int .i64 1))]) w39 fun r45 w46 =>
 ∃ x47 : Sl, r45 = x47.val ∧
 Trip Tryd.prog 84 #[x47.val, .int .i64 1] w46 fun r48 w49 =>
 ∃ x50 : Sl, ∃ n51 : Int, ∃ n52 : Int, ∃ n53 : Int, ∃ x54 : Sl, r48 = .agg #[x50.val, .int .i64 n51, .int .i64 n52, .int .i64 n53, x54.val] ∧
 StepT Tryd.prog (Instr.buildSlice 86 2 #[(0, (.int .i64 1)), (1, (.int .i64 1))]) w49 fun r55 w56 =>
 ∃ x57 : Sl, r55 = x57.val ∧
 Trip Tryd.prog 84 #[x57.val, .int .i64 0] w56 fun r58 w59 =>
 ∃ x60 : Sl, ∃ n61 : Int, ∃ n62 : Int, ∃ n63 : Int, ∃ x64 : Sl, r58 = .agg #[x60.val, .int .i64 n61, .int .i64 n62, .int .i64 n63, x64.val] ∧
 StepT Tryd.prog (Instr.buildSlice 81 6 #[(0, (.agg #[x10.val, .int .i64 n11, .int .i64 n12, .int .i64 n13, x14.val])), (1, (.agg #[x20.val, .int .i64 n21, .int .i64 n22, .int .i64 n23, x24.val])), (2, (.agg #[x30.val, .int .i64 n31, .int .i64 n32, .int .i64 n33, x34.val])), (3, (.agg #[x40.val, .int .i64 n41, .int .i64 n42, .int .i64 n43, x44.val])), (4, (.agg #[x50.val, .int .i64 n51, .int .i64 n52, .int .i64 n53, x54.val])), (5, (.agg #[x60.val, .int .i64 n61, .int .i64 n62, .int .i64 n63, x64.val]))]) w59 fun r65 w66 =>
 ∃ x67 : Sl, r65 = x67.val ∧
 ((.sl (Sl.mk none 0 0) : SV) = .sl (Sl.mk none 0 0)) ∧
 ((.sl (Sl.mk none 0 0) : SV) = .sl (Sl.mk none 0 0)) ∧
 ((.sl x3 : SV) = .sl x3) ∧
 ((.sl (Sl.mk none 0 0) : SV) = .sl (Sl.mk none 0 0)) ∧
 J4 x67 w66) ∧
 ∀ x68 : Sl, ∀ w69 : World, J4 x68 w69 →
 ∃ J70 : Sl → World → Prop, (StepT Tryd.prog (Instr.buildSlice 86 1 #[(0, (.int .i64 3))]) w69 fun r71 w72 =>
 ∃ x73 : Sl, r71 = x73.val ∧
 Trip Tryd.prog 84 #[x73.val, .int .i64 0] w72 fun r74 w75 =>
 ∃ x76 : Sl, ∃ n77 : Int, ∃ n78 : Int, ∃ n79 : Int, ∃ x80 : Sl, r74 = .agg #[x76.val, .int .i64 n77, .int .i64 n78, .int .i64 n79, x80.val] ∧
 StepT Tryd.prog (Instr.buildSlice 86 1 #[(0, (.int .i64 0))]) w75 fun r81 w82 =>
 ∃ x83 : Sl, r81 = x83.val ∧
 Trip Tryd.prog 84 #[x83.val, .int .i64 1] w82 fun r84 w85 =>
 ∃ x86 : Sl, ∃ n87 : Int, ∃ n88 : Int, ∃ n89 : Int, ∃ x90 : Sl, r84 = .agg #[x86.val, .int .i64 n87, .int .i64 n88, .int .i64 n89, x90.val] ∧
 StepT Tryd.prog (Instr.buildSlice 86 2 #[(0, (.int .i64 0)), (1, (.int .i64 1))]) w85 fun r91 w92 =>
 ∃ x93 : Sl, r91 = x93.val ∧
 Trip Tryd.prog 84 #[x93.val, .int .i64 1] w92 fun r94 w95 =>
 ∃ x96 : Sl, ∃ n97 : Int, ∃ n98 : Int, ∃ n99 : Int, ∃ x100 : Sl, r94 = .agg #[x96.val, .int .i64 n97, .int .i64 n98, .int .i64 n99, x100.val] ∧
 StepT Tryd.prog (Instr.buildSlice 86 2 #[(0, (.int .i64 3)), (1, (.int .i64 0))]) w95 fun r101 w102 =>
 ∃ x103 : Sl, r101 = x103.val ∧
 Trip Tryd.prog 84 #[x103.val, .int .i64 3] w102 fun r104 w105 =>
 ∃ x106 : Sl, ∃ n107 : Int, ∃ n108 : Int, ∃ n109 : Int, ∃ x110 : Sl, r104 = .agg #[x106.val, .int .i64 n107, .int .i64 n108, .int .i64 n109, x110.val] ∧
 StepT Tryd.prog (Instr.buildSlice 86 1 #[(0, (.int .i64 3))]) w105 fun r111 w112 =>
 ∃ x113 : Sl, r111 = x113.val ∧
 Trip Tryd.prog 84 #[x113.val, .int .i64 1] w112 fun r114 w115 =>
 ∃ x116 : Sl, ∃ n117 : Int, ∃ n118 : Int, ∃ n119 : Int, ∃ x120 : Sl, r114 = .agg #[x116.val, .int .i64 n117, .int .i64 n118, .int .i64 n119, x120.val] ∧
 StepT Tryd.prog (Instr.buildSlice 86 3 #[(0, (.int .i64 1)), (1, (.int .i64 3)), (2, (.int .i64 0))]) w115 fun r121 w122 =>
 ∃ x123 : Sl, r121 = x123.val ∧
 Trip Tryd.prog 84 #[x123.val, .int .i64 0] w122 fun r124 w125 =>
 ∃ x126 : Sl, ∃ n127 : Int, ∃ n128 : Int, ∃ n129 : Int, ∃ x130 : Sl, r124 = .agg #[x126.val, .int .i64 n127, .int .i64 n128, .int .i64 n129, x130.val] ∧
 StepT Tryd.prog (Instr.buildSlice 81 6 #[(0, (.agg #[x76.val, .int .i64 n77, .int .i64 n78, .int .i64 n79, x80.val])), (1, (.agg #[x86.val, .int .i64 n87, .int .i64 n88, .int .i64 n89, x90.val])), (2, (.agg #[x96.val, .int .i64 n97, .int .i64 n98, .int .i64 n99, x100.val])), (3, (.agg #[x106.val, .int .i64 n107, .int .i64 n108, .int .i64 n109, x110.val])), (4, (.agg #[x116.val, .int .i64 n117, .int .i64 n118, .int .i64 n119, x120.val])), (5, (.agg #[x126.val, .int .i64 n127, .int .i64 n128, .int .i64 n129, x130.val]))]) w125 fun r131 w132 =>
 ∃ x133 : Sl, r131 = x133.val ∧
 ((.sl (Sl.mk none 0 0) : SV) = .sl (Sl.mk none 0 0)) ∧
 ((.sl (Sl.mk none 0 0) : SV) = .sl (Sl.mk none 0 0)) ∧
 ((.sl x3 : SV) = .sl x3) ∧
 ((.sl (Sl.mk none 0 0) : SV) = .sl (Sl.mk none 0 0)) ∧
 J70 x133 w132) ∧
 ∀ x134 : Sl, ∀ w135 : World, J70 x134 w135 →
 ∃ J136 : Sl → World → Prop, (StepT Tryd.prog (Instr.buildSlice 86 1 #[(0, (.int .i64 0))]) w135 fun r137 w138 =>
 ∃ x139 : Sl, r137 = x139.val ∧
 Trip Tryd.prog 84 #[x139.val, .int .i64 0] w138 fun r140 w141 =>
 ∃ x142 : Sl, ∃ n143 : Int, ∃ n144 : Int, ∃ n145 : Int, ∃ x146 : Sl, r140 = .agg #[x142.val, .int .i64 n143, .int .i64 n144, .int .i64 n145, x146.val] ∧
 StepT Tryd.prog (Instr.buildSlice 86 2 #[(0, (.int .i64 0)), (1, (.int .i64 0))]) w141 fun r147 w148 =>
 ∃ x149 : Sl, r147 = x149.val ∧
 Trip Tryd.prog 84 #[x149.val, .int .i64 0] w148 fun r150 w151 =>
 ∃ x152 : Sl, ∃ n153 : Int, ∃ n154 : Int, ∃ n155 : Int, ∃ x156 : Sl, r150 = .agg #[x152.val, .int .i64 n153, .int .i64 n154, .int .i64 n155, x156.val] ∧
 StepT Tryd.prog (Instr.buildSlice 86 2 #[(0, (.int .i64 1)), (1, (.int .i64 0))]) w151 fun r157 w158 =>
 ∃ x159 : Sl, r157 = x159.val ∧
 Trip Tryd.prog 84 #[x159.val, .int .i64 0] w158 fun r160 w161 =>
 ∃ x162 : Sl, ∃ n163 : Int, ∃ n164 : Int, ∃ n165 : Int, ∃ x166 : Sl, r160 = .agg #[x162.val, .int .i64 n163, .int .i64 n164, .int .i64 n165, x166.val] ∧
 StepT Tryd.prog (Instr.buildSlice 86 1 #[(0, (.int .i64 0))]) w161 fun r167 w168 =>
 ∃ x169 : Sl, r167 = x169.val ∧
 Trip Tryd.prog 84 #[x169.val, .int .i64 1] w168 fun r170 w171 =>
 ∃ x172 : Sl, ∃ n173 : Int, ∃ n174 : Int, ∃ n175 : Int, ∃ x176 : Sl, r170 = .agg #[x172.val, .int .i64 n173, .int .i64 n174, .int .i64 n175, x176.val] ∧
 StepT Tryd.prog (Instr.buildSlice 81 4 #[(0, (.agg #[x142.val, .int .i64 n143, .int .i64 n144, .int .i64 n145, x146.val])), (1, (.agg #[x152.val, .int .i64 n153, .int .i64 n154, .int .i64 n155, x156.val])), (2, (.agg #[x162.val, .int .i64 n163, .int .i64 n164, .int .i64 n165, x166.val])), (3, (.agg #[x172.val, .int .i64 n173, .int .i64 n174, .int .i64 n175, x176.val]))]) w171 fun r177 w178 =>
 ∃ x179 : Sl, r177 = x179.val ∧
 ((.sl (Sl.mk none 0 0) : SV) = .sl (Sl.mk none 0 0)) ∧
 ((.sl (Sl.mk none 0 0) : SV) = .sl (Sl.mk none 0 0)) ∧
 ((.sl x3 : SV) = .sl x3) ∧
 ((.sl (Sl.mk none 0 0) : SV) = .sl (Sl.mk none 0 0)) ∧
 J136 x179 w178) ∧
 ∀ x180 : Sl, ∀ w181 : World, J136 x180 w181 →
 ∃ J182 : Sl → World → Prop, (StepT Tryd.prog (Instr.buildSlice 86 0 #[]) w181 fun r183 w184 =>
 ∃ x185 : Sl, r183 = x185.val ∧
 Sub w181 w184 ∧
 Trip Tryd.prog 84 #[x185.val, .int .i64 0] w184 fun r186 w187 =>
 ∃ x188 : Sl, ∃ n189 : Int, ∃ n190 : Int, ∃ n191 : Int, ∃ x192 : Sl, r186 = .agg #[x188.val, .int .i64 n189, .int .i64 n190, .int .i64 n191, x192.val] ∧
 Sub w184 w187 ∧
 Trip Tryd.prog 53 #[.pointer (some (a_0.add 0)), .int .i64 (x68.n : Int)] w187 fun r193 w194 =>
 ∃ n195 : Int, r193 = .int .i64 n195 ∧
 (IxOk x68 n195 ∧
 (∃ x196 : Sl, ∃ n197 : Int, ∃ n198 : Int, ∃ n199 : Int, ∃ x200 : Sl, (w194.cell? ((elA x68 n195 5).add 0) = some (x196.val) ∧
 w194.cell? ((elA x68 n195 5).add 1) = some (.int .i64 n197) ∧
 w194.cell? ((elA x68 n195 5).add 2) = some (.int .i64 n198) ∧
 w194.cell? ((elA x68 n195 5).add 3) = some (.int .i64 n199) ∧
 w194.cell? ((elA x68 n195 5).add 4) = some (x200.val)) ∧
 Trip Tryd.prog 53 #[.pointer (some (a_0.add 0)), .int .i64 (x134.n : Int)] w194 fun r201 w202 =>
 ∃ n203 : Int, r201 = .int .i64 n203 ∧
 (IxOk x134 n203 ∧
 (∃ x204 : Sl, ∃ n205 : Int, ∃ n206 : Int, ∃ n207 : Int, ∃ x208 : Sl, (w202.cell? ((elA x134 n203 5).add 0) = some (x204.val) ∧
 w202.cell? ((elA x134 n203 5).add 1) = some (.int .i64 n205) ∧
 w202.cell? ((elA x134 n203 5).add 2) = some (.int .i64 n206) ∧
 w202.cell? ((elA x134 n203 5).add 3) = some (.int .i64 n207) ∧
 w202.cell? ((elA x134 n203 5).add 4) = some (x208.val)) ∧
 Trip Tryd.prog 53 #[.pointer (some (a_0.add 0)), .int .i64 (x180.n : Int)] w202 fun r209 w210 =>
 ∃ n211 : Int, r209 = .int .i64 n211 ∧
 IxOk x180 n211 ∧
 ∃ x212 : Sl, ∃ n213 : Int, ∃ n214 : Int, ∃ n215 : Int, ∃ x216 : Sl, (w210.cell? ((elA x180 n211 5).add 0) = some (x212.val) ∧
 w210.cell? ((elA x180 n211 5).add 1) = some (.int .i64 n213) ∧
 w210.cell? ((elA x180 n211 5).add 2) = some (.int .i64 n214) ∧
 w210.cell? ((elA x180 n211 5).add 3) = some (.int .i64 n215) ∧
 w210.cell? ((elA x180 n211 5).add 4) = some (x216.val)) ∧
 StepT Tryd.prog (Instr.buildSlice 81 4 #[(0, (.agg #[x188.val, .int .i64 n189, .int .i64 n190, .int .i64 n191, x192.val])), (1, (.agg #[x196.val, .int .i64 n197, .int .i64 n198, .int .i64 n199, x200.val])), (2, (.agg #[x204.val, .int .i64 n205, .int .i64 n206, .int .i64 n207, x208.val])), (3, (.agg #[x212.val, .int .i64 n213, .int .i64 n214, .int .i64 n215, x216.val]))]) w210 fun r217 w218 =>
 ∃ x219 : Sl, r217 = x219.val ∧
 ((.sl (Sl.mk none 0 0) : SV) = .sl (Sl.mk none 0 0)) ∧
 ((.sl (Sl.mk none 0 0) : SV) = .sl (Sl.mk none 0 0)) ∧
 ((.sl x3 : SV) = .sl x3) ∧
 J182 x219 w218) ∧
 Trip Tryd.prog 53 #[.pointer (some (a_0.add 0)), .int .i64 (x180.n : Int)] w202 fun r220 w221 =>
 ∃ n222 : Int, r220 = .int .i64 n222 ∧
 ∃ x223 : Sl, ∃ n224 : Int, ∃ n225 : Int, ∃ n226 : Int, ∃ x227 : Sl, (w221.cell? ((elA x134 n203 5).add 0) = some (x223.val) ∧
 w221.cell? ((elA x134 n203 5).add 1) = some (.int .i64 n224) ∧
 w221.cell? ((elA x134 n203 5).add 2) = some (.int .i64 n225) ∧
 w221.cell? ((elA x134 n203 5).add 3) = some (.int .i64 n226) ∧
 w221.cell? ((elA x134 n203 5).add 4) = some (x227.val)) ∧
 IxOk x180 n222 ∧
 ∃ x228 : Sl, ∃ n229 : Int, ∃ n230 : Int, ∃ n231 : Int, ∃ x232 : Sl, (w221.cell? ((elA x180 n222 5).add 0) = some (x228.val) ∧
 w221.cell? ((elA x180 n222 5).add 1) = some (.int .i64 n229) ∧
 w221.cell? ((elA x180 n222 5).add 2) = some (.int .i64 n230) ∧
 w221.cell? ((elA x180 n222 5).add 3) = some (.int .i64 n231) ∧
 w221.cell? ((elA x180 n222 5).add 4) = some (x232.val)) ∧
 StepT Tryd.prog (Instr.buildSlice 81 4 #[(0, (.agg #[x188.val, .int .i64 n189, .int .i64 n190, .int .i64 n191, x192.val])), (1, (.agg #[x196.val, .int .i64 n197, .int .i64 n198, .int .i64 n199, x200.val])), (2, (.agg #[x223.val, .int .i64 n224, .int .i64 n225, .int .i64 n226, x227.val])), (3, (.agg #[x228.val, .int .i64 n229, .int .i64 n230, .int .i64 n231, x232.val]))]) w221 fun r233 w234 =>
 ∃ x235 : Sl, r233 = x235.val ∧
 ((.sl (Sl.mk none 0 0) : SV) = .sl (Sl.mk none 0 0)) ∧
 ((.sl (Sl.mk none 0 0) : SV) = .sl (Sl.mk none 0 0)) ∧
 ((.sl x3 : SV) = .sl x3) ∧
 J182 x235 w234) ∧
 Trip Tryd.prog 53 #[.pointer (some (a_0.add 0)), .int .i64 (x180.n : Int)] w202 fun r236 w237 =>
 ∃ n238 : Int, r236 = .int .i64 n238 ∧
 IxOk x134 n203 ∧
 ∃ x239 : Sl, ∃ n240 : Int, ∃ n241 : Int, ∃ n242 : Int, ∃ x243 : Sl, (w237.cell? ((elA x134 n203 5).add 0) = some (x239.val) ∧
 w237.cell? ((elA x134 n203 5).add 1) = some (.int .i64 n240) ∧
 w237.cell? ((elA x134 n203 5).add 2) = some (.int .i64 n241) ∧
 w237.cell? ((elA x134 n203 5).add 3) = some (.int .i64 n242) ∧
 w237.cell? ((elA x134 n203 5).add 4) = some (x243.val)) ∧
 IxOk x180 n238 ∧
 ∃ x244 : Sl, ∃ n245 : Int, ∃ n246 : Int, ∃ n247 : Int, ∃ x248 : Sl, (w237.cell? ((elA x180 n238 5).add 0) = some (x244.val) ∧
 w237.cell? ((elA x180 n238 5).add 1) = some (.int .i64 n245) ∧
 w237.cell? ((elA x180 n238 5).add 2) = some (.int .i64 n246) ∧
 w237.cell? ((elA x180 n238 5).add 3) = some (.int .i64 n247) ∧
 w237.cell? ((elA x180 n238 5).add 4) = some (x248.val)) ∧
 StepT Tryd.prog (Instr.buildSlice 81 4 #[(0, (.agg #[x188.val, .int .i64 n189, .int .i64 n190, .int .i64 n191, x192.val])), (1, (.agg #[x196.val, .int .i64 n197, .int .i64 n198, .int .i64 n199, x200.val])), (2, (.agg #[x239.val, .int .i64 n240, .int .i64 n241, .int .i64 n242, x243.val])), (3, (.agg #[x244.val, .int .i64 n245, .int .i64 n246, .int .i64 n247, x248.val]))]) w237 fun r249 w250 =>
 ∃ x251 : Sl, r249 = x251.val ∧
 ((.sl (Sl.mk none 0 0) : SV) = .sl (Sl.mk none 0 0)) ∧
 ((.sl (Sl.mk none 0 0) : SV) = .sl (Sl.mk none 0 0)) ∧
 ((.sl x3 : SV) = .sl x3) ∧
 J182 x251 w250) ∧
 Trip Tryd.prog 53 #[.pointer (some (a_0.add 0)), .int .i64 (x134.n : Int)] w194 fun r252 w253 =>
 ∃ n254 : Int, r252 = .int .i64 n254 ∧
 (∃ x255 : Sl, ∃ n256 : Int, ∃ n257 : Int, ∃ n258 : Int, ∃ x259 : Sl, (w253.cell? ((elA x68 n195 5).add 0) = some (x255.val) ∧
 w253.cell? ((elA x68 n195 5).add 1) = some (.int .i64 n256) ∧
 w253.cell? ((elA x68 n195 5).add 2) = some (.int .i64 n257) ∧
 w253.cell? ((elA x68 n195 5).add 3) = some (.int .i64 n258) ∧
 w253.cell? ((elA x68 n195 5).add 4) = some (x259.val)) ∧
 (IxOk x134 n254 ∧
 (∃ x260 : Sl, ∃ n261 : Int, ∃ n262 : Int, ∃ n263 : Int, ∃ x264 : Sl, (w253.cell? ((elA x134 n254 5).add 0) = some (x260.val) ∧
 w253.cell? ((elA x134 n254 5).add 1) = some (.int .i64 n261) ∧
 w253.cell? ((elA x134 n254 5).add 2) = some (.int .i64 n262) ∧
 w253.cell? ((elA x134 n254 5).add 3) = some (.int .i64 n263) ∧
 w253.cell? ((elA x134 n254 5).add 4) = some (x264.val)) ∧
 Trip Tryd.prog 53 #[.pointer (some (a_0.add 0)), .int .i64 (x180.n : Int)] w253 fun r265 w266 =>
 ∃ n267 : Int, r265 = .int .i64 n267 ∧
 IxOk x180 n267 ∧
 ∃ x268 : Sl, ∃ n269 : Int, ∃ n270 : Int, ∃ n271 : Int, ∃ x272 : Sl, (w266.cell? ((elA x180 n267 5).add 0) = some (x268.val) ∧
 w266.cell? ((elA x180 n267 5).add 1) = some (.int .i64 n269) ∧
 w266.cell? ((elA x180 n267 5).add 2) = some (.int .i64 n270) ∧
 w266.cell? ((elA x180 n267 5).add 3) = some (.int .i64 n271) ∧
 w266.cell? ((elA x180 n267 5).add 4) = some (x272.val)) ∧
 StepT Tryd.prog (Instr.buildSlice 81 4 #[(0, (.agg #[x188.val, .int .i64 n189, .int .i64 n190, .int .i64 n191, x192.val])), (1, (.agg #[x255.val, .int .i64 n256, .int .i64 n257, .int .i64 n258, x259.val])), (2, (.agg #[x260.val, .int .i64 n261, .int .i64 n262, .int .i64 n263, x264.val])), (3, (.agg #[x268.val, .int .i64 n269, .int .i64 n270, .int .i64 n271, x272.val]))]) w266 fun r273 w274 =>
 ∃ x275 : Sl, r273 = x275.val ∧
 ((.sl (Sl.mk none 0 0) : SV) = .sl (Sl.mk none 0 0)) ∧
 ((.sl (Sl.mk none 0 0) : SV) = .sl (Sl.mk none 0 0)) ∧
 ((.sl x3 : SV) = .sl x3) ∧
 J182 x275 w274) ∧
 Trip Tryd.prog 53 #[.pointer (some (a_0.add 0)), .int .i64 (x180.n : Int)] w253 fun r276 w277 =>
 ∃ n278 : Int, r276 = .int .i64 n278 ∧
 ∃ x279 : Sl, ∃ n280 : Int, ∃ n281 : Int, ∃ n282 : Int, ∃ x283 : Sl, (w277.cell? ((elA x134 n254 5).add 0) = some (x279.val) ∧
 w277.cell? ((elA x134 n254 5).add 1) = some (.int .i64 n280) ∧
 w277.cell? ((elA x134 n254 5).add 2) = some (.int .i64 n281) ∧
 w277.cell? ((elA x134 n254 5).add 3) = some (.int .i64 n282) ∧
 w277.cell? ((elA x134 n254 5).add 4) = some (x283.val)) ∧
 IxOk x180 n278 ∧
 ∃ x284 : Sl, ∃ n285 : Int, ∃ n286 : Int, ∃ n287 : Int, ∃ x288 : Sl, (w277.cell? ((elA x180 n278 5).add 0) = some (x284.val) ∧
 w277.cell? ((elA x180 n278 5).add 1) = some (.int .i64 n285) ∧
 w277.cell? ((elA x180 n278 5).add 2) = some (.int .i64 n286) ∧
 w277.cell? ((elA x180 n278 5).add 3) = some (.int .i64 n287) ∧
 w277.cell? ((elA x180 n278 5).add 4) = some (x288.val)) ∧
 StepT Tryd.prog (Instr.buildSlice 81 4 #[(0, (.agg #[x188.val, .int .i64 n189, .int .i64 n190, .int .i64 n191, x192.val])), (1, (.agg #[x255.val, .int .i64 n256, .int .i64 n257, .int .i64 n258, x259.val])), (2, (.agg #[x279.val, .int .i64 n280, .int .i64 n281, .int .i64 n282, x283.val])), (3, (.agg #[x284.val, .int .i64 n285, .int .i64 n286, .int .i64 n287, x288.val]))]) w277 fun r289 w290 =>
 ∃ x291 : Sl, r289 = x291.val ∧
 ((.sl (Sl.mk none 0 0) : SV) = .sl (Sl.mk none 0 0)) ∧
 ((.sl (Sl.mk none 0 0) : SV) = .sl (Sl.mk none 0 0)) ∧
 ((.sl x3 : SV) = .sl x3) ∧
 J182 x291 w290) ∧
 Trip Tryd.prog 53 #[.pointer (some (a_0.add 0)), .int .i64 (x180.n : Int)] w253 fun r292 w293 =>
 ∃ n294 : Int, r292 = .int .i64 n294 ∧
 IxOk x134 n254 ∧
 ∃ x295 : Sl, ∃ n296 : Int, ∃ n297 : Int, ∃ n298 : Int, ∃ x299 : Sl, (w293.cell? ((elA x134 n254 5).add 0) = some (x295.val) ∧
 w293.cell? ((elA x134 n254 5).add 1) = some (.int .i64 n296) ∧
 w293.cell? ((elA x134 n254 5).add 2) = some (.int .i64 n297) ∧
 w293.cell? ((elA x134 n254 5).add 3) = some (.int .i64 n298) ∧
 w293.cell? ((elA x134 n254 5).add 4) = some (x299.val)) ∧
 IxOk x180 n294 ∧
 ∃ x300 : Sl, ∃ n301 : Int, ∃ n302 : Int, ∃ n303 : Int, ∃ x304 : Sl, (w293.cell? ((elA x180 n294 5).add 0) = some (x300.val) ∧
 w293.cell? ((elA x180 n294 5).add 1) = some (.int .i64 n301) ∧
 w293.cell? ((elA x180 n294 5).add 2) = some (.int .i64 n302) ∧
 w293.cell? ((elA x180 n294 5).add 3) = some (.int .i64 n303) ∧
 w293.cell? ((elA x180 n294 5).add 4) = some (x304.val)) ∧
 StepT Tryd.prog (Instr.buildSlice 81 4 #[(0, (.agg #[x188.val, .int .i64 n189, .int .i64 n190, .int .i64 n191, x192.val])), (1, (.agg #[x255.val, .int .i64 n256, .int .i64 n257, .int .i64 n258, x259.val])), (2, (.agg #[x295.val, .int .i64 n296, .int .i64 n297, .int .i64 n298, x299.val])), (3, (.agg #[x300.val, .int .i64 n301, .int .i64 n302, .int .i64 n303, x304.val]))]) w293 fun r305 w306 =>
 ∃ x307 : Sl, r305 = x307.val ∧
 ((.sl (Sl.mk none 0 0) : SV) = .sl (Sl.mk none 0 0)) ∧
 ((.sl (Sl.mk none 0 0) : SV) = .sl (Sl.mk none 0 0)) ∧
 ((.sl x3 : SV) = .sl x3) ∧
 J182 x307 w306) ∧
 (IxOk x134 n254 ∧
 (∃ x308 : Sl, ∃ n309 : Int, ∃ n310 : Int, ∃ n311 : Int, ∃ x312 : Sl, (w253.cell? ((elA x68 n195 5).add 0) = some (x308.val) ∧
 w253.cell? ((elA x68 n195 5).add 1) = some (.int .i64 n309) ∧
 w253.cell? ((elA x68 n195 5).add 2) = some (.int .i64 n310) ∧
 w253.cell? ((elA x68 n195 5).add 3) = some (.int .i64 n311) ∧
 w253.cell? ((elA x68 n195 5).add 4) = some (x312.val)) ∧
 (∃ x313 : Sl, ∃ n314 : Int, ∃ n315 : Int, ∃ n316 : Int, ∃ x317 : Sl, (w253.cell? ((elA x134 n254 5).add 0) = some (x313.val) ∧
 w253.cell? ((elA x134 n254 5).add 1) = some (.int .i64 n314) ∧
 w253.cell? ((elA x134 n254 5).add 2) = some (.int .i64 n315) ∧
 w253.cell? ((elA x134 n254 5).add 3) = some (.int .i64 n316) ∧
 w253.cell? ((elA x134 n254 5).add 4) = some (x317.val)) ∧
 Trip Tryd.prog 53 #[.pointer (some (a_0.add 0)), .int .i64 (x180.n : Int)] w253 fun r318 w319 =>
 ∃ n320 : Int, r318 = .int .i64 n320 ∧
 IxOk x180 n320 ∧
 ∃ x321 : Sl, ∃ n322 : Int, ∃ n323 : Int, ∃ n324 : Int, ∃ x325 : Sl, (w319.cell? ((elA x180 n320 5).add 0) = some (x321.val) ∧
 w319.cell? ((elA x180 n320 5).add 1) = some (.int .i64 n322) ∧
 w319.cell? ((elA x180 n320 5).add 2) = some (.int .i64 n323) ∧
 w319.cell? ((elA x180 n320 5).add 3) = some (.int .i64 n324) ∧
 w319.cell? ((elA x180 n320 5).add 4) = some (x325.val)) ∧
 StepT Tryd.prog (Instr.buildSlice 81 4 #[(0, (.agg #[x188.val, .int .i64 n189, .int .i64 n190, .int .i64 n191, x192.val])), (1, (.agg #[x308.val, .int .i64 n309, .int .i64 n310, .int .i64 n311, x312.val])), (2, (.agg #[x313.val, .int .i64 n314, .int .i64 n315, .int .i64 n316, x317.val])), (3, (.agg #[x321.val, .int .i64 n322, .int .i64 n323, .int .i64 n324, x325.val]))]) w319 fun r326 w327 =>
 ∃ x328 : Sl, r326 = x328.val ∧
 ((.sl (Sl.mk none 0 0) : SV) = .sl (Sl.mk none 0 0)) ∧
 ((.sl (Sl.mk none 0 0) : SV) = .sl (Sl.mk none 0 0)) ∧
 ((.sl x3 : SV) = .sl x3) ∧
 J182 x328 w327) ∧
 Trip Tryd.prog 53 #[.pointer (some (a_0.add 0)), .int .i64 (x180.n : Int)] w253 fun r329 w330 =>
 ∃ n331 : Int, r329 = .int .i64 n331 ∧
 ∃ x332 : Sl, ∃ n333 : Int, ∃ n334 : Int, ∃ n335 : Int, ∃ x336 : Sl, (w330.cell? ((elA x134 n254 5).add 0) = some (x332.val) ∧
 w330.cell? ((elA x134 n254 5).add 1) = some (.int .i64 n333) ∧
 w330.cell? ((elA x134 n254 5).add 2) = some (.int .i64 n334) ∧
 w330.cell? ((elA x134 n254 5).add 3) = some (.int .i64 n335) ∧
 w330.cell? ((elA x134 n254 5).add 4) = some (x336.val)) ∧
 IxOk x180 n331 ∧
 ∃ x337 : Sl, ∃ n338 : Int, ∃ n339 : Int, ∃ n340 : Int, ∃ x341 : Sl, (w330.cell? ((elA x180 n331 5).add 0) = some (x337.val) ∧
 w330.cell? ((elA x180 n331 5).add 1) = some (.int .i64 n338) ∧
 w330.cell? ((elA x180 n331 5).add 2) = some (.int .i64 n339) ∧
 w330.cell? ((elA x180 n331 5).add 3) = some (.int .i64 n340) ∧
 w330.cell? ((elA x180 n331 5).add 4) = some (x341.val)) ∧
 StepT Tryd.prog (Instr.buildSlice 81 4 #[(0, (.agg #[x188.val, .int .i64 n189, .int .i64 n190, .int .i64 n191, x192.val])), (1, (.agg #[x308.val, .int .i64 n309, .int .i64 n310, .int .i64 n311, x312.val])), (2, (.agg #[x332.val, .int .i64 n333, .int .i64 n334, .int .i64 n335, x336.val])), (3, (.agg #[x337.val, .int .i64 n338, .int .i64 n339, .int .i64 n340, x341.val]))]) w330 fun r342 w343 =>
 ∃ x344 : Sl, r342 = x344.val ∧
 ((.sl (Sl.mk none 0 0) : SV) = .sl (Sl.mk none 0 0)) ∧
 ((.sl (Sl.mk none 0 0) : SV) = .sl (Sl.mk none 0 0)) ∧
 ((.sl x3 : SV) = .sl x3) ∧
 J182 x344 w343) ∧
 (∃ x345 : Sl, ∃ n346 : Int, ∃ n347 : Int, ∃ n348 : Int, ∃ x349 : Sl, (w253.cell? ((elA x134 n254 5).add 0) = some (x345.val) ∧
 w253.cell? ((elA x134 n254 5).add 1) = some (.int .i64 n346) ∧
 w253.cell? ((elA x134 n254 5).add 2) = some (.int .i64 n347) ∧
 w253.cell? ((elA x134 n254 5).add 3) = some (.int .i64 n348) ∧
 w253.cell? ((elA x134 n254 5).add 4) = some (x349.val)) ∧
 (∃ x350 : Sl, ∃ n351 : Int, ∃ n352 : Int, ∃ n353 : Int, ∃ x354 : Sl, (w253.cell? ((elA x68 n195 5).add 0) = some (x350.val) ∧
 w253.cell? ((elA x68 n195 5).add 1) = some (.int .i64 n351) ∧
 w253.cell? ((elA x68 n195 5).add 2) = some (.int .i64 n352) ∧
 w253.cell? ((elA x68 n195 5).add 3) = some (.int .i64 n353) ∧
 w253.cell? ((elA x68 n195 5).add 4) = some (x354.val)) ∧
 Trip Tryd.prog 53 #[.pointer (some (a_0.add 0)), .int .i64 (x180.n : Int)] w253 fun r355 w356 =>
 ∃ n357 : Int, r355 = .int .i64 n357 ∧
 IxOk x180 n357 ∧
 ∃ x358 : Sl, ∃ n359 : Int, ∃ n360 : Int, ∃ n361 : Int, ∃ x362 : Sl, (w356.cell? ((elA x180 n357 5).add 0) = some (x358.val) ∧
 w356.cell? ((elA x180 n357 5).add 1) = some (.int .i64 n359) ∧
 w356.cell? ((elA x180 n357 5).add 2) = some (.int .i64 n360) ∧
 w356.cell? ((elA x180 n357 5).add 3) = some (.int .i64 n361) ∧
 w356.cell? ((elA x180 n357 5).add 4) = some (x362.val)) ∧
 StepT Tryd.prog (Instr.buildSlice 81 4 #[(0, (.agg #[x188.val, .int .i64 n189, .int .i64 n190, .int .i64 n191, x192.val])), (1, (.agg #[x350.val, .int .i64 n351, .int .i64 n352, .int .i64 n353, x354.val])), (2, (.agg #[x345.val, .int .i64 n346, .int .i64 n347, .int .i64 n348, x349.val])), (3, (.agg #[x358.val, .int .i64 n359, .int .i64 n360, .int .i64 n361, x362.val]))]) w356 fun r363 w364 =>
 ∃ x365 : Sl, r363 = x365.val ∧
 ((.sl (Sl.mk none 0 0) : SV) = .sl (Sl.mk none 0 0)) ∧
 ((.sl (Sl.mk none 0 0) : SV) = .sl (Sl.mk none 0 0)) ∧
 ((.sl x3 : SV) = .sl x3) ∧
 J182 x365 w364) ∧
 Trip Tryd.prog 53 #[.pointer (some (a_0.add 0)), .int .i64 (x180.n : Int)] w253 fun r366 w367 =>
 ∃ n368 : Int, r366 = .int .i64 n368 ∧
 ∃ x369 : Sl, ∃ n370 : Int, ∃ n371 : Int, ∃ n372 : Int, ∃ x373 : Sl, (w367.cell? ((elA x68 n195 5).add 0) = some (x369.val) ∧
 w367.cell? ((elA x68 n195 5).add 1) = some (.int .i64 n370) ∧
 w367.cell? ((elA x68 n195 5).add 2) = some (.int .i64 n371) ∧
 w367.cell? ((elA x68 n195 5).add 3) = some (.int .i64 n372) ∧
 w367.cell? ((elA x68 n195 5).add 4) = some (x373.val)) ∧
 IxOk x180 n368 ∧
 ∃ x374 : Sl, ∃ n375 : Int, ∃ n376 : Int, ∃ n377 : Int, ∃ x378 : Sl, (w367.cell? ((elA x180 n368 5).add 0) = some (x374.val) ∧
 w367.cell? ((elA x180 n368 5).add 1) = some (.int .i64 n375) ∧
 w367.cell? ((elA x180 n368 5).add 2) = some (.int .i64 n376) ∧
 w367.cell? ((elA x180 n368 5).add 3) = some (.int .i64 n377) ∧
 w367.cell? ((elA x180 n368 5).add 4) = some (x378.val)) ∧
 StepT Tryd.prog (Instr.buildSlice 81 4 #[(0, (.agg #[x188.val, .int .i64 n189, .int .i64 n190, .int .i64 n191, x192.val])), (1, (.agg #[x369.val, .int .i64 n370, .int .i64 n371, .int .i64 n372, x373.val])), (2, (.agg #[x345.val, .int .i64 n346, .int .i64 n347, .int .i64 n348, x349.val])), (3, (.agg #[x374.val, .int .i64 n375, .int .i64 n376, .int .i64 n377, x378.val]))]) w367 fun r379 w380 =>
 ∃ x381 : Sl, r379 = x381.val ∧
 ((.sl (Sl.mk none 0 0) : SV) = .sl (Sl.mk none 0 0)) ∧
 ((.sl (Sl.mk none 0 0) : SV) = .sl (Sl.mk none 0 0)) ∧
 ((.sl x3 : SV) = .sl x3) ∧
 J182 x381 w380) ∧
 Trip Tryd.prog 53 #[.pointer (some (a_0.add 0)), .int .i64 (x180.n : Int)] w253 fun r382 w383 =>
 ∃ n384 : Int, r382 = .int .i64 n384 ∧
 ∃ x385 : Sl, ∃ n386 : Int, ∃ n387 : Int, ∃ n388 : Int, ∃ x389 : Sl, (w383.cell? ((elA x68 n195 5).add 0) = some (x385.val) ∧
 w383.cell? ((elA x68 n195 5).add 1) = some (.int .i64 n386) ∧
 w383.cell? ((elA x68 n195 5).add 2) = some (.int .i64 n387) ∧
 w383.cell? ((elA x68 n195 5).add 3) = some (.int .i64 n388) ∧
 w383.cell? ((elA x68 n195 5).add 4) = some (x389.val)) ∧
 ∃ x390 : Sl, ∃ n391 : Int, ∃ n392 : Int, ∃ n393 : Int, ∃ x394 : Sl, (w383.cell? ((elA x134 n254 5).add 0) = some (x390.val) ∧
 w383.cell? ((elA x134 n254 5).add 1) = some (.int .i64 n391) ∧
 w383.cell? ((elA x134 n254 5).add 2) = some (.int .i64 n392) ∧
 w383.cell? ((elA x134 n254 5).add 3) = some (.int .i64 n393) ∧
 w383.cell? ((elA x134 n254 5).add 4) = some (x394.val)) ∧
 IxOk x180 n384 ∧
 ∃ x395 : Sl, ∃ n396 : Int, ∃ n397 : Int, ∃ n398 : Int, ∃ x399 : Sl, (w383.cell? ((elA x180 n384 5).add 0) = some (x395.val) ∧
 w383.cell? ((elA x180 n384 5).add 1) = some (.int .i64 n396) ∧
 w383.cell? ((elA x180 n384 5).add 2) = some (.int .i64 n397) ∧
 w383.cell? ((elA x180 n384 5).add 3) = some (.int .i64 n398) ∧
 w383.cell? ((elA x180 n384 5).add 4) = some (x399.val)) ∧
 StepT Tryd.prog (Instr.buildSlice 81 4 #[(0, (.agg #[x188.val, .int .i64 n189, .int .i64 n190, .int .i64 n191, x192.val])), (1, (.agg #[x385.val, .int .i64 n386, .int .i64 n387, .int .i64 n388, x389.val])), (2, (.agg #[x390.val, .int .i64 n391, .int .i64 n392, .int .i64 n393, x394.val])), (3, (.agg #[x395.val, .int .i64 n396, .int .i64 n397, .int .i64 n398, x399.val]))]) w383 fun r400 w401 =>
 ∃ x402 : Sl, r400 = x402.val ∧
 ((.sl (Sl.mk none 0 0) : SV) = .sl (Sl.mk none 0 0)) ∧
 ((.sl (Sl.mk none 0 0) : SV) = .sl (Sl.mk none 0 0)) ∧
 ((.sl x3 : SV) = .sl x3) ∧
 J182 x402 w401) ∧
 Trip Tryd.prog 53 #[.pointer (some (a_0.add 0)), .int .i64 (x180.n : Int)] w253 fun r403 w404 =>
 ∃ n405 : Int, r403 = .int .i64 n405 ∧
 ∃ x406 : Sl, ∃ n407 : Int, ∃ n408 : Int, ∃ n409 : Int, ∃ x410 : Sl, (w404.cell? ((elA x68 n195 5).add 0) = some (x406.val) ∧
 w404.cell? ((elA x68 n195 5).add 1) = some (.int .i64 n407) ∧
 w404.cell? ((elA x68 n195 5).add 2) = some (.int .i64 n408) ∧
 w404.cell? ((elA x68 n195 5).add 3) = some (.int .i64 n409) ∧
 w404.cell? ((elA x68 n195 5).add 4) = some (x410.val)) ∧
 IxOk x134 n254 ∧
 ∃ x411 : Sl, ∃ n412 : Int, ∃ n413 : Int, ∃ n414 : Int, ∃ x415 : Sl, (w404.cell? ((elA x134 n254 5).add 0) = some (x411.val) ∧
 w404.cell? ((elA x134 n254 5).add 1) = some (.int .i64 n412) ∧
 w404.cell? ((elA x134 n254 5).add 2) = some (.int .i64 n413) ∧
 w404.cell? ((elA x134 n254 5).add 3) = some (.int .i64 n414) ∧
 w404.cell? ((elA x134 n254 5).add 4) = some (x415.val)) ∧
 IxOk x180 n405 ∧
 ∃ x416 : Sl, ∃ n417 : Int, ∃ n418 : Int, ∃ n419 : Int, ∃ x420 : Sl, (w404.cell? ((elA x180 n405 5).add 0) = some (x416.val) ∧
 w404.cell? ((elA x180 n405 5).add 1) = some (.int .i64 n417) ∧
 w404.cell? ((elA x180 n405 5).add 2) = some (.int .i64 n418) ∧
 w404.cell? ((elA x180 n405 5).add 3) = some (.int .i64 n419) ∧
 w404.cell? ((elA x180 n405 5).add 4) = some (x420.val)) ∧
 StepT Tryd.prog (Instr.buildSlice 81 4 #[(0, (.agg #[x188.val, .int .i64 n189, .int .i64 n190, .int .i64 n191, x192.val])), (1, (.agg #[x406.val, .int .i64 n407, .int .i64 n408, .int .i64 n409, x410.val])), (2, (.agg #[x411.val, .int .i64 n412, .int .i64 n413, .int .i64 n414, x415.val])), (3, (.agg #[x416.val, .int .i64 n417, .int .i64 n418, .int .i64 n419, x420.val]))]) w404 fun r421 w422 =>
 ∃ x423 : Sl, r421 = x423.val ∧
 ((.sl (Sl.mk none 0 0) : SV) = .sl (Sl.mk none 0 0)) ∧
 ((.sl (Sl.mk none 0 0) : SV) = .sl (Sl.mk none 0 0)) ∧
 ((.sl x3 : SV) = .sl x3) ∧
 J182 x423 w422) ∧
 Trip Tryd.prog 53 #[.pointer (some (a_0.add 0)), .int .i64 (x134.n : Int)] w194 fun r424 w425 =>
 ∃ n426 : Int, r424 = .int .i64 n426 ∧
 (IxOk x68 n195 ∧
 (∃ x427 : Sl, ∃ n428 : Int, ∃ n429 : Int, ∃ n430 : Int, ∃ x431 : Sl, (w425.cell? ((elA x68 n195 5).add 0) = some (x427.val) ∧
 w425.cell? ((elA x68 n195 5).add 1) = some (.int .i64 n428) ∧
 w425.cell? ((elA x68 n195 5).add 2) = some (.int .i64 n429) ∧
 w425.cell? ((elA x68 n195 5).add 3) = some (.int .i64 n430) ∧
 w425.cell? ((elA x68 n195 5).add 4) = some (x431.val)) ∧
 (IxOk x134 n426 ∧
 (∃ x432 : Sl, ∃ n433 : Int, ∃ n434 : Int, ∃ n435 : Int, ∃ x436 : Sl, (w425.cell? ((elA x134 n426 5).add 0) = some (x432.val) ∧
 w425.cell? ((elA x134 n426 5).add 1) = some (.int .i64 n433) ∧
 w425.cell? ((elA x134 n426 5).add 2) = some (.int .i64 n434) ∧
 w425.cell? ((elA x134 n426 5).add 3) = some (.int .i64 n435) ∧
 w425.cell? ((elA x134 n426 5).add 4) = some (x436.val)) ∧
 Trip Tryd.prog 53 #[.pointer (some (a_0.add 0)), .int .i64 (x180.n : Int)] w425 fun r437 w438 =>
 ∃ n439 : Int, r437 = .int .i64 n439 ∧
 IxOk x180 n439 ∧
 ∃ x440 : Sl, ∃ n441 : Int, ∃ n442 : Int, ∃ n443 : Int, ∃ x444 : Sl, (w438.cell? ((elA x180 n439 5).add 0) = some (x440.val) ∧
 w438.cell? ((elA x180 n439 5).add 1) = some (.int .i64 n441) ∧
 w438.cell? ((elA x180 n439 5).add 2) = some (.int .i64 n442) ∧
 w438.cell? ((elA x180 n439 5).add 3) = some (.int .i64 n443) ∧
 w438.cell? ((elA x180 n439 5).add 4) = some (x444.val)) ∧
 StepT Tryd.prog (Instr.buildSlice 81 4 #[(0, (.agg #[x188.val, .int .i64 n189, .int .i64 n190, .int .i64 n191, x192.val])), (1, (.agg #[x427.val, .int .i64 n428, .int .i64 n429, .int .i64 n430, x431.val])), (2, (.agg #[x432.val, .int .i64 n433, .int .i64 n434, .int .i64 n435, x436.val])), (3, (.agg #[x440.val, .int .i64 n441, .int .i64 n442, .int .i64 n443, x444.val]))]) w438 fun r445 w446 =>
 ∃ x447 : Sl, r445 = x447.val ∧
 ((.sl (Sl.mk none 0 0) : SV) = .sl (Sl.mk none 0 0)) ∧
 ((.sl (Sl.mk none 0 0) : SV) = .sl (Sl.mk none 0 0)) ∧
 ((.sl x3 : SV) = .sl x3) ∧
 J182 x447 w446) ∧
 Trip Tryd.prog 53 #[.pointer (some (a_0.add 0)), .int .i64 (x180.n : Int)] w425 fun r448 w449 =>
 ∃ n450 : Int, r448 = .int .i64 n450 ∧
 ∃ x451 : Sl, ∃ n452 : Int, ∃ n453 : Int, ∃ n454 : Int, ∃ x455 : Sl, (w449.cell? ((elA x134 n426 5).add 0) = some (x451.val) ∧
 w449.cell? ((elA x134 n426 5).add 1) = some (.int .i64 n452) ∧
 w449.cell? ((elA x134 n426 5).add 2) = some (.int .i64 n453) ∧
 w449.cell? ((elA x134 n426 5).add 3) = some (.int .i64 n454) ∧
 w449.cell? ((elA x134 n426 5).add 4) = some (x455.val)) ∧
 IxOk x180 n450 ∧
 ∃ x456 : Sl, ∃ n457 : Int, ∃ n458 : Int, ∃ n459 : Int, ∃ x460 : Sl, (w449.cell? ((elA x180 n450 5).add 0) = some (x456.val) ∧
 w449.cell? ((elA x180 n450 5).add 1) = some (.int .i64 n457) ∧
 w449.cell? ((elA x180 n450 5).add 2) = some (.int .i64 n458) ∧
 w449.cell? ((elA x180 n450 5).add 3) = some (.int .i64 n459) ∧
 w449.cell? ((elA x180 n450 5).add 4) = some (x460.val)) ∧
 StepT Tryd.prog (Instr.buildSlice 81 4 #[(0, (.agg #[x188.val, .int .i64 n189, .int .i64 n190, .int .i64 n191, x192.val])), (1, (.agg #[x427.val, .int .i64 n428, .int .i64 n429, .int .i64 n430, x431.val])), (2, (.agg #[x451.val, .int .i64 n452, .int .i64 n453, .int .i64 n454, x455.val])), (3, (.agg #[x456.val, .int .i64 n457, .int .i64 n458, .int .i64 n459, x460.val]))]) w449 fun r461 w462 =>
 ∃ x463 : Sl, r461 = x463.val ∧
 ((.sl (Sl.mk none 0 0) : SV) = .sl (Sl.mk none 0 0)) ∧
 ((.sl (Sl.mk none 0 0) : SV) = .sl (Sl.mk none 0 0)) ∧
 ((.sl x3 : SV) = .sl x3) ∧
 J182 x463 w462) ∧
 Trip Tryd.prog 53 #[.pointer (some (a_0.add 0)), .int .i64 (x180.n : Int)] w425 fun r464 w465 =>
 ∃ n466 : Int, r464 = .int .i64 n466 ∧
 IxOk x134 n426 ∧
 ∃ x467 : Sl, ∃ n468 : Int, ∃ n469 : Int, ∃ n470 : Int, ∃ x471 : Sl, (w465.cell? ((elA x134 n426 5).add 0) = some (x467.val) ∧
 w465.cell? ((elA x134 n426 5).add 1) = some (.int .i64 n468) ∧
 w465.cell? ((elA x134 n426 5).add 2) = some (.int .i64 n469) ∧
 w465.cell? ((elA x134 n426 5).add 3) = some (.int .i64 n470) ∧
 w465.cell? ((elA x134 n426 5).add 4) = some (x471.val)) ∧
 IxOk x180 n466 ∧
 ∃ x472 : Sl, ∃ n473 : Int, ∃ n474 : Int, ∃ n475 : Int, ∃ x476 : Sl, (w465.cell? ((elA x180 n466 5).add 0) = some (x472.val) ∧
 w465.cell? ((elA x180 n466 5).add 1) = some (.int .i64 n473) ∧
 w465.cell? ((elA x180 n466 5).add 2) = some (.int .i64 n474) ∧
 w465.cell? ((elA x180 n466 5).add 3) = some (.int .i64 n475) ∧
 w465.cell? ((elA x180 n466 5).add 4) = some (x476.val)) ∧
 StepT Tryd.prog (Instr.buildSlice 81 4 #[(0, (.agg #[x188.val, .int .i64 n189, .int .i64 n190, .int .i64 n191, x192.val])), (1, (.agg #[x427.val, .int .i64 n428, .int .i64 n429, .int .i64 n430, x431.val])), (2, (.agg #[x467.val, .int .i64 n468, .int .i64 n469, .int .i64 n470, x471.val])), (3, (.agg #[x472.val, .int .i64 n473, .int .i64 n474, .int .i64 n475, x476.val]))]) w465 fun r477 w478 =>
 ∃ x479 : Sl, r477 = x479.val ∧
 ((.sl (Sl.mk none 0 0) : SV) = .sl (Sl.mk none 0 0)) ∧
 ((.sl (Sl.mk none 0 0) : SV) = .sl (Sl.mk none 0 0)) ∧
 ((.sl x3 : SV) = .sl x3) ∧
 J182 x479 w478) ∧
 (IxOk x134 n426 ∧
 (∃ x480 : Sl, ∃ n481 : Int, ∃ n482 : Int, ∃ n483 : Int, ∃ x484 : Sl, (w425.cell? ((elA x68 n195 5).add 0) = some (x480.val) ∧
 w425.cell? ((elA x68 n195 5).add 1) = some (.int .i64 n481) ∧
 w425.cell? ((elA x68 n195 5).add 2) = some (.int .i64 n482) ∧
 w425.cell? ((elA x68 n195 5).add 3) = some (.int .i64 n483) ∧
 w425.cell? ((elA x68 n195 5).add 4) = some (x484.val)) ∧
 (∃ x485 : Sl, ∃ n486 : Int, ∃ n487 : Int, ∃ n488 : Int, ∃ x489 : Sl, (w425.cell? ((elA x134 n426 5).add 0) = some (x485.val) ∧
 w425.cell? ((elA x134 n426 5).add 1) = some (.int .i64 n486) ∧
 w425.cell? ((elA x134 n426 5).add 2) = some (.int .i64 n487) ∧
 w425.cell? ((elA x134 n426 5).add 3) = some (.int .i64 n488) ∧
 w425.cell? ((elA x134 n426 5).add 4) = some (x489.val)) ∧
 Trip Tryd.prog 53 #[.pointer (some (a_0.add 0)), .int .i64 (x180.n : Int)] w425 fun r490 w491 =>
 ∃ n492 : Int, r490 = .int .i64 n492 ∧
 IxOk x180 n492 ∧
 ∃ x493 : Sl, ∃ n494 : Int, ∃ n495 : Int, ∃ n496 : Int, ∃ x497 : Sl, (w491.cell? ((elA x180 n492 5).add 0) = some (x493.val) ∧
 w491.cell? ((elA x180 n492 5).add 1) = some (.int .i64 n494) ∧
 w491.cell? ((elA x180 n492 5).add 2) = some (.int .i64 n495) ∧
 w491.cell? ((elA x180 n492 5).add 3) = some (.int .i64 n496) ∧
 w491.cell? ((elA x180 n492 5).add 4) = some (x497.val)) ∧
 StepT Tryd.prog (Instr.buildSlice 81 4 #[(0, (.agg #[x188.val, .int .i64 n189, .int .i64 n190, .int .i64 n191, x192.val])), (1, (.agg #[x480.val, .int .i64 n481, .int .i64 n482, .int .i64 n483, x484.val])), (2, (.agg #[x485.val, .int .i64 n486, .int .i64 n487, .int .i64 n488, x489.val])), (3, (.agg #[x493.val, .int .i64 n494, .int .i64 n495, .int .i64 n496, x497.val]))]) w491 fun r498 w499 =>
 ∃ x500 : Sl, r498 = x500.val ∧
 ((.sl (Sl.mk none 0 0) : SV) = .sl (Sl.mk none 0 0)) ∧
 ((.sl (Sl.mk none 0 0) : SV) = .sl (Sl.mk none 0 0)) ∧
 ((.sl x3 : SV) = .sl x3) ∧
 J182 x500 w499) ∧
 Trip Tryd.prog 53 #[.pointer (some (a_0.add 0)), .int .i64 (x180.n : Int)] w425 fun r501 w502 =>
 ∃ n503 : Int, r501 = .int .i64 n503 ∧
 ∃ x504 : Sl, ∃ n505 : Int, ∃ n506 : Int, ∃ n507 : Int, ∃ x508 : Sl, (w502.cell? ((elA x134 n426 5).add 0) = some (x504.val) ∧
 w502.cell? ((elA x134 n426 5).add 1) = some (.int .i64 n505) ∧
 w502.cell? ((elA x134 n426 5).add 2) = some (.int .i64 n506) ∧
 w502.cell? ((elA x134 n426 5).add 3) = some (.int .i64 n507) ∧
 w502.cell? ((elA x134 n426 5).add 4) = some (x508.val)) ∧
 IxOk x180 n503 ∧
 ∃ x509 : Sl, ∃ n510 : Int, ∃ n511 : Int, ∃ n512 : Int, ∃ x513 : Sl, (w502.cell? ((elA x180 n503 5).add 0) = some (x509.val) ∧
 w502.cell? ((elA x180 n503 5).add 1) = some (.int .i64 n510) ∧
 w502.cell? ((elA x180 n503 5).add 2) = some (.int .i64 n511) ∧
 w502.cell? ((elA x180 n503 5).add 3) = some (.int .i64 n512) ∧
 w502.cell? ((elA x180 n503 5).add 4) = some (x513.val)) ∧
 StepT Tryd.prog (Instr.buildSlice 81 4 #[(0, (.agg #[x188.val, .int .i64 n189, .int .i64 n190, .int .i64 n191, x192.val])), (1, (.agg #[x480.val, .int .i64 n481, .int .i64 n482, .int .i64 n483, x484.val])), (2, (.agg #[x504.val, .int .i64 n505, .int .i64 n506, .int .i64 n507, x508.val])), (3, (.agg #[x509.val, .int .i64 n510, .int .i64 n511, .int .i64 n512, x513.val]))]) w502 fun r514 w515 =>
 ∃ x516 : Sl, r514 = x516.val ∧
 ((.sl (Sl.mk none 0 0) : SV) = .sl (Sl.mk none 0 0)) ∧
 ((.sl (Sl.mk none 0 0) : SV) = .sl (Sl.mk none 0 0)) ∧
 ((.sl x3 : SV) = .sl x3) ∧
 J182 x516 w515) ∧
 (∃ x517 : Sl, ∃ n518 : Int, ∃ n519 : Int, ∃ n520 : Int, ∃ x521 : Sl, (w425.cell? ((elA x134 n426 5).add 0) = some (x517.val) ∧
 w425.cell? ((elA x134 n426 5).add 1) = some (.int .i64 n518) ∧
 w425.cell? ((elA x134 n426 5).add 2) = some (.int .i64 n519) ∧
 w425.cell? ((elA x134 n426 5).add 3) = some (.int .i64 n520) ∧
 w425.cell? ((elA x134 n426 5).add 4) = some (x521.val)) ∧
 (∃ x522 : Sl, ∃ n523 : Int, ∃ n524 : Int, ∃ n525 : Int, ∃ x526 : Sl, (w425.cell? ((elA x68 n195 5).add 0) = some (x522.val) ∧
 w425.cell? ((elA x68 n195 5).add 1) = some (.int .i64 n523) ∧
 w425.cell? ((elA x68 n195 5).add 2) = some (.int .i64 n524) ∧
 w425.cell? ((elA x68 n195 5).add 3) = some (.int .i64 n525) ∧
 w425.cell? ((elA x68 n195 5).add 4) = some (x526.val)) ∧
 Trip Tryd.prog 53 #[.pointer (some (a_0.add 0)), .int .i64 (x180.n : Int)] w425 fun r527 w528 =>
 ∃ n529 : Int, r527 = .int .i64 n529 ∧
 IxOk x180 n529 ∧
 ∃ x530 : Sl, ∃ n531 : Int, ∃ n532 : Int, ∃ n533 : Int, ∃ x534 : Sl, (w528.cell? ((elA x180 n529 5).add 0) = some (x530.val) ∧
 w528.cell? ((elA x180 n529 5).add 1) = some (.int .i64 n531) ∧
 w528.cell? ((elA x180 n529 5).add 2) = some (.int .i64 n532) ∧
 w528.cell? ((elA x180 n529 5).add 3) = some (.int .i64 n533) ∧
 w528.cell? ((elA x180 n529 5).add 4) = some (x534.val)) ∧
 StepT Tryd.prog (Instr.buildSlice 81 4 #[(0, (.agg #[x188.val, .int .i64 n189, .int .i64 n190, .int .i64 n191, x192.val])), (1, (.agg #[x522.val, .int .i64 n523, .int .i64 n524, .int .i64 n525, x526.val])), (2, (.agg #[x517.val, .int .i64 n518, .int .i64 n519, .int .i64 n520, x521.val])), (3, (.agg #[x530.val, .int .i64 n531, .int .i64 n532, .int .i64 n533, x534.val]))]) w528 fun r535 w536 =>
 ∃ x537 : Sl, r535 = x537.val ∧
 ((.sl (Sl.mk none 0 0) : SV) = .sl (Sl.mk none 0 0)) ∧
 ((.sl (Sl.mk none 0 0) : SV) = .sl (Sl.mk none 0 0)) ∧
 ((.sl x3 : SV) = .sl x3) ∧
 J182 x537 w536) ∧
 Trip Tryd.prog 53 #[.pointer (some (a_0.add 0)), .int .i64 (x180.n : Int)] w425 fun r538 w539 =>
 ∃ n540 : Int, r538 = .int .i64 n540 ∧
 ∃ x541 : Sl, ∃ n542 : Int, ∃ n543 : Int, ∃ n544 : Int, ∃ x545 : Sl, (w539.cell? ((elA x68 n195 5).add 0) = some (x541.val) ∧
 w539.cell? ((elA x68 n195 5).add 1) = some (.int .i64 n542) ∧
 w539.cell? ((elA x68 n195 5).add 2) = some (.int .i64 n543) ∧
 w539.cell? ((elA x68 n195 5).add 3) = some (.int .i64 n544) ∧
 w539.cell? ((elA x68 n195 5).add 4) = some (x545.val)) ∧
 IxOk x180 n540 ∧
 ∃ x546 : Sl, ∃ n547 : Int, ∃ n548 : Int, ∃ n549 : Int, ∃ x550 : Sl, (w539.cell? ((elA x180 n540 5).add 0) = some (x546.val) ∧
 w539.cell? ((elA x180 n540 5).add 1) = some (.int .i64 n547) ∧
 w539.cell? ((elA x180 n540 5).add 2) = some (.int .i64 n548) ∧
 w539.cell? ((elA x180 n540 5).add 3) = some (.int .i64 n549) ∧
 w539.cell? ((elA x180 n540 5).add 4) = some (x550.val)) ∧
 StepT Tryd.prog (Instr.buildSlice 81 4 #[(0, (.agg #[x188.val, .int .i64 n189, .int .i64 n190, .int .i64 n191, x192.val])), (1, (.agg #[x541.val, .int .i64 n542, .int .i64 n543, .int .i64 n544, x545.val])), (2, (.agg #[x517.val, .int .i64 n518, .int .i64 n519, .int .i64 n520, x521.val])), (3, (.agg #[x546.val, .int .i64 n547, .int .i64 n548, .int .i64 n549, x550.val]))]) w539 fun r551 w552 =>
 ∃ x553 : Sl, r551 = x553.val ∧
 ((.sl (Sl.mk none 0 0) : SV) = .sl (Sl.mk none 0 0)) ∧
 ((.sl (Sl.mk none 0 0) : SV) = .sl (Sl.mk none 0 0)) ∧
 ((.sl x3 : SV) = .sl x3) ∧
 J182 x553 w552) ∧
 Trip Tryd.prog 53 #[.pointer (some (a_0.add 0)), .int .i64 (x180.n : Int)] w425 fun r554 w555 =>
 ∃ n556 : Int, r554 = .int .i64 n556 ∧
 ∃ x557 : Sl, ∃ n558 : Int, ∃ n559 : Int, ∃ n560 : Int, ∃ x561 : Sl, (w555.cell? ((elA x68 n195 5).add 0) = some (x557.val) ∧
 w555.cell? ((elA x68 n195 5).add 1) = some (.int .i64 n558) ∧
 w555.cell? ((elA x68 n195 5).add 2) = some (.int .i64 n559) ∧
 w555.cell? ((elA x68 n195 5).add 3) = some (.int .i64 n560) ∧
 w555.cell? ((elA x68 n195 5).add 4) = some (x561.val)) ∧
 ∃ x562 : Sl, ∃ n563 : Int, ∃ n564 : Int, ∃ n565 : Int, ∃ x566 : Sl, (w555.cell? ((elA x134 n426 5).add 0) = some (x562.val) ∧
 w555.cell? ((elA x134 n426 5).add 1) = some (.int .i64 n563) ∧
 w555.cell? ((elA x134 n426 5).add 2) = some (.int .i64 n564) ∧
 w555.cell? ((elA x134 n426 5).add 3) = some (.int .i64 n565) ∧
 w555.cell? ((elA x134 n426 5).add 4) = some (x566.val)) ∧
 IxOk x180 n556 ∧
 ∃ x567 : Sl, ∃ n568 : Int, ∃ n569 : Int, ∃ n570 : Int, ∃ x571 : Sl, (w555.cell? ((elA x180 n556 5).add 0) = some (x567.val) ∧
 w555.cell? ((elA x180 n556 5).add 1) = some (.int .i64 n568) ∧
 w555.cell? ((elA x180 n556 5).add 2) = some (.int .i64 n569) ∧
 w555.cell? ((elA x180 n556 5).add 3) = some (.int .i64 n570) ∧
 w555.cell? ((elA x180 n556 5).add 4) = some (x571.val)) ∧
 StepT Tryd.prog (Instr.buildSlice 81 4 #[(0, (.agg #[x188.val, .int .i64 n189, .int .i64 n190, .int .i64 n191, x192.val])), (1, (.agg #[x557.val, .int .i64 n558, .int .i64 n559, .int .i64 n560, x561.val])), (2, (.agg #[x562.val, .int .i64 n563, .int .i64 n564, .int .i64 n565, x566.val])), (3, (.agg #[x567.val, .int .i64 n568, .int .i64 n569, .int .i64 n570, x571.val]))]) w555 fun r572 w573 =>
 ∃ x574 : Sl, r572 = x574.val ∧
 ((.sl (Sl.mk none 0 0) : SV) = .sl (Sl.mk none 0 0)) ∧
 ((.sl (Sl.mk none 0 0) : SV) = .sl (Sl.mk none 0 0)) ∧
 ((.sl x3 : SV) = .sl x3) ∧
 J182 x574 w573) ∧
 Trip Tryd.prog 53 #[.pointer (some (a_0.add 0)), .int .i64 (x180.n : Int)] w425 fun r575 w576 =>
 ∃ n577 : Int, r575 = .int .i64 n577 ∧
 ∃ x578 : Sl, ∃ n579 : Int, ∃ n580 : Int, ∃ n581 : Int, ∃ x582 : Sl, (w576.cell? ((elA x68 n195 5).add 0) = some (x578.val) ∧
 w576.cell? ((elA x68 n195 5).add 1) = some (.int .i64 n579) ∧
 w576.cell? ((elA x68 n195 5).add 2) = some (.int .i64 n580) ∧
 w576.cell? ((elA x68 n195 5).add 3) = some (.int .i64 n581) ∧
 w576.cell? ((elA x68 n195 5).add 4) = some (x582.val)) ∧
 IxOk x134 n426 ∧
 ∃ x583 : Sl, ∃ n584 : Int, ∃ n585 : Int, ∃ n586 : Int, ∃ x587 : Sl, (w576.cell? ((elA x134 n426 5).add 0) = some (x583.val) ∧
 w576.cell? ((elA x134 n426 5).add 1) = some (.int .i64 n584) ∧
 w576.cell? ((elA x134 n426 5).add 2) = some (.int .i64 n585) ∧
 w576.cell? ((elA x134 n426 5).add 3) = some (.int .i64 n586) ∧
 w576.cell? ((elA x134 n426 5).add 4) = some (x587.val)) ∧
 IxOk x180 n577 ∧
 ∃ x588 : Sl, ∃ n589 : Int, ∃ n590 : Int, ∃ n591 : Int, ∃ x592 : Sl, (w576.cell? ((elA x180 n577 5).add 0) = some (x588.val) ∧
 w576.cell? ((elA x180 n577 5).add 1) = some (.int .i64 n589) ∧
 w576.cell? ((elA x180 n577 5).add 2) = some (.int .i64 n590) ∧
 w576.cell? ((elA x180 n577 5).add 3) = some (.int .i64 n591) ∧
 w576.cell? ((elA x180 n577 5).add 4) = some (x592.val)) ∧
 StepT Tryd.prog (Instr.buildSlice 81 4 #[(0, (.agg #[x188.val, .int .i64 n189, .int .i64 n190, .int .i64 n191, x192.val])), (1, (.agg #[x578.val, .int .i64 n579, .int .i64 n580, .int .i64 n581, x582.val])), (2, (.agg #[x583.val, .int .i64 n584, .int .i64 n585, .int .i64 n586, x587.val])), (3, (.agg #[x588.val, .int .i64 n589, .int .i64 n590, .int .i64 n591, x592.val]))]) w576 fun r593 w594 =>
 ∃ x595 : Sl, r593 = x595.val ∧
 ((.sl (Sl.mk none 0 0) : SV) = .sl (Sl.mk none 0 0)) ∧
 ((.sl (Sl.mk none 0 0) : SV) = .sl (Sl.mk none 0 0)) ∧
 ((.sl x3 : SV) = .sl x3) ∧
 J182 x595 w594) ∧
 (IxOk x134 n426 ∧
 (IxOk x68 n195 ∧
 (∃ x596 : Sl, ∃ n597 : Int, ∃ n598 : Int, ∃ n599 : Int, ∃ x600 : Sl, (w425.cell? ((elA x68 n195 5).add 0) = some (x596.val) ∧
 w425.cell? ((elA x68 n195 5).add 1) = some (.int .i64 n597) ∧
 w425.cell? ((elA x68 n195 5).add 2) = some (.int .i64 n598) ∧
 w425.cell? ((elA x68 n195 5).add 3) = some (.int .i64 n599) ∧
 w425.cell? ((elA x68 n195 5).add 4) = some (x600.val)) ∧
 (∃ x601 : Sl, ∃ n602 : Int, ∃ n603 : Int, ∃ n604 : Int, ∃ x605 : Sl, (w425.cell? ((elA x134 n426 5).add 0) = some (x601.val) ∧
 w425.cell? ((elA x134 n426 5).add 1) = some (.int .i64 n602) ∧
 w425.cell? ((elA x134 n426 5).add 2) = some (.int .i64 n603) ∧
 w425.cell? ((elA x134 n426 5).add 3) = some (.int .i64 n604) ∧
 w425.cell? ((elA x134 n426 5).add 4) = some (x605.val)) ∧
 Trip Tryd.prog 53 #[.pointer (some (a_0.add 0)), .int .i64 (x180.n : Int)] w425 fun r606 w607 =>
 ∃ n608 : Int, r606 = .int .i64 n608 ∧
 IxOk x180 n608 ∧
 ∃ x609 : Sl, ∃ n610 : Int, ∃ n611 : Int, ∃ n612 : Int, ∃ x613 : Sl, (w607.cell? ((elA x180 n608 5).add 0) = some (x609.val) ∧
 w607.cell? ((elA x180 n608 5).add 1) = some (.int .i64 n610) ∧
 w607.cell? ((elA x180 n608 5).add 2) = some (.int .i64 n611) ∧
 w607.cell? ((elA x180 n608 5).add 3) = some (.int .i64 n612) ∧
 w607.cell? ((elA x180 n608 5).add 4) = some (x613.val)) ∧
 StepT Tryd.prog (Instr.buildSlice 81 4 #[(0, (.agg #[x188.val, .int .i64 n189, .int .i64 n190, .int .i64 n191, x192.val])), (1, (.agg #[x596.val, .int .i64 n597, .int .i64 n598, .int .i64 n599, x600.val])), (2, (.agg #[x601.val, .int .i64 n602, .int .i64 n603, .int .i64 n604, x605.val])), (3, (.agg #[x609.val, .int .i64 n610, .int .i64 n611, .int .i64 n612, x613.val]))]) w607 fun r614 w615 =>
 ∃ x616 : Sl, r614 = x616.val ∧
 ((.sl (Sl.mk none 0 0) : SV) = .sl (Sl.mk none 0 0)) ∧
 ((.sl (Sl.mk none 0 0) : SV) = .sl (Sl.mk none 0 0)) ∧
 ((.sl x3 : SV) = .sl x3) ∧
 J182 x616 w615) ∧
 Trip Tryd.prog 53 #[.pointer (some (a_0.add 0)), .int .i64 (x180.n : Int)] w425 fun r617 w618 =>
 ∃ n619 : Int, r617 = .int .i64 n619 ∧
 ∃ x620 : Sl, ∃ n621 : Int, ∃ n622 : Int, ∃ n623 : Int, ∃ x624 : Sl, (w618.cell? ((elA x134 n426 5).add 0) = some (x620.val) ∧
 w618.cell? ((elA x134 n426 5).add 1) = some (.int .i64 n621) ∧
 w618.cell? ((elA x134 n426 5).add 2) = some (.int .i64 n622) ∧
 w618.cell? ((elA x134 n426 5).add 3) = some (.int .i64 n623) ∧
 w618.cell? ((elA x134 n426 5).add 4) = some (x624.val)) ∧
 IxOk x180 n619 ∧
 ∃ x625 : Sl, ∃ n626 : Int, ∃ n627 : Int, ∃ n628 : Int, ∃ x629 : Sl, (w618.cell? ((elA x180 n619 5).add 0) = some (x625.val) ∧
 w618.cell? ((elA x180 n619 5).add 1) = some (.int .i64 n626) ∧
 w618.cell? ((elA x180 n619 5).add 2) = some (.int .i64 n627) ∧
 w618.cell? ((elA x180 n619 5).add 3) = some (.int .i64 n628) ∧
 w618.cell? ((elA x180 n619 5).add 4) = some (x629.val)) ∧
 StepT Tryd.prog (Instr.buildSlice 81 4 #[(0, (.agg #[x188.val, .int .i64 n189, .int .i64 n190, .int .i64 n191, x192.val])), (1, (.agg #[x596.val, .int .i64 n597, .int .i64 n598, .int .i64 n599, x600.val])), (2, (.agg #[x620.val, .int .i64 n621, .int .i64 n622, .int .i64 n623, x624.val])), (3, (.agg #[x625.val, .int .i64 n626, .int .i64 n627, .int .i64 n628, x629.val]))]) w618 fun r630 w631 =>
 ∃ x632 : Sl, r630 = x632.val ∧
 ((.sl (Sl.mk none 0 0) : SV) = .sl (Sl.mk none 0 0)) ∧
 ((.sl (Sl.mk none 0 0) : SV) = .sl (Sl.mk none 0 0)) ∧
 ((.sl x3 : SV) = .sl x3) ∧
 J182 x632 w631) ∧
 (∃ x633 : Sl, ∃ n634 : Int, ∃ n635 : Int, ∃ n636 : Int, ∃ x637 : Sl, (w425.cell? ((elA x134 n426 5).add 0) = some (x633.val) ∧
 w425.cell? ((elA x134 n426 5).add 1) = some (.int .i64 n634) ∧
 w425.cell? ((elA x134 n426 5).add 2) = some (.int .i64 n635) ∧
 w425.cell? ((elA x134 n426 5).add 3) = some (.int .i64 n636) ∧
 w425.cell? ((elA x134 n426 5).add 4) = some (x637.val)) ∧
 (∃ x638 : Sl, ∃ n639 : Int, ∃ n640 : Int, ∃ n641 : Int, ∃ x642 : Sl, (w425.cell? ((elA x68 n195 5).add 0) = some (x638.val) ∧
 w425.cell? ((elA x68 n195 5).add 1) = some (.int .i64 n639) ∧
 w425.cell? ((elA x68 n195 5).add 2) = some (.int .i64 n640) ∧
 w425.cell? ((elA x68 n195 5).add 3) = some (.int .i64 n641) ∧
 w425.cell? ((elA x68 n195 5).add 4) = some (x642.val)) ∧
 Trip Tryd.prog 53 #[.pointer (some (a_0.add 0)), .int .i64 (x180.n : Int)] w425 fun r643 w644 =>
 ∃ n645 : Int, r643 = .int .i64 n645 ∧
 IxOk x180 n645 ∧
 ∃ x646 : Sl, ∃ n647 : Int, ∃ n648 : Int, ∃ n649 : Int, ∃ x650 : Sl, (w644.cell? ((elA x180 n645 5).add 0) = some (x646.val) ∧
 w644.cell? ((elA x180 n645 5).add 1) = some (.int .i64 n647) ∧
 w644.cell? ((elA x180 n645 5).add 2) = some (.int .i64 n648) ∧
 w644.cell? ((elA x180 n645 5).add 3) = some (.int .i64 n649) ∧
 w644.cell? ((elA x180 n645 5).add 4) = some (x650.val)) ∧
 StepT Tryd.prog (Instr.buildSlice 81 4 #[(0, (.agg #[x188.val, .int .i64 n189, .int .i64 n190, .int .i64 n191, x192.val])), (1, (.agg #[x638.val, .int .i64 n639, .int .i64 n640, .int .i64 n641, x642.val])), (2, (.agg #[x633.val, .int .i64 n634, .int .i64 n635, .int .i64 n636, x637.val])), (3, (.agg #[x646.val, .int .i64 n647, .int .i64 n648, .int .i64 n649, x650.val]))]) w644 fun r651 w652 =>
 ∃ x653 : Sl, r651 = x653.val ∧
 ((.sl (Sl.mk none 0 0) : SV) = .sl (Sl.mk none 0 0)) ∧
 ((.sl (Sl.mk none 0 0) : SV) = .sl (Sl.mk none 0 0)) ∧
 ((.sl x3 : SV) = .sl x3) ∧
 J182 x653 w652) ∧
 Trip Tryd.prog 53 #[.pointer (some (a_0.add 0)), .int .i64 (x180.n : Int)] w425 fun r654 w655 =>
 ∃ n656 : Int, r654 = .int .i64 n656 ∧
 ∃ x657 : Sl, ∃ n658 : Int, ∃ n659 : Int, ∃ n660 : Int, ∃ x661 : Sl, (w655.cell? ((elA x68 n195 5).add 0) = some (x657.val) ∧
 w655.cell? ((elA x68 n195 5).add 1) = some (.int .i64 n658) ∧
 w655.cell? ((elA x68 n195 5).add 2) = some (.int .i64 n659) ∧
 w655.cell? ((elA x68 n195 5).add 3) = some (.int .i64 n660) ∧
 w655.cell? ((elA x68 n195 5).add 4) = some (x661.val)) ∧
 IxOk x180 n656 ∧
 ∃ x662 : Sl, ∃ n663 : Int, ∃ n664 : Int, ∃ n665 : Int, ∃ x666 : Sl, (w655.cell? ((elA x180 n656 5).add 0) = some (x662.val) ∧
 w655.cell? ((elA x180 n656 5).add 1) = some (.int .i64 n663) ∧
 w655.cell? ((elA x180 n656 5).add 2) = some (.int .i64 n664) ∧
 w655.cell? ((elA x180 n656 5).add 3) = some (.int .i64 n665) ∧
 w655.cell? ((elA x180 n656 5).add 4) = some (x666.val)) ∧
 StepT Tryd.prog (Instr.buildSlice 81 4 #[(0, (.agg #[x188.val, .int .i64 n189, .int .i64 n190, .int .i64 n191, x192.val])), (1, (.agg #[x657.val, .int .i64 n658, .int .i64 n659, .int .i64 n660, x661.val])), (2, (.agg #[x633.val, .int .i64 n634, .int .i64 n635, .int .i64 n636, x637.val])), (3, (.agg #[x662.val, .int .i64 n663, .int .i64 n664, .int .i64 n665, x666.val]))]) w655 fun r667 w668 =>
 ∃ x669 : Sl, r667 = x669.val ∧
 ((.sl (Sl.mk none 0 0) : SV) = .sl (Sl.mk none 0 0)) ∧
 ((.sl (Sl.mk none 0 0) : SV) = .sl (Sl.mk none 0 0)) ∧
 ((.sl x3 : SV) = .sl x3) ∧
 J182 x669 w668) ∧
 Trip Tryd.prog 53 #[.pointer (some (a_0.add 0)), .int .i64 (x180.n : Int)] w425 fun r670 w671 =>
 ∃ n672 : Int, r670 = .int .i64 n672 ∧
 ∃ x673 : Sl, ∃ n674 : Int, ∃ n675 : Int, ∃ n676 : Int, ∃ x677 : Sl, (w671.cell? ((elA x68 n195 5).add 0) = some (x673.val) ∧
 w671.cell? ((elA x68 n195 5).add 1) = some (.int .i64 n674) ∧
 w671.cell? ((elA x68 n195 5).add 2) = some (.int .i64 n675) ∧
 w671.cell? ((elA x68 n195 5).add 3) = some (.int .i64 n676) ∧
 w671.cell? ((elA x68 n195 5).add 4) = some (x677.val)) ∧
 ∃ x678 : Sl, ∃ n679 : Int, ∃ n680 : Int, ∃ n681 : Int, ∃ x682 : Sl, (w671.cell? ((elA x134 n426 5).add 0) = some (x678.val) ∧
 w671.cell? ((elA x134 n426 5).add 1) = some (.int .i64 n679) ∧
 w671.cell? ((elA x134 n426 5).add 2) = some (.int .i64 n680) ∧
 w671.cell? ((elA x134 n426 5).add 3) = some (.int .i64 n681) ∧
 w671.cell? ((elA x134 n426 5).add 4) = some (x682.val)) ∧
 IxOk x180 n672 ∧
 ∃ x683 : Sl, ∃ n684 : Int, ∃ n685 : Int, ∃ n686 : Int, ∃ x687 : Sl, (w671.cell? ((elA x180 n672 5).add 0) = some (x683.val) ∧
 w671.cell? ((elA x180 n672 5).add 1) = some (.int .i64 n684) ∧
 w671.cell? ((elA x180 n672 5).add 2) = some (.int .i64 n685) ∧
 w671.cell? ((elA x180 n672 5).add 3) = some (.int .i64 n686) ∧
 w671.cell? ((elA x180 n672 5).add 4) = some (x687.val)) ∧
 StepT Tryd.prog (Instr.buildSlice 81 4 #[(0, (.agg #[x188.val, .int .i64 n189, .int .i64 n190, .int .i64 n191, x192.val])), (1, (.agg #[x673.val, .int .i64 n674, .int .i64 n675, .int .i64 n676, x677.val])), (2, (.agg #[x678.val, .int .i64 n679, .int .i64 n680, .int .i64 n681, x682.val])), (3, (.agg #[x683.val, .int .i64 n684, .int .i64 n685, .int .i64 n686, x687.val]))]) w671 fun r688 w689 =>
 ∃ x690 : Sl, r688 = x690.val ∧
 ((.sl (Sl.mk none 0 0) : SV) = .sl (Sl.mk none 0 0)) ∧
 ((.sl (Sl.mk none 0 0) : SV) = .sl (Sl.mk none 0 0)) ∧
 ((.sl x3 : SV) = .sl x3) ∧
 J182 x690 w689) ∧
 (∃ x691 : Sl, ∃ n692 : Int, ∃ n693 : Int, ∃ n694 : Int, ∃ x695 : Sl, (w425.cell? ((elA x134 n426 5).add 0) = some (x691.val) ∧
 w425.cell? ((elA x134 n426 5).add 1) = some (.int .i64 n692) ∧
 w425.cell? ((elA x134 n426 5).add 2) = some (.int .i64 n693) ∧
 w425.cell? ((elA x134 n426 5).add 3) = some (.int .i64 n694) ∧
 w425.cell? ((elA x134 n426 5).add 4) = some (x695.val)) ∧
 (IxOk x68 n195 ∧
 (∃ x696 : Sl, ∃ n697 : Int, ∃ n698 : Int, ∃ n699 : Int, ∃ x700 : Sl, (w425.cell? ((elA x68 n195 5).add 0) = some (x696.val) ∧
 w425.cell? ((elA x68 n195 5).add 1) = some (.int .i64 n697) ∧
 w425.cell? ((elA x68 n195 5).add 2) = some (.int .i64 n698) ∧
 w425.cell? ((elA x68 n195 5).add 3) = some (.int .i64 n699) ∧
 w425.cell? ((elA x68 n195 5).add 4) = some (x700.val)) ∧
 Trip Tryd.prog 53 #[.pointer (some (a_0.add 0)), .int .i64 (x180.n : Int)] w425 fun r701 w702 =>
 ∃ n703 : Int, r701 = .int .i64 n703 ∧
 IxOk x180 n703 ∧
 ∃ x704 : Sl, ∃ n705 : Int, ∃ n706 : Int, ∃ n707 : Int, ∃ x708 : Sl, (w702.cell? ((elA x180 n703 5).add 0) = some (x704.val) ∧
 w702.cell? ((elA x180 n703 5).add 1) = some (.int .i64 n705) ∧
 w702.cell? ((elA x180 n703 5).add 2) = some (.int .i64 n706) ∧
 w702.cell? ((elA x180 n703 5).add 3) = some (.int .i64 n707) ∧
 w702.cell? ((elA x180 n703 5).add 4) = some (x708.val)) ∧
 StepT Tryd.prog (Instr.buildSlice 81 4 #[(0, (.agg #[x188.val, .int .i64 n189, .int .i64 n190, .int .i64 n191, x192.val])), (1, (.agg #[x696.val, .int .i64 n697, .int .i64 n698, .int .i64 n699, x700.val])), (2, (.agg #[x691.val, .int .i64 n692, .int .i64 n693, .int .i64 n694, x695.val])), (3, (.agg #[x704.val, .int .i64 n705, .int .i64 n706, .int .i64 n707, x708.val]))]) w702 fun r709 w710 =>
 ∃ x711 : Sl, r709 = x711.val ∧
 ((.sl (Sl.mk none 0 0) : SV) = .sl (Sl.mk none 0 0)) ∧
 ((.sl (Sl.mk none 0 0) : SV) = .sl (Sl.mk none 0 0)) ∧
 ((.sl x3 : SV) = .sl x3) ∧
 J182 x711 w710) ∧
 Trip Tryd.prog 53 #[.pointer (some (a_0.add 0)), .int .i64 (x180.n : Int)] w425 fun r712 w713 =>
 ∃ n714 : Int, r712 = .int .i64 n714 ∧
 ∃ x715 : Sl, ∃ n716 : Int, ∃ n717 : Int, ∃ n718 : Int, ∃ x719 : Sl, (w713.cell? ((elA x68 n195 5).add 0) = some (x715.val) ∧
 w713.cell? ((elA x68 n195 5).add 1) = some (.int .i64 n716) ∧
 w713.cell? ((elA x68 n195 5).add 2) = some (.int .i64 n717) ∧
 w713.cell? ((elA x68 n195 5).add 3) = some (.int .i64 n718) ∧
 w713.cell? ((elA x68 n195 5).add 4) = some (x719.val)) ∧
 IxOk x180 n714 ∧
 ∃ x720 : Sl, ∃ n721 : Int, ∃ n722 : Int, ∃ n723 : Int, ∃ x724 : Sl, (w713.cell? ((elA x180 n714 5).add 0) = some (x720.val) ∧
 w713.cell? ((elA x180 n714 5).add 1) = some (.int .i64 n721) ∧
 w713.cell? ((elA x180 n714 5).add 2) = some (.int .i64 n722) ∧
 w713.cell? ((elA x180 n714 5).add 3) = some (.int .i64 n723) ∧
 w713.cell? ((elA x180 n714 5).add 4) = some (x724.val)) ∧
 StepT Tryd.prog (Instr.buildSlice 81 4 #[(0, (.agg #[x188.val, .int .i64 n189, .int .i64 n190, .int .i64 n191, x192.val])), (1, (.agg #[x715.val, .int .i64 n716, .int .i64 n717, .int .i64 n718, x719.val])), (2, (.agg #[x691.val, .int .i64 n692, .int .i64 n693, .int .i64 n694, x695.val])), (3, (.agg #[x720.val, .int .i64 n721, .int .i64 n722, .int .i64 n723, x724.val]))]) w713 fun r725 w726 =>
 ∃ x727 : Sl, r725 = x727.val ∧
 ((.sl (Sl.mk none 0 0) : SV) = .sl (Sl.mk none 0 0)) ∧
 ((.sl (Sl.mk none 0 0) : SV) = .sl (Sl.mk none 0 0)) ∧
 ((.sl x3 : SV) = .sl x3) ∧
 J182 x727 w726) ∧
 Trip Tryd.prog 53 #[.pointer (some (a_0.add 0)), .int .i64 (x180.n : Int)] w425 fun r728 w729 =>
 ∃ n730 : Int, r728 = .int .i64 n730 ∧
 IxOk x68 n195 ∧
 ∃ x731 : Sl, ∃ n732 : Int, ∃ n733 : Int, ∃ n734 : Int, ∃ x735 : Sl, (w729.cell? ((elA x68 n195 5).add 0) = some (x731.val) ∧
 w729.cell? ((elA x68 n195 5).add 1) = some (.int .i64 n732) ∧
 w729.cell? ((elA x68 n195 5).add 2) = some (.int .i64 n733) ∧
 w729.cell? ((elA x68 n195 5).add 3) = some (.int .i64 n734) ∧
 w729.cell? ((elA x68 n195 5).add 4) = some (x735.val)) ∧
 IxOk x180 n730 ∧
 ∃ x736 : Sl, ∃ n737 : Int, ∃ n738 : Int, ∃ n739 : Int, ∃ x740 : Sl, (w729.cell? ((elA x180 n730 5).add 0) = some (x736.val) ∧
 w729.cell? ((elA x180 n730 5).add 1) = some (.int .i64 n737) ∧
 w729.cell? ((elA x180 n730 5).add 2) = some (.int .i64 n738) ∧
 w729.cell? ((elA x180 n730 5).add 3) = some (.int .i64 n739) ∧
 w729.cell? ((elA x180 n730 5).add 4) = some (x740.val)) ∧
 StepT Tryd.prog (Instr.buildSlice 81 4 #[(0, (.agg #[x188.val, .int .i64 n189, .int .i64 n190, .int .i64 n191, x192.val])), (1, (.agg #[x731.val, .int .i64 n732, .int .i64 n733, .int .i64 n734, x735.val])), (2, (.agg #[x691.val, .int .i64 n692, .int .i64 n693, .int .i64 n694, x695.val])), (3, (.agg #[x736.val, .int .i64 n737, .int .i64 n738, .int .i64 n739, x740.val]))]) w729 fun r741 w742 =>
 ∃ x743 : Sl, r741 = x743.val ∧
 ((.sl (Sl.mk none 0 0) : SV) = .sl (Sl.mk none 0 0)) ∧
 ((.sl (Sl.mk none 0 0) : SV) = .sl (Sl.mk none 0 0)) ∧
 ((.sl x3 : SV) = .sl x3) ∧
 J182 x743 w742) ∧
 Trip Tryd.prog 53 #[.pointer (some (a_0.add 0)), .int .i64 (x180.n : Int)] w425 fun r744 w745 =>
 ∃ n746 : Int, r744 = .int .i64 n746 ∧
 IxOk x68 n195 ∧
 ∃ x747 : Sl, ∃ n748 : Int, ∃ n749 : Int, ∃ n750 : Int, ∃ x751 : Sl, (w745.cell? ((elA x68 n195 5).add 0) = some (x747.val) ∧
 w745.cell? ((elA x68 n195 5).add 1) = some (.int .i64 n748) ∧
 w745.cell? ((elA x68 n195 5).add 2) = some (.int .i64 n749) ∧
 w745.cell? ((elA x68 n195 5).add 3) = some (.int .i64 n750) ∧
 w745.cell? ((elA x68 n195 5).add 4) = some (x751.val)) ∧
 ∃ x752 : Sl, ∃ n753 : Int, ∃ n754 : Int, ∃ n755 : Int, ∃ x756 : Sl, (w745.cell? ((elA x134 n426 5).add 0) = some (x752.val) ∧
 w745.cell? ((elA x134 n426 5).add 1) = some (.int .i64 n753) ∧
 w745.cell? ((elA x134 n426 5).add 2) = some (.int .i64 n754) ∧
 w745.cell? ((elA x134 n426 5).add 3) = some (.int .i64 n755) ∧
 w745.cell? ((elA x134 n426 5).add 4) = some (x756.val)) ∧
 IxOk x180 n746 ∧
 ∃ x757 : Sl, ∃ n758 : Int, ∃ n759 : Int, ∃ n760 : Int, ∃ x761 : Sl, (w745.cell? ((elA x180 n746 5).add 0) = some (x757.val) ∧
 w745.cell? ((elA x180 n746 5).add 1) = some (.int .i64 n758) ∧
 w745.cell? ((elA x180 n746 5).add 2) = some (.int .i64 n759) ∧
 w745.cell? ((elA x180 n746 5).add 3) = some (.int .i64 n760) ∧
 w745.cell? ((elA x180 n746 5).add 4) = some (x761.val)) ∧
 StepT Tryd.prog (Instr.buildSlice 81 4 #[(0, (.agg #[x188.val, .int .i64 n189, .int .i64 n190, .int .i64 n191, x192.val])), (1, (.agg #[x747.val, .int .i64 n748, .int .i64 n749, .int .i64 n750, x751.val])), (2, (.agg #[x752.val, .int .i64 n753, .int .i64 n754, .int .i64 n755, x756.val])), (3, (.agg #[x757.val, .int .i64 n758, .int .i64 n759, .int .i64 n760, x761.val]))]) w745 fun r762 w763 =>
 ∃ x764 : Sl, r762 = x764.val ∧
 ((.sl (Sl.mk none 0 0) : SV) = .sl (Sl.mk none 0 0)) ∧
 ((.sl (Sl.mk none 0 0) : SV) = .sl (Sl.mk none 0 0)) ∧
 ((.sl x3 : SV) = .sl x3) ∧
 J182 x764 w763) ∧
 Trip Tryd.prog 53 #[.pointer (some (a_0.add 0)), .int .i64 (x180.n : Int)] w425 fun r765 w766 =>
 ∃ n767 : Int, r765 = .int .i64 n767 ∧
 IxOk x68 n195 ∧
 ∃ x768 : Sl, ∃ n769 : Int, ∃ n770 : Int, ∃ n771 : Int, ∃ x772 : Sl, (w766.cell? ((elA x68 n195 5).add 0) = some (x768.val) ∧
 w766.cell? ((elA x68 n195 5).add 1) = some (.int .i64 n769) ∧
 w766.cell? ((elA x68 n195 5).add 2) = some (.int .i64 n770) ∧
 w766.cell? ((elA x68 n195 5).add 3) = some (.int .i64 n771) ∧
 w766.cell? ((elA x68 n195 5).add 4) = some (x772.val)) ∧
 IxOk x134 n426 ∧
 ∃ x773 : Sl, ∃ n774 : Int, ∃ n775 : Int, ∃ n776 : Int, ∃ x777 : Sl, (w766.cell? ((elA x134 n426 5).add 0) = some (x773.val) ∧
 w766.cell? ((elA x134 n426 5).add 1) = some (.int .i64 n774) ∧
 w766.cell? ((elA x134 n426 5).add 2) = some (.int .i64 n775) ∧
 w766.cell? ((elA x134 n426 5).add 3) = some (.int .i64 n776) ∧
 w766.cell? ((elA x134 n426 5).add 4) = some (x777.val)) ∧
 IxOk x180 n767 ∧
 ∃ x778 : Sl, ∃ n779 : Int, ∃ n780 : Int, ∃ n781 : Int, ∃ x782 : Sl, (w766.cell? ((elA x180 n767 5).add 0) = some (x778.val) ∧
 w766.cell? ((elA x180 n767 5).add 1) = some (.int .i64 n779) ∧
 w766.cell? ((elA x180 n767 5).add 2) = some (.int .i64 n780) ∧
 w766.cell? ((elA x180 n767 5).add 3) = some (.int .i64 n781) ∧
 w766.cell? ((elA x180 n767 5).add 4) = some (x782.val)) ∧
 StepT Tryd.prog (Instr.buildSlice 81 4 #[(0, (.agg #[x188.val, .int .i64 n189, .int .i64 n190, .int .i64 n191, x192.val])), (1, (.agg #[x768.val, .int .i64 n769, .int .i64 n770, .int .i64 n771, x772.val])), (2, (.agg #[x773.val, .int .i64 n774, .int .i64 n775, .int .i64 n776, x777.val])), (3, (.agg #[x778.val, .int .i64 n779, .int .i64 n780, .int .i64 n781, x782.val]))]) w766 fun r783 w784 =>
 ∃ x785 : Sl, r783 = x785.val ∧
 ((.sl (Sl.mk none 0 0) : SV) = .sl (Sl.mk none 0 0)) ∧
 ((.sl (Sl.mk none 0 0) : SV) = .sl (Sl.mk none 0 0)) ∧
 ((.sl x3 : SV) = .sl x3) ∧
 J182 x785 w784) ∧
 ∀ x786 : Sl, ∀ w787 : World, J182 x786 w787 →
 StepT Tryd.prog (Instr.buildSlice 86 5 #[(0, (.int .i64 4)), (1, (.int .i64 4)), (2, (.int .i64 3)), (3, (.int .i64 2)), (4, (.int .i64 4))]) w787 fun r788 w789 =>
 ∃ x790 : Sl, r788 = x790.val ∧
 Trip Tryd.prog 65 #[.pointer (some (a_0.add 0)), x790.val] w789 fun r791 w792 =>
 ∃ n793 : Int, r791 = .int .i64 n793 ∧
 CutOk x786 0 n793 ∧
 ∃ n794 : Int, Wr .i64 (n793 - 1) n794 ∧
 ∃ I795 : Int → World → Prop, ∃ m796 : Int → World → Nat, I795 n794 w792 ∧
 ∀ n797 : Int, ∀ w798 : World, I795 n797 w798 →
 ((decide (n797 ≥ 0)) = true →
 Trip Tryd.prog 85 #[.pointer (some (a_0.add 0)), .agg #[x3.val, (x786.cut 0 n793 5).val], .int .i64 n797] w798 fun r799 w800 =>
 ∃ n801 : Int, ∃ n802 : Int, ∃ x803 : Sl, r799 = .agg #[.int .i64 n801, .int .i64 n802, x803.val] ∧
 IxOk (x786.cut 0 n793 5) n797 ∧
 ∃ x804 : Sl, w800.cell? ((elA (x786.cut 0 n793 5) n797 5).add 0) = some (x804.val) ∧
 IxOk (x786.cut 0 n793 5) n797 ∧
 ∃ n805 : Int, w800.cell? ((elA (x786.cut 0 n793 5) n797 5).add 1) = some (.int .i64 n805) ∧
 IxOk (x786.cut 0 n793 5) n797 ∧
 StoreAt w800 (elA (x786.cut 0 n793 5) n797 5) 0 [x804.val, .int .i64 n805, .int .i64 n801, .int .i64 n802, x803.val] fun w806 =>
 ∃ n807 : Int, Wr .i64 (n797 - 1) n807 ∧
 ((.sl (Sl.mk none 0 0) : SV) = .sl (Sl.mk none 0 0)) ∧
 ((.sl (Sl.mk none 0 0) : SV) = .sl (Sl.mk none 0 0)) ∧
 ((.sl x3 : SV) = .sl x3) ∧
 ((.sl (x786.cut 0 n793 5) : SV) = .sl (x786.cut 0 n793 5)) ∧
 I795 n807 w806 ∧
 m796 n807 w806 < m796 n797 w798) ∧
 ((decide (n797 ≥ 0)) = false →
 Q (.agg #[x3.val, (x786.cut 0 n793 5).val]) w798)
theorem of63 (a_0 : Addr) (v : World) (Q : Value → World → Prop) (h : vc63 a_0 v Q) : Trip Tryd.prog 63 #[.pointer (some (a_0.add 0))] v Q :=
 trip_of_eq (args := [.pt a_0 0]) (A := ⟨[(9, [(8, .int .i64)], [])], [(3, [(4, .sl)], []), (4, [(5, .sl)], []), (5, [(6, .sl)], []), (6, [], [(1, 1, .sl)])], [(5, [0, 1]), (12, [])], [], psG⟩) Tryd.func63 (by kernel_rfl) (by kernel_rfl) (by kernel_rfl : vc63 a_0 v Q = _) h

def vc64 (x_0 : Sl) (v : World) (Q : Value → World → Prop) : Prop :=
 StepT Tryd.prog (Instr.buildSlice 27 0 #[]) v fun r1 w2 =>
 ∃ x3 : Sl, r1 = x3.val ∧
 ∃ I4 : Sl → Int → World → Prop, ∃ m5 : Sl → Int → World → Nat, I4 x3 0 w2 ∧
 ∀ x6 : Sl, ∀ n7 : Int, ∀ w8 : World, I4 x6 n7 w8 →
 ((decide (n7 < (x_0.n : Int))) = true →
 IxOk x_0 n7 ∧
 ∃ n9 : Int, ∃ n10 : Int, ∃ x11 : Sl, (w8.cell? ((elA x_0 n7 3).add 0) = some (.int .i64 n9) ∧
 w8.cell? ((elA x_0 n7 3).add 1) = some (.int .i64 n10) ∧
 w8.cell? ((elA x_0 n7 3).add 2) = some (x11.val)) ∧
 Trip Tryd.prog 86 #[.agg #[.int .i64 n9, .int .i64 n10, x11.val]] w8 fun r12 w13 =>
 ∃ n14 : Int, ∃ n15 : Int, ∃ x16 : Sl, r12 = .agg #[.int .i64 n14, .int .i64 n15, x16.val] ∧
 StepT Tryd.prog (Instr.buildSlice 27 1 #[(0, (.agg #[.int .i64 n14, .int .i64 n15, x16.val]))]) w13 fun r17 w18 =>
 ∃ x19 : Sl, r17 = x19.val ∧
 StepT Tryd.prog (Builtin.append_ #[27, 27] 27 #[(x6.val), (x19.val)]) w18 fun r20 w21 =>
 ∃ x22 : Sl, r20 = x22.val ∧
 ∃ n23 : Int, Wr .i64 (n7 + 1) n23 ∧
 I4 x22 n23 w21 ∧
 m5 x22 n23 w21 < m5 x6 n7 w8) ∧
 ((decide (n7 < (x_0.n : Int))) = false →
 Q (x6.val) w8)
theorem of64 (x_0 : Sl) (v : World) (Q : Value → World → Prop) (h : vc64 x_0 v Q) : Trip Tryd.prog 64 #[x_0.val] v Q :=
 trip_of_eq (args := [.sl x_0]) (A := ⟨[(3, [(3, .sl), (4, .int .i64)], [])], [], [], [], psG⟩) Tryd.func64 (by kernel_rfl) (by kernel_rfl) (by kernel_rfl : vc64 x_0 v Q = _) h

def vc65 (a_0 : Addr) (x_1 : Sl) (v : World) (Q : Value → World → Prop) : Prop :=
 Trip Tryd.prog 53 #[.pointer (some (a_0.add 0)), .int .i64 (x_1.n : Int)] v fun r1 w2 =>
 ∃ n3 : Int, r1 = .int .i64 n3 ∧
 IxOk x_1 n3 ∧
 ∃ n4 : Int, w2.cell? ((elA x_1 n3 1).add 0) = some (.int .i64 n4) ∧
 Q (.int .i64 n4) w2
theorem of65 (a_0 : Addr) (x_1 : Sl) (v : World) (Q : Value → World → Prop) (h : vc65 a_0 x_1 v Q) : Trip Tryd.prog 65 #[.pointer (some (a_0.add 0)), x_1.val] v Q :=
 trip_of_eq (args := [.pt a_0 0, .sl x_1]) (A := ⟨[], [], [], [], psG⟩) Tryd.func65 (by kernel_rfl) (by kernel_rfl) (by kernel_rfl : vc65 a_0 x_1 v Q = _) h

def vc66 (n_0 : Int) (v : World) (Q : Value → World → Prop) : Prop :=
 StepT Tryd.prog (Instr.buildSlice 27 0 #[]) v fun r1 w2 =>
 ∃ x3 : Sl, r1 = x3.val ∧
 Q (.agg #[.int .i64 0, .int .i64 n_0, x3.val]) w2
theorem of66 (n_0 : Int) (v : World) (Q : Value → World → Prop) (h : vc66 n_0 v Q) : Trip Tryd.prog 66 #[.int .i64 n_0] v Q :=
 trip_of_eq (args := [.num .i64 n_0]) (A := ⟨[], [], [], [], psG⟩) Tryd.func66 (by kernel_rfl) (by kernel_rfl) (by kernel_rfl : vc66 n_0 v Q = _) h

def vc67 (n_0 : Int) (v : World) (Q : Value → World → Prop) : Prop :=
 StepT Tryd.prog (Instr.buildSlice 27 0 #[]) v fun r1 w2 =>
 ∃ x3 : Sl, r1 = x3.val ∧
 Q (.agg #[.int .i64 12, .int .i64 n_0, x3.val]) w2
theorem of67 (n_0 : Int) (v : World) (Q : Value → World → Prop) (h : vc67 n_0 v Q) : Trip Tryd.prog 67 #[.int .i64 n_0] v Q :=
 trip_of_eq (args := [.num .i64 n_0]) (A := ⟨[], [], [], [], psG⟩) Tryd.func67 (by kernel_rfl) (by kernel_rfl) (by kernel_rfl : vc67 n_0 v Q = _) h

def vc83 (a_0 : Addr) (v : World) (Q : Value → World → Prop) : Prop :=
 StepT Tryd.prog (Instr.buildSlice 86 0 #[]) v fun r1 w2 =>
 ∃ x3 : Sl, r1 = x3.val ∧
 Trip Tryd.prog 100 #[x3.val] w2 fun r4 w5 =>
 ∃ x6 : Sl, r4 = .agg #[x6.val] ∧
 StepT Tryd.prog (Instr.buildSlice 86 2 #[(0, (.int .i64 0)), (1, (.int .i64 1))]) w5 fun r7 w8 =>
 ∃ x9 : Sl, r7 = x9.val ∧
 Trip Tryd.prog 100 #[x9.val] w8 fun r10 w11 =>
 ∃ x12 : Sl, r10 = .agg #[x12.val] ∧
 StepT Tryd.prog (Instr.buildSlice 145 2 #[(0, (.agg #[x6.val])), (1, (.agg #[x12.val]))]) w11 fun r13 w14 =>
 ∃ x15 : Sl, r13 = x15.val ∧
 StepT Tryd.prog (Instr.buildSlice 86 0 #[]) w14 fun r16 w17 =>
 ∃ x18 : Sl, r16 = x18.val ∧
 Trip Tryd.prog 100 #[x18.val] w17 fun r19 w20 =>
 ∃ x21 : Sl, r19 = .agg #[x21.val] ∧
 StepT Tryd.prog (Instr.buildSlice 86 3 #[(0, (.int .i64 3)), (1, (.int .i64 0)), (2, (.int .i64 3))]) w20 fun r22 w23 =>
 ∃ x24 : Sl, r22 = x24.val ∧
 Trip Tryd.prog 100 #[x24.val] w23 fun r25 w26 =>
 ∃ x27 : Sl, r25 = .agg #[x27.val] ∧
 StepT Tryd.prog (Instr.buildSlice 145 2 #[(0, (.agg #[x21.val])), (1, (.agg #[x27.val]))]) w26 fun r28 w29 =>
 ∃ x30 : Sl, r28 = x30.val ∧
 StepT Tryd.prog (Instr.buildSlice 86 2 #[(0, (.int .i64 1)), (1, (.int .i64 3))]) w29 fun r31 w32 =>
 ∃ x33 : Sl, r31 = x33.val ∧
 Trip Tryd.prog 100 #[x33.val] w32 fun r34 w35 =>
 ∃ x36 : Sl, r34 = .agg #[x36.val] ∧
 StepT Tryd.prog (Instr.buildSlice 145 1 #[(0, (.agg #[x36.val]))]) w35 fun r37 w38 =>
 ∃ x39 : Sl, r37 = x39.val ∧
 StepT Tryd.prog (Instr.buildSlice 86 3 #[(0, (.int .i64 1)), (1, (.int .i64 1)), (2, (.int .i64 0))]) w38 fun r40 w41 =>
 ∃ x42 : Sl, r40 = x42.val ∧
 Trip Tryd.prog 100 #[x42.val] w41 fun r43 w44 =>
 ∃ x45 : Sl, r43 = .agg #[x45.val] ∧
 StepT Tryd.prog (Instr.buildSlice 86 1 #[(0, (.int .i64 0))]) w44 fun r46 w47 =>
 ∃ x48 : Sl, r46 = x48.val ∧
 Trip Tryd.prog 100 #[x48.val] w47 fun r49 w50 =>
 ∃ x51 : Sl, r49 = .agg #[x51.val] ∧
 StepT Tryd.prog (Instr.buildSlice 86 1 #[(0, (.int .i64 3))]) w50 fun r52 w53 =>
 ∃ x54 : Sl, r52 = x54.val ∧
 Trip Tryd.prog 100 #[x54.val] w53 fun r55 w56 =>
 ∃ x57 : Sl, r55 = .agg #[x57.val] ∧
 StepT Tryd.prog (Instr.buildSlice 145 3 #[(0, (.agg #[x45.val])), (1, (.agg #[x51.val])), (2, (.agg #[x57.val]))]) w56 fun r58 w59 =>
 ∃ x60 : Sl, r58 = x60.val ∧
 StepT Tryd.prog (Instr.buildSlice 80 4 #[(0, (.agg #[.int .i64 0, .int .i64 0, x39.val])), (1, (.agg #[.int .i64 1, .int .i64 0, .slice none 0 0])), (2, (.agg #[.int .i64 0, .int .i64 0, x60.val])), (3, (.agg #[.int .i64 0, .int .i64 1, .slice none 0 0]))]) w59 fun r61 w62 =>
 ∃ x63 : Sl, r61 = x63.val ∧
 StepT Tryd.prog (Instr.buildSlice 80 3 #[(0, (.agg #[.int .i64 0, .int .i64 0, x15.val])), (1, (.agg #[.int .i64 0, .int .i64 0, .slice none 0 0])), (2, (.agg #[.int .i64 0, .int .i64 0, x30.val]))]) w62 fun r64 w65 =>
 ∃ x66 : Sl, r64 = x66.val ∧
 Trip Tryd.prog 53 #[.pointer (some (a_0.add 0)), .int .i64 5] w65 fun r67 w68 =>
 ∃ n69 : Int, r67 = .int .i64 n69 ∧
 ((decide (n69 < 4)) = true →
 IxOk x63 n69 ∧
 ∃ n70 : Int, ∃ n71 : Int, ∃ x72 : Sl, (w68.cell? ((elA x63 n69 3).add 0) = some (.int .i64 n70) ∧
 w68.cell? ((elA x63 n69 3).add 1) = some (.int .i64 n71) ∧
 w68.cell? ((elA x63 n69 3).add 2) = some (x72.val)) ∧
 StepT Tryd.prog (Instr.buildSlice 80 1 #[(0, (.agg #[.int .i64 n70, .int .i64 n71, x72.val]))]) w68 fun r73 w74 =>
 ∃ x75 : Sl, r73 = x75.val ∧
 StepT Tryd.prog (Builtin.append_ #[80, 80] 80 #[(x66.val), (x75.val)]) w74 fun r76 w77 =>
 ∃ x78 : Sl, r76 = x78.val ∧
 Q (x78.val) w77) ∧
 ((decide (n69 < 4)) = false →
 Q (x66.val) w68)
theorem of83 (a_0 : Addr) (v : World) (Q : Value → World → Prop) (h : vc83 a_0 v Q) : Trip Tryd.prog 83 #[.pointer (some (a_0.add 0))] v Q :=
 trip_of_eq (args := [.pt a_0 0]) (A := ⟨[], [], [], [], psG⟩) Tryd.func83 (by kernel_rfl) (by kernel_rfl) (by kernel_rfl : vc83 a_0 v Q = _) h

def vc84 (x_0 : Sl) (n_1 : Int) (v : World) (Q : Value → World → Prop) : Prop :=
 Q (.agg #[x_0.val, .int .i64 n_1, .int .i64 0, .int .i64 0, .slice none 0 0]) v
theorem of84 (x_0 : Sl) (n_1 : Int) (v : World) (Q : Value → World → Prop) (h : vc84 x_0 n_1 v Q) : Trip Tryd.prog 84 #[x_0.val, .int .i64 n_1] v Q :=
 trip_of_eq (args := [.sl x_0, .num .i64 n_1]) (A := ⟨[], [], [], [], psG⟩) Tryd.func84 (by kernel_rfl) (by kernel_rfl) (by kernel_rfl : vc84 x_0 n_1 v Q = _) h

def vc85 (a_0 : Addr) (x1_0 : Sl) (x1_1 : Sl) (n_2 : Int) (v : World) (Q : Value → World → Prop) : Prop :=
 IxOk x1_1 n_2 ∧
 ∃ x1 : Sl, v.cell? ((elA x1_1 n_2 5).add 0) = some (x1.val) ∧
 IxOk x1_1 n_2 ∧
 ∃ n2 : Int, v.cell? ((elA x1_1 n_2 5).add 1) = some (.int .i64 n2) ∧
 ∃ n3 : Int, (Trip Tryd.prog 101 #[x1.val, .int .i64 1] v fun r4 w5 => r4 = .int .i64 n3 ∧ Sub v w5) ∧
 Trip Tryd.prog 66 #[.int .i64 0] v fun r6 w7 =>
 ∃ n8 : Int, ∃ n9 : Int, ∃ x10 : Sl, r6 = .agg #[.int .i64 n8, .int .i64 n9, x10.val] ∧
 Trip Tryd.prog 53 #[.pointer (some (a_0.add 0)), .int .i64 4] w7 fun r11 w12 =>
 ∃ n13 : Int, r11 = .int .i64 n13 ∧
 ∃ J14 : Int → Int → Sl → World → Prop, ((((decide (n13 < 3)) && (decide (n_2 = 0))) = true →
 Trip Tryd.prog 102 #[.pointer (some (a_0.add 0)), .agg #[x1_0.val, x1_1.val]] w12 fun r15 w16 =>
 ∃ n17 : Int, ∃ n18 : Int, ∃ x19 : Sl, r15 = .agg #[.int .i64 n17, .int .i64 n18, x19.val] ∧
 ((.sl x1_0 : SV) = .sl x1_0) ∧
 ((.sl x1_1 : SV) = .sl x1_1) ∧
 ((.num .i64 0 : SV) = .num .i64 0) ∧
 ((.num .i64 0 : SV) = .num .i64 0) ∧
 ((.sl (Sl.mk none 0 0) : SV) = .sl (Sl.mk none 0 0)) ∧
 J14 n17 n18 x19 w16) ∧
 (((decide (n13 < 3)) && (decide (n_2 = 0))) = false →
 ((((decide (n13 < 3)) && (decide (n3 ≥ 0))) && ((decide (n2 = 0)) || (decide (n2 = 1)))) = true →
 Trip Tryd.prog 103 #[.pointer (some (a_0.add 0)), .agg #[x1_0.val, x1_1.val], .int .i64 n_2, .int .i64 n3] w12 fun r20 w21 =>
 ∃ n22 : Int, ∃ n23 : Int, ∃ x24 : Sl, r20 = .agg #[.int .i64 n22, .int .i64 n23, x24.val] ∧
 ((.sl x1_0 : SV) = .sl x1_0) ∧
 ((.sl x1_1 : SV) = .sl x1_1) ∧
 ((.num .i64 0 : SV) = .num .i64 0) ∧
 ((.num .i64 0 : SV) = .num .i64 0) ∧
 ((.sl (Sl.mk none 0 0) : SV) = .sl (Sl.mk none 0 0)) ∧
 J14 n22 n23 x24 w21) ∧
 ((((decide (n13 < 3)) && (decide (n3 ≥ 0))) && ((decide (n2 = 0)) || (decide (n2 = 1)))) = false →
 (((decide (n13 < 3)) && (decide ((x1.n : Int) > 0))) = true →
 IxOk x1 0) ∧
 ∃ n25 : Int, (((decide (n13 < 3)) && (decide ((x1.n : Int) > 0))) = true →
 w12.cell? ((elA x1 0 1).add 0) = some (.int .i64 n25)) ∧
 (((((decide (n13 < 3)) && (decide ((x1.n : Int) > 0))) && (decide (n25 = 3))) && ((decide (n2 = 0)) || (decide (n2 = 3)))) = true →
 Trip Tryd.prog 104 #[.pointer (some (a_0.add 0)), .agg #[x1_0.val, x1_1.val], .int .i64 n_2] w12 fun r26 w27 =>
 ∃ n28 : Int, ∃ n29 : Int, ∃ x30 : Sl, r26 = .agg #[.int .i64 n28, .int .i64 n29, x30.val] ∧
 ((.sl x1_0 : SV) = .sl x1_0) ∧
 ((.sl x1_1 : SV) = .sl x1_1) ∧
 ((.num .i64 0 : SV) = .num .i64 0) ∧
 ((.num .i64 0 : SV) = .num .i64 0) ∧
 ((.sl (Sl.mk none 0 0) : SV) = .sl (Sl.mk none 0 0)) ∧
 J14 n28 n29 x30 w27) ∧
 (((((decide (n13 < 3)) && (decide ((x1.n : Int) > 0))) && (decide (n25 = 3))) && ((decide (n2 = 0)) || (decide (n2 = 3)))) = false →
 (((decide (n13 < 3)) && (decide ((x1.n : Int) > 0))) = true →
 IxOk x1 0) ∧
 ∃ n31 : Int, (((decide (n13 < 3)) && (decide ((x1.n : Int) > 0))) = true →
 w12.cell? ((elA x1 0 1).add 0) = some (.int .i64 n31)) ∧
 (((((decide (n13 < 3)) && (decide ((x1.n : Int) > 0))) && (decide (n31 = 0))) && ((decide (n2 = 0)) || (decide (n2 = 1)))) = true →
 Trip Tryd.prog 105 #[.pointer (some (a_0.add 0)), .agg #[x1_0.val, x1_1.val], .int .i64 n_2] w12 fun r32 w33 =>
 ∃ n34 : Int, ∃ n35 : Int, ∃ x36 : Sl, r32 = .agg #[.int .i64 n34, .int .i64 n35, x36.val] ∧
 ((.sl x1_0 : SV) = .sl x1_0) ∧
 ((.sl x1_1 : SV) = .sl x1_1) ∧
 ((.num .i64 0 : SV) = .num .i64 0) ∧
 ((.num .i64 0 : SV) = .num .i64 0) ∧
 ((.sl (Sl.mk none 0 0) : SV) = .sl (Sl.mk none 0 0)) ∧
 J14 n34 n35 x36 w33) ∧
 (((((decide (n13 < 3)) && (decide ((x1.n : Int) > 0))) && (decide (n31 = 0))) && ((decide (n2 = 0)) || (decide (n2 = 1)))) = false →
 Trip Tryd.prog 106 #[.pointer (some (a_0.add 0)), .agg #[x1_0.val, x1_1.val], x1.val, .int .i64 n2, .int .i64 18] w12 fun r37 w38 =>
 ∃ n39 : Int, ∃ n40 : Int, ∃ x41 : Sl, r37 = .agg #[.int .i64 n39, .int .i64 n40, x41.val] ∧
 ((.sl x1_0 : SV) = .sl x1_0) ∧
 ((.sl x1_1 : SV) = .sl x1_1) ∧
 ((.num .i64 0 : SV) = .num .i64 0) ∧
 ((.num .i64 0 : SV) = .num .i64 0) ∧
 ((.sl (Sl.mk none 0 0) : SV) = .sl (Sl.mk none 0 0)) ∧
 J14 n39 n40 x41 w38))))) ∧
 ∀ n42 : Int, ∀ n43 : Int, ∀ x44 : Sl, ∀ w45 : World, J14 n42 n43 x44 w45 →
 ∃ n46 : Int, (Trip Tryd.prog 19 #[.agg #[.int .i64 n42, .int .i64 n43, x44.val]] w45 fun r47 w48 => r47 = .int .i64 n46 ∧ Sub w45 w48) ∧
 ((decide (n46 < 0)) = true →
 Trip Tryd.prog 106 #[.pointer (some (a_0.add 0)), .agg #[x1_0.val, x1_1.val], x1.val, .int .i64 n2, .int .i64 12] w45 fun r49 w50 =>
 ∃ n51 : Int, ∃ n52 : Int, ∃ x53 : Sl, r49 = .agg #[.int .i64 n51, .int .i64 n52, x53.val] ∧
 Q (.agg #[.int .i64 n51, .int .i64 n52, x53.val]) w50) ∧
 ((decide (n46 < 0)) = false →
 Q (.agg #[.int .i64 n42, .int .i64 n43, x44.val]) w45)
theorem of85 (a_0 : Addr) (x1_0 : Sl) (x1_1 : Sl) (n_2 : Int) (v : World) (Q : Value → World → Prop) (h : vc85 a_0 x1_0 x1_1 n_2 v Q) : Trip Tryd.prog 85 #[.pointer (some (a_0.add 0)), .agg #[x1_0.val, x1_1.val], .int .i64 n_2] v Q :=
 trip_of_eq (args := [.pt a_0 0, .ag [.sl x1_0, .sl x1_1], .num .i64 n_2]) (A := ⟨[], [(15, [], [(2, 0, .int .i64), (2, 1, .int .i64), (2, 2, .sl)])], [], [], psG⟩) Tryd.func85 (by kernel_rfl) (by kernel_rfl) (by kernel_rfl : vc85 a_0 x1_0 x1_1 n_2 v Q = _) h

def vc86 (n0_0 : Int) (n0_1 : Int) (x0_2 : Sl) (v : World) (Q : Value → World → Prop) : Prop :=
 Trip Tryd.prog 64 #[x0_2.val] v fun r1 w2 =>
 ∃ x3 : Sl, r1 = x3.val ∧
 Sub v w2 ∧
 Q (.agg #[.int .i64 n0_0, .int .i64 n0_1, x3.val]) w2
theorem of86 (n0_0 : Int) (n0_1 : Int) (x0_2 : Sl) (v : World) (Q : Value → World → Prop) (h : vc86 n0_0 n0_1 x0_2 v Q) : Trip Tryd.prog 86 #[.agg #[.int .i64 n0_0, .int .i64 n0_1, x0_2.val]] v Q :=
 trip_of_eq (args := [.ag [.num .i64 n0_0, .num .i64 n0_1, .sl x0_2]]) (A := ⟨[], [], [(1, [6])], [], psG⟩) Tryd.func86 (by kernel_rfl) (by kernel_rfl) (by kernel_rfl : vc86 n0_0 n0_1 x0_2 v Q = _) h

def vc100 (x_0 : Sl) (v : World) (Q : Value → World → Prop) : Prop :=
 Q (.agg #[x_0.val]) v
theorem of100 (x_0 : Sl) (v : World) (Q : Value → World → Prop) (h : vc100 x_0 v Q) : Trip Tryd.prog 100 #[x_0.val] v Q :=
 trip_of_eq (args := [.sl x_0]) (A := ⟨[], [], [], [], psG⟩) Tryd.func100 (by kernel_rfl) (by kernel_rfl) (by kernel_rfl : vc100 x_0 v Q = _) h

def vc101 (x_0 : Sl) (n_1 : Int) (v : World) (Q : Value → World → Prop) : Prop :=
 ∃ I1 : Int → World → Prop, ∃ m2 : Int → World → Nat, I1 0 v ∧
 ∀ n3 : Int, ∀ w4 : World, I1 n3 w4 →
 ((decide (n3 < (x_0.n : Int))) = true →
 IxOk x_0 n3 ∧
 ∃ n5 : Int, w4.cell? ((elA x_0 n3 1).add 0) = some (.int .i64 n5) ∧
 ((decide (n5 = n_1)) = true →
 Q (.int .i64 n3) w4) ∧
 ((decide (n5 = n_1)) = false →
 ∃ n6 : Int, Wr .i64 (n3 + 1) n6 ∧
 I1 n6 w4 ∧
 m2 n6 w4 < m2 n3 w4)) ∧
 ((decide (n3 < (x_0.n : Int))) = false →
 Q (.int .i64 (-1)) w4)
theorem of101 (x_0 : Sl) (n_1 : Int) (v : World) (Q : Value → World → Prop) (h : vc101 x_0 n_1 v Q) : Trip Tryd.prog 101 #[x_0.val, .int .i64 n_1] v Q :=
 trip_of_eq (args := [.sl x_0, .num .i64 n_1]) (A := ⟨[(2, [(5, .int .i64)], [])], [], [], [], psG⟩) Tryd.func101 (by kernel_rfl) (by kernel_rfl) (by kernel_rfl : vc101 x_0 n_1 v Q = _) h

def vc102 (a_0 : Addr) (x1_0 : Sl) (x1_1 : Sl) (v : World) (Q : Value → World → Prop) : Prop :=
 StepT Tryd.prog (Instr.buildSlice 86 3 #[(0, (.int .i64 1)), (1, (.int .i64 1)), (2, (.int .i64 3))]) v fun r1 w2 =>
 ∃ x3 : Sl, r1 = x3.val ∧
 Trip Tryd.prog 65 #[.pointer (some (a_0.add 0)), x3.val] w2 fun r4 w5 =>
 ∃ n6 : Int, r4 = .int .i64 n6 ∧
 StepT Tryd.prog (Instr.buildSlice 86 1 #[(0, (.int .i64 n6))]) w5 fun r7 w8 =>
 ∃ x9 : Sl, r7 = x9.val ∧
 Trip Tryd.prog 117 #[.pointer (some (a_0.add 0)), .agg #[x1_0.val, x1_1.val], x9.val, .int .i64 0, .int .i64 16] w8 fun r10 w11 =>
 ∃ n12 : Int, ∃ n13 : Int, ∃ x14 : Sl, r10 = .agg #[.int .i64 n12, .int .i64 n13, x14.val] ∧
 Trip Tryd.prog 53 #[.pointer (some (a_0.add 0)), .int .i64 3] w11 fun r15 w16 =>
 ∃ n17 : Int, r15 = .int .i64 n17 ∧
 ((decide (n17 = 0)) = true →
 StepT Tryd.prog (Instr.buildSlice 27 1 #[(0, (.agg #[.int .i64 n12, .int .i64 n13, x14.val]))]) w16 fun r18 w19 =>
 ∃ x20 : Sl, r18 = x20.val ∧
 Trip Tryd.prog 55 #[.int .i64 5, .int .i64 0, x20.val] w19 fun r21 w22 =>
 ∃ n23 : Int, ∃ n24 : Int, ∃ x25 : Sl, r21 = .agg #[.int .i64 n23, .int .i64 n24, x25.val] ∧
 Trip Tryd.prog 118 #[.pointer (some (a_0.add 0)), .int .i64 n6] w22 fun r26 w27 =>
 ∃ n28 : Int, ∃ n29 : Int, ∃ x30 : Sl, r26 = .agg #[.int .i64 n28, .int .i64 n29, x30.val] ∧
 StepT Tryd.prog (Instr.buildSlice 27 2 #[(0, (.agg #[.int .i64 n28, .int .i64 n29, x30.val])), (1, (.agg #[.int .i64 n23, .int .i64 n24, x25.val]))]) w27 fun r31 w32 =>
 ∃ x33 : Sl, r31 = x33.val ∧
 Trip Tryd.prog 55 #[.int .i64 13, .int .i64 0, x33.val] w32 fun r34 w35 =>
 ∃ n36 : Int, ∃ n37 : Int, ∃ x38 : Sl, r34 = .agg #[.int .i64 n36, .int .i64 n37, x38.val] ∧
 Q (.agg #[.int .i64 n36, .int .i64 n37, x38.val]) w35) ∧
 ((decide (n17 = 0)) = false →
 Trip Tryd.prog 118 #[.pointer (some (a_0.add 0)), .int .i64 n6] w16 fun r39 w40 =>
 ∃ n41 : Int, ∃ n42 : Int, ∃ x43 : Sl, r39 = .agg #[.int .i64 n41, .int .i64 n42, x43.val] ∧
 StepT Tryd.prog (Instr.buildSlice 27 2 #[(0, (.agg #[.int .i64 n41, .int .i64 n42, x43.val])), (1, (.agg #[.int .i64 n12, .int .i64 n13, x14.val]))]) w40 fun r44 w45 =>
 ∃ x46 : Sl, r44 = x46.val ∧
 Trip Tryd.prog 55 #[.int .i64 13, .int .i64 0, x46.val] w45 fun r47 w48 =>
 ∃ n49 : Int, ∃ n50 : Int, ∃ x51 : Sl, r47 = .agg #[.int .i64 n49, .int .i64 n50, x51.val] ∧
 Q (.agg #[.int .i64 n49, .int .i64 n50, x51.val]) w48)
theorem of102 (a_0 : Addr) (x1_0 : Sl) (x1_1 : Sl) (v : World) (Q : Value → World → Prop) (h : vc102 a_0 x1_0 x1_1 v Q) : Trip Tryd.prog 102 #[.pointer (some (a_0.add 0)), .agg #[x1_0.val, x1_1.val]] v Q :=
 trip_of_eq (args := [.pt a_0 0, .ag [.sl x1_0, .sl x1_1]]) (A := ⟨[], [], [(5, [])], [], psG⟩) Tryd.func102 (by kernel_rfl) (by kernel_rfl) (by kernel_rfl : vc102 a_0 x1_0 x1_1 v Q = _) h

end Go.Vc
