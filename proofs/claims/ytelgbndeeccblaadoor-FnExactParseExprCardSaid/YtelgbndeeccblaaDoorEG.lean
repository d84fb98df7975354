/- Part of the proofs about the heaps and memories: a law is joined in the text whose name ends in W and the law. -/
import Derived.Test.YtelgbndeeccblaaDoorEVcFn
import Derived.Test.YtelgbndeeccblaaDoorProg
import Derived.KernelRfl
namespace Go.Vc
open Go Go.Proofs
set_option linter.all false
abbrev ldF (w : World) (x : Sl) (i : Int) (K : Sl → Int → Int → Int → Sl → Prop) : Prop := ∃ f : Sl, ∃ a : Int, ∃ b : Int, ∃ c : Int, ∃ k : Sl, (w.cell? ((elA x i 5).add 0) = some (f.val) ∧ w.cell? ((elA x i 5).add 1) = some (.int .i64 a) ∧ w.cell? ((elA x i 5).add 2) = some (.int .i64 b) ∧ w.cell? ((elA x i 5).add 3) = some (.int .i64 c) ∧ w.cell? ((elA x i 5).add 4) = some (k.val)) ∧ K f a b c k
abbrev ldT (w : World) (x : Sl) (i : Int) (K : Int → Int → Sl → Prop) : Prop := ∃ a : Int, ∃ b : Int, ∃ k : Sl, (w.cell? ((elA x i 3).add 0) = some (.int .i64 a) ∧ w.cell? ((elA x i 3).add 1) = some (.int .i64 b) ∧ w.cell? ((elA x i 3).add 2) = some (k.val)) ∧ K a b k
abbrev eqS (x : SV) : Prop := x = x
abbrev psG : List Nat := [6, 7, 9, 10, 14, 16, 18, 19, 20, 21, 25, 29, 33, 34, 35, 36, 37, 39, 40, 41, 42, 44, 49, 51, 58, 62, 101, 133, 135, 139, 140, 141, 142]
def vc4 (s_0 : ByteArray) (v : World) (Q : Value → World → Prop) : Prop :=
 ((decide ((s_0.size : Int) > 1048576)) = true →
 Q (.bool true) v) ∧
 ((decide ((s_0.size : Int) > 1048576)) = false →
 Trip Tryd.prog 11 #[.string s_0] v fun r1 w2 =>
 ∃ n3 : Int, ∃ n4 : Int, ∃ x5 : Sl, ∃ q6 : Bool, r1 = .tuple #[.agg #[.int .i64 n3, .int .i64 n4, x5.val], .bool q6] ∧
 Trip Tryd.prog 12 #[.string s_0] w2 fun r7 w8 =>
 ∃ n9 : Int, ∃ n10 : Int, ∃ x11 : Sl, ∃ q12 : Bool, r7 = .tuple #[.agg #[.int .i64 n9, .int .i64 n10, x11.val], .bool q12] ∧
 ∃ q13 : Bool, (Trip Tryd.prog 10 #[.agg #[.int .i64 n9, .int .i64 n10, x11.val], .agg #[.int .i64 n3, .int .i64 n4, x5.val]] w8 fun r14 w15 => r14 = .bool q13 ∧ Sub w8 w15) ∧
 (((!q13) || (!(q12 == q6))) = true →
 Q (.bool false) w8) ∧
 (((!q13) || (!(q12 == q6))) = false →
 Trip Tryd.prog 13 #[.agg #[.int .i64 n9, .int .i64 n10, x11.val], .int .i64 1] w8 fun r16 w17 =>
 ∃ n18 : Int, r16 = .int .i64 n18 ∧
 ∃ n19 : Int, (Trip Tryd.prog 14 #[.agg #[.int .i64 n9, .int .i64 n10, x11.val], .int .i64 1] w17 fun r20 w21 => r20 = .int .i64 n19 ∧ Sub w17 w21) ∧
 ((decide (n19 < 0)) = true →
 Q (.bool false) w17) ∧
 ((decide (n19 < 0)) = false →
 ((!decide (n19 = n18)) = true →
 Q (.bool false) w17) ∧
 ((!decide (n19 = n18)) = false →
 Trip Tryd.prog 12 #[.string s_0] w17 fun r22 w23 =>
 ∃ n24 : Int, ∃ n25 : Int, ∃ x26 : Sl, ∃ q27 : Bool, r22 = .tuple #[.agg #[.int .i64 n24, .int .i64 n25, x26.val], .bool q27] ∧
 ∃ q28 : Bool, (Trip Tryd.prog 10 #[.agg #[.int .i64 n24, .int .i64 n25, x26.val], .agg #[.int .i64 n3, .int .i64 n4, x5.val]] w23 fun r29 w30 => r29 = .bool q28 ∧ Sub w23 w30) ∧
 (((!q28) || (!(q27 == q6))) = true →
 Q (.bool false) w23) ∧
 (((!q28) || (!(q27 == q6))) = false →
 ∃ n31 : Int, (Trip Tryd.prog 14 #[.agg #[.int .i64 n9, .int .i64 n10, x11.val], .int .i64 1] w23 fun r32 w33 => r32 = .int .i64 n31 ∧ Sub w23 w33) ∧
 ((decide (n31 < 0)) = true →
 Q (.bool false) w23) ∧
 ((decide (n31 < 0)) = false →
 ((!decide (n31 = n18)) = true →
 Q (.bool false) w23) ∧
 ((!decide (n31 = n18)) = false →
 Q (.bool true) w23)))))))
theorem of4 (s_0 : ByteArray) (v : World) (Q : Value → World → Prop) (h : vc4 s_0 v Q) : Trip Tryd.prog 4 #[.string s_0] v Q :=
 trip_of_eq (args := [.st s_0]) (A := ⟨[], [], [], [], psG⟩) Tryd.func4 (by kernel_rfl) (by kernel_rfl) (by kernel_rfl : vc4 s_0 v Q = _) h

def vc9 (n0_0 : Int) (n0_1 : Int) (x0_2 : Sl) (v : World) (Q : Value → World → Prop) : Prop :=
 ∃ n1 : Int, (Trip Tryd.prog 16 #[.agg #[.int .i64 n0_0, .int .i64 n0_1, x0_2.val]] v fun r2 w3 => r2 = .int .i64 n1 ∧ Sub v w3) ∧
 ((decide (n1 < 0)) = true →
 Q (.string (ByteArray.mk #[])) v) ∧
 ((decide (n1 < 0)) = false →
 NewAt v (.cells #[(Vl.mk (Value.pointer none) rfl).x, .slice none 0 0] 47 (0, 0)) fun a4 w5 =>
 Trip Tryd.prog 23 #[.pointer (some (a4.add 0)), .agg #[.int .i64 n0_0, .int .i64 n0_1, x0_2.val]] w5 fun r6 w7 =>
 ∃ q8 : Bool, r6 = .bool q8 ∧
 ((!q8) = true →
 Q (.string (ByteArray.mk #[])) w7) ∧
 ((!q8) = false →
 Trip Tryd.prog 24 #[.pointer (some (a4.add 0))] w7 fun r9 w10 =>
 ∃ s11 : ByteArray, r9 = .string s11 ∧
 Q (.string s11) w10))
theorem of9 (n0_0 : Int) (n0_1 : Int) (x0_2 : Sl) (v : World) (Q : Value → World → Prop) (h : vc9 n0_0 n0_1 x0_2 v Q) : Trip Tryd.prog 9 #[.agg #[.int .i64 n0_0, .int .i64 n0_1, x0_2.val]] v Q :=
 trip_of_eq (args := [.ag [.num .i64 n0_0, .num .i64 n0_1, .sl x0_2]]) (A := ⟨[], [], [], [3], psG⟩) Tryd.func9 (by kernel_rfl) (by kernel_rfl) (by kernel_rfl : vc9 n0_0 n0_1 x0_2 v Q = _) h

def vc10 (n0_0 : Int) (n0_1 : Int) (x0_2 : Sl) (n1_0 : Int) (n1_1 : Int) (x1_2 : Sl) (v : World) (Q : Value → World → Prop) : Prop :=
 ((!decide (n0_0 = n1_0)) = true →
 Q (.bool false) v) ∧
 ((!decide (n0_0 = n1_0)) = false →
 ((!decide (n0_1 = n1_1)) = true →
 Q (.bool false) v) ∧
 ((!decide (n0_1 = n1_1)) = false →
 ∃ q1 : Bool, (Trip Tryd.prog 25 #[x0_2.val, x1_2.val] v fun r2 w3 => r2 = .bool q1 ∧ Sub v w3) ∧
 ((!q1) = true →
 Q (.bool false) v) ∧
 ((!q1) = false →
 Q (.bool true) v)))
theorem of10 (n0_0 : Int) (n0_1 : Int) (x0_2 : Sl) (n1_0 : Int) (n1_1 : Int) (x1_2 : Sl) (v : World) (Q : Value → World → Prop) (h : vc10 n0_0 n0_1 x0_2 n1_0 n1_1 x1_2 v Q) : Trip Tryd.prog 10 #[.agg #[.int .i64 n0_0, .int .i64 n0_1, x0_2.val], .agg #[.int .i64 n1_0, .int .i64 n1_1, x1_2.val]] v Q :=
 trip_of_eq (args := [.ag [.num .i64 n0_0, .num .i64 n0_1, .sl x0_2], .ag [.num .i64 n1_0, .num .i64 n1_1, .sl x1_2]]) (A := ⟨[], [], [], [], psG⟩) Tryd.func10 (by kernel_rfl) (by kernel_rfl) (by kernel_rfl : vc10 n0_0 n0_1 x0_2 n1_0 n1_1 x1_2 v Q = _) h

def vc11 (s_0 : ByteArray) (v : World) (Q : Value → World → Prop) : Prop :=
 NewAt v (.cells #[.string s_0, .int .i64 0, .int .i64 0, .bool false] 53 (0, 0)) fun a1 w2 =>
 Trip Tryd.prog 26 #[.pointer (some (a1.add 0))] w2 fun r3 w4 =>
 ∃ n5 : Int, ∃ n6 : Int, ∃ x7 : Sl, r3 = .agg #[.int .i64 n5, .int .i64 n6, x7.val] ∧
 ∃ q8 : Bool, w4.cell? (a1.add 3) = some (.bool q8) ∧
 ∃ q9 : Bool, ((q8 || (s_0.toList == (ByteArray.mk #[]).toList)) = false →
 (Trip Tryd.prog 20 #[.agg #[.int .i64 n5, .int .i64 n6, x7.val]] w4 fun r10 w11 => r10 = .bool q9 ∧ Sub w4 w11)) ∧
 ∃ s12 : ByteArray, (((q8 || (s_0.toList == (ByteArray.mk #[]).toList)) || (!q9)) = false →
 (Trip Tryd.prog 21 #[.agg #[.int .i64 n5, .int .i64 n6, x7.val]] w4 fun r13 w14 => r13 = .string s12 ∧ Sub w4 w14)) ∧
 ((((q8 || (s_0.toList == (ByteArray.mk #[]).toList)) || (!q9)) || (!(s12.toList == s_0.toList))) = true →
 Q (.tuple #[.agg #[.int .i64 0, .int .i64 0, .slice none 0 0], .bool false]) w4) ∧
 ((((q8 || (s_0.toList == (ByteArray.mk #[]).toList)) || (!q9)) || (!(s12.toList == s_0.toList))) = false →
 Q (.tuple #[.agg #[.int .i64 n5, .int .i64 n6, x7.val], .bool true]) w4)
theorem of11 (s_0 : ByteArray) (v : World) (Q : Value → World → Prop) (h : vc11 s_0 v Q) : Trip Tryd.prog 11 #[.string s_0] v Q :=
 trip_of_eq (args := [.st s_0]) (A := ⟨[], [], [], [8], psG⟩) Tryd.func11 (by kernel_rfl) (by kernel_rfl) (by kernel_rfl : vc11 s_0 v Q = _) h

def vc12 (s_0 : ByteArray) (v : World) (Q : Value → World → Prop) : Prop :=
 NewAt v (.cells #[.string ByteArray.empty, .int .i64 0] 56 (0, 0)) fun a1 w2 =>
 StoreAt w2 a1 0 [.string s_0, .int .i64 0] fun w3 =>
 Trip Tryd.prog 27 #[.pointer (some (a1.add 0))] w3 fun r4 w5 =>
 ∃ n6 : Int, ∃ n7 : Int, ∃ x8 : Sl, ∃ q9 : Bool, r4 = .tuple #[.agg #[.int .i64 n6, .int .i64 n7, x8.val], .bool q9] ∧
 ∃ s10 : ByteArray, ((!q9) = false →
 (Trip Tryd.prog 9 #[.agg #[.int .i64 n6, .int .i64 n7, x8.val]] w5 fun r11 w12 => r11 = .string s10 ∧ Sub w5 w12)) ∧
 (((!q9) || (!(s10.toList == s_0.toList))) = true →
 Q (.tuple #[.agg #[.int .i64 0, .int .i64 0, .slice none 0 0], .bool false]) w5) ∧
 (((!q9) || (!(s10.toList == s_0.toList))) = false →
 Q (.tuple #[.agg #[.int .i64 n6, .int .i64 n7, x8.val], .bool true]) w5)
theorem of12 (s_0 : ByteArray) (v : World) (Q : Value → World → Prop) (h : vc12 s_0 v Q) : Trip Tryd.prog 12 #[.string s_0] v Q :=
 trip_of_eq (args := [.st s_0]) (A := ⟨[], [], [], [4], psG⟩) Tryd.func12 (by kernel_rfl) (by kernel_rfl) (by kernel_rfl : vc12 s_0 v Q = _) h

def vc13 (n0_0 : Int) (n0_1 : Int) (x0_2 : Sl) (n_1 : Int) (v : World) (Q : Value → World → Prop) : Prop :=
 Trip Tryd.prog 28 #[x0_2.val, .int .i64 n_1] v fun r1 w2 =>
 ∃ n3 : Int, r1 = .int .i64 n3 ∧
 Q (.int .i64 n3) w2
theorem of13 (n0_0 : Int) (n0_1 : Int) (x0_2 : Sl) (n_1 : Int) (v : World) (Q : Value → World → Prop) (h : vc13 n0_0 n0_1 x0_2 n_1 v Q) : Trip Tryd.prog 13 #[.agg #[.int .i64 n0_0, .int .i64 n0_1, x0_2.val], .int .i64 n_1] v Q :=
 trip_of_eq (args := [.ag [.num .i64 n0_0, .num .i64 n0_1, .sl x0_2], .num .i64 n_1]) (A := ⟨[], [], [], [], psG⟩) Tryd.func13 (by kernel_rfl) (by kernel_rfl) (by kernel_rfl : vc13 n0_0 n0_1 x0_2 n_1 v Q = _) h

def vc14 (n0_0 : Int) (n0_1 : Int) (x0_2 : Sl) (n_1 : Int) (v : World) (Q : Value → World → Prop) : Prop :=
 ∃ n1 : Int, (Trip Tryd.prog 29 #[x0_2.val, .int .i64 n_1] v fun r2 w3 => r2 = .int .i64 n1 ∧ Sub v w3) ∧
 ((decide (n1 < 0)) = true →
 Q (.int .i64 (-1)) v) ∧
 ((decide (n1 < 0)) = false →
 Q (.int .i64 n1) v)
theorem of14 (n0_0 : Int) (n0_1 : Int) (x0_2 : Sl) (n_1 : Int) (v : World) (Q : Value → World → Prop) (h : vc14 n0_0 n0_1 x0_2 n_1 v Q) : Trip Tryd.prog 14 #[.agg #[.int .i64 n0_0, .int .i64 n0_1, x0_2.val], .int .i64 n_1] v Q :=
 trip_of_eq (args := [.ag [.num .i64 n0_0, .num .i64 n0_1, .sl x0_2], .num .i64 n_1]) (A := ⟨[], [], [], [], psG⟩) Tryd.func14 (by kernel_rfl) (by kernel_rfl) (by kernel_rfl : vc14 n0_0 n0_1 x0_2 n_1 v Q = _) h

def vc16 (n0_0 : Int) (n0_1 : Int) (x0_2 : Sl) (v : World) (Q : Value → World → Prop) : Prop :=
 NewAt v (.cells #[.int .i64 0] 3 (0, 0)) fun a1 w2 =>
 StoreAt w2 a1 0 [.int .i64 0] fun w3 =>
 Trip Tryd.prog 32 #[.agg #[.int .i64 n0_0, .int .i64 n0_1, x0_2.val], .pointer (some (a1.add 0))] w3 fun r4 w5 =>
 ∃ q6 : Bool, r4 = .bool q6 ∧
 ((!q6) = true →
 Q (.int .i64 (-1)) w5) ∧
 ((!q6) = false →
 ∃ n7 : Int, w5.cell? (a1.add 0) = some (.int .i64 n7) ∧
 Q (.int .i64 n7) w5)
theorem of16 (n0_0 : Int) (n0_1 : Int) (x0_2 : Sl) (v : World) (Q : Value → World → Prop) (h : vc16 n0_0 n0_1 x0_2 v Q) : Trip Tryd.prog 16 #[.agg #[.int .i64 n0_0, .int .i64 n0_1, x0_2.val]] v Q :=
 trip_of_eq (args := [.ag [.num .i64 n0_0, .num .i64 n0_1, .sl x0_2]]) (A := ⟨[], [], [], [3], psG⟩) Tryd.func16 (by kernel_rfl) (by kernel_rfl) (by kernel_rfl : vc16 n0_0 n0_1 x0_2 v Q = _) h

def vc20 (n0_0 : Int) (n0_1 : Int) (x0_2 : Sl) (v : World) (Q : Value → World → Prop) : Prop :=
 ∃ q1 : Bool, (Trip Tryd.prog 34 #[.int .i64 n0_0, .int .i64 0, .int .i64 13] v fun r2 w3 => r2 = .bool q1 ∧ Sub v w3) ∧
 (((!q1) || (((decide (n0_0 = 0)) || (decide (n0_0 = 12))) && (decide ((x0_2.n : Int) > 0)))) = true →
 Q (.bool false) v) ∧
 (((!q1) || (((decide (n0_0 = 0)) || (decide (n0_0 = 12))) && (decide ((x0_2.n : Int) > 0)))) = false →
 ∃ q4 : Bool, ((decide (n0_0 = 0)) = true →
 (Trip Tryd.prog 34 #[.int .i64 n0_1, .int .i64 (-999), .int .i64 999] v fun r5 w6 => r5 = .bool q4 ∧ Sub v w6)) ∧
 (((decide (n0_0 = 0)) && (!q4)) = true →
 Q (.bool false) v) ∧
 (((decide (n0_0 = 0)) && (!q4)) = false →
 ∃ q7 : Bool, ((decide (n0_0 = 12)) = false →
 (Trip Tryd.prog 35 #[.int .i64 n0_0] v fun r8 w9 => r8 = .bool q7 ∧ Sub v w9)) ∧
 ∃ q10 : Bool, (((decide (n0_0 = 12)) || q7) = true →
 (Trip Tryd.prog 34 #[.int .i64 n0_1, .int .i64 0, .int .i64 99] v fun r11 w12 => r11 = .bool q10 ∧ Sub v w12)) ∧
 ((((decide (n0_0 = 12)) || q7) && (!q10)) = true →
 Q (.bool false) v) ∧
 ((((decide (n0_0 = 12)) || q7) && (!q10)) = false →
 ∃ q13 : Bool, (((!decide (n0_0 = 0)) && (!decide (n0_0 = 12))) = true →
 (Trip Tryd.prog 35 #[.int .i64 n0_0] v fun r14 w15 => r14 = .bool q13 ∧ Sub v w15)) ∧
 (((((!decide (n0_0 = 0)) && (!decide (n0_0 = 12))) && (!q13)) && (!decide (n0_1 = 0))) = true →
 Q (.bool false) v) ∧
 (((((!decide (n0_0 = 0)) && (!decide (n0_0 = 12))) && (!q13)) && (!decide (n0_1 = 0))) = false →
 ∃ I16 : Int → World → Prop, ∃ m17 : Int → World → Nat, I16 0 v ∧
 ∀ n18 : Int, ∀ w19 : World, I16 n18 w19 →
 ((decide (n18 < (x0_2.n : Int))) = true →
 IxOk x0_2 n18 ∧
 ldT w19 x0_2 n18 fun n20 n21 x22 =>
 ∃ q23 : Bool, (Trip Tryd.prog 20 #[.agg #[.int .i64 n20, .int .i64 n21, x22.val]] w19 fun r24 w25 => r24 = .bool q23 ∧ Sub w19 w25) ∧
 ((!q23) = true →
 Q (.bool false) w19) ∧
 ((!q23) = false →
 ∃ n26 : Int, Wr .i64 (n18 + 1) n26 ∧
 eqS (.num .i64 n0_0) ∧
 eqS (.num .i64 n0_1) ∧
 eqS (.sl x0_2) ∧
 I16 n26 w19 ∧
 m17 n26 w19 < m17 n18 w19)) ∧
 ((decide (n18 < (x0_2.n : Int))) = false →
 Q (.bool true) w19)))))
theorem of20 (n0_0 : Int) (n0_1 : Int) (x0_2 : Sl) (v : World) (Q : Value → World → Prop) (h : vc20 n0_0 n0_1 x0_2 v Q) : Trip Tryd.prog 20 #[.agg #[.int .i64 n0_0, .int .i64 n0_1, x0_2.val]] v Q :=
 trip_of_eq (args := [.ag [.num .i64 n0_0, .num .i64 n0_1, .sl x0_2]]) (A := ⟨[(10, [(3, .int .i64)], [])], [], [], [], psG⟩) Tryd.func20 (by kernel_rfl) (by kernel_rfl) (by kernel_rfl : vc20 n0_0 n0_1 x0_2 v Q = _) h

def vc21 (n0_0 : Int) (n0_1 : Int) (x0_2 : Sl) (v : World) (Q : Value → World → Prop) : Prop :=
 ((decide (n0_0 = 0)) = true →
 ∃ s1 : ByteArray, (Trip Tryd.prog 36 #[.int .i64 n0_1] v fun r2 w3 => r2 = .string s1 ∧ Sub v w3) ∧
 Q (.string s1) v) ∧
 ((decide (n0_0 = 0)) = false →
 ((decide (n0_0 = 12)) = true →
 ∃ s4 : ByteArray, (Trip Tryd.prog 36 #[.int .i64 n0_1] v fun r5 w6 => r5 = .string s4 ∧ Sub v w6) ∧
 (((ByteArray.mk #[118]).size + s4.size : Nat) : Int) ≤ 9223372036854775807 ∧
 Q (.string ((ByteArray.mk #[118]) ++ s4)) v) ∧
 ((decide (n0_0 = 12)) = false →
 ∃ s7 : ByteArray, (Trip Tryd.prog 37 #[.int .i64 n0_0] v fun r8 w9 => r8 = .string s7 ∧ Sub v w9) ∧
 (((ByteArray.mk #[40]).size + s7.size : Nat) : Int) ≤ 9223372036854775807 ∧
 ∃ q10 : Bool, (Trip Tryd.prog 35 #[.int .i64 n0_0] v fun r11 w12 => r11 = .bool q10 ∧ Sub v w12) ∧
 (q10 = true →
 ∃ s13 : ByteArray, (Trip Tryd.prog 36 #[.int .i64 n0_1] v fun r14 w15 => r14 = .string s13 ∧ Sub v w15) ∧
 ((((ByteArray.mk #[40]) ++ s7).size + s13.size : Nat) : Int) ≤ 9223372036854775807 ∧
 ∃ I16 : ByteArray → Int → World → Prop, ∃ m17 : ByteArray → Int → World → Nat, I16 (((ByteArray.mk #[40]) ++ s7) ++ s13) 0 v ∧
 ∀ s18 : ByteArray, ∀ n19 : Int, ∀ w20 : World, I16 s18 n19 w20 →
 ((decide (n19 < (x0_2.n : Int))) = true →
 ((s18.size + (ByteArray.mk #[32]).size : Nat) : Int) ≤ 9223372036854775807 ∧
 IxOk x0_2 n19 ∧
 ldT w20 x0_2 n19 fun n21 n22 x23 =>
 ∃ s24 : ByteArray, (Trip Tryd.prog 21 #[.agg #[.int .i64 n21, .int .i64 n22, x23.val]] w20 fun r25 w26 => r25 = .string s24 ∧ Sub w20 w26) ∧
 (((s18 ++ (ByteArray.mk #[32])).size + s24.size : Nat) : Int) ≤ 9223372036854775807 ∧
 ∃ n27 : Int, Wr .i64 (n19 + 1) n27 ∧
 eqS (.num .i64 n0_0) ∧
 eqS (.num .i64 n0_1) ∧
 eqS (.sl x0_2) ∧
 I16 ((s18 ++ (ByteArray.mk #[32])) ++ s24) n27 w20 ∧
 m17 ((s18 ++ (ByteArray.mk #[32])) ++ s24) n27 w20 < m17 s18 n19 w20) ∧
 ((decide (n19 < (x0_2.n : Int))) = false →
 ((s18.size + (ByteArray.mk #[41]).size : Nat) : Int) ≤ 9223372036854775807 ∧
 Q (.string (s18 ++ (ByteArray.mk #[41]))) w20)) ∧
 (q10 = false →
 ∃ I28 : ByteArray → Int → World → Prop, ∃ m29 : ByteArray → Int → World → Nat, I28 ((ByteArray.mk #[40]) ++ s7) 0 v ∧
 ∀ s30 : ByteArray, ∀ n31 : Int, ∀ w32 : World, I28 s30 n31 w32 →
 ((decide (n31 < (x0_2.n : Int))) = true →
 ((s30.size + (ByteArray.mk #[32]).size : Nat) : Int) ≤ 9223372036854775807 ∧
 IxOk x0_2 n31 ∧
 ldT w32 x0_2 n31 fun n33 n34 x35 =>
 ∃ s36 : ByteArray, (Trip Tryd.prog 21 #[.agg #[.int .i64 n33, .int .i64 n34, x35.val]] w32 fun r37 w38 => r37 = .string s36 ∧ Sub w32 w38) ∧
 (((s30 ++ (ByteArray.mk #[32])).size + s36.size : Nat) : Int) ≤ 9223372036854775807 ∧
 ∃ n39 : Int, Wr .i64 (n31 + 1) n39 ∧
 eqS (.num .i64 n0_0) ∧
 eqS (.num .i64 n0_1) ∧
 eqS (.sl x0_2) ∧
 I28 ((s30 ++ (ByteArray.mk #[32])) ++ s36) n39 w32 ∧
 m29 ((s30 ++ (ByteArray.mk #[32])) ++ s36) n39 w32 < m29 s30 n31 w32) ∧
 ((decide (n31 < (x0_2.n : Int))) = false →
 ((s30.size + (ByteArray.mk #[41]).size : Nat) : Int) ≤ 9223372036854775807 ∧
 Q (.string (s30 ++ (ByteArray.mk #[41]))) w32))))
theorem of21 (n0_0 : Int) (n0_1 : Int) (x0_2 : Sl) (v : World) (Q : Value → World → Prop) (h : vc21 n0_0 n0_1 x0_2 v Q) : Trip Tryd.prog 21 #[.agg #[.int .i64 n0_0, .int .i64 n0_1, x0_2.val]] v Q :=
 trip_of_eq (args := [.ag [.num .i64 n0_0, .num .i64 n0_1, .sl x0_2]]) (A := ⟨[(9, [(3, .str), (4, .int .i64)], [])], [], [], [], psG⟩) Tryd.func21 (by kernel_rfl) (by kernel_rfl) (by kernel_rfl : vc21 n0_0 n0_1 x0_2 v Q = _) h

def vc23 (a_0 : Addr) (n1_0 : Int) (n1_1 : Int) (x1_2 : Sl) (v : World) (Q : Value → World → Prop) : Prop :=
 ((decide (n1_0 = 0)) = true →
 ∃ s1 : ByteArray, (Trip Tryd.prog 39 #[.int .i64 n1_1] v fun r2 w3 => r2 = .string s1 ∧ Sub v w3) ∧
 Trip Tryd.prog 38 #[.pointer (some (a_0.add 0)), .string s1] v fun r4 w5 =>
 ∃ n6 : Int, ∃ y7 : Vl, r4 = .tuple #[.int .i64 n6, y7.x] ∧
 ∃ q8 : Bool, ((decide ((x1_2.n : Int) = 0)) = true →
 (Trip Tryd.prog 40 #[.int .i64 n1_1] w5 fun r9 w10 => r9 = .bool q8 ∧ Sub w5 w10)) ∧
 Q (.bool ((decide ((x1_2.n : Int) = 0)) && q8)) w5) ∧
 ((decide (n1_0 = 0)) = false →
 ((decide (n1_0 = 12)) = true →
 ∃ s11 : ByteArray, (Trip Tryd.prog 39 #[.int .i64 n1_1] v fun r12 w13 => r12 = .string s11 ∧ Sub v w13) ∧
 (((ByteArray.mk #[118]).size + s11.size : Nat) : Int) ≤ 9223372036854775807 ∧
 Trip Tryd.prog 38 #[.pointer (some (a_0.add 0)), .string ((ByteArray.mk #[118]) ++ s11)] v fun r14 w15 =>
 ∃ n16 : Int, ∃ y17 : Vl, r14 = .tuple #[.int .i64 n16, y17.x] ∧
 Q (.bool ((decide ((x1_2.n : Int) = 0)) && ((decide (n1_1 ≥ 0)) && (decide (n1_1 ≤ 99))))) w15) ∧
 ((decide (n1_0 = 12)) = false →
 ∃ s18 : ByteArray, ∃ q19 : Bool, (Trip Tryd.prog 41 #[.int .i64 n1_0] v fun r20 w21 => r20 = .tuple #[.string s18, .bool q19] ∧ Sub v w21) ∧
 (((ByteArray.mk #[40]).size + s18.size : Nat) : Int) ≤ 9223372036854775807 ∧
 Trip Tryd.prog 38 #[.pointer (some (a_0.add 0)), .string ((ByteArray.mk #[40]) ++ s18)] v fun r22 w23 =>
 ∃ n24 : Int, ∃ y25 : Vl, r22 = .tuple #[.int .i64 n24, y25.x] ∧
 ((((s18.toList == (ByteArray.mk #[]).toList) || (q19 && (!((decide (n1_1 ≥ 0)) && (decide (n1_1 ≤ 99)))))) || ((!q19) && (!decide (n1_1 = 0)))) = true →
 Q (.bool false) w23) ∧
 ((((s18.toList == (ByteArray.mk #[]).toList) || (q19 && (!((decide (n1_1 ≥ 0)) && (decide (n1_1 ≤ 99)))))) || ((!q19) && (!decide (n1_1 = 0)))) = false →
 (q19 = true →
 ∃ s26 : ByteArray, (Trip Tryd.prog 39 #[.int .i64 n1_1] w23 fun r27 w28 => r27 = .string s26 ∧ Sub w23 w28) ∧
 Trip Tryd.prog 38 #[.pointer (some (a_0.add 0)), .string s26] w23 fun r29 w30 =>
 ∃ n31 : Int, ∃ y32 : Vl, r29 = .tuple #[.int .i64 n31, y32.x] ∧
 ∃ I33 : Int → World → Prop, ∃ m34 : Int → World → Nat, I33 0 w30 ∧
 ∀ n35 : Int, ∀ w36 : World, I33 n35 w36 →
 ((decide (n35 < (x1_2.n : Int))) = true →
 IxOk x1_2 n35 ∧
 ldT w36 x1_2 n35 fun n37 n38 x39 =>
 Trip Tryd.prog 38 #[.pointer (some (a_0.add 0)), .string (ByteArray.mk #[32])] w36 fun r40 w41 =>
 ∃ n42 : Int, ∃ y43 : Vl, r40 = .tuple #[.int .i64 n42, y43.x] ∧
 Trip Tryd.prog 23 #[.pointer (some (a_0.add 0)), .agg #[.int .i64 n37, .int .i64 n38, x39.val]] w41 fun r44 w45 =>
 ∃ q46 : Bool, r44 = .bool q46 ∧
 ((!q46) = true →
 Q (.bool false) w45) ∧
 ((!q46) = false →
 ∃ n47 : Int, Wr .i64 (n35 + 1) n47 ∧
 eqS (.num .i64 n1_0) ∧
 eqS (.num .i64 n1_1) ∧
 eqS (.sl x1_2) ∧
 I33 n47 w45 ∧
 m34 n47 w45 < m34 n35 w36)) ∧
 ((decide (n35 < (x1_2.n : Int))) = false →
 Trip Tryd.prog 38 #[.pointer (some (a_0.add 0)), .string (ByteArray.mk #[41])] w36 fun r48 w49 =>
 ∃ n50 : Int, ∃ y51 : Vl, r48 = .tuple #[.int .i64 n50, y51.x] ∧
 Q (.bool true) w49)) ∧
 (q19 = false →
 ∃ I52 : Int → World → Prop, ∃ m53 : Int → World → Nat, I52 0 w23 ∧
 ∀ n54 : Int, ∀ w55 : World, I52 n54 w55 →
 ((decide (n54 < (x1_2.n : Int))) = true →
 IxOk x1_2 n54 ∧
 ldT w55 x1_2 n54 fun n56 n57 x58 =>
 Trip Tryd.prog 38 #[.pointer (some (a_0.add 0)), .string (ByteArray.mk #[32])] w55 fun r59 w60 =>
 ∃ n61 : Int, ∃ y62 : Vl, r59 = .tuple #[.int .i64 n61, y62.x] ∧
 Trip Tryd.prog 23 #[.pointer (some (a_0.add 0)), .agg #[.int .i64 n56, .int .i64 n57, x58.val]] w60 fun r63 w64 =>
 ∃ q65 : Bool, r63 = .bool q65 ∧
 ((!q65) = true →
 Q (.bool false) w64) ∧
 ((!q65) = false →
 ∃ n66 : Int, Wr .i64 (n54 + 1) n66 ∧
 eqS (.num .i64 n1_0) ∧
 eqS (.num .i64 n1_1) ∧
 eqS (.sl x1_2) ∧
 I52 n66 w64 ∧
 m53 n66 w64 < m53 n54 w55)) ∧
 ((decide (n54 < (x1_2.n : Int))) = false →
 Trip Tryd.prog 38 #[.pointer (some (a_0.add 0)), .string (ByteArray.mk #[41])] w55 fun r67 w68 =>
 ∃ n69 : Int, ∃ y70 : Vl, r67 = .tuple #[.int .i64 n69, y70.x] ∧
 Q (.bool true) w68)))))
theorem of23 (a_0 : Addr) (n1_0 : Int) (n1_1 : Int) (x1_2 : Sl) (v : World) (Q : Value → World → Prop) (h : vc23 a_0 n1_0 n1_1 x1_2 v Q) : Trip Tryd.prog 23 #[.pointer (some (a_0.add 0)), .agg #[.int .i64 n1_0, .int .i64 n1_1, x1_2.val]] v Q :=
 trip_of_eq (args := [.pt a_0 0, .ag [.num .i64 n1_0, .num .i64 n1_1, .sl x1_2]]) (A := ⟨[(16, [(90, .int .i64)], [])], [], [], [], psG⟩) Tryd.func23 (by kernel_rfl) (by kernel_rfl) (by kernel_rfl : vc23 a_0 n1_0 n1_1 x1_2 v Q = _) h

def vc25 (x_0 : Sl) (x_1 : Sl) (v : World) (Q : Value → World → Prop) : Prop :=
 ((!decide ((x_0.n : Int) = (x_1.n : Int))) = true →
 Q (.bool false) v) ∧
 ((!decide ((x_0.n : Int) = (x_1.n : Int))) = false →
 ∃ I1 : Int → World → Prop, ∃ m2 : Int → World → Nat, I1 0 v ∧
 ∀ n3 : Int, ∀ w4 : World, I1 n3 w4 →
 ((decide (n3 < (x_0.n : Int))) = true →
 IxOk x_0 n3 ∧
 ldT w4 x_0 n3 fun n5 n6 x7 =>
 IxOk x_1 n3 ∧
 ldT w4 x_1 n3 fun n8 n9 x10 =>
 ∃ q11 : Bool, (Trip Tryd.prog 10 #[.agg #[.int .i64 n5, .int .i64 n6, x7.val], .agg #[.int .i64 n8, .int .i64 n9, x10.val]] w4 fun r12 w13 => r12 = .bool q11 ∧ Sub w4 w13) ∧
 ((!q11) = true →
 Q (.bool false) w4) ∧
 ((!q11) = false →
 ∃ n14 : Int, Wr .i64 (n3 + 1) n14 ∧
 I1 n14 w4 ∧
 m2 n14 w4 < m2 n3 w4)) ∧
 ((decide (n3 < (x_0.n : Int))) = false →
 Q (.bool true) w4))
theorem of25 (x_0 : Sl) (x_1 : Sl) (v : World) (Q : Value → World → Prop) (h : vc25 x_0 x_1 v Q) : Trip Tryd.prog 25 #[x_0.val, x_1.val] v Q :=
 trip_of_eq (args := [.sl x_0, .sl x_1]) (A := ⟨[(4, [(5, .int .i64)], [])], [], [], [], psG⟩) Tryd.func25 (by kernel_rfl) (by kernel_rfl) (by kernel_rfl : vc25 x_0 x_1 v Q = _) h

def vc26 (a_0 : Addr) (v : World) (Q : Value → World → Prop) : Prop :=
 ∃ n1 : Int, v.cell? (a_0.add 2) = some (.int .i64 n1) ∧
 ∃ n2 : Int, Wr .i64 (n1 + 1) n2 ∧
 StoreAt v a_0 2 [.int .i64 n2] fun w3 =>
 ∃ q4 : Bool, w3.cell? (a_0.add 3) = some (.bool q4) ∧
 ∃ n5 : Int, (q4 = false →
 w3.cell? (a_0.add 2) = some (.int .i64 n5)) ∧
 ((q4 || (decide (n5 > 30))) = true →
 StoreAt w3 a_0 3 [.bool true] fun w6 =>
 Q (.agg #[.int .i64 0, .int .i64 0, .slice none 0 0]) w6) ∧
 ((q4 || (decide (n5 > 30))) = false →
 ∃ n7 : Int, (Trip Tryd.prog 42 #[.pointer (some (a_0.add 0))] w3 fun r8 w9 => r8 = .int .i64 n7 ∧ Sub w3 w9) ∧
 ((decide (n7 = 118)) = true →
 ∃ n10 : Int, w3.cell? (a_0.add 1) = some (.int .i64 n10) ∧
 ∃ n11 : Int, Wr .i64 (n10 + 1) n11 ∧
 StoreAt w3 a_0 1 [.int .i64 n11] fun w12 =>
 Trip Tryd.prog 43 #[.pointer (some (a_0.add 0))] w12 fun r13 w14 =>
 ∃ n15 : Int, r13 = .int .i64 n15 ∧
 StepT Tryd.prog (Instr.buildSlice 27 0 #[]) w14 fun r16 w17 =>
 ∃ x18 : Sl, r16 = x18.val ∧
 Q (.agg #[.int .i64 12, .int .i64 n15, x18.val]) w17) ∧
 ((decide (n7 = 118)) = false →
 ∃ n19 : Int, (Trip Tryd.prog 42 #[.pointer (some (a_0.add 0))] w3 fun r20 w21 => r20 = .int .i64 n19 ∧ Sub w3 w21) ∧
 ((decide (n19 = 45)) = true →
 ∃ n22 : Int, w3.cell? (a_0.add 1) = some (.int .i64 n22) ∧
 ∃ n23 : Int, Wr .i64 (n22 + 1) n23 ∧
 StoreAt w3 a_0 1 [.int .i64 n23] fun w24 =>
 Trip Tryd.prog 43 #[.pointer (some (a_0.add 0))] w24 fun r25 w26 =>
 ∃ n27 : Int, r25 = .int .i64 n27 ∧
 ∃ n28 : Int, Wr .i64 (0 - n27) n28 ∧
 StepT Tryd.prog (Instr.buildSlice 27 0 #[]) w26 fun r29 w30 =>
 ∃ x31 : Sl, r29 = x31.val ∧
 Q (.agg #[.int .i64 0, .int .i64 n28, x31.val]) w30) ∧
 ((decide (n19 = 45)) = false →
 ∃ n32 : Int, (Trip Tryd.prog 42 #[.pointer (some (a_0.add 0))] w3 fun r33 w34 => r33 = .int .i64 n32 ∧ Sub w3 w34) ∧
 ((!decide (n32 = 40)) = true →
 Trip Tryd.prog 43 #[.pointer (some (a_0.add 0))] w3 fun r35 w36 =>
 ∃ n37 : Int, r35 = .int .i64 n37 ∧
 StepT Tryd.prog (Instr.buildSlice 27 0 #[]) w36 fun r38 w39 =>
 ∃ x40 : Sl, r38 = x40.val ∧
 Q (.agg #[.int .i64 0, .int .i64 n37, x40.val]) w39) ∧
 ((!decide (n32 = 40)) = false →
 ∃ n41 : Int, w3.cell? (a_0.add 1) = some (.int .i64 n41) ∧
 ∃ n42 : Int, Wr .i64 (n41 + 1) n42 ∧
 StoreAt w3 a_0 1 [.int .i64 n42] fun w43 =>
 Trip Tryd.prog 45 #[.pointer (some (a_0.add 0))] w43 fun r44 w45 =>
 ∃ s46 : ByteArray, r44 = .string s46 ∧
 ∃ n47 : Int, (Trip Tryd.prog 44 #[.string s46] w45 fun r48 w49 => r48 = .int .i64 n47 ∧ Sub w45 w49) ∧
 ((decide (n47 < 0)) = true →
 StoreAt w45 a_0 3 [.bool true] fun w50 =>
 Q (.agg #[.int .i64 0, .int .i64 0, .slice none 0 0]) w50) ∧
 ((decide (n47 < 0)) = false →
 ∃ q51 : Bool, (Trip Tryd.prog 35 #[.int .i64 n47] w45 fun r52 w53 => r52 = .bool q51 ∧ Sub w45 w53) ∧
 (q51 = true →
 Trip Tryd.prog 43 #[.pointer (some (a_0.add 0))] w45 fun r54 w55 =>
 ∃ n56 : Int, r54 = .int .i64 n56 ∧
 StepT Tryd.prog (Instr.buildSlice 27 0 #[]) w55 fun r57 w58 =>
 ∃ x59 : Sl, r57 = x59.val ∧
 ∃ I60 : Sl → World → Prop, ∃ m61 : Sl → World → Nat, I60 x59 w58 ∧
 ∀ x62 : Sl, ∀ w63 : World, I60 x62 w63 →
 ∃ q64 : Bool, w63.cell? (a_0.add 3) = some (.bool q64) ∧
 ∃ n65 : Int, ((!q64) = true →
 (Trip Tryd.prog 42 #[.pointer (some (a_0.add 0))] w63 fun r66 w67 => r66 = .int .i64 n65 ∧ Sub w63 w67)) ∧
 (((!q64) && (decide (n65 = 32))) = true →
 ∃ n68 : Int, w63.cell? (a_0.add 1) = some (.int .i64 n68) ∧
 ∃ n69 : Int, Wr .i64 (n68 + 1) n69 ∧
 StoreAt w63 a_0 1 [.int .i64 n69] fun w70 =>
 Trip Tryd.prog 26 #[.pointer (some (a_0.add 0))] w70 fun r71 w72 =>
 ∃ n73 : Int, ∃ n74 : Int, ∃ x75 : Sl, r71 = .agg #[.int .i64 n73, .int .i64 n74, x75.val] ∧
 StepT Tryd.prog (Instr.buildSlice 27 1 #[(0, (.agg #[.int .i64 n73, .int .i64 n74, x75.val]))]) w72 fun r76 w77 =>
 ∃ x78 : Sl, r76 = x78.val ∧
 StepT Tryd.prog (Builtin.append_ #[27, 27] 27 #[(x62.val), (x78.val)]) w77 fun r79 w80 =>
 ∃ x81 : Sl, r79 = x81.val ∧
 eqS (.num .i64 0) ∧
 eqS (.num .i64 0) ∧
 eqS (.sl (Sl.mk none 0 0)) ∧
 I60 x81 w80 ∧
 m61 x81 w80 < m61 x62 w63) ∧
 (((!q64) && (decide (n65 = 32))) = false →
 Trip Tryd.prog 46 #[.pointer (some (a_0.add 0)), .string (ByteArray.mk #[41])] w63 fun r82 w83 =>
 r82 = .tuple #[] ∧
 Q (.agg #[.int .i64 n47, .int .i64 n56, x62.val]) w83)) ∧
 (q51 = false →
 StepT Tryd.prog (Instr.buildSlice 27 0 #[]) w45 fun r84 w85 =>
 ∃ x86 : Sl, r84 = x86.val ∧
 ∃ I87 : Sl → World → Prop, ∃ m88 : Sl → World → Nat, I87 x86 w85 ∧
 ∀ x89 : Sl, ∀ w90 : World, I87 x89 w90 →
 ∃ q91 : Bool, w90.cell? (a_0.add 3) = some (.bool q91) ∧
 ∃ n92 : Int, ((!q91) = true →
 (Trip Tryd.prog 42 #[.pointer (some (a_0.add 0))] w90 fun r93 w94 => r93 = .int .i64 n92 ∧ Sub w90 w94)) ∧
 (((!q91) && (decide (n92 = 32))) = true →
 ∃ n95 : Int, w90.cell? (a_0.add 1) = some (.int .i64 n95) ∧
 ∃ n96 : Int, Wr .i64 (n95 + 1) n96 ∧
 StoreAt w90 a_0 1 [.int .i64 n96] fun w97 =>
 Trip Tryd.prog 26 #[.pointer (some (a_0.add 0))] w97 fun r98 w99 =>
 ∃ n100 : Int, ∃ n101 : Int, ∃ x102 : Sl, r98 = .agg #[.int .i64 n100, .int .i64 n101, x102.val] ∧
 StepT Tryd.prog (Instr.buildSlice 27 1 #[(0, (.agg #[.int .i64 n100, .int .i64 n101, x102.val]))]) w99 fun r103 w104 =>
 ∃ x105 : Sl, r103 = x105.val ∧
 StepT Tryd.prog (Builtin.append_ #[27, 27] 27 #[(x89.val), (x105.val)]) w104 fun r106 w107 =>
 ∃ x108 : Sl, r106 = x108.val ∧
 eqS (.num .i64 0) ∧
 eqS (.num .i64 0) ∧
 eqS (.sl (Sl.mk none 0 0)) ∧
 I87 x108 w107 ∧
 m88 x108 w107 < m88 x89 w90) ∧
 (((!q91) && (decide (n92 = 32))) = false →
 Trip Tryd.prog 46 #[.pointer (some (a_0.add 0)), .string (ByteArray.mk #[41])] w90 fun r109 w110 =>
 r109 = .tuple #[] ∧
 Q (.agg #[.int .i64 n47, .int .i64 0, x89.val]) w110)))))))
theorem of26 (a_0 : Addr) (v : World) (Q : Value → World → Prop) (h : vc26 a_0 v Q) : Trip Tryd.prog 26 #[.pointer (some (a_0.add 0))] v Q :=
 trip_of_eq (args := [.pt a_0 0]) (A := ⟨[(22, [(5, .sl)], [])], [], [], [], psG⟩) Tryd.func26 (by kernel_rfl) (by kernel_rfl) (by kernel_rfl : vc26 a_0 v Q = _) h

def vc27 (a_0 : Addr) (v : World) (Q : Value → World → Prop) : Prop :=
 ∃ n1 : Int, v.cell? (a_0.add 1) = some (.int .i64 n1) ∧
 ∃ n2 : Int, Wr .i64 (n1 + 1) n2 ∧
 StoreAt v a_0 1 [.int .i64 n2] fun w3 =>
 ∃ n4 : Int, w3.cell? (a_0.add 1) = some (.int .i64 n4) ∧
 ((decide (n4 > 30)) = true →
 Q (.tuple #[.agg #[.int .i64 0, .int .i64 0, .slice none 0 0], .bool false]) w3) ∧
 ((decide (n4 > 30)) = false →
 Trip Tryd.prog 47 #[.pointer (some (a_0.add 0)), .int .u8 40] w3 fun r5 w6 =>
 ∃ q7 : Bool, r5 = .bool q7 ∧
 ((!q7) = true →
 Trip Tryd.prog 48 #[.pointer (some (a_0.add 0))] w6 fun r8 w9 =>
 ∃ s10 : ByteArray, r8 = .string s10 ∧
 ∃ s11 : ByteArray, ∃ q12 : Bool, (Trip Tryd.prog 49 #[.string s10, .string (ByteArray.mk #[118])] w9 fun r13 w14 => r13 = .tuple #[.string s11, .bool q12] ∧ Sub w9 w14) ∧
 (q12 = true →
 Trip Tryd.prog 50 #[.string s11] w9 fun r15 w16 =>
 ∃ n17 : Int, ∃ y18 : Vl, r15 = .tuple #[.int .i64 n17, y18.x] ∧
 (∃ q19 : Bool, PureT Tryd.prog (do eqGuard .eql 68 (.tmp 46) (.const (.nilIface)) (y18.x) ((Vl.mk Value.nilIface rfl).x); binOp .eql 68 (y18.x) ((Vl.mk Value.nilIface rfl).x)) w16 (.bool q19) ∧
 Q (.tuple #[.agg #[.int .i64 12, .int .i64 n17, .slice none 0 0], .bool q19]) w16) ∧
 ∃ q20 : Bool, PureT Tryd.prog (do eqGuard .eql 68 (.tmp 46) (.const (.nilIface)) (y18.x) ((Vl.mk Value.nilIface rfl).x); binOp .eql 68 (y18.x) ((Vl.mk Value.nilIface rfl).x)) w16 (.bool q20) ∧
 Q (.tuple #[.agg #[.int .i64 12, .int .i64 n17, .slice none 0 0], .bool q20]) w16) ∧
 (q12 = false →
 Trip Tryd.prog 50 #[.string s10] w9 fun r21 w22 =>
 ∃ n23 : Int, ∃ y24 : Vl, r21 = .tuple #[.int .i64 n23, y24.x] ∧
 (∃ q25 : Bool, PureT Tryd.prog (do eqGuard .eql 68 (.tmp 46) (.const (.nilIface)) (y24.x) ((Vl.mk Value.nilIface rfl).x); binOp .eql 68 (y24.x) ((Vl.mk Value.nilIface rfl).x)) w22 (.bool q25) ∧
 Q (.tuple #[.agg #[.int .i64 0, .int .i64 n23, .slice none 0 0], .bool q25]) w22) ∧
 ∃ q26 : Bool, PureT Tryd.prog (do eqGuard .eql 68 (.tmp 46) (.const (.nilIface)) (y24.x) ((Vl.mk Value.nilIface rfl).x); binOp .eql 68 (y24.x) ((Vl.mk Value.nilIface rfl).x)) w22 (.bool q26) ∧
 Q (.tuple #[.agg #[.int .i64 0, .int .i64 n23, .slice none 0 0], .bool q26]) w22)) ∧
 ((!q7) = false →
 Trip Tryd.prog 48 #[.pointer (some (a_0.add 0))] w6 fun r27 w28 =>
 ∃ s29 : ByteArray, r27 = .string s29 ∧
 ∃ n30 : Int, ∃ n31 : Int, ∃ x32 : Sl, ∃ q33 : Bool, (Trip Tryd.prog 51 #[.string s29] w28 fun r34 w35 => r34 = .tuple #[.agg #[.int .i64 n30, .int .i64 n31, x32.val], .bool q33] ∧ Sub w28 w35) ∧
 ∃ I36 : Bool → Sl → World → Prop, ∃ m37 : Bool → Sl → World → Nat, I36 q33 x32 w28 ∧
 ∀ q38 : Bool, ∀ x39 : Sl, ∀ w40 : World, I36 q38 x39 w40 →
 (q38 = true →
 Trip Tryd.prog 47 #[.pointer (some (a_0.add 0)), .int .u8 32] w40 fun r41 w42 =>
 ∃ q43 : Bool, r41 = .bool q43 ∧
 (q43 = true →
 Trip Tryd.prog 27 #[.pointer (some (a_0.add 0))] w42 fun r44 w45 =>
 ∃ n46 : Int, ∃ n47 : Int, ∃ x48 : Sl, ∃ q49 : Bool, r44 = .tuple #[.agg #[.int .i64 n46, .int .i64 n47, x48.val], .bool q49] ∧
 StepT Tryd.prog (Instr.buildSlice 27 1 #[(0, (.agg #[.int .i64 n46, .int .i64 n47, x48.val]))]) w45 fun r50 w51 =>
 ∃ x52 : Sl, r50 = x52.val ∧
 StepT Tryd.prog (Builtin.append_ #[27, 27] 27 #[(x39.val), (x52.val)]) w51 fun r53 w54 =>
 ∃ x55 : Sl, r53 = x55.val ∧
 eqS (.num .i64 0) ∧
 eqS (.num .i64 0) ∧
 eqS (.sl (Sl.mk none 0 0)) ∧
 eqS (.num .i64 n30) ∧
 eqS (.num .i64 n31) ∧
 I36 q49 x55 w54 ∧
 m37 q49 x55 w54 < m37 q38 x39 w40) ∧
 (q43 = false →
 (q38 = true →
 Trip Tryd.prog 47 #[.pointer (some (a_0.add 0)), .int .u8 41] w42 fun r56 w57 =>
 ∃ q58 : Bool, r56 = .bool q58 ∧
 Q (.tuple #[.agg #[.int .i64 n30, .int .i64 n31, x39.val], .bool q58]) w57 ∧
 Q (.tuple #[.agg #[.int .i64 n30, .int .i64 n31, x39.val], .bool q58]) w57) ∧
 (q38 = false →
 Q (.tuple #[.agg #[.int .i64 n30, .int .i64 n31, x39.val], .bool false]) w42 ∧
 Q (.tuple #[.agg #[.int .i64 n30, .int .i64 n31, x39.val], .bool false]) w42))) ∧
 (q38 = false →
 (q38 = true →
 Trip Tryd.prog 47 #[.pointer (some (a_0.add 0)), .int .u8 41] w40 fun r59 w60 =>
 ∃ q61 : Bool, r59 = .bool q61 ∧
 Q (.tuple #[.agg #[.int .i64 n30, .int .i64 n31, x39.val], .bool q61]) w60 ∧
 Q (.tuple #[.agg #[.int .i64 n30, .int .i64 n31, x39.val], .bool q61]) w60) ∧
 (q38 = false →
 Q (.tuple #[.agg #[.int .i64 n30, .int .i64 n31, x39.val], .bool false]) w40 ∧
 Q (.tuple #[.agg #[.int .i64 n30, .int .i64 n31, x39.val], .bool false]) w40))))
theorem of27 (a_0 : Addr) (v : World) (Q : Value → World → Prop) (h : vc27 a_0 v Q) : Trip Tryd.prog 27 #[.pointer (some (a_0.add 0))] v Q :=
 trip_of_eq (args := [.pt a_0 0]) (A := ⟨[(13, [(11, .bool)], [(1, 2, .sl)])], [], [(11, []), (17, [])], [], psG⟩) Tryd.func27 (by kernel_rfl) (by kernel_rfl) (by kernel_rfl : vc27 a_0 v Q = _) h

def vc28 (x_0 : Sl) (n_1 : Int) (v : World) (Q : Value → World → Prop) : Prop :=
 ∃ I1 : Int → Int → World → Prop, ∃ m2 : Int → Int → World → Nat, I1 n_1 0 v ∧
 ∀ n3 : Int, ∀ n4 : Int, ∀ w5 : World, I1 n3 n4 w5 →
 ((decide (n4 < (x_0.n : Int))) = true →
 IxOk x_0 n4 ∧
 StoreAt w5 (elA x_0 n4 3) 0 [.int .i64 n3] fun w6 =>
 ∃ n7 : Int, Wr .i64 (n3 + 1) n7 ∧
 IxOk x_0 n4 ∧
 StoreAt w6 (elA x_0 n4 3) 1 [.int .i64 n7] fun w8 =>
 ∃ n9 : Int, Wr .i64 (n7 + 1) n9 ∧
 IxOk x_0 n4 ∧
 ∃ x10 : Sl, w8.cell? ((elA x_0 n4 3).add 2) = some (x10.val) ∧
 Trip Tryd.prog 28 #[x10.val, .int .i64 n9] w8 fun r11 w12 =>
 ∃ n13 : Int, r11 = .int .i64 n13 ∧
 ∃ n14 : Int, Wr .i64 (n4 + 1) n14 ∧
 I1 n13 n14 w12 ∧
 m2 n13 n14 w12 < m2 n3 n4 w5) ∧
 ((decide (n4 < (x_0.n : Int))) = false →
 Q (.int .i64 n3) w5)
theorem of28 (x_0 : Sl) (n_1 : Int) (v : World) (Q : Value → World → Prop) (h : vc28 x_0 n_1 v Q) : Trip Tryd.prog 28 #[x_0.val, .int .i64 n_1] v Q :=
 trip_of_eq (args := [.sl x_0, .num .i64 n_1]) (A := ⟨[(2, [(1, .int .i64), (5, .int .i64)], [])], [], [], [], psG⟩) Tryd.func28 (by kernel_rfl) (by kernel_rfl) (by kernel_rfl : vc28 x_0 n_1 v Q = _) h

def vc29 (x_0 : Sl) (n_1 : Int) (v : World) (Q : Value → World → Prop) : Prop :=
 ∃ I1 : Int → Int → World → Prop, ∃ m2 : Int → Int → World → Nat, I1 n_1 0 v ∧
 ∀ n3 : Int, ∀ n4 : Int, ∀ w5 : World, I1 n3 n4 w5 →
 ((decide (n4 < (x_0.n : Int))) = true →
 IxOk x_0 n4 ∧
 ∃ n6 : Int, w5.cell? ((elA x_0 n4 3).add 0) = some (.int .i64 n6) ∧
 ((!decide (n6 = n3)) = true →
 Q (.int .i64 (-1)) w5) ∧
 ((!decide (n6 = n3)) = false →
 ∃ n7 : Int, Wr .i64 (n3 + 1) n7 ∧
 IxOk x_0 n4 ∧
 ∃ n8 : Int, w5.cell? ((elA x_0 n4 3).add 1) = some (.int .i64 n8) ∧
 ((!decide (n8 = n7)) = true →
 Q (.int .i64 (-1)) w5) ∧
 ((!decide (n8 = n7)) = false →
 ∃ n9 : Int, Wr .i64 (n7 + 1) n9 ∧
 IxOk x_0 n4 ∧
 ∃ x10 : Sl, w5.cell? ((elA x_0 n4 3).add 2) = some (x10.val) ∧
 ∃ n11 : Int, (Trip Tryd.prog 29 #[x10.val, .int .i64 n9] w5 fun r12 w13 => r12 = .int .i64 n11 ∧ Sub w5 w13) ∧
 ((decide (n11 < 0)) = true →
 Q (.int .i64 (-1)) w5) ∧
 ((decide (n11 < 0)) = false →
 ∃ n14 : Int, Wr .i64 (n4 + 1) n14 ∧
 I1 n11 n14 w5 ∧
 m2 n11 n14 w5 < m2 n3 n4 w5)))) ∧
 ((decide (n4 < (x_0.n : Int))) = false →
 Q (.int .i64 n3) w5)
theorem of29 (x_0 : Sl) (n_1 : Int) (v : World) (Q : Value → World → Prop) (h : vc29 x_0 n_1 v Q) : Trip Tryd.prog 29 #[x_0.val, .int .i64 n_1] v Q :=
 trip_of_eq (args := [.sl x_0, .num .i64 n_1]) (A := ⟨[(2, [(1, .int .i64), (5, .int .i64)], [])], [], [], [], psG⟩) Tryd.func29 (by kernel_rfl) (by kernel_rfl) (by kernel_rfl : vc29 x_0 n_1 v Q = _) h

def vc32 (n0_0 : Int) (n0_1 : Int) (x0_2 : Sl) (a_1 : Addr) (v : World) (Q : Value → World → Prop) : Prop :=
 ∃ n1 : Int, v.cell? (a_1.add 0) = some (.int .i64 n1) ∧
 ∃ n2 : Int, Wr .i64 (n1 + 1) n2 ∧
 StoreAt v a_1 0 [.int .i64 n2] fun w3 =>
 ∃ n4 : Int, w3.cell? (a_1.add 0) = some (.int .i64 n4) ∧
 ((decide (n4 > 30)) = true →
 Q (.bool false) w3) ∧
 ((decide (n4 > 30)) = false →
 ∃ I5 : Int → World → Prop, ∃ m6 : Int → World → Nat, I5 0 w3 ∧
 ∀ n7 : Int, ∀ w8 : World, I5 n7 w8 →
 ((decide (n7 < (x0_2.n : Int))) = true →
 IxOk x0_2 n7 ∧
 ldT w8 x0_2 n7 fun n9 n10 x11 =>
 Trip Tryd.prog 32 #[.agg #[.int .i64 n9, .int .i64 n10, x11.val], .pointer (some (a_1.add 0))] w8 fun r12 w13 =>
 ∃ q14 : Bool, r12 = .bool q14 ∧
 ((!q14) = true →
 Q (.bool false) w13) ∧
 ((!q14) = false →
 ∃ n15 : Int, Wr .i64 (n7 + 1) n15 ∧
 eqS (.num .i64 n0_0) ∧
 eqS (.num .i64 n0_1) ∧
 eqS (.sl x0_2) ∧
 I5 n15 w13 ∧
 m6 n15 w13 < m6 n7 w8)) ∧
 ((decide (n7 < (x0_2.n : Int))) = false →
 Q (.bool true) w8))
theorem of32 (n0_0 : Int) (n0_1 : Int) (x0_2 : Sl) (a_1 : Addr) (v : World) (Q : Value → World → Prop) (h : vc32 n0_0 n0_1 x0_2 a_1 v Q) : Trip Tryd.prog 32 #[.agg #[.int .i64 n0_0, .int .i64 n0_1, x0_2.val], .pointer (some (a_1.add 0))] v Q :=
 trip_of_eq (args := [.ag [.num .i64 n0_0, .num .i64 n0_1, .sl x0_2], .pt a_1 0]) (A := ⟨[(5, [(19, .int .i64)], [])], [], [], [], psG⟩) Tryd.func32 (by kernel_rfl) (by kernel_rfl) (by kernel_rfl : vc32 n0_0 n0_1 x0_2 a_1 v Q = _) h

def vc34 (n_0 : Int) (n_1 : Int) (n_2 : Int) (v : World) (Q : Value → World → Prop) : Prop :=
 Q (.bool ((decide (n_1 ≤ n_0)) && (decide (n_0 ≤ n_2)))) v
theorem of34 (n_0 : Int) (n_1 : Int) (n_2 : Int) (v : World) (Q : Value → World → Prop) (h : vc34 n_0 n_1 n_2 v Q) : Trip Tryd.prog 34 #[.int .i64 n_0, .int .i64 n_1, .int .i64 n_2] v Q :=
 trip_of_eq (args := [.num .i64 n_0, .num .i64 n_1, .num .i64 n_2]) (A := ⟨[], [], [], [], psG⟩) Tryd.func34 (by kernel_rfl) (by kernel_rfl) (by kernel_rfl : vc34 n_0 n_1 n_2 v Q = _) h

def vc35 (n_0 : Int) (v : World) (Q : Value → World → Prop) : Prop :=
 Q (.bool ((((decide (n_0 = 6)) || (decide (n_0 = 8))) || (decide (n_0 = 9))) || (decide (n_0 = 10)))) v
theorem of35 (n_0 : Int) (v : World) (Q : Value → World → Prop) (h : vc35 n_0 v Q) : Trip Tryd.prog 35 #[.int .i64 n_0] v Q :=
 trip_of_eq (args := [.num .i64 n_0]) (A := ⟨[], [], [], [], psG⟩) Tryd.func35 (by kernel_rfl) (by kernel_rfl) (by kernel_rfl : vc35 n_0 v Q = _) h

def vc36 (n_0 : Int) (v : World) (Q : Value → World → Prop) : Prop :=
 ∃ n1 : Int, ((decide (n_0 < 0)) = true →
 Wr .i64 (0 - n_0) n1) ∧
 (((decide (n_0 < 0)) && (decide (n_0 = n1))) = true →
 Q (.string (ByteArray.mk #[45, 57, 50, 50, 51, 51, 55, 50, 48, 51, 54, 56, 53, 52, 55, 55, 53, 56, 48, 56])) v) ∧
 (((decide (n_0 < 0)) && (decide (n_0 = n1))) = false →
 ((decide (n_0 < 0)) = true →
 ∃ n2 : Int, Wr .i64 (0 - n_0) n2 ∧
 ∃ s3 : ByteArray, (Trip Tryd.prog 36 #[.int .i64 n2] v fun r4 w5 => r4 = .string s3 ∧ Sub v w5) ∧
 (((ByteArray.mk #[45]).size + s3.size : Nat) : Int) ≤ 9223372036854775807 ∧
 Q (.string ((ByteArray.mk #[45]) ++ s3)) v) ∧
 ((decide (n_0 < 0)) = false →
 ((decide (n_0 < 10)) = true →
 ∃ n6 : Int, Wr .i64 (n_0 + 1) n6 ∧
 StrOk (ByteArray.mk #[48, 49, 50, 51, 52, 53, 54, 55, 56, 57]) n_0 n6 ∧
 Q (.string (strCut (ByteArray.mk #[48, 49, 50, 51, 52, 53, 54, 55, 56, 57]) n_0 n6)) v) ∧
 ((decide (n_0 < 10)) = false →
 ∃ n7 : Int, ((10 : Int) ≠ 0 ∧ Wr .i64 (Int.tdiv n_0 10) n7) ∧
 ∃ s8 : ByteArray, (Trip Tryd.prog 36 #[.int .i64 n7] v fun r9 w10 => r9 = .string s8 ∧ Sub v w10) ∧
 (10 : Int) ≠ 0 ∧
 ∃ s11 : ByteArray, (Trip Tryd.prog 36 #[.int .i64 (Int.tmod n_0 10)] v fun r12 w13 => r12 = .string s11 ∧ Sub v w13) ∧
 ((s8.size + s11.size : Nat) : Int) ≤ 9223372036854775807 ∧
 Q (.string (s8 ++ s11)) v)))
theorem of36 (n_0 : Int) (v : World) (Q : Value → World → Prop) (h : vc36 n_0 v Q) : Trip Tryd.prog 36 #[.int .i64 n_0] v Q :=
 trip_of_eq (args := [.num .i64 n_0]) (A := ⟨[], [], [], [], psG⟩) Tryd.func36 (by kernel_rfl) (by kernel_rfl) (by kernel_rfl : vc36 n_0 v Q = _) h

def vc37 (n_0 : Int) (v : World) (Q : Value → World → Prop) : Prop :=
 StepT Tryd.prog (Instr.buildSlice 94 14 #[(0, (.string (ByteArray.mk #[]))), (1, (.string (ByteArray.mk #[97, 100, 100]))), (2, (.string (ByteArray.mk #[115, 117, 98]))), (3, (.string (ByteArray.mk #[109, 117, 108]))), (4, (.string (ByteArray.mk #[108, 101, 115, 115]))), (5, (.string (ByteArray.mk #[112, 114, 105, 110, 116]))), (6, (.string (ByteArray.mk #[99, 111, 110]))), (7, (.string (ByteArray.mk #[105, 102]))), (8, (.string (ByteArray.mk #[109, 97, 116, 99, 104]))), (9, (.string (ByteArray.mk #[99, 97, 108, 108]))), (10, (.string (ByteArray.mk #[99, 108, 111, 115, 101]))), (11, (.string (ByteArray.mk #[97, 112, 112, 108, 121]))), (12, (.string (ByteArray.mk #[]))), (13, (.string (ByteArray.mk #[108, 101, 116])))]) v fun r1 w2 =>
 ∃ x3 : Sl, r1 = x3.val ∧
 IxOk x3 n_0 ∧
 ∃ s4 : ByteArray, w2.cell? ((elA x3 n_0 1).add 0) = some (.string s4) ∧
 Q (.string s4) w2
theorem of37 (n_0 : Int) (v : World) (Q : Value → World → Prop) (h : vc37 n_0 v Q) : Trip Tryd.prog 37 #[.int .i64 n_0] v Q :=
 trip_of_eq (args := [.num .i64 n_0]) (A := ⟨[], [], [], [], psG⟩) Tryd.func37 (by kernel_rfl) (by kernel_rfl) (by kernel_rfl : vc37 n_0 v Q = _) h

def vc40 (n_0 : Int) (v : World) (Q : Value → World → Prop) : Prop :=
 Q (.bool ((decide (n_0 ≥ (-999))) && (decide (n_0 ≤ 999)))) v
theorem of40 (n_0 : Int) (v : World) (Q : Value → World → Prop) (h : vc40 n_0 v Q) : Trip Tryd.prog 40 #[.int .i64 n_0] v Q :=
 trip_of_eq (args := [.num .i64 n_0]) (A := ⟨[], [], [], [], psG⟩) Tryd.func40 (by kernel_rfl) (by kernel_rfl) (by kernel_rfl : vc40 n_0 v Q = _) h

def vc41 (n_0 : Int) (v : World) (Q : Value → World → Prop) : Prop :=
 ((decide (n_0 = 1)) = true →
 Q (.tuple #[.string (ByteArray.mk #[97, 100, 100]), .bool false]) v) ∧
 ((decide (n_0 = 1)) = false →
 ((decide (n_0 = 2)) = true →
 Q (.tuple #[.string (ByteArray.mk #[115, 117, 98]), .bool false]) v) ∧
 ((decide (n_0 = 2)) = false →
 ((decide (n_0 = 3)) = true →
 Q (.tuple #[.string (ByteArray.mk #[109, 117, 108]), .bool false]) v) ∧
 ((decide (n_0 = 3)) = false →
 ((decide (n_0 = 4)) = true →
 Q (.tuple #[.string (ByteArray.mk #[108, 101, 115, 115]), .bool false]) v) ∧
 ((decide (n_0 = 4)) = false →
 ((decide (n_0 = 5)) = true →
 Q (.tuple #[.string (ByteArray.mk #[112, 114, 105, 110, 116]), .bool false]) v) ∧
 ((decide (n_0 = 5)) = false →
 ((decide (n_0 = 6)) = true →
 Q (.tuple #[.string (ByteArray.mk #[99, 111, 110]), .bool true]) v) ∧
 ((decide (n_0 = 6)) = false →
 ((decide (n_0 = 7)) = true →
 Q (.tuple #[.string (ByteArray.mk #[105, 102]), .bool false]) v) ∧
 ((decide (n_0 = 7)) = false →
 ((decide (n_0 = 8)) = true →
 Q (.tuple #[.string (ByteArray.mk #[109, 97, 116, 99, 104]), .bool true]) v) ∧
 ((decide (n_0 = 8)) = false →
 ((decide (n_0 = 9)) = true →
 Q (.tuple #[.string (ByteArray.mk #[99, 97, 108, 108]), .bool true]) v) ∧
 ((decide (n_0 = 9)) = false →
 ((decide (n_0 = 10)) = true →
 Q (.tuple #[.string (ByteArray.mk #[99, 108, 111, 115, 101]), .bool true]) v) ∧
 ((decide (n_0 = 10)) = false →
 ((decide (n_0 = 11)) = true →
 Q (.tuple #[.string (ByteArray.mk #[97, 112, 112, 108, 121]), .bool false]) v) ∧
 ((decide (n_0 = 11)) = false →
 ((decide (n_0 = 13)) = true →
 Q (.tuple #[.string (ByteArray.mk #[108, 101, 116]), .bool false]) v) ∧
 ((decide (n_0 = 13)) = false →
 Q (.tuple #[.string (ByteArray.mk #[]), .bool false]) v))))))))))))
theorem of41 (n_0 : Int) (v : World) (Q : Value → World → Prop) (h : vc41 n_0 v Q) : Trip Tryd.prog 41 #[.int .i64 n_0] v Q :=
 trip_of_eq (args := [.num .i64 n_0]) (A := ⟨[], [], [], [], psG⟩) Tryd.func41 (by kernel_rfl) (by kernel_rfl) (by kernel_rfl : vc41 n_0 v Q = _) h

def vc42 (a_0 : Addr) (v : World) (Q : Value → World → Prop) : Prop :=
 ∃ n1 : Int, v.cell? (a_0.add 1) = some (.int .i64 n1) ∧
 ∃ s2 : ByteArray, v.cell? (a_0.add 0) = some (.string s2) ∧
 ((decide (n1 ≥ (s2.size : Int))) = true →
 Q (.int .i64 0) v) ∧
 ((decide (n1 ≥ (s2.size : Int))) = false →
 ∃ s3 : ByteArray, v.cell? (a_0.add 0) = some (.string s3) ∧
 ∃ n4 : Int, v.cell? (a_0.add 1) = some (.int .i64 n4) ∧
 StrIxOk s3 n4 ∧
 ∃ n5 : Int, Wr .i64 (strIx s3 n4) n5 ∧
 Q (.int .i64 n5) v)
theorem of42 (a_0 : Addr) (v : World) (Q : Value → World → Prop) (h : vc42 a_0 v Q) : Trip Tryd.prog 42 #[.pointer (some (a_0.add 0))] v Q :=
 trip_of_eq (args := [.pt a_0 0]) (A := ⟨[], [], [], [], psG⟩) Tryd.func42 (by kernel_rfl) (by kernel_rfl) (by kernel_rfl : vc42 a_0 v Q = _) h

def vc43 (a_0 : Addr) (v : World) (Q : Value → World → Prop) : Prop :=
 ∃ I1 : Int → Int → World → Prop, ∃ m2 : Int → Int → World → Nat, I1 0 0 v ∧
 ∀ n3 : Int, ∀ n4 : Int, ∀ w5 : World, I1 n3 n4 w5 →
 ∃ n6 : Int, (Trip Tryd.prog 42 #[.pointer (some (a_0.add 0))] w5 fun r7 w8 => r7 = .int .i64 n6 ∧ Sub w5 w8) ∧
 ∃ q9 : Bool, (Trip Tryd.prog 34 #[.int .i64 n6, .int .i64 48, .int .i64 57] w5 fun r10 w11 => r10 = .bool q9 ∧ Sub w5 w11) ∧
 ((q9 && (decide (n4 < 4))) = true →
 ∃ n12 : Int, Wr .i64 (n3 * 10) n12 ∧
 ∃ n13 : Int, (Trip Tryd.prog 42 #[.pointer (some (a_0.add 0))] w5 fun r14 w15 => r14 = .int .i64 n13 ∧ Sub w5 w15) ∧
 ∃ n16 : Int, Wr .i64 (n12 + n13) n16 ∧
 ∃ n17 : Int, Wr .i64 (n16 - 48) n17 ∧
 ∃ n18 : Int, w5.cell? (a_0.add 1) = some (.int .i64 n18) ∧
 ∃ n19 : Int, Wr .i64 (n18 + 1) n19 ∧
 StoreAt w5 a_0 1 [.int .i64 n19] fun w20 =>
 ∃ n21 : Int, Wr .i64 (n4 + 1) n21 ∧
 I1 n17 n21 w20 ∧
 m2 n17 n21 w20 < m2 n3 n4 w5) ∧
 ((q9 && (decide (n4 < 4))) = false →
 (((decide (n4 = 0)) || (decide (n4 > 3))) = true →
 StoreAt w5 a_0 3 [.bool true] fun w22 =>
 Q (.int .i64 n3) w22) ∧
 (((decide (n4 = 0)) || (decide (n4 > 3))) = false →
 Q (.int .i64 n3) w5))
theorem of43 (a_0 : Addr) (v : World) (Q : Value → World → Prop) (h : vc43 a_0 v Q) : Trip Tryd.prog 43 #[.pointer (some (a_0.add 0))] v Q :=
 trip_of_eq (args := [.pt a_0 0]) (A := ⟨[(3, [(3, .int .i64), (4, .int .i64)], [])], [], [], [], psG⟩) Tryd.func43 (by kernel_rfl) (by kernel_rfl) (by kernel_rfl : vc43 a_0 v Q = _) h

def vc44 (s_0 : ByteArray) (v : World) (Q : Value → World → Prop) : Prop :=
 ∃ I1 : Int → World → Prop, ∃ m2 : Int → World → Nat, I1 1 v ∧
 ∀ n3 : Int, ∀ w4 : World, I1 n3 w4 →
 ((decide (n3 ≤ 13)) = true →
 ∃ s5 : ByteArray, ((!(s_0.toList == (ByteArray.mk #[]).toList)) = true →
 (Trip Tryd.prog 37 #[.int .i64 n3] w4 fun r6 w7 => r6 = .string s5 ∧ Sub w4 w7)) ∧
 (((!(s_0.toList == (ByteArray.mk #[]).toList)) && (s5.toList == s_0.toList)) = true →
 Q (.int .i64 n3) w4) ∧
 (((!(s_0.toList == (ByteArray.mk #[]).toList)) && (s5.toList == s_0.toList)) = false →
 ∃ n8 : Int, Wr .i64 (n3 + 1) n8 ∧
 I1 n8 w4 ∧
 m2 n8 w4 < m2 n3 w4)) ∧
 ((decide (n3 ≤ 13)) = false →
 Q (.int .i64 (-1)) w4)
theorem of44 (s_0 : ByteArray) (v : World) (Q : Value → World → Prop) (h : vc44 s_0 v Q) : Trip Tryd.prog 44 #[.string s_0] v Q :=
 trip_of_eq (args := [.st s_0]) (A := ⟨[(2, [(3, .int .i64)], [])], [], [], [], psG⟩) Tryd.func44 (by kernel_rfl) (by kernel_rfl) (by kernel_rfl : vc44 s_0 v Q = _) h

def vc45 (a_0 : Addr) (v : World) (Q : Value → World → Prop) : Prop :=
 ∃ n1 : Int, v.cell? (a_0.add 1) = some (.int .i64 n1) ∧
 ∃ I2 : World → Prop, ∃ m3 : World → Nat, I2 v ∧
 ∀ w4 : World, I2 w4 →
 ∃ n5 : Int, (Trip Tryd.prog 42 #[.pointer (some (a_0.add 0))] w4 fun r6 w7 => r6 = .int .i64 n5 ∧ Sub w4 w7) ∧
 ∃ q8 : Bool, (Trip Tryd.prog 34 #[.int .i64 n5, .int .i64 97, .int .i64 122] w4 fun r9 w10 => r9 = .bool q8 ∧ Sub w4 w10) ∧
 (q8 = true →
 ∃ n11 : Int, w4.cell? (a_0.add 1) = some (.int .i64 n11) ∧
 ∃ n12 : Int, Wr .i64 (n11 + 1) n12 ∧
 StoreAt w4 a_0 1 [.int .i64 n12] fun w13 =>
 I2 w13 ∧
 m3 w13 < m3 w4) ∧
 (q8 = false →
 ∃ s14 : ByteArray, w4.cell? (a_0.add 0) = some (.string s14) ∧
 ∃ n15 : Int, w4.cell? (a_0.add 1) = some (.int .i64 n15) ∧
 StrOk s14 n1 n15 ∧
 Q (.string (strCut s14 n1 n15)) w4)
theorem of45 (a_0 : Addr) (v : World) (Q : Value → World → Prop) (h : vc45 a_0 v Q) : Trip Tryd.prog 45 #[.pointer (some (a_0.add 0))] v Q :=
 trip_of_eq (args := [.pt a_0 0]) (A := ⟨[(2, [], [])], [], [], [], psG⟩) Tryd.func45 (by kernel_rfl) (by kernel_rfl) (by kernel_rfl : vc45 a_0 v Q = _) h

def vc46 (a_0 : Addr) (s_1 : ByteArray) (v : World) (Q : Value → World → Prop) : Prop :=
 ∃ n1 : Int, v.cell? (a_0.add 1) = some (.int .i64 n1) ∧
 ∃ n2 : Int, Wr .i64 (n1 + (s_1.size : Int)) n2 ∧
 ∃ s3 : ByteArray, v.cell? (a_0.add 0) = some (.string s3) ∧
 ∃ s4 : ByteArray, ((decide (n2 > (s3.size : Int))) = false →
 v.cell? (a_0.add 0) = some (.string s4)) ∧
 ∃ n5 : Int, ((decide (n2 > (s3.size : Int))) = false →
 v.cell? (a_0.add 1) = some (.int .i64 n5)) ∧
 ∃ n6 : Int, ((decide (n2 > (s3.size : Int))) = false →
 v.cell? (a_0.add 1) = some (.int .i64 n6)) ∧
 ∃ n7 : Int, ((decide (n2 > (s3.size : Int))) = false →
 Wr .i64 (n6 + (s_1.size : Int)) n7) ∧
 ((decide (n2 > (s3.size : Int))) = false →
 StrOk s4 n5 n7) ∧
 (((decide (n2 > (s3.size : Int))) || (!((strCut s4 n5 n7).toList == s_1.toList))) = true →
 StoreAt v a_0 3 [.bool true] fun w8 =>
 Q (.tuple #[]) w8) ∧
 (((decide (n2 > (s3.size : Int))) || (!((strCut s4 n5 n7).toList == s_1.toList))) = false →
 ∃ n9 : Int, v.cell? (a_0.add 1) = some (.int .i64 n9) ∧
 ∃ n10 : Int, Wr .i64 (n9 + (s_1.size : Int)) n10 ∧
 StoreAt v a_0 1 [.int .i64 n10] fun w11 =>
 Q (.tuple #[]) w11)
theorem of46 (a_0 : Addr) (s_1 : ByteArray) (v : World) (Q : Value → World → Prop) (h : vc46 a_0 s_1 v Q) : Trip Tryd.prog 46 #[.pointer (some (a_0.add 0)), .string s_1] v Q :=
 trip_of_eq (args := [.pt a_0 0, .st s_1]) (A := ⟨[], [], [], [], psG⟩) Tryd.func46 (by kernel_rfl) (by kernel_rfl) (by kernel_rfl : vc46 a_0 s_1 v Q = _) h

def vc47 (a_0 : Addr) (n_1 : Int) (v : World) (Q : Value → World → Prop) : Prop :=
 ∃ s1 : ByteArray, v.cell? (a_0.add 0) = some (.string s1) ∧
 ∃ s2 : ByteArray, ((s1.toList == (ByteArray.mk #[]).toList) = false →
 v.cell? (a_0.add 0) = some (.string s2)) ∧
 ((s1.toList == (ByteArray.mk #[]).toList) = false →
 StrIxOk s2 0) ∧
 (((s1.toList == (ByteArray.mk #[]).toList) || (!decide (strIx s2 0 = n_1))) = true →
 Q (.bool false) v) ∧
 (((s1.toList == (ByteArray.mk #[]).toList) || (!decide (strIx s2 0 = n_1))) = false →
 ∃ s3 : ByteArray, v.cell? (a_0.add 0) = some (.string s3) ∧
 ((0 : Int) ≤ 1 ∧ 1 ≤ (s3.size : Int)) ∧
 StoreAt v a_0 0 [.string (strCut s3 1 (s3.size : Int))] fun w4 =>
 Q (.bool true) w4)
theorem of47 (a_0 : Addr) (n_1 : Int) (v : World) (Q : Value → World → Prop) (h : vc47 a_0 n_1 v Q) : Trip Tryd.prog 47 #[.pointer (some (a_0.add 0)), .int .u8 n_1] v Q :=
 trip_of_eq (args := [.pt a_0 0, .num .u8 n_1]) (A := ⟨[], [], [], [], psG⟩) Tryd.func47 (by kernel_rfl) (by kernel_rfl) (by kernel_rfl : vc47 a_0 n_1 v Q = _) h

def vc48 (a_0 : Addr) (v : World) (Q : Value → World → Prop) : Prop :=
 ∃ s1 : ByteArray, v.cell? (a_0.add 0) = some (.string s1) ∧
 ∃ n2 : Int, (Trip Tryd.prog 58 #[.string s1, .string (ByteArray.mk #[32, 41])] v fun r3 w4 => r3 = .int .i64 n2 ∧ Sub v w4) ∧
 ((decide (n2 < 0)) = true →
 ∃ s5 : ByteArray, v.cell? (a_0.add 0) = some (.string s5) ∧
 ∃ s6 : ByteArray, v.cell? (a_0.add 0) = some (.string s6) ∧
 StrOk s6 0 (s5.size : Int) ∧
 ∃ s7 : ByteArray, v.cell? (a_0.add 0) = some (.string s7) ∧
 ((0 : Int) ≤ (s5.size : Int) ∧ (s5.size : Int) ≤ (s7.size : Int)) ∧
 StoreAt v a_0 0 [.string (strCut s7 (s5.size : Int) (s7.size : Int))] fun w8 =>
 Q (.string (strCut s6 0 (s5.size : Int))) w8) ∧
 ((decide (n2 < 0)) = false →
 ∃ s9 : ByteArray, v.cell? (a_0.add 0) = some (.string s9) ∧
 StrOk s9 0 n2 ∧
 ∃ s10 : ByteArray, v.cell? (a_0.add 0) = some (.string s10) ∧
 ((0 : Int) ≤ n2 ∧ n2 ≤ (s10.size : Int)) ∧
 StoreAt v a_0 0 [.string (strCut s10 n2 (s10.size : Int))] fun w11 =>
 Q (.string (strCut s9 0 n2)) w11)
theorem of48 (a_0 : Addr) (v : World) (Q : Value → World → Prop) (h : vc48 a_0 v Q) : Trip Tryd.prog 48 #[.pointer (some (a_0.add 0))] v Q :=
 trip_of_eq (args := [.pt a_0 0]) (A := ⟨[], [], [], [], psG⟩) Tryd.func48 (by kernel_rfl) (by kernel_rfl) (by kernel_rfl : vc48 a_0 v Q = _) h

def vc51 (s_0 : ByteArray) (v : World) (Q : Value → World → Prop) : Prop :=
 ∃ s1 : ByteArray, (Trip Tryd.prog 62 #[.string s_0, .string (ByteArray.mk #[48, 49, 50, 51, 52, 53, 54, 55, 56, 57])] v fun r2 w3 => r2 = .string s1 ∧ Sub v w3) ∧
 ∃ I4 : Int → World → Prop, ∃ m5 : Int → World → Nat, I4 1 v ∧
 ∀ n6 : Int, ∀ w7 : World, I4 n6 w7 →
 ((decide (n6 ≤ 13)) = true →
 ∃ s8 : ByteArray, ∃ q9 : Bool, (Trip Tryd.prog 41 #[.int .i64 n6] w7 fun r10 w11 => r10 = .tuple #[.string s8, .bool q9] ∧ Sub w7 w11) ∧
 (((s8.toList == (ByteArray.mk #[]).toList) || (!(s8.toList == s1.toList))) = true →
 ∃ n12 : Int, Wr .i64 (n6 + 1) n12 ∧
 eqS (.num .i64 0) ∧
 eqS (.num .i64 0) ∧
 eqS (.sl (Sl.mk none 0 0)) ∧
 I4 n12 w7 ∧
 m5 n12 w7 < m5 n6 w7) ∧
 (((s8.toList == (ByteArray.mk #[]).toList) || (!(s8.toList == s1.toList))) = false →
 ((!q9) = true →
 Q (.tuple #[.agg #[.int .i64 n6, .int .i64 0, .slice none 0 0], .bool (s_0.toList == s1.toList)]) w7) ∧
 ((!q9) = false →
 ((0 : Int) ≤ (s1.size : Int) ∧ (s1.size : Int) ≤ (s_0.size : Int)) ∧
 Trip Tryd.prog 50 #[.string (strCut s_0 (s1.size : Int) (s_0.size : Int))] w7 fun r13 w14 =>
 ∃ n15 : Int, ∃ y16 : Vl, r13 = .tuple #[.int .i64 n15, y16.x] ∧
 (∃ q17 : Bool, PureT Tryd.prog (do eqGuard .eql 68 (.tmp 46) (.const (.nilIface)) (y16.x) ((Vl.mk Value.nilIface rfl).x); binOp .eql 68 (y16.x) ((Vl.mk Value.nilIface rfl).x)) w14 (.bool q17) ∧
 Q (.tuple #[.agg #[.int .i64 n6, .int .i64 n15, .slice none 0 0], .bool q17]) w14) ∧
 ∃ q18 : Bool, PureT Tryd.prog (do eqGuard .eql 68 (.tmp 46) (.const (.nilIface)) (y16.x) ((Vl.mk Value.nilIface rfl).x); binOp .eql 68 (y16.x) ((Vl.mk Value.nilIface rfl).x)) w14 (.bool q18) ∧
 Q (.tuple #[.agg #[.int .i64 n6, .int .i64 n15, .slice none 0 0], .bool q18]) w14))) ∧
 ((decide (n6 ≤ 13)) = false →
 Q (.tuple #[.agg #[.int .i64 0, .int .i64 0, .slice none 0 0], .bool false]) w7)
theorem of51 (s_0 : ByteArray) (v : World) (Q : Value → World → Prop) (h : vc51 s_0 v Q) : Trip Tryd.prog 51 #[.string s_0] v Q :=
 trip_of_eq (args := [.st s_0]) (A := ⟨[(3, [(5, .int .i64)], [])], [], [(10, [])], [], psG⟩) Tryd.func51 (by kernel_rfl) (by kernel_rfl) (by kernel_rfl : vc51 s_0 v Q = _) h

end Go.Vc
