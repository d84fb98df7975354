/- Part of the proofs about the heaps and memories: a law is joined in the text whose name ends in W and the law. -/
import Derived.Test.YtgabmgfbolhbbaaGreatEVcFn
import Derived.Test.YtgabmgfbolhbbaaGreatProg
import Derived.KernelRfl
namespace Go.Vc
open Go Go.Proofs
set_option linter.all false
abbrev psG : List Nat := [7, 11, 16, 19, 22, 23, 24, 25, 29, 31, 32, 39, 40, 41, 43, 52, 54, 56, 57, 60, 61, 62, 63, 64, 65, 66, 70, 76, 81, 87, 88, 89, 91, 92, 93, 94, 100, 101, 102, 103, 104, 105, 106, 108, 109, 110, 111, 112, 113, 116, 119, 120, 121, 123, 125, 128, 135, 136, 137, 138, 139, 141, 142, 143, 144, 147]
def vc6 (x0_0 : Sl) (x0_1 : Sl) (n_1 : Int) (n_2 : Int) (v : World) (Q : Value → World → Prop) : Prop :=
 ∃ n1 : Int, (Trip Tryz.prog 7 #[.agg #[x0_0.val, x0_1.val], .int .i64 1048576] v fun r2 w3 => r2 = .int .i64 n1 ∧ Sub v w3) ∧
 ((decide (n1 < 0)) = true →
 Q (.bool true) v) ∧
 ((decide (n1 < 0)) = false →
 Trip Tryz.prog 9 #[.agg #[x0_0.val, x0_1.val]] v fun r4 w5 =>
 ∃ x6 : Sl, ∃ x7 : Sl, r4 = .agg #[x6.val, x7.val] ∧
 Trip Tryz.prog 20 #[.agg #[x6.val, x7.val], .int .i64 n_1, .int .i64 n_2] w5 fun r8 w9 =>
 ∃ x10 : Sl, r8 = x10.val ∧
 Trip Tryz.prog 9 #[.agg #[x0_0.val, x0_1.val]] w9 fun r11 w12 =>
 ∃ x13 : Sl, ∃ x14 : Sl, r11 = .agg #[x13.val, x14.val] ∧
 Trip Tryz.prog 21 #[.agg #[x13.val, x14.val], .int .i64 n_1, .int .i64 n_2] w12 fun r15 w16 =>
 ∃ x17 : Sl, r15 = x17.val ∧
 ∃ q18 : Bool, (Trip Tryz.prog 16 #[x17.val, x10.val] w16 fun r19 w20 => r19 = .bool q18 ∧ Sub w16 w20) ∧
 ((!q18) = true →
 Q (.bool false) w16) ∧
 ((!q18) = false →
 Trip Tryz.prog 9 #[.agg #[x0_0.val, x0_1.val]] w16 fun r21 w22 =>
 ∃ x23 : Sl, ∃ x24 : Sl, r21 = .agg #[x23.val, x24.val] ∧
 Sub w16 w22 ∧
 ∃ q25 : Bool, (Trip Tryz.prog 11 #[.agg #[x13.val, x14.val], .agg #[x23.val, x24.val]] w22 fun r26 w27 => r26 = .bool q25 ∧ Sub w22 w27) ∧
 ((!q25) = true →
 Q (.bool false) w22) ∧
 ((!q25) = false →
 Trip Tryz.prog 17 #[.agg #[x13.val, x14.val], .int .i64 1] w22 fun r28 w29 =>
 ∃ n30 : Int, r28 = .int .i64 n30 ∧
 ∃ q31 : Bool, ((decide (n30 < 0)) = false →
 (Trip Tryz.prog 16 #[x17.val, x10.val] w29 fun r32 w33 => r32 = .bool q31 ∧ Sub w29 w33)) ∧
 (((decide (n30 < 0)) || (!q31)) = true →
 Q (.bool false) w29) ∧
 (((decide (n30 < 0)) || (!q31)) = false →
 Trip Tryz.prog 18 #[x17.val, .int .i64 1] w29 fun r34 w35 =>
 ∃ n36 : Int, r34 = .int .i64 n36 ∧
 ∃ n37 : Int, (Trip Tryz.prog 19 #[x17.val, .int .i64 1] w35 fun r38 w39 => r38 = .int .i64 n37 ∧ Sub w35 w39) ∧
 ((decide (n37 < 0)) = true →
 Q (.bool false) w35) ∧
 ((decide (n37 < 0)) = false →
 ((!decide (n37 = n36)) = true →
 Q (.bool false) w35) ∧
 ((!decide (n37 = n36)) = false →
 Trip Tryz.prog 9 #[.agg #[x0_0.val, x0_1.val]] w35 fun r40 w41 =>
 ∃ x42 : Sl, ∃ x43 : Sl, r40 = .agg #[x42.val, x43.val] ∧
 Trip Tryz.prog 21 #[.agg #[x42.val, x43.val], .int .i64 n_1, .int .i64 n_2] w41 fun r44 w45 =>
 ∃ x46 : Sl, r44 = x46.val ∧
 ∃ q47 : Bool, (Trip Tryz.prog 16 #[x46.val, x10.val] w45 fun r48 w49 => r48 = .bool q47 ∧ Sub w45 w49) ∧
 ((!q47) = true →
 Q (.bool false) w45) ∧
 ((!q47) = false →
 ∃ n50 : Int, (Trip Tryz.prog 19 #[x17.val, .int .i64 1] w45 fun r51 w52 => r51 = .int .i64 n50 ∧ Sub w45 w52) ∧
 ((decide (n50 < 0)) = true →
 Q (.bool false) w45) ∧
 ((decide (n50 < 0)) = false →
 ((!decide (n50 = n36)) = true →
 Q (.bool false) w45) ∧
 ((!decide (n50 = n36)) = false →
 Q (.bool true) w45)))))))))
theorem of6 (x0_0 : Sl) (x0_1 : Sl) (n_1 : Int) (n_2 : Int) (v : World) (Q : Value → World → Prop) (h : vc6 x0_0 x0_1 n_1 n_2 v Q) : Trip Tryz.prog 6 #[.agg #[x0_0.val, x0_1.val], .int .i64 n_1, .int .i64 n_2] v Q :=
 trip_of_eq (args := [.ag [.sl x0_0, .sl x0_1], .num .i64 n_1, .num .i64 n_2]) (A := ⟨[], [], [(10, [2])], [], psG⟩) Tryz.func6 (by kernel_rfl) (by kernel_rfl) (by kernel_rfl : vc6 x0_0 x0_1 n_1 n_2 v Q = _) h

def vc7 (x0_0 : Sl) (x0_1 : Sl) (n_1 : Int) (v : World) (Q : Value → World → Prop) : Prop :=
 ∃ n1 : Int, (Trip Tryz.prog 22 #[x0_0.val, .int .i64 n_1] v fun r2 w3 => r2 = .int .i64 n1 ∧ Sub v w3) ∧
 ((decide (n1 < 0)) = true →
 Q (.int .i64 (-1)) v) ∧
 ((decide (n1 < 0)) = false →
 ∃ n4 : Int, (Trip Tryz.prog 23 #[x0_1.val, .int .i64 n1] v fun r5 w6 => r5 = .int .i64 n4 ∧ Sub v w6) ∧
 ((decide (n4 < 0)) = true →
 Q (.int .i64 (-1)) v) ∧
 ((decide (n4 < 0)) = false →
 Q (.int .i64 n4) v))
theorem of7 (x0_0 : Sl) (x0_1 : Sl) (n_1 : Int) (v : World) (Q : Value → World → Prop) (h : vc7 x0_0 x0_1 n_1 v Q) : Trip Tryz.prog 7 #[.agg #[x0_0.val, x0_1.val], .int .i64 n_1] v Q :=
 trip_of_eq (args := [.ag [.sl x0_0, .sl x0_1], .num .i64 n_1]) (A := ⟨[], [], [], [], psG⟩) Tryz.func7 (by kernel_rfl) (by kernel_rfl) (by kernel_rfl : vc7 x0_0 x0_1 n_1 v Q = _) h

def vc9 (x0_0 : Sl) (x0_1 : Sl) (v : World) (Q : Value → World → Prop) : Prop :=
 Trip Tryz.prog 27 #[x0_0.val] v fun r1 w2 =>
 ∃ x3 : Sl, r1 = x3.val ∧
 Trip Tryz.prog 28 #[x0_1.val] w2 fun r4 w5 =>
 ∃ x6 : Sl, r4 = x6.val ∧
 Q (.agg #[x3.val, x6.val]) w5
theorem of9 (x0_0 : Sl) (x0_1 : Sl) (v : World) (Q : Value → World → Prop) (h : vc9 x0_0 x0_1 v Q) : Trip Tryz.prog 9 #[.agg #[x0_0.val, x0_1.val]] v Q :=
 trip_of_eq (args := [.ag [.sl x0_0, .sl x0_1]]) (A := ⟨[], [], [], [], psG⟩) Tryz.func9 (by kernel_rfl) (by kernel_rfl) (by kernel_rfl : vc9 x0_0 x0_1 v Q = _) h

def vc11 (x0_0 : Sl) (x0_1 : Sl) (x1_0 : Sl) (x1_1 : Sl) (v : World) (Q : Value → World → Prop) : Prop :=
 ∃ q1 : Bool, (Trip Tryz.prog 31 #[x0_0.val, x1_0.val] v fun r2 w3 => r2 = .bool q1 ∧ Sub v w3) ∧
 ((!q1) = true →
 Q (.bool false) v) ∧
 ((!q1) = false →
 ∃ q4 : Bool, (Trip Tryz.prog 32 #[x0_1.val, x1_1.val] v fun r5 w6 => r5 = .bool q4 ∧ Sub v w6) ∧
 ((!q4) = true →
 Q (.bool false) v) ∧
 ((!q4) = false →
 Q (.bool true) v))
theorem of11 (x0_0 : Sl) (x0_1 : Sl) (x1_0 : Sl) (x1_1 : Sl) (v : World) (Q : Value → World → Prop) (h : vc11 x0_0 x0_1 x1_0 x1_1 v Q) : Trip Tryz.prog 11 #[.agg #[x0_0.val, x0_1.val], .agg #[x1_0.val, x1_1.val]] v Q :=
 trip_of_eq (args := [.ag [.sl x0_0, .sl x0_1], .ag [.sl x1_0, .sl x1_1]]) (A := ⟨[], [], [], [], psG⟩) Tryz.func11 (by kernel_rfl) (by kernel_rfl) (by kernel_rfl : vc11 x0_0 x0_1 x1_0 x1_1 v Q = _) h

def vc13 (x0_0 : Sl) (x0_1 : Sl) (v : World) (Q : Value → World → Prop) : Prop :=
 ∃ q1 : Bool, (Trip Tryz.prog 29 #[.agg #[x0_0.val, x0_1.val]] v fun r2 w3 => r2 = .bool q1 ∧ Sub v w3) ∧
 ((!q1) = true →
 Q (.bool false) v) ∧
 ((!q1) = false →
 ∃ I4 : Int → World → Prop, ∃ m5 : Int → World → Nat, I4 0 v ∧
 ∀ n6 : Int, ∀ w7 : World, I4 n6 w7 →
 ((decide (n6 < (x0_1.n : Int))) = true →
 Trip Tryz.prog 30 #[.agg #[x0_0.val, x0_1.val], .int .i64 n6] w7 fun r8 w9 =>
 ∃ x10 : Sl, ∃ q11 : Bool, r8 = .tuple #[x10.val, .bool q11] ∧
 ((!q11) = true →
 Q (.bool false) w9) ∧
 ((!q11) = false →
 ∃ n12 : Int, Wr .i64 (n6 + 1) n12 ∧
 ((.sl x0_0 : SV) = .sl x0_0) ∧
 ((.sl x0_1 : SV) = .sl x0_1) ∧
 I4 n12 w9 ∧
 m5 n12 w9 < m5 n6 w7)) ∧
 ((decide (n6 < (x0_1.n : Int))) = false →
 Q (.bool true) w7))
theorem of13 (x0_0 : Sl) (x0_1 : Sl) (v : World) (Q : Value → World → Prop) (h : vc13 x0_0 x0_1 v Q) : Trip Tryz.prog 13 #[.agg #[x0_0.val, x0_1.val]] v Q :=
 trip_of_eq (args := [.ag [.sl x0_0, .sl x0_1]]) (A := ⟨[(4, [(12, .int .i64)], [])], [], [], [], psG⟩) Tryz.func13 (by kernel_rfl) (by kernel_rfl) (by kernel_rfl : vc13 x0_0 x0_1 v Q = _) h

def vc16 (x_0 : Sl) (x_1 : Sl) (v : World) (Q : Value → World → Prop) : Prop :=
 ((!decide ((x_0.n : Int) = (x_1.n : Int))) = true →
 Q (.bool false) v) ∧
 ((!decide ((x_0.n : Int) = (x_1.n : Int))) = false →
 ∃ I1 : Int → World → Prop, ∃ m2 : Int → World → Nat, I1 0 v ∧
 ∀ n3 : Int, ∀ w4 : World, I1 n3 w4 →
 ((decide (n3 < (x_0.n : Int))) = true →
 IxOk x_0 n3 ∧
 ∃ n5 : Int, w4.cell? ((elA x_0 n3 1).add 0) = some (.int .i64 n5) ∧
 IxOk x_1 n3 ∧
 ∃ n6 : Int, w4.cell? ((elA x_1 n3 1).add 0) = some (.int .i64 n6) ∧
 ((!decide (n5 = n6)) = true →
 Q (.bool false) w4) ∧
 ((!decide (n5 = n6)) = false →
 ∃ n7 : Int, Wr .i64 (n3 + 1) n7 ∧
 I1 n7 w4 ∧
 m2 n7 w4 < m2 n3 w4)) ∧
 ((decide (n3 < (x_0.n : Int))) = false →
 Q (.bool true) w4))
theorem of16 (x_0 : Sl) (x_1 : Sl) (v : World) (Q : Value → World → Prop) (h : vc16 x_0 x_1 v Q) : Trip Tryz.prog 16 #[x_0.val, x_1.val] v Q :=
 trip_of_eq (args := [.sl x_0, .sl x_1]) (A := ⟨[(4, [(5, .int .i64)], [])], [], [], [], psG⟩) Tryz.func16 (by kernel_rfl) (by kernel_rfl) (by kernel_rfl : vc16 x_0 x_1 v Q = _) h

def vc17 (x0_0 : Sl) (x0_1 : Sl) (n_1 : Int) (v : World) (Q : Value → World → Prop) : Prop :=
 Trip Tryz.prog 37 #[x0_0.val, .int .i64 n_1] v fun r1 w2 =>
 ∃ n3 : Int, r1 = .int .i64 n3 ∧
 Trip Tryz.prog 38 #[x0_1.val, .int .i64 n3] w2 fun r4 w5 =>
 ∃ n6 : Int, r4 = .int .i64 n6 ∧
 Q (.int .i64 n6) w5
theorem of17 (x0_0 : Sl) (x0_1 : Sl) (n_1 : Int) (v : World) (Q : Value → World → Prop) (h : vc17 x0_0 x0_1 n_1 v Q) : Trip Tryz.prog 17 #[.agg #[x0_0.val, x0_1.val], .int .i64 n_1] v Q :=
 trip_of_eq (args := [.ag [.sl x0_0, .sl x0_1], .num .i64 n_1]) (A := ⟨[], [], [], [], psG⟩) Tryz.func17 (by kernel_rfl) (by kernel_rfl) (by kernel_rfl : vc17 x0_0 x0_1 n_1 v Q = _) h

def vc18 (x_0 : Sl) (n_1 : Int) (v : World) (Q : Value → World → Prop) : Prop :=
 ∃ I1 : Int → Int → World → Prop, ∃ m2 : Int → Int → World → Nat, I1 n_1 0 v ∧
 ∀ n3 : Int, ∀ n4 : Int, ∀ w5 : World, I1 n3 n4 w5 →
 ((decide (n4 < (x_0.n : Int))) = true →
 IxOk x_0 n4 ∧
 StoreAt w5 (elA x_0 n4 1) 0 [.int .i64 n3] fun w6 =>
 ∃ n7 : Int, Wr .i64 (n3 + 1) n7 ∧
 ∃ n8 : Int, Wr .i64 (n4 + 1) n8 ∧
 I1 n7 n8 w6 ∧
 m2 n7 n8 w6 < m2 n3 n4 w5) ∧
 ((decide (n4 < (x_0.n : Int))) = false →
 Q (.int .i64 n3) w5)
theorem of18 (x_0 : Sl) (n_1 : Int) (v : World) (Q : Value → World → Prop) (h : vc18 x_0 n_1 v Q) : Trip Tryz.prog 18 #[x_0.val, .int .i64 n_1] v Q :=
 trip_of_eq (args := [.sl x_0, .num .i64 n_1]) (A := ⟨[(2, [(1, .int .i64), (5, .int .i64)], [])], [], [], [], psG⟩) Tryz.func18 (by kernel_rfl) (by kernel_rfl) (by kernel_rfl : vc18 x_0 n_1 v Q = _) h

def vc19 (x_0 : Sl) (n_1 : Int) (v : World) (Q : Value → World → Prop) : Prop :=
 ∃ I1 : Int → Int → World → Prop, ∃ m2 : Int → Int → World → Nat, I1 n_1 0 v ∧
 ∀ n3 : Int, ∀ n4 : Int, ∀ w5 : World, I1 n3 n4 w5 →
 ((decide (n4 < (x_0.n : Int))) = true →
 IxOk x_0 n4 ∧
 ∃ n6 : Int, w5.cell? ((elA x_0 n4 1).add 0) = some (.int .i64 n6) ∧
 ((!decide (n6 = n3)) = true →
 Q (.int .i64 (-1)) w5) ∧
 ((!decide (n6 = n3)) = false →
 ∃ n7 : Int, Wr .i64 (n3 + 1) n7 ∧
 ∃ n8 : Int, Wr .i64 (n4 + 1) n8 ∧
 I1 n7 n8 w5 ∧
 m2 n7 n8 w5 < m2 n3 n4 w5)) ∧
 ((decide (n4 < (x_0.n : Int))) = false →
 Q (.int .i64 n3) w5)
theorem of19 (x_0 : Sl) (n_1 : Int) (v : World) (Q : Value → World → Prop) (h : vc19 x_0 n_1 v Q) : Trip Tryz.prog 19 #[x_0.val, .int .i64 n_1] v Q :=
 trip_of_eq (args := [.sl x_0, .num .i64 n_1]) (A := ⟨[(2, [(1, .int .i64), (5, .int .i64)], [])], [], [], [], psG⟩) Tryz.func19 (by kernel_rfl) (by kernel_rfl) (by kernel_rfl : vc19 x_0 n_1 v Q = _) h

def vc20 (x0_0 : Sl) (x0_1 : Sl) (n_1 : Int) (n_2 : Int) (v : World) (Q : Value → World → Prop) : Prop :=
 Trip Tryz.prog 34 #[.agg #[x0_0.val, x0_1.val], .int .i64 n_1, .int .i64 n_2] v fun r1 w2 =>
 ∃ y3 : Vl, ∃ q4 : Bool, r1 = .tuple #[y3.x, .bool q4] ∧
 ((!q4) = true →
 Q (.slice none 0 0) w2) ∧
 ((!q4) = false →
 ∃ a5 : Addr, y3.x = .pointer (some a5) ∧
 ∃ x6 : Sl, w2.cell? (a5.add 0) = some (x6.val) ∧
 Trip Tryz.prog 35 #[x6.val] w2 fun r7 w8 =>
 ∃ x9 : Sl, r7 = x9.val ∧
 Q (x9.val) w8)
theorem of20 (x0_0 : Sl) (x0_1 : Sl) (n_1 : Int) (n_2 : Int) (v : World) (Q : Value → World → Prop) (h : vc20 x0_0 x0_1 n_1 n_2 v Q) : Trip Tryz.prog 20 #[.agg #[x0_0.val, x0_1.val], .int .i64 n_1, .int .i64 n_2] v Q :=
 trip_of_eq (args := [.ag [.sl x0_0, .sl x0_1], .num .i64 n_1, .num .i64 n_2]) (A := ⟨[], [], [], [999998], psG⟩) Tryz.func20 (by kernel_rfl) (by kernel_rfl) (by kernel_rfl : vc20 x0_0 x0_1 n_1 n_2 v Q = _) h

def vc21 (x0_0 : Sl) (x0_1 : Sl) (n_1 : Int) (n_2 : Int) (v : World) (Q : Value → World → Prop) : Prop :=
 Trip Tryz.prog 36 #[.agg #[x0_0.val, x0_1.val], .int .i64 n_1, .int .i64 n_2] v fun r1 w2 =>
 ∃ y3 : Vl, r1 = y3.x ∧
 ∃ q4 : Bool, PureT Tryz.prog (do eqGuard .eql 65 (.tmp 15) (.const (.pointer none)) (y3.x) ((Vl.mk (Value.pointer none) rfl).x); binOp .eql 65 (y3.x) ((Vl.mk (Value.pointer none) rfl).x)) w2 (.bool q4) ∧
 (q4 = true →
 Q (.slice none 0 0) w2) ∧
 (q4 = false →
 ∃ a5 : Addr, y3.x = .pointer (some a5) ∧
 ∃ x6 : Sl, w2.cell? (a5.add 0) = some (x6.val) ∧
 StepT Tryz.prog (Instr.makeSlice 37 (.int .i64 (x6.n : Int)) (.int .i64 (x6.n : Int))) w2 fun r7 w8 =>
 ∃ x9 : Sl, r7 = x9.val ∧
 ∃ a10 : Addr, y3.x = .pointer (some a10) ∧
 ∃ x11 : Sl, w8.cell? (a10.add 0) = some (x11.val) ∧
 ∃ I12 : Int → World → Prop, ∃ m13 : Int → World → Nat, I12 0 w8 ∧
 ∀ n14 : Int, ∀ w15 : World, I12 n14 w15 →
 ((decide (n14 < (x11.n : Int))) = true →
 IxOk x11 n14 ∧
 ∃ n16 : Int, ∃ n17 : Int, ∃ q18 : Bool, ∃ n19 : Int, ∃ n20 : Int, ∃ n21 : Int, (w15.cell? ((elA x11 n14 6).add 0) = some (.int .i64 n16) ∧
 w15.cell? ((elA x11 n14 6).add 1) = some (.int .i64 n17) ∧
 w15.cell? ((elA x11 n14 6).add 2) = some (.bool q18) ∧
 w15.cell? ((elA x11 n14 6).add 3) = some (.int .i64 n19) ∧
 w15.cell? ((elA x11 n14 6).add 4) = some (.int .i64 n20) ∧
 w15.cell? ((elA x11 n14 6).add 5) = some (.int .i64 n21)) ∧
 IxOk x9 n14 ∧
 StoreAt w15 (elA x9 n14 1) 0 [.int .i64 n16] fun w22 =>
 ∃ n23 : Int, Wr .i64 (n14 + 1) n23 ∧
 ((.sl x0_0 : SV) = .sl x0_0) ∧
 ((.sl x0_1 : SV) = .sl x0_1) ∧
 I12 n23 w22 ∧
 m13 n23 w22 < m13 n14 w15) ∧
 ((decide (n14 < (x11.n : Int))) = false →
 Q (x9.val) w15))
theorem of21 (x0_0 : Sl) (x0_1 : Sl) (n_1 : Int) (n_2 : Int) (v : World) (Q : Value → World → Prop) (h : vc21 x0_0 x0_1 n_1 n_2 v Q) : Trip Tryz.prog 21 #[.agg #[x0_0.val, x0_1.val], .int .i64 n_1, .int .i64 n_2] v Q :=
 trip_of_eq (args := [.ag [.sl x0_0, .sl x0_1], .num .i64 n_1, .num .i64 n_2]) (A := ⟨[(6, [(28, .int .i64)], [])], [], [], [999998], psG⟩) Tryz.func21 (by kernel_rfl) (by kernel_rfl) (by kernel_rfl : vc21 x0_0 x0_1 n_1 n_2 v Q = _) h

def vc22 (x_0 : Sl) (n_1 : Int) (v : World) (Q : Value → World → Prop) : Prop :=
 ∃ n1 : Int, Wr .i64 (n_1 - (x_0.n : Int)) n1 ∧
 ((decide (n1 < 0)) = true →
 Q (.int .i64 (-1)) v) ∧
 ((decide (n1 < 0)) = false →
 ∃ I2 : Int → Int → World → Prop, ∃ m3 : Int → Int → World → Nat, I2 n1 0 v ∧
 ∀ n4 : Int, ∀ n5 : Int, ∀ w6 : World, I2 n4 n5 w6 →
 ((decide (n5 < (x_0.n : Int))) = true →
 IxOk x_0 n5 ∧
 ∃ n7 : Int, ∃ n8 : Int, ∃ x9 : Sl, (w6.cell? ((elA x_0 n5 3).add 0) = some (.int .i64 n7) ∧
 w6.cell? ((elA x_0 n5 3).add 1) = some (.int .i64 n8) ∧
 w6.cell? ((elA x_0 n5 3).add 2) = some (x9.val)) ∧
 ∃ n10 : Int, (Trip Tryz.prog 39 #[.agg #[.int .i64 n7, .int .i64 n8, x9.val], .int .i64 n4] w6 fun r11 w12 => r11 = .int .i64 n10 ∧ Sub w6 w12) ∧
 ((decide (n10 < 0)) = true →
 Q (.int .i64 (-1)) w6) ∧
 ((decide (n10 < 0)) = false →
 ∃ n13 : Int, Wr .i64 (n5 + 1) n13 ∧
 I2 n10 n13 w6 ∧
 m3 n10 n13 w6 < m3 n4 n5 w6)) ∧
 ((decide (n5 < (x_0.n : Int))) = false →
 Q (.int .i64 n4) w6))
theorem of22 (x_0 : Sl) (n_1 : Int) (v : World) (Q : Value → World → Prop) (h : vc22 x_0 n_1 v Q) : Trip Tryz.prog 22 #[x_0.val, .int .i64 n_1] v Q :=
 trip_of_eq (args := [.sl x_0, .num .i64 n_1]) (A := ⟨[(5, [(1, .int .i64), (5, .int .i64)], [])], [], [], [], psG⟩) Tryz.func22 (by kernel_rfl) (by kernel_rfl) (by kernel_rfl : vc22 x_0 n_1 v Q = _) h

def vc23 (x_0 : Sl) (n_1 : Int) (v : World) (Q : Value → World → Prop) : Prop :=
 ∃ n1 : Int, Wr .i64 (n_1 - (x_0.n : Int)) n1 ∧
 ((decide (n1 < 0)) = true →
 Q (.int .i64 (-1)) v) ∧
 ((decide (n1 < 0)) = false →
 ∃ I2 : Int → Int → World → Prop, ∃ m3 : Int → Int → World → Nat, I2 n1 0 v ∧
 ∀ n4 : Int, ∀ n5 : Int, ∀ w6 : World, I2 n4 n5 w6 →
 ((decide (n5 < (x_0.n : Int))) = true →
 IxOk x_0 n5 ∧
 ∃ x7 : Sl, ∃ x8 : Sl, ∃ n9 : Int, ∃ n10 : Int, ∃ x11 : Sl, (w6.cell? ((elA x_0 n5 5).add 0) = some (x7.val) ∧
 w6.cell? ((elA x_0 n5 5).add 1) = some (x8.val) ∧
 w6.cell? ((elA x_0 n5 5).add 2) = some (.int .i64 n9) ∧
 w6.cell? ((elA x_0 n5 5).add 3) = some (.int .i64 n10) ∧
 w6.cell? ((elA x_0 n5 5).add 4) = some (x11.val)) ∧
 ∃ n12 : Int, (Trip Tryz.prog 40 #[.agg #[x7.val, x8.val, .int .i64 n9, .int .i64 n10, x11.val], .int .i64 n4] w6 fun r13 w14 => r13 = .int .i64 n12 ∧ Sub w6 w14) ∧
 ((decide (n12 < 0)) = true →
 Q (.int .i64 (-1)) w6) ∧
 ((decide (n12 < 0)) = false →
 ∃ n15 : Int, Wr .i64 (n5 + 1) n15 ∧
 I2 n12 n15 w6 ∧
 m3 n12 n15 w6 < m3 n4 n5 w6)) ∧
 ((decide (n5 < (x_0.n : Int))) = false →
 Q (.int .i64 n4) w6))
theorem of23 (x_0 : Sl) (n_1 : Int) (v : World) (Q : Value → World → Prop) (h : vc23 x_0 n_1 v Q) : Trip Tryz.prog 23 #[x_0.val, .int .i64 n_1] v Q :=
 trip_of_eq (args := [.sl x_0, .num .i64 n_1]) (A := ⟨[(5, [(1, .int .i64), (5, .int .i64)], [])], [], [], [], psG⟩) Tryz.func23 (by kernel_rfl) (by kernel_rfl) (by kernel_rfl : vc23 x_0 n_1 v Q = _) h

def vc24 (x0_0 : Sl) (x0_1 : Sl) (v : World) (Q : Value → World → Prop) : Prop :=
 ((decide ((x0_1.n : Int) > 4)) = false →
 Trip Tryz.prog 42 #[.agg #[x0_0.val, x0_1.val]] v fun r1 w2 =>
 ∃ x3 : Sl, ∃ x4 : Sl, r1 = .agg #[x3.val, x4.val] ∧
 ∃ q5 : Bool, (Trip Tryz.prog 41 #[.agg #[x3.val, x4.val]] w2 fun r6 w7 => r6 = .bool q5 ∧ Sub w2 w7) ∧
 ((!q5) = true →
 Q (.bool false) w2) ∧
 ((!q5) = false →
 ∃ I8 : Int → World → Prop, ∃ m9 : Int → World → Nat, I8 0 w2 ∧
 ∀ n10 : Int, ∀ w11 : World, I8 n10 w11 →
 ((decide (n10 < (x0_1.n : Int))) = true →
 IxOk x0_1 n10 ∧
 ∃ x12 : Sl, ∃ x13 : Sl, ∃ n14 : Int, ∃ n15 : Int, ∃ x16 : Sl, (w11.cell? ((elA x0_1 n10 5).add 0) = some (x12.val) ∧
 w11.cell? ((elA x0_1 n10 5).add 1) = some (x13.val) ∧
 w11.cell? ((elA x0_1 n10 5).add 2) = some (.int .i64 n14) ∧
 w11.cell? ((elA x0_1 n10 5).add 3) = some (.int .i64 n15) ∧
 w11.cell? ((elA x0_1 n10 5).add 4) = some (x16.val)) ∧
 ∃ q17 : Bool, (Trip Tryz.prog 43 #[.agg #[x0_0.val, x0_1.val], .agg #[x12.val, x13.val, .int .i64 n14, .int .i64 n15, x16.val]] w11 fun r18 w19 => r18 = .bool q17 ∧ Sub w11 w19) ∧
 ((!q17) = true →
 Q (.bool false) w11) ∧
 ((!q17) = false →
 ∃ n20 : Int, Wr .i64 (n10 + 1) n20 ∧
 ((.sl x0_0 : SV) = .sl x0_0) ∧
 ((.sl x0_1 : SV) = .sl x0_1) ∧
 I8 n20 w11 ∧
 m9 n20 w11 < m9 n10 w11)) ∧
 ((decide (n10 < (x0_1.n : Int))) = false →
 Q (.bool true) w11))) ∧
 ((decide ((x0_1.n : Int) > 4)) = true →
 Q (.bool false) v)
theorem of24 (x0_0 : Sl) (x0_1 : Sl) (v : World) (Q : Value → World → Prop) (h : vc24 x0_0 x0_1 v Q) : Trip Tryz.prog 24 #[.agg #[x0_0.val, x0_1.val]] v Q :=
 trip_of_eq (args := [.ag [.sl x0_0, .sl x0_1]]) (A := ⟨[(4, [(3, .int .i64)], [])], [], [], [], psG⟩) Tryz.func24 (by kernel_rfl) (by kernel_rfl) (by kernel_rfl : vc24 x0_0 x0_1 v Q = _) h

def vc25 (n_0 : Int) (n_1 : Int) (n_2 : Int) (v : World) (Q : Value → World → Prop) : Prop :=
 Q (.bool ((decide (n_1 ≤ n_0)) && (decide (n_0 ≤ n_2)))) v
theorem of25 (n_0 : Int) (n_1 : Int) (n_2 : Int) (v : World) (Q : Value → World → Prop) (h : vc25 n_0 n_1 n_2 v Q) : Trip Tryz.prog 25 #[.int .i64 n_0, .int .i64 n_1, .int .i64 n_2] v Q :=
 trip_of_eq (args := [.num .i64 n_0, .num .i64 n_1, .num .i64 n_2]) (A := ⟨[], [], [], [], psG⟩) Tryz.func25 (by kernel_rfl) (by kernel_rfl) (by kernel_rfl : vc25 n_0 n_1 n_2 v Q = _) h

def vc26 (x0_0 : Sl) (x0_1 : Sl) (x1_0 : Sl) (x1_1 : Sl) (n1_2 : Int) (n1_3 : Int) (x1_4 : Sl) (v : World) (Q : Value → World → Prop) : Prop :=
 (StepT Tryz.prog (Instr.makeSlice 88 (.int .i64 (x1_4.n : Int)) (.int .i64 (x1_4.n : Int))) v fun r1 w2 =>
 ∃ x3 : Sl, r1 = x3.val ∧
 Sub v w2 ∧
 StepT Tryz.prog (Instr.makeSlice 89 (.int .i64 (x1_4.n : Int)) (.int .i64 (x1_4.n : Int))) w2 fun r4 w5 =>
 ∃ x6 : Sl, r4 = x6.val ∧
 Sub w2 w5 ∧
 NewAt w5 (.cells #[x3.val, x6.val] 91 (0, 0)) fun a7 w8 =>
 Trip Tryz.prog 45 #[.agg #[x1_0.val, x1_1.val, .int .i64 n1_2, .int .i64 n1_3, x1_4.val]] w8 fun r9 w10 =>
 ∃ a11 : Addr, r9 = .pointer (some (a11.add 0)) ∧
 Trip Tryz.prog 44 #[.pointer (some (a7.add 0)), .int .i64 0, .pointer (some (a11.add 0))] w10 fun r12 w13 =>
 ∃ q14 : Bool, r12 = .bool q14 ∧
 ∃ I15 : Int → World → Prop, ∃ m16 : Int → World → Nat, I15 0 w13 ∧
 ∀ n17 : Int, ∀ w18 : World, I15 n17 w18 →
 ((decide (n17 < (x1_4.n : Int))) = true →
 ∃ x19 : Sl, w18.cell? (a7.add 1) = some (x19.val) ∧
 IxOk x19 n17 ∧
 ∃ q20 : Bool, w18.cell? ((elA x19 n17 1).add 0) = some (.bool q20) ∧
 (q20 = true →
 ∃ x21 : Sl, w18.cell? (a7.add 0) = some (x21.val) ∧
 IxOk x21 n17 ∧
 ∃ y22 : Vl, w18.cell? ((elA x21 n17 1).add 0) = some (y22.x) ∧
 Trip Tryz.prog 46 #[y22.x] w18 fun r23 w24 =>
 ∃ a25 : Addr, r23 = .pointer (some (a25.add 0)) ∧
 IxOk x1_4 n17 ∧
 ∃ n26 : Int, ∃ n27 : Int, ∃ n28 : Int, ∃ n29 : Int, ∃ x30 : Sl, ∃ x31 : Sl, (w24.cell? ((elA x1_4 n17 6).add 0) = some (.int .i64 n26) ∧
 w24.cell? ((elA x1_4 n17 6).add 1) = some (.int .i64 n27) ∧
 w24.cell? ((elA x1_4 n17 6).add 2) = some (.int .i64 n28) ∧
 w24.cell? ((elA x1_4 n17 6).add 3) = some (.int .i64 n29) ∧
 w24.cell? ((elA x1_4 n17 6).add 4) = some (x30.val) ∧
 w24.cell? ((elA x1_4 n17 6).add 5) = some (x31.val)) ∧
 Trip Tryz.prog 47 #[.pointer (some (a25.add 0)), .agg #[x0_0.val, x0_1.val], .agg #[x1_0.val, x1_1.val, .int .i64 n1_2, .int .i64 n1_3, x1_4.val], .agg #[.int .i64 n26, .int .i64 n27, .int .i64 n28, .int .i64 n29, x30.val, x31.val]] w24 fun r32 w33 =>
 ∃ q34 : Bool, r32 = .bool q34 ∧
 ((!q34) = false →
 Trip Tryz.prog 48 #[.pointer (some (a7.add 0)), .agg #[x0_0.val, x0_1.val], x1_4.val, .int .i64 n17, .pointer (some (a25.add 0))] w33 fun r35 w36 =>
 ∃ q37 : Bool, r35 = .bool q37 ∧
 ((!q37) = true →
 Q (.tuple #[.pointer (some (a7.add 0)), .bool false]) w36) ∧
 ((!q37) = false →
 ∃ n38 : Int, Wr .i64 (n17 + 1) n38 ∧
 ((.sl x0_0 : SV) = .sl x0_0) ∧
 ((.sl x0_1 : SV) = .sl x0_1) ∧
 ((.sl x1_0 : SV) = .sl x1_0) ∧
 ((.sl x1_1 : SV) = .sl x1_1) ∧
 ((.num .i64 n1_2 : SV) = .num .i64 n1_2) ∧
 ((.num .i64 n1_3 : SV) = .num .i64 n1_3) ∧
 ((.sl x1_4 : SV) = .sl x1_4) ∧
 I15 n38 w36 ∧
 m16 n38 w36 < m16 n17 w18)) ∧
 ((!q34) = true →
 Q (.tuple #[.pointer (some (a7.add 0)), .bool false]) w33)) ∧
 (q20 = false →
 ∃ n39 : Int, Wr .i64 (n17 + 1) n39 ∧
 ((.sl x0_0 : SV) = .sl x0_0) ∧
 ((.sl x0_1 : SV) = .sl x0_1) ∧
 ((.sl x1_0 : SV) = .sl x1_0) ∧
 ((.sl x1_1 : SV) = .sl x1_1) ∧
 ((.num .i64 n1_2 : SV) = .num .i64 n1_2) ∧
 ((.num .i64 n1_3 : SV) = .num .i64 n1_3) ∧
 ((.sl x1_4 : SV) = .sl x1_4) ∧
 I15 n39 w18 ∧
 m16 n39 w18 < m16 n17 w18)) ∧
 ((decide (n17 < (x1_4.n : Int))) = false →
 Q (.tuple #[.pointer (some (a7.add 0)), .bool true]) w18)) ∧
 StepT Tryz.prog (Instr.makeSlice 89 (.int .i64 (x1_4.n : Int)) (.int .i64 (x1_4.n : Int))) v fun r40 w41 =>
 ∃ x42 : Sl, r40 = x42.val ∧
 Sub v w41 ∧
 StepT Tryz.prog (Instr.makeSlice 88 (.int .i64 (x1_4.n : Int)) (.int .i64 (x1_4.n : Int))) w41 fun r43 w44 =>
 ∃ x45 : Sl, r43 = x45.val ∧
 Sub w41 w44 ∧
 NewAt w44 (.cells #[x45.val, x42.val] 91 (0, 0)) fun a46 w47 =>
 Trip Tryz.prog 45 #[.agg #[x1_0.val, x1_1.val, .int .i64 n1_2, .int .i64 n1_3, x1_4.val]] w47 fun r48 w49 =>
 ∃ a50 : Addr, r48 = .pointer (some (a50.add 0)) ∧
 Trip Tryz.prog 44 #[.pointer (some (a46.add 0)), .int .i64 0, .pointer (some (a50.add 0))] w49 fun r51 w52 =>
 ∃ q53 : Bool, r51 = .bool q53 ∧
 ∃ I54 : Int → World → Prop, ∃ m55 : Int → World → Nat, I54 0 w52 ∧
 ∀ n56 : Int, ∀ w57 : World, I54 n56 w57 →
 ((decide (n56 < (x1_4.n : Int))) = true →
 ∃ x58 : Sl, w57.cell? (a46.add 1) = some (x58.val) ∧
 IxOk x58 n56 ∧
 ∃ q59 : Bool, w57.cell? ((elA x58 n56 1).add 0) = some (.bool q59) ∧
 (q59 = true →
 ∃ x60 : Sl, w57.cell? (a46.add 0) = some (x60.val) ∧
 IxOk x60 n56 ∧
 ∃ y61 : Vl, w57.cell? ((elA x60 n56 1).add 0) = some (y61.x) ∧
 Trip Tryz.prog 46 #[y61.x] w57 fun r62 w63 =>
 ∃ a64 : Addr, r62 = .pointer (some (a64.add 0)) ∧
 IxOk x1_4 n56 ∧
 ∃ n65 : Int, ∃ n66 : Int, ∃ n67 : Int, ∃ n68 : Int, ∃ x69 : Sl, ∃ x70 : Sl, (w63.cell? ((elA x1_4 n56 6).add 0) = some (.int .i64 n65) ∧
 w63.cell? ((elA x1_4 n56 6).add 1) = some (.int .i64 n66) ∧
 w63.cell? ((elA x1_4 n56 6).add 2) = some (.int .i64 n67) ∧
 w63.cell? ((elA x1_4 n56 6).add 3) = some (.int .i64 n68) ∧
 w63.cell? ((elA x1_4 n56 6).add 4) = some (x69.val) ∧
 w63.cell? ((elA x1_4 n56 6).add 5) = some (x70.val)) ∧
 Trip Tryz.prog 47 #[.pointer (some (a64.add 0)), .agg #[x0_0.val, x0_1.val], .agg #[x1_0.val, x1_1.val, .int .i64 n1_2, .int .i64 n1_3, x1_4.val], .agg #[.int .i64 n65, .int .i64 n66, .int .i64 n67, .int .i64 n68, x69.val, x70.val]] w63 fun r71 w72 =>
 ∃ q73 : Bool, r71 = .bool q73 ∧
 ((!q73) = false →
 Trip Tryz.prog 48 #[.pointer (some (a46.add 0)), .agg #[x0_0.val, x0_1.val], x1_4.val, .int .i64 n56, .pointer (some (a64.add 0))] w72 fun r74 w75 =>
 ∃ q76 : Bool, r74 = .bool q76 ∧
 ((!q76) = true →
 Q (.tuple #[.pointer (some (a46.add 0)), .bool false]) w75) ∧
 ((!q76) = false →
 ∃ n77 : Int, Wr .i64 (n56 + 1) n77 ∧
 ((.sl x0_0 : SV) = .sl x0_0) ∧
 ((.sl x0_1 : SV) = .sl x0_1) ∧
 ((.sl x1_0 : SV) = .sl x1_0) ∧
 ((.sl x1_1 : SV) = .sl x1_1) ∧
 ((.num .i64 n1_2 : SV) = .num .i64 n1_2) ∧
 ((.num .i64 n1_3 : SV) = .num .i64 n1_3) ∧
 ((.sl x1_4 : SV) = .sl x1_4) ∧
 I54 n77 w75 ∧
 m55 n77 w75 < m55 n56 w57)) ∧
 ((!q73) = true →
 Q (.tuple #[.pointer (some (a46.add 0)), .bool false]) w72)) ∧
 (q59 = false →
 ∃ n78 : Int, Wr .i64 (n56 + 1) n78 ∧
 ((.sl x0_0 : SV) = .sl x0_0) ∧
 ((.sl x0_1 : SV) = .sl x0_1) ∧
 ((.sl x1_0 : SV) = .sl x1_0) ∧
 ((.sl x1_1 : SV) = .sl x1_1) ∧
 ((.num .i64 n1_2 : SV) = .num .i64 n1_2) ∧
 ((.num .i64 n1_3 : SV) = .num .i64 n1_3) ∧
 ((.sl x1_4 : SV) = .sl x1_4) ∧
 I54 n78 w57 ∧
 m55 n78 w57 < m55 n56 w57)) ∧
 ((decide (n56 < (x1_4.n : Int))) = false →
 Q (.tuple #[.pointer (some (a46.add 0)), .bool true]) w57)
theorem of26 (x0_0 : Sl) (x0_1 : Sl) (x1_0 : Sl) (x1_1 : Sl) (n1_2 : Int) (n1_3 : Int) (x1_4 : Sl) (v : World) (Q : Value → World → Prop) (h : vc26 x0_0 x0_1 x1_0 x1_1 n1_2 n1_3 x1_4 v Q) : Trip Tryz.prog 26 #[.agg #[x0_0.val, x0_1.val], .agg #[x1_0.val, x1_1.val, .int .i64 n1_2, .int .i64 n1_3, x1_4.val]] v Q :=
 trip_of_eq (args := [.ag [.sl x0_0, .sl x0_1], .ag [.sl x1_0, .sl x1_1, .num .i64 n1_2, .num .i64 n1_3, .sl x1_4]]) (A := ⟨[(4, [(7, .int .i64)], [])], [], [(1, [3, 7]), (8, [])], [18], psG⟩) Tryz.func26 (by kernel_rfl) (by kernel_rfl) (by kernel_rfl : vc26 x0_0 x0_1 x1_0 x1_1 n1_2 n1_3 x1_4 v Q = _) h

def vc27 (x_0 : Sl) (v : World) (Q : Value → World → Prop) : Prop :=
 StepT Tryz.prog (Instr.makeSlice 28 (.int .i64 (x_0.n : Int)) (.int .i64 (x_0.n : Int))) v fun r1 w2 =>
 ∃ x3 : Sl, r1 = x3.val ∧
 ∃ I4 : Int → World → Prop, ∃ m5 : Int → World → Nat, I4 0 w2 ∧
 ∀ n6 : Int, ∀ w7 : World, I4 n6 w7 →
 ((decide (n6 < (x_0.n : Int))) = true →
 IxOk x_0 n6 ∧
 ∃ n8 : Int, ∃ n9 : Int, ∃ x10 : Sl, (w7.cell? ((elA x_0 n6 3).add 0) = some (.int .i64 n8) ∧
 w7.cell? ((elA x_0 n6 3).add 1) = some (.int .i64 n9) ∧
 w7.cell? ((elA x_0 n6 3).add 2) = some (x10.val)) ∧
 Trip Tryz.prog 49 #[.agg #[.int .i64 n8, .int .i64 n9, x10.val]] w7 fun r11 w12 =>
 ∃ n13 : Int, ∃ n14 : Int, ∃ x15 : Sl, r11 = .agg #[.int .i64 n13, .int .i64 n14, x15.val] ∧
 IxOk x3 n6 ∧
 StoreAt w12 (elA x3 n6 3) 0 [.int .i64 n13, .int .i64 n14, x15.val] fun w16 =>
 ∃ n17 : Int, Wr .i64 (n6 + 1) n17 ∧
 I4 n17 w16 ∧
 m5 n17 w16 < m5 n6 w7) ∧
 ((decide (n6 < (x_0.n : Int))) = false →
 Q (x3.val) w7)
theorem of27 (x_0 : Sl) (v : World) (Q : Value → World → Prop) (h : vc27 x_0 v Q) : Trip Tryz.prog 27 #[x_0.val] v Q :=
 trip_of_eq (args := [.sl x_0]) (A := ⟨[(3, [(4, .int .i64)], [])], [], [], [], psG⟩) Tryz.func27 (by kernel_rfl) (by kernel_rfl) (by kernel_rfl : vc27 x_0 v Q = _) h

def vc28 (x_0 : Sl) (v : World) (Q : Value → World → Prop) : Prop :=
 StepT Tryz.prog (Instr.makeSlice 29 (.int .i64 (x_0.n : Int)) (.int .i64 (x_0.n : Int))) v fun r1 w2 =>
 ∃ x3 : Sl, r1 = x3.val ∧
 ∃ I4 : Int → World → Prop, ∃ m5 : Int → World → Nat, I4 0 w2 ∧
 ∀ n6 : Int, ∀ w7 : World, I4 n6 w7 →
 ((decide (n6 < (x_0.n : Int))) = true →
 IxOk x_0 n6 ∧
 ∃ x8 : Sl, ∃ x9 : Sl, ∃ n10 : Int, ∃ n11 : Int, ∃ x12 : Sl, (w7.cell? ((elA x_0 n6 5).add 0) = some (x8.val) ∧
 w7.cell? ((elA x_0 n6 5).add 1) = some (x9.val) ∧
 w7.cell? ((elA x_0 n6 5).add 2) = some (.int .i64 n10) ∧
 w7.cell? ((elA x_0 n6 5).add 3) = some (.int .i64 n11) ∧
 w7.cell? ((elA x_0 n6 5).add 4) = some (x12.val)) ∧
 Trip Tryz.prog 50 #[.agg #[x8.val, x9.val, .int .i64 n10, .int .i64 n11, x12.val]] w7 fun r13 w14 =>
 ∃ x15 : Sl, ∃ x16 : Sl, ∃ n17 : Int, ∃ n18 : Int, ∃ x19 : Sl, r13 = .agg #[x15.val, x16.val, .int .i64 n17, .int .i64 n18, x19.val] ∧
 IxOk x3 n6 ∧
 StoreAt w14 (elA x3 n6 5) 0 [x15.val, x16.val, .int .i64 n17, .int .i64 n18, x19.val] fun w20 =>
 ∃ n21 : Int, Wr .i64 (n6 + 1) n21 ∧
 I4 n21 w20 ∧
 m5 n21 w20 < m5 n6 w7) ∧
 ((decide (n6 < (x_0.n : Int))) = false →
 Q (x3.val) w7)
theorem of28 (x_0 : Sl) (v : World) (Q : Value → World → Prop) (h : vc28 x_0 v Q) : Trip Tryz.prog 28 #[x_0.val] v Q :=
 trip_of_eq (args := [.sl x_0]) (A := ⟨[(3, [(4, .int .i64)], [])], [], [], [], psG⟩) Tryz.func28 (by kernel_rfl) (by kernel_rfl) (by kernel_rfl : vc28 x_0 v Q = _) h

def vc29 (x0_0 : Sl) (x0_1 : Sl) (v : World) (Q : Value → World → Prop) : Prop :=
 Trip Tryz.prog 51 #[.agg #[x0_0.val, x0_1.val]] v fun r1 w2 =>
 ∃ x3 : Sl, ∃ x4 : Sl, ∃ q5 : Bool, r1 = .tuple #[.agg #[x3.val, x4.val], .bool q5] ∧
 ((!q5) = true →
 Q (.bool false) w2) ∧
 ((!q5) = false →
 ∃ I6 : Int → World → Prop, ∃ m7 : Int → World → Nat, I6 0 w2 ∧
 ∀ n8 : Int, ∀ w9 : World, I6 n8 w9 →
 ((decide (n8 < (x0_1.n : Int))) = true →
 IxOk x0_1 n8 ∧
 ∃ x10 : Sl, ∃ x11 : Sl, ∃ n12 : Int, ∃ n13 : Int, ∃ x14 : Sl, (w9.cell? ((elA x0_1 n8 5).add 0) = some (x10.val) ∧
 w9.cell? ((elA x0_1 n8 5).add 1) = some (x11.val) ∧
 w9.cell? ((elA x0_1 n8 5).add 2) = some (.int .i64 n12) ∧
 w9.cell? ((elA x0_1 n8 5).add 3) = some (.int .i64 n13) ∧
 w9.cell? ((elA x0_1 n8 5).add 4) = some (x14.val)) ∧
 ∃ n15 : Int, PureT Tryz.prog (Builtin.max_ #[3, 3] 3 #[(.int .i64 1), (.int .i64 (x10.n : Int))]) w9 (.int .i64 n15) ∧
 (((((decide (n13 < n15)) || (decide (n13 > 2000))) || (decide ((x14.n : Int) < 1))) || (decide ((x14.n : Int) > 2000))) = true →
 Q (.bool false) w9) ∧
 (((((decide (n13 < n15)) || (decide (n13 > 2000))) || (decide ((x14.n : Int) < 1))) || (decide ((x14.n : Int) > 2000))) = false →
 ∃ n16 : Int, Wr .i64 ((x14.n : Int) - 1) n16 ∧
 IxOk x14 n16 ∧
 ∃ n17 : Int, w9.cell? ((elA x14 n16 6).add 0) = some (.int .i64 n17) ∧
 (((!decide (n17 = 23)) && (!decide (n17 = 24))) = true →
 Q (.bool false) w9) ∧
 (((!decide (n17 = 23)) && (!decide (n17 = 24))) = false →
 ∃ I18 : Int → World → Prop, ∃ m19 : Int → World → Nat, I18 0 w9 ∧
 ∀ n20 : Int, ∀ w21 : World, I18 n20 w21 →
 ((decide (n20 < (x14.n : Int))) = true →
 IxOk x14 n20 ∧
 ∃ n22 : Int, ∃ n23 : Int, ∃ n24 : Int, ∃ n25 : Int, ∃ x26 : Sl, ∃ x27 : Sl, (w21.cell? ((elA x14 n20 6).add 0) = some (.int .i64 n22) ∧
 w21.cell? ((elA x14 n20 6).add 1) = some (.int .i64 n23) ∧
 w21.cell? ((elA x14 n20 6).add 2) = some (.int .i64 n24) ∧
 w21.cell? ((elA x14 n20 6).add 3) = some (.int .i64 n25) ∧
 w21.cell? ((elA x14 n20 6).add 4) = some (x26.val) ∧
 w21.cell? ((elA x14 n20 6).add 5) = some (x27.val)) ∧
 ∃ q28 : Bool, (Trip Tryz.prog 52 #[.agg #[x3.val, x4.val], .agg #[x10.val, x11.val, .int .i64 n12, .int .i64 n13, x14.val], .int .i64 n20, .agg #[.int .i64 n22, .int .i64 n23, .int .i64 n24, .int .i64 n25, x26.val, x27.val]] w21 fun r29 w30 => r29 = .bool q28 ∧ Sub w21 w30) ∧
 ((!q28) = true →
 Q (.bool false) w21) ∧
 ((!q28) = false →
 ∃ n31 : Int, Wr .i64 (n20 + 1) n31 ∧
 ((.sl x0_0 : SV) = .sl x0_0) ∧
 ((.sl x0_1 : SV) = .sl x0_1) ∧
 ((.sl x3 : SV) = .sl x3) ∧
 ((.sl x4 : SV) = .sl x4) ∧
 ((.sl x10 : SV) = .sl x10) ∧
 ((.sl x11 : SV) = .sl x11) ∧
 ((.num .i64 n12 : SV) = .num .i64 n12) ∧
 ((.num .i64 n13 : SV) = .num .i64 n13) ∧
 ((.sl x14 : SV) = .sl x14) ∧
 I18 n31 w21 ∧
 m19 n31 w21 < m19 n20 w21)) ∧
 ((decide (n20 < (x14.n : Int))) = false →
 ∃ n32 : Int, Wr .i64 (n8 + 1) n32 ∧
 ((.sl x0_0 : SV) = .sl x0_0) ∧
 ((.sl x0_1 : SV) = .sl x0_1) ∧
 ((.sl x3 : SV) = .sl x3) ∧
 ((.sl x4 : SV) = .sl x4) ∧
 I6 n32 w21 ∧
 m7 n32 w21 < m7 n8 w9)))) ∧
 ((decide (n8 < (x0_1.n : Int))) = false →
 Q (.bool true) w9))
theorem of29 (x0_0 : Sl) (x0_1 : Sl) (v : World) (Q : Value → World → Prop) (h : vc29 x0_0 x0_1 v Q) : Trip Tryz.prog 29 #[.agg #[x0_0.val, x0_1.val]] v Q :=
 trip_of_eq (args := [.ag [.sl x0_0, .sl x0_1]]) (A := ⟨[(5, [(20, .int .i64)], []), (13, [(66, .int .i64)], [])], [], [], [], psG⟩) Tryz.func29 (by kernel_rfl) (by kernel_rfl) (by kernel_rfl : vc29 x0_0 x0_1 v Q = _) h

def vc30 (x0_0 : Sl) (x0_1 : Sl) (n_1 : Int) (v : World) (Q : Value → World → Prop) : Prop :=
 Trip Tryz.prog 51 #[.agg #[x0_0.val, x0_1.val]] v fun r1 w2 =>
 ∃ x3 : Sl, ∃ x4 : Sl, ∃ q5 : Bool, r1 = .tuple #[.agg #[x3.val, x4.val], .bool q5] ∧
 IxOk x0_1 n_1 ∧
 ∃ x6 : Sl, ∃ x7 : Sl, ∃ n8 : Int, ∃ n9 : Int, ∃ x10 : Sl, (w2.cell? ((elA x0_1 n_1 5).add 0) = some (x6.val) ∧
 w2.cell? ((elA x0_1 n_1 5).add 1) = some (x7.val) ∧
 w2.cell? ((elA x0_1 n_1 5).add 2) = some (.int .i64 n8) ∧
 w2.cell? ((elA x0_1 n_1 5).add 3) = some (.int .i64 n9) ∧
 w2.cell? ((elA x0_1 n_1 5).add 4) = some (x10.val)) ∧
 IxOk x0_1 n_1 ∧
 ∃ x11 : Sl, w2.cell? ((elA x0_1 n_1 5).add 4) = some (x11.val) ∧
 (StepT Tryz.prog (Instr.makeSlice 54 (.int .i64 (x11.n : Int)) (.int .i64 (x11.n : Int))) w2 fun r12 w13 =>
 ∃ x14 : Sl, r12 = x14.val ∧
 Sub w2 w13 ∧
 NewAt w13 (.cells #[.slice none 0 0, .slice none 0 0, .slice none 0 0, .slice none 0 0, .int .i64 0, .int .i64 0, .slice none 0 0, .slice none 0 0] 111 (0, 0)) fun a15 w16 =>
 Sub w13 w16 ∧
 StoreAt w16 a15 0 [x3.val, x4.val, x6.val, x7.val, .int .i64 n8, .int .i64 n9, x10.val, x14.val] fun w17 =>
 ∃ n18 : Int, w17.cell? (a15.add 5) = some (.int .i64 n18) ∧
 ∃ n19 : Int, w17.cell? (a15.add 5) = some (.int .i64 n19) ∧
 (StepT Tryz.prog (Instr.makeSlice 67 (.int .i64 n18) (.int .i64 n18)) w17 fun r20 w21 =>
 ∃ x22 : Sl, r20 = x22.val ∧
 Sub w17 w21 ∧
 StepT Tryz.prog (Instr.makeSlice 37 (.int .i64 n19) (.int .i64 n19)) w21 fun r23 w24 =>
 ∃ x25 : Sl, r23 = x25.val ∧
 Sub w21 w24 ∧
 NewAt w24 (.cells #[x22.val, x25.val] 69 (0, 0)) fun a26 w27 =>
 ∃ x28 : Sl, w27.cell? (a26.add 0) = some (x28.val) ∧
 ∃ I29 : Int → World → Prop, ∃ m30 : Int → World → Nat, I29 0 w27 ∧
 ∀ n31 : Int, ∀ w32 : World, I29 n31 w32 →
 ((decide (n31 < (x28.n : Int))) = true →
 ∃ x33 : Sl, w32.cell? (a26.add 0) = some (x33.val) ∧
 ∃ x34 : Sl, w32.cell? (a26.add 1) = some (x34.val) ∧
 Trip Tryz.prog 53 #[] w32 fun r35 w36 =>
 ∃ n37 : Int, ∃ n38 : Int, ∃ q39 : Bool, ∃ n40 : Int, ∃ n41 : Int, ∃ n42 : Int, r35 = .agg #[.int .i64 n37, .int .i64 n38, .bool q39, .int .i64 n40, .int .i64 n41, .int .i64 n42] ∧
 Sub w32 w36 ∧
 IxOk x33 n31 ∧
 StoreAt w36 (elA x33 n31 6) 0 [.int .i64 n37, .int .i64 n38, .bool q39, .int .i64 n40, .int .i64 n41, .int .i64 n42] fun w43 =>
 IxOk x34 n31 ∧
 StoreAt w43 (elA x34 n31 1) 0 [.int .i64 (-1)] fun w44 =>
 ∃ n45 : Int, Wr .i64 (n31 + 1) n45 ∧
 ((.sl x0_0 : SV) = .sl x0_0) ∧
 ((.sl x0_1 : SV) = .sl x0_1) ∧
 ((.sl x3 : SV) = .sl x3) ∧
 ((.sl x4 : SV) = .sl x4) ∧
 I29 n45 w44 ∧
 m30 n45 w44 < m30 n31 w32) ∧
 ((decide (n31 < (x28.n : Int))) = false →
 ∃ x46 : Sl, w32.cell? (a15.add 2) = some (x46.val) ∧
 ∃ I47 : Int → World → Prop, ∃ m48 : Int → World → Nat, I47 0 w32 ∧
 ∀ n49 : Int, ∀ w50 : World, I47 n49 w50 →
 ((decide (n49 < (x46.n : Int))) = true →
 IxOk x46 n49 ∧
 ∃ n51 : Int, w50.cell? ((elA x46 n49 1).add 0) = some (.int .i64 n51) ∧
 ∃ x52 : Sl, w50.cell? (a26.add 0) = some (x52.val) ∧
 IxOk x52 n49 ∧
 ∃ x53 : Sl, w50.cell? (a15.add 3) = some (x53.val) ∧
 ∃ q54 : Bool, (Trip Tryz.prog 54 #[x53.val, .int .i64 n49] w50 fun r55 w56 => r55 = .bool q54 ∧ Sub w50 w56) ∧
 StoreAt w50 (elA x52 n49 6) 0 [.int .i64 n51] fun w57 =>
 StoreAt w57 (elA x52 n49 6) 2 [.bool q54] fun w58 =>
 ∃ q59 : Bool, ((!decide (n51 = 0)) = true →
 w58.cell? ((elA x52 n49 6).add 2) = some (.bool q59)) ∧
 (((!decide (n51 = 0)) && (!q59)) = true →
 StoreAt w58 (elA x52 n49 6) 1 [.int .i64 1] fun w60 =>
 ∃ n61 : Int, Wr .i64 (n49 + 1) n61 ∧
 ((.sl x0_0 : SV) = .sl x0_0) ∧
 ((.sl x0_1 : SV) = .sl x0_1) ∧
 ((.sl x3 : SV) = .sl x3) ∧
 ((.sl x4 : SV) = .sl x4) ∧
 I47 n61 w60 ∧
 m48 n61 w60 < m48 n49 w50) ∧
 (((!decide (n51 = 0)) && (!q59)) = false →
 ∃ n62 : Int, Wr .i64 (n49 + 1) n62 ∧
 ((.sl x0_0 : SV) = .sl x0_0) ∧
 ((.sl x0_1 : SV) = .sl x0_1) ∧
 ((.sl x3 : SV) = .sl x3) ∧
 ((.sl x4 : SV) = .sl x4) ∧
 I47 n62 w58 ∧
 m48 n62 w58 < m48 n49 w50)) ∧
 ((decide (n49 < (x46.n : Int))) = false →
 ∃ x63 : Sl, w50.cell? (a15.add 7) = some (x63.val) ∧
 IxOk x63 0 ∧
 StoreAt w50 (elA x63 0 1) 0 [.pointer (some (a26.add 0))] fun w64 =>
 ∃ x65 : Sl, w64.cell? (a15.add 6) = some (x65.val) ∧
 ∃ I66 : Int → World → Prop, ∃ m67 : Int → World → Nat, I66 0 w64 ∧
 ∀ n68 : Int, ∀ w69 : World, I66 n68 w69 →
 ((decide (n68 < (x65.n : Int))) = true →
 ∃ x70 : Sl, w69.cell? (a15.add 7) = some (x70.val) ∧
 IxOk x70 n68 ∧
 ∃ y71 : Vl, w69.cell? ((elA x70 n68 1).add 0) = some (y71.x) ∧
 ∃ q72 : Bool, PureT Tryz.prog (do eqGuard .neq 65 (.tmp 122) (.const (.pointer none)) (y71.x) ((Vl.mk (Value.pointer none) rfl).x); binOp .neq 65 (y71.x) ((Vl.mk (Value.pointer none) rfl).x)) w69 (.bool q72) ∧
 (q72 = true →
 Trip Tryz.prog 55 #[.pointer (some (a15.add 0)), .int .i64 n68] w69 fun r73 w74 =>
 ∃ q75 : Bool, r73 = .bool q75 ∧
 ((!q75) = true →
 Q (.tuple #[.slice none 0 0, .bool false]) w74) ∧
 ((!q75) = false →
 ∃ n76 : Int, Wr .i64 (n68 + 1) n76 ∧
 ((.sl x0_0 : SV) = .sl x0_0) ∧
 ((.sl x0_1 : SV) = .sl x0_1) ∧
 ((.sl x3 : SV) = .sl x3) ∧
 ((.sl x4 : SV) = .sl x4) ∧
 I66 n76 w74 ∧
 m67 n76 w74 < m67 n68 w69)) ∧
 (q72 = false →
 ∃ n77 : Int, Wr .i64 (n68 + 1) n77 ∧
 ((.sl x0_0 : SV) = .sl x0_0) ∧
 ((.sl x0_1 : SV) = .sl x0_1) ∧
 ((.sl x3 : SV) = .sl x3) ∧
 ((.sl x4 : SV) = .sl x4) ∧
 I66 n77 w69 ∧
 m67 n77 w69 < m67 n68 w69)) ∧
 ((decide (n68 < (x65.n : Int))) = false →
 ∃ x78 : Sl, w69.cell? (a15.add 7) = some (x78.val) ∧
 Q (.tuple #[x78.val, .bool true]) w69)))) ∧
 StepT Tryz.prog (Instr.makeSlice 37 (.int .i64 n19) (.int .i64 n19)) w17 fun r79 w80 =>
 ∃ x81 : Sl, r79 = x81.val ∧
 Sub w17 w80 ∧
 StepT Tryz.prog (Instr.makeSlice 67 (.int .i64 n18) (.int .i64 n18)) w80 fun r82 w83 =>
 ∃ x84 : Sl, r82 = x84.val ∧
 Sub w80 w83 ∧
 NewAt w83 (.cells #[x84.val, x81.val] 69 (0, 0)) fun a85 w86 =>
 ∃ x87 : Sl, w86.cell? (a85.add 0) = some (x87.val) ∧
 ∃ I88 : Int → World → Prop, ∃ m89 : Int → World → Nat, I88 0 w86 ∧
 ∀ n90 : Int, ∀ w91 : World, I88 n90 w91 →
 ((decide (n90 < (x87.n : Int))) = true →
 ∃ x92 : Sl, w91.cell? (a85.add 0) = some (x92.val) ∧
 ∃ x93 : Sl, w91.cell? (a85.add 1) = some (x93.val) ∧
 Trip Tryz.prog 53 #[] w91 fun r94 w95 =>
 ∃ n96 : Int, ∃ n97 : Int, ∃ q98 : Bool, ∃ n99 : Int, ∃ n100 : Int, ∃ n101 : Int, r94 = .agg #[.int .i64 n96, .int .i64 n97, .bool q98, .int .i64 n99, .int .i64 n100, .int .i64 n101] ∧
 Sub w91 w95 ∧
 IxOk x92 n90 ∧
 StoreAt w95 (elA x92 n90 6) 0 [.int .i64 n96, .int .i64 n97, .bool q98, .int .i64 n99, .int .i64 n100, .int .i64 n101] fun w102 =>
 IxOk x93 n90 ∧
 StoreAt w102 (elA x93 n90 1) 0 [.int .i64 (-1)] fun w103 =>
 ∃ n104 : Int, Wr .i64 (n90 + 1) n104 ∧
 ((.sl x0_0 : SV) = .sl x0_0) ∧
 ((.sl x0_1 : SV) = .sl x0_1) ∧
 ((.sl x3 : SV) = .sl x3) ∧
 ((.sl x4 : SV) = .sl x4) ∧
 I88 n104 w103 ∧
 m89 n104 w103 < m89 n90 w91) ∧
 ((decide (n90 < (x87.n : Int))) = false →
 ∃ x105 : Sl, w91.cell? (a15.add 2) = some (x105.val) ∧
 ∃ I106 : Int → World → Prop, ∃ m107 : Int → World → Nat, I106 0 w91 ∧
 ∀ n108 : Int, ∀ w109 : World, I106 n108 w109 →
 ((decide (n108 < (x105.n : Int))) = true →
 IxOk x105 n108 ∧
 ∃ n110 : Int, w109.cell? ((elA x105 n108 1).add 0) = some (.int .i64 n110) ∧
 ∃ x111 : Sl, w109.cell? (a85.add 0) = some (x111.val) ∧
 IxOk x111 n108 ∧
 ∃ x112 : Sl, w109.cell? (a15.add 3) = some (x112.val) ∧
 ∃ q113 : Bool, (Trip Tryz.prog 54 #[x112.val, .int .i64 n108] w109 fun r114 w115 => r114 = .bool q113 ∧ Sub w109 w115) ∧
 StoreAt w109 (elA x111 n108 6) 0 [.int .i64 n110] fun w116 =>
 StoreAt w116 (elA x111 n108 6) 2 [.bool q113] fun w117 =>
 ∃ q118 : Bool, ((!decide (n110 = 0)) = true →
 w117.cell? ((elA x111 n108 6).add 2) = some (.bool q118)) ∧
 (((!decide (n110 = 0)) && (!q118)) = true →
 StoreAt w117 (elA x111 n108 6) 1 [.int .i64 1] fun w119 =>
 ∃ n120 : Int, Wr .i64 (n108 + 1) n120 ∧
 ((.sl x0_0 : SV) = .sl x0_0) ∧
 ((.sl x0_1 : SV) = .sl x0_1) ∧
 ((.sl x3 : SV) = .sl x3) ∧
 ((.sl x4 : SV) = .sl x4) ∧
 I106 n120 w119 ∧
 m107 n120 w119 < m107 n108 w109) ∧
 (((!decide (n110 = 0)) && (!q118)) = false →
 ∃ n121 : Int, Wr .i64 (n108 + 1) n121 ∧
 ((.sl x0_0 : SV) = .sl x0_0) ∧
 ((.sl x0_1 : SV) = .sl x0_1) ∧
 ((.sl x3 : SV) = .sl x3) ∧
 ((.sl x4 : SV) = .sl x4) ∧
 I106 n121 w117 ∧
 m107 n121 w117 < m107 n108 w109)) ∧
 ((decide (n108 < (x105.n : Int))) = false →
 ∃ x122 : Sl, w109.cell? (a15.add 7) = some (x122.val) ∧
 IxOk x122 0 ∧
 StoreAt w109 (elA x122 0 1) 0 [.pointer (some (a85.add 0))] fun w123 =>
 ∃ x124 : Sl, w123.cell? (a15.add 6) = some (x124.val) ∧
 ∃ I125 : Int → World → Prop, ∃ m126 : Int → World → Nat, I125 0 w123 ∧
 ∀ n127 : Int, ∀ w128 : World, I125 n127 w128 →
 ((decide (n127 < (x124.n : Int))) = true →
 ∃ x129 : Sl, w128.cell? (a15.add 7) = some (x129.val) ∧
 IxOk x129 n127 ∧
 ∃ y130 : Vl, w128.cell? ((elA x129 n127 1).add 0) = some (y130.x) ∧
 ∃ q131 : Bool, PureT Tryz.prog (do eqGuard .neq 65 (.tmp 122) (.const (.pointer none)) (y130.x) ((Vl.mk (Value.pointer none) rfl).x); binOp .neq 65 (y130.x) ((Vl.mk (Value.pointer none) rfl).x)) w128 (.bool q131) ∧
 (q131 = true →
 Trip Tryz.prog 55 #[.pointer (some (a15.add 0)), .int .i64 n127] w128 fun r132 w133 =>
 ∃ q134 : Bool, r132 = .bool q134 ∧
 ((!q134) = true →
 Q (.tuple #[.slice none 0 0, .bool false]) w133) ∧
 ((!q134) = false →
 ∃ n135 : Int, Wr .i64 (n127 + 1) n135 ∧
 ((.sl x0_0 : SV) = .sl x0_0) ∧
 ((.sl x0_1 : SV) = .sl x0_1) ∧
 ((.sl x3 : SV) = .sl x3) ∧
 ((.sl x4 : SV) = .sl x4) ∧
 I125 n135 w133 ∧
 m126 n135 w133 < m126 n127 w128)) ∧
 (q131 = false →
 ∃ n136 : Int, Wr .i64 (n127 + 1) n136 ∧
 ((.sl x0_0 : SV) = .sl x0_0) ∧
 ((.sl x0_1 : SV) = .sl x0_1) ∧
 ((.sl x3 : SV) = .sl x3) ∧
 ((.sl x4 : SV) = .sl x4) ∧
 I125 n136 w128 ∧
 m126 n136 w128 < m126 n127 w128)) ∧
 ((decide (n127 < (x124.n : Int))) = false →
 ∃ x137 : Sl, w128.cell? (a15.add 7) = some (x137.val) ∧
 Q (.tuple #[x137.val, .bool true]) w128)))) ∧
 NewAt w2 (.cells #[.slice none 0 0, .slice none 0 0, .slice none 0 0, .slice none 0 0, .int .i64 0, .int .i64 0, .slice none 0 0, .slice none 0 0] 111 (0, 0)) fun a138 w139 =>
 Sub w2 w139 ∧
 StepT Tryz.prog (Instr.makeSlice 54 (.int .i64 (x11.n : Int)) (.int .i64 (x11.n : Int))) w139 fun r140 w141 =>
 ∃ x142 : Sl, r140 = x142.val ∧
 Sub w139 w141 ∧
 StoreAt w141 a138 0 [x3.val, x4.val, x6.val, x7.val, .int .i64 n8, .int .i64 n9, x10.val, x142.val] fun w143 =>
 ∃ n144 : Int, w143.cell? (a138.add 5) = some (.int .i64 n144) ∧
 ∃ n145 : Int, w143.cell? (a138.add 5) = some (.int .i64 n145) ∧
 (StepT Tryz.prog (Instr.makeSlice 67 (.int .i64 n144) (.int .i64 n144)) w143 fun r146 w147 =>
 ∃ x148 : Sl, r146 = x148.val ∧
 Sub w143 w147 ∧
 StepT Tryz.prog (Instr.makeSlice 37 (.int .i64 n145) (.int .i64 n145)) w147 fun r149 w150 =>
 ∃ x151 : Sl, r149 = x151.val ∧
 Sub w147 w150 ∧
 NewAt w150 (.cells #[x148.val, x151.val] 69 (0, 0)) fun a152 w153 =>
 ∃ x154 : Sl, w153.cell? (a152.add 0) = some (x154.val) ∧
 ∃ I155 : Int → World → Prop, ∃ m156 : Int → World → Nat, I155 0 w153 ∧
 ∀ n157 : Int, ∀ w158 : World, I155 n157 w158 →
 ((decide (n157 < (x154.n : Int))) = true →
 ∃ x159 : Sl, w158.cell? (a152.add 0) = some (x159.val) ∧
 ∃ x160 : Sl, w158.cell? (a152.add 1) = some (x160.val) ∧
 Trip Tryz.prog 53 #[] w158 fun r161 w162 =>
 ∃ n163 : Int, ∃ n164 : Int, ∃ q165 : Bool, ∃ n166 : Int, ∃ n167 : Int, ∃ n168 : Int, r161 = .agg #[.int .i64 n163, .int .i64 n164, .bool q165, .int .i64 n166, .int .i64 n167, .int .i64 n168] ∧
 Sub w158 w162 ∧
 IxOk x159 n157 ∧
 StoreAt w162 (elA x159 n157 6) 0 [.int .i64 n163, .int .i64 n164, .bool q165, .int .i64 n166, .int .i64 n167, .int .i64 n168] fun w169 =>
 IxOk x160 n157 ∧
 StoreAt w169 (elA x160 n157 1) 0 [.int .i64 (-1)] fun w170 =>
 ∃ n171 : Int, Wr .i64 (n157 + 1) n171 ∧
 ((.sl x0_0 : SV) = .sl x0_0) ∧
 ((.sl x0_1 : SV) = .sl x0_1) ∧
 ((.sl x3 : SV) = .sl x3) ∧
 ((.sl x4 : SV) = .sl x4) ∧
 I155 n171 w170 ∧
 m156 n171 w170 < m156 n157 w158) ∧
 ((decide (n157 < (x154.n : Int))) = false →
 ∃ x172 : Sl, w158.cell? (a138.add 2) = some (x172.val) ∧
 ∃ I173 : Int → World → Prop, ∃ m174 : Int → World → Nat, I173 0 w158 ∧
 ∀ n175 : Int, ∀ w176 : World, I173 n175 w176 →
 ((decide (n175 < (x172.n : Int))) = true →
 IxOk x172 n175 ∧
 ∃ n177 : Int, w176.cell? ((elA x172 n175 1).add 0) = some (.int .i64 n177) ∧
 ∃ x178 : Sl, w176.cell? (a152.add 0) = some (x178.val) ∧
 IxOk x178 n175 ∧
 ∃ x179 : Sl, w176.cell? (a138.add 3) = some (x179.val) ∧
 ∃ q180 : Bool, (Trip Tryz.prog 54 #[x179.val, .int .i64 n175] w176 fun r181 w182 => r181 = .bool q180 ∧ Sub w176 w182) ∧
 StoreAt w176 (elA x178 n175 6) 0 [.int .i64 n177] fun w183 =>
 StoreAt w183 (elA x178 n175 6) 2 [.bool q180] fun w184 =>
 ∃ q185 : Bool, ((!decide (n177 = 0)) = true →
 w184.cell? ((elA x178 n175 6).add 2) = some (.bool q185)) ∧
 (((!decide (n177 = 0)) && (!q185)) = true →
 StoreAt w184 (elA x178 n175 6) 1 [.int .i64 1] fun w186 =>
 ∃ n187 : Int, Wr .i64 (n175 + 1) n187 ∧
 ((.sl x0_0 : SV) = .sl x0_0) ∧
 ((.sl x0_1 : SV) = .sl x0_1) ∧
 ((.sl x3 : SV) = .sl x3) ∧
 ((.sl x4 : SV) = .sl x4) ∧
 I173 n187 w186 ∧
 m174 n187 w186 < m174 n175 w176) ∧
 (((!decide (n177 = 0)) && (!q185)) = false →
 ∃ n188 : Int, Wr .i64 (n175 + 1) n188 ∧
 ((.sl x0_0 : SV) = .sl x0_0) ∧
 ((.sl x0_1 : SV) = .sl x0_1) ∧
 ((.sl x3 : SV) = .sl x3) ∧
 ((.sl x4 : SV) = .sl x4) ∧
 I173 n188 w184 ∧
 m174 n188 w184 < m174 n175 w176)) ∧
 ((decide (n175 < (x172.n : Int))) = false →
 ∃ x189 : Sl, w176.cell? (a138.add 7) = some (x189.val) ∧
 IxOk x189 0 ∧
 StoreAt w176 (elA x189 0 1) 0 [.pointer (some (a152.add 0))] fun w190 =>
 ∃ x191 : Sl, w190.cell? (a138.add 6) = some (x191.val) ∧
 ∃ I192 : Int → World → Prop, ∃ m193 : Int → World → Nat, I192 0 w190 ∧
 ∀ n194 : Int, ∀ w195 : World, I192 n194 w195 →
 ((decide (n194 < (x191.n : Int))) = true →
 ∃ x196 : Sl, w195.cell? (a138.add 7) = some (x196.val) ∧
 IxOk x196 n194 ∧
 ∃ y197 : Vl, w195.cell? ((elA x196 n194 1).add 0) = some (y197.x) ∧
 ∃ q198 : Bool, PureT Tryz.prog (do eqGuard .neq 65 (.tmp 122) (.const (.pointer none)) (y197.x) ((Vl.mk (Value.pointer none) rfl).x); binOp .neq 65 (y197.x) ((Vl.mk (Value.pointer none) rfl).x)) w195 (.bool q198) ∧
 (q198 = true →
 Trip Tryz.prog 55 #[.pointer (some (a138.add 0)), .int .i64 n194] w195 fun r199 w200 =>
 ∃ q201 : Bool, r199 = .bool q201 ∧
 ((!q201) = true →
 Q (.tuple #[.slice none 0 0, .bool false]) w200) ∧
 ((!q201) = false →
 ∃ n202 : Int, Wr .i64 (n194 + 1) n202 ∧
 ((.sl x0_0 : SV) = .sl x0_0) ∧
 ((.sl x0_1 : SV) = .sl x0_1) ∧
 ((.sl x3 : SV) = .sl x3) ∧
 ((.sl x4 : SV) = .sl x4) ∧
 I192 n202 w200 ∧
 m193 n202 w200 < m193 n194 w195)) ∧
 (q198 = false →
 ∃ n203 : Int, Wr .i64 (n194 + 1) n203 ∧
 ((.sl x0_0 : SV) = .sl x0_0) ∧
 ((.sl x0_1 : SV) = .sl x0_1) ∧
 ((.sl x3 : SV) = .sl x3) ∧
 ((.sl x4 : SV) = .sl x4) ∧
 I192 n203 w195 ∧
 m193 n203 w195 < m193 n194 w195)) ∧
 ((decide (n194 < (x191.n : Int))) = false →
 ∃ x204 : Sl, w195.cell? (a138.add 7) = some (x204.val) ∧
 Q (.tuple #[x204.val, .bool true]) w195)))) ∧
 StepT Tryz.prog (Instr.makeSlice 37 (.int .i64 n145) (.int .i64 n145)) w143 fun r205 w206 =>
 ∃ x207 : Sl, r205 = x207.val ∧
 Sub w143 w206 ∧
 StepT Tryz.prog (Instr.makeSlice 67 (.int .i64 n144) (.int .i64 n144)) w206 fun r208 w209 =>
 ∃ x210 : Sl, r208 = x210.val ∧
 Sub w206 w209 ∧
 NewAt w209 (.cells #[x210.val, x207.val] 69 (0, 0)) fun a211 w212 =>
 ∃ x213 : Sl, w212.cell? (a211.add 0) = some (x213.val) ∧
 ∃ I214 : Int → World → Prop, ∃ m215 : Int → World → Nat, I214 0 w212 ∧
 ∀ n216 : Int, ∀ w217 : World, I214 n216 w217 →
 ((decide (n216 < (x213.n : Int))) = true →
 ∃ x218 : Sl, w217.cell? (a211.add 0) = some (x218.val) ∧
 ∃ x219 : Sl, w217.cell? (a211.add 1) = some (x219.val) ∧
 Trip Tryz.prog 53 #[] w217 fun r220 w221 =>
 ∃ n222 : Int, ∃ n223 : Int, ∃ q224 : Bool, ∃ n225 : Int, ∃ n226 : Int, ∃ n227 : Int, r220 = .agg #[.int .i64 n222, .int .i64 n223, .bool q224, .int .i64 n225, .int .i64 n226, .int .i64 n227] ∧
 Sub w217 w221 ∧
 IxOk x218 n216 ∧
 StoreAt w221 (elA x218 n216 6) 0 [.int .i64 n222, .int .i64 n223, .bool q224, .int .i64 n225, .int .i64 n226, .int .i64 n227] fun w228 =>
 IxOk x219 n216 ∧
 StoreAt w228 (elA x219 n216 1) 0 [.int .i64 (-1)] fun w229 =>
 ∃ n230 : Int, Wr .i64 (n216 + 1) n230 ∧
 ((.sl x0_0 : SV) = .sl x0_0) ∧
 ((.sl x0_1 : SV) = .sl x0_1) ∧
 ((.sl x3 : SV) = .sl x3) ∧
 ((.sl x4 : SV) = .sl x4) ∧
 I214 n230 w229 ∧
 m215 n230 w229 < m215 n216 w217) ∧
 ((decide (n216 < (x213.n : Int))) = false →
 ∃ x231 : Sl, w217.cell? (a138.add 2) = some (x231.val) ∧
 ∃ I232 : Int → World → Prop, ∃ m233 : Int → World → Nat, I232 0 w217 ∧
 ∀ n234 : Int, ∀ w235 : World, I232 n234 w235 →
 ((decide (n234 < (x231.n : Int))) = true →
 IxOk x231 n234 ∧
 ∃ n236 : Int, w235.cell? ((elA x231 n234 1).add 0) = some (.int .i64 n236) ∧
 ∃ x237 : Sl, w235.cell? (a211.add 0) = some (x237.val) ∧
 IxOk x237 n234 ∧
 ∃ x238 : Sl, w235.cell? (a138.add 3) = some (x238.val) ∧
 ∃ q239 : Bool, (Trip Tryz.prog 54 #[x238.val, .int .i64 n234] w235 fun r240 w241 => r240 = .bool q239 ∧ Sub w235 w241) ∧
 StoreAt w235 (elA x237 n234 6) 0 [.int .i64 n236] fun w242 =>
 StoreAt w242 (elA x237 n234 6) 2 [.bool q239] fun w243 =>
 ∃ q244 : Bool, ((!decide (n236 = 0)) = true →
 w243.cell? ((elA x237 n234 6).add 2) = some (.bool q244)) ∧
 (((!decide (n236 = 0)) && (!q244)) = true →
 StoreAt w243 (elA x237 n234 6) 1 [.int .i64 1] fun w245 =>
 ∃ n246 : Int, Wr .i64 (n234 + 1) n246 ∧
 ((.sl x0_0 : SV) = .sl x0_0) ∧
 ((.sl x0_1 : SV) = .sl x0_1) ∧
 ((.sl x3 : SV) = .sl x3) ∧
 ((.sl x4 : SV) = .sl x4) ∧
 I232 n246 w245 ∧
 m233 n246 w245 < m233 n234 w235) ∧
 (((!decide (n236 = 0)) && (!q244)) = false →
 ∃ n247 : Int, Wr .i64 (n234 + 1) n247 ∧
 ((.sl x0_0 : SV) = .sl x0_0) ∧
 ((.sl x0_1 : SV) = .sl x0_1) ∧
 ((.sl x3 : SV) = .sl x3) ∧
 ((.sl x4 : SV) = .sl x4) ∧
 I232 n247 w243 ∧
 m233 n247 w243 < m233 n234 w235)) ∧
 ((decide (n234 < (x231.n : Int))) = false →
 ∃ x248 : Sl, w235.cell? (a138.add 7) = some (x248.val) ∧
 IxOk x248 0 ∧
 StoreAt w235 (elA x248 0 1) 0 [.pointer (some (a211.add 0))] fun w249 =>
 ∃ x250 : Sl, w249.cell? (a138.add 6) = some (x250.val) ∧
 ∃ I251 : Int → World → Prop, ∃ m252 : Int → World → Nat, I251 0 w249 ∧
 ∀ n253 : Int, ∀ w254 : World, I251 n253 w254 →
 ((decide (n253 < (x250.n : Int))) = true →
 ∃ x255 : Sl, w254.cell? (a138.add 7) = some (x255.val) ∧
 IxOk x255 n253 ∧
 ∃ y256 : Vl, w254.cell? ((elA x255 n253 1).add 0) = some (y256.x) ∧
 ∃ q257 : Bool, PureT Tryz.prog (do eqGuard .neq 65 (.tmp 122) (.const (.pointer none)) (y256.x) ((Vl.mk (Value.pointer none) rfl).x); binOp .neq 65 (y256.x) ((Vl.mk (Value.pointer none) rfl).x)) w254 (.bool q257) ∧
 (q257 = true →
 Trip Tryz.prog 55 #[.pointer (some (a138.add 0)), .int .i64 n253] w254 fun r258 w259 =>
 ∃ q260 : Bool, r258 = .bool q260 ∧
 ((!q260) = true →
 Q (.tuple #[.slice none 0 0, .bool false]) w259) ∧
 ((!q260) = false →
 ∃ n261 : Int, Wr .i64 (n253 + 1) n261 ∧
 ((.sl x0_0 : SV) = .sl x0_0) ∧
 ((.sl x0_1 : SV) = .sl x0_1) ∧
 ((.sl x3 : SV) = .sl x3) ∧
 ((.sl x4 : SV) = .sl x4) ∧
 I251 n261 w259 ∧
 m252 n261 w259 < m252 n253 w254)) ∧
 (q257 = false →
 ∃ n262 : Int, Wr .i64 (n253 + 1) n262 ∧
 ((.sl x0_0 : SV) = .sl x0_0) ∧
 ((.sl x0_1 : SV) = .sl x0_1) ∧
 ((.sl x3 : SV) = .sl x3) ∧
 ((.sl x4 : SV) = .sl x4) ∧
 I251 n262 w254 ∧
 m252 n262 w254 < m252 n253 w254)) ∧
 ((decide (n253 < (x250.n : Int))) = false →
 ∃ x263 : Sl, w254.cell? (a138.add 7) = some (x263.val) ∧
 Q (.tuple #[x263.val, .bool true]) w254)))
theorem of30 (x0_0 : Sl) (x0_1 : Sl) (n_1 : Int) (v : World) (Q : Value → World → Prop) (h : vc30 x0_0 x0_1 n_1 v Q) : Trip Tryz.prog 30 #[.agg #[x0_0.val, x0_1.val], .int .i64 n_1] v Q :=
 trip_of_eq (args := [.ag [.sl x0_0, .sl x0_1], .num .i64 n_1]) (A := ⟨[(5, [(50, .int .i64)], []), (10, [(71, .int .i64)], []), (19, [(115, .int .i64)], [])], [], [(2, [13, 15]), (3, [3, 7]), (7, [10])], [999999, 44, 8], psG⟩) Tryz.func30 (by kernel_rfl) (by kernel_rfl) (by kernel_rfl : vc30 x0_0 x0_1 n_1 v Q = _) h

def vc31 (x_0 : Sl) (x_1 : Sl) (v : World) (Q : Value → World → Prop) : Prop :=
 ((!decide ((x_0.n : Int) = (x_1.n : Int))) = true →
 Q (.bool false) v) ∧
 ((!decide ((x_0.n : Int) = (x_1.n : Int))) = false →
 ∃ I1 : Int → World → Prop, ∃ m2 : Int → World → Nat, I1 0 v ∧
 ∀ n3 : Int, ∀ w4 : World, I1 n3 w4 →
 ((decide (n3 < (x_0.n : Int))) = true →
 IxOk x_0 n3 ∧
 ∃ n5 : Int, ∃ n6 : Int, ∃ x7 : Sl, (w4.cell? ((elA x_0 n3 3).add 0) = some (.int .i64 n5) ∧
 w4.cell? ((elA x_0 n3 3).add 1) = some (.int .i64 n6) ∧
 w4.cell? ((elA x_0 n3 3).add 2) = some (x7.val)) ∧
 IxOk x_1 n3 ∧
 ∃ n8 : Int, ∃ n9 : Int, ∃ x10 : Sl, (w4.cell? ((elA x_1 n3 3).add 0) = some (.int .i64 n8) ∧
 w4.cell? ((elA x_1 n3 3).add 1) = some (.int .i64 n9) ∧
 w4.cell? ((elA x_1 n3 3).add 2) = some (x10.val)) ∧
 ∃ q11 : Bool, (Trip Tryz.prog 56 #[.agg #[.int .i64 n5, .int .i64 n6, x7.val], .agg #[.int .i64 n8, .int .i64 n9, x10.val]] w4 fun r12 w13 => r12 = .bool q11 ∧ Sub w4 w13) ∧
 ((!q11) = true →
 Q (.bool false) w4) ∧
 ((!q11) = false →
 ∃ n14 : Int, Wr .i64 (n3 + 1) n14 ∧
 I1 n14 w4 ∧
 m2 n14 w4 < m2 n3 w4)) ∧
 ((decide (n3 < (x_0.n : Int))) = false →
 Q (.bool true) w4))
theorem of31 (x_0 : Sl) (x_1 : Sl) (v : World) (Q : Value → World → Prop) (h : vc31 x_0 x_1 v Q) : Trip Tryz.prog 31 #[x_0.val, x_1.val] v Q :=
 trip_of_eq (args := [.sl x_0, .sl x_1]) (A := ⟨[(4, [(5, .int .i64)], [])], [], [], [], psG⟩) Tryz.func31 (by kernel_rfl) (by kernel_rfl) (by kernel_rfl : vc31 x_0 x_1 v Q = _) h

def vc32 (x_0 : Sl) (x_1 : Sl) (v : World) (Q : Value → World → Prop) : Prop :=
 ((!decide ((x_0.n : Int) = (x_1.n : Int))) = true →
 Q (.bool false) v) ∧
 ((!decide ((x_0.n : Int) = (x_1.n : Int))) = false →
 ∃ I1 : Int → World → Prop, ∃ m2 : Int → World → Nat, I1 0 v ∧
 ∀ n3 : Int, ∀ w4 : World, I1 n3 w4 →
 ((decide (n3 < (x_0.n : Int))) = true →
 IxOk x_0 n3 ∧
 ∃ x5 : Sl, ∃ x6 : Sl, ∃ n7 : Int, ∃ n8 : Int, ∃ x9 : Sl, (w4.cell? ((elA x_0 n3 5).add 0) = some (x5.val) ∧
 w4.cell? ((elA x_0 n3 5).add 1) = some (x6.val) ∧
 w4.cell? ((elA x_0 n3 5).add 2) = some (.int .i64 n7) ∧
 w4.cell? ((elA x_0 n3 5).add 3) = some (.int .i64 n8) ∧
 w4.cell? ((elA x_0 n3 5).add 4) = some (x9.val)) ∧
 IxOk x_1 n3 ∧
 ∃ x10 : Sl, ∃ x11 : Sl, ∃ n12 : Int, ∃ n13 : Int, ∃ x14 : Sl, (w4.cell? ((elA x_1 n3 5).add 0) = some (x10.val) ∧
 w4.cell? ((elA x_1 n3 5).add 1) = some (x11.val) ∧
 w4.cell? ((elA x_1 n3 5).add 2) = some (.int .i64 n12) ∧
 w4.cell? ((elA x_1 n3 5).add 3) = some (.int .i64 n13) ∧
 w4.cell? ((elA x_1 n3 5).add 4) = some (x14.val)) ∧
 ∃ q15 : Bool, (Trip Tryz.prog 57 #[.agg #[x5.val, x6.val, .int .i64 n7, .int .i64 n8, x9.val], .agg #[x10.val, x11.val, .int .i64 n12, .int .i64 n13, x14.val]] w4 fun r16 w17 => r16 = .bool q15 ∧ Sub w4 w17) ∧
 ((!q15) = true →
 Q (.bool false) w4) ∧
 ((!q15) = false →
 ∃ n18 : Int, Wr .i64 (n3 + 1) n18 ∧
 I1 n18 w4 ∧
 m2 n18 w4 < m2 n3 w4)) ∧
 ((decide (n3 < (x_0.n : Int))) = false →
 Q (.bool true) w4))
theorem of32 (x_0 : Sl) (x_1 : Sl) (v : World) (Q : Value → World → Prop) (h : vc32 x_0 x_1 v Q) : Trip Tryz.prog 32 #[x_0.val, x_1.val] v Q :=
 trip_of_eq (args := [.sl x_0, .sl x_1]) (A := ⟨[(4, [(5, .int .i64)], [])], [], [], [], psG⟩) Tryz.func32 (by kernel_rfl) (by kernel_rfl) (by kernel_rfl : vc32 x_0 x_1 v Q = _) h

def vc33 (x0_0 : Sl) (x0_1 : Sl) (v : World) (Q : Value → World → Prop) : Prop :=
 ∃ q1 : Bool, (Trip Tryz.prog 24 #[.agg #[x0_0.val, x0_1.val]] v fun r2 w3 => r2 = .bool q1 ∧ Sub v w3) ∧
 ((!q1) = true →
 Q (.bool false) v) ∧
 ((!q1) = false →
 ∃ I4 : Int → World → Prop, ∃ m5 : Int → World → Nat, I4 0 v ∧
 ∀ n6 : Int, ∀ w7 : World, I4 n6 w7 →
 ((decide (n6 < (x0_1.n : Int))) = true →
 IxOk x0_1 n6 ∧
 ∃ x8 : Sl, ∃ x9 : Sl, ∃ n10 : Int, ∃ n11 : Int, ∃ x12 : Sl, (w7.cell? ((elA x0_1 n6 5).add 0) = some (x8.val) ∧
 w7.cell? ((elA x0_1 n6 5).add 1) = some (x9.val) ∧
 w7.cell? ((elA x0_1 n6 5).add 2) = some (.int .i64 n10) ∧
 w7.cell? ((elA x0_1 n6 5).add 3) = some (.int .i64 n11) ∧
 w7.cell? ((elA x0_1 n6 5).add 4) = some (x12.val)) ∧
 Trip Tryz.prog 26 #[.agg #[x0_0.val, x0_1.val], .agg #[x8.val, x9.val, .int .i64 n10, .int .i64 n11, x12.val]] w7 fun r13 w14 =>
 ∃ a15 : Addr, ∃ q16 : Bool, r13 = .tuple #[.pointer (some (a15.add 0)), .bool q16] ∧
 ((!q16) = true →
 Q (.bool false) w14) ∧
 ((!q16) = false →
 ∃ n17 : Int, Wr .i64 (n6 + 1) n17 ∧
 ((.sl x0_0 : SV) = .sl x0_0) ∧
 ((.sl x0_1 : SV) = .sl x0_1) ∧
 I4 n17 w14 ∧
 m5 n17 w14 < m5 n6 w7)) ∧
 ((decide (n6 < (x0_1.n : Int))) = false →
 Q (.bool true) w7))
theorem of33 (x0_0 : Sl) (x0_1 : Sl) (v : World) (Q : Value → World → Prop) (h : vc33 x0_0 x0_1 v Q) : Trip Tryz.prog 33 #[.agg #[x0_0.val, x0_1.val]] v Q :=
 trip_of_eq (args := [.ag [.sl x0_0, .sl x0_1]]) (A := ⟨[(4, [(3, .int .i64)], [])], [], [(6, [])], [], psG⟩) Tryz.func33 (by kernel_rfl) (by kernel_rfl) (by kernel_rfl : vc33 x0_0 x0_1 v Q = _) h

def vc34 (x0_0 : Sl) (x0_1 : Sl) (n_1 : Int) (n_2 : Int) (v : World) (Q : Value → World → Prop) : Prop :=
 Trip Tryz.prog 33 #[.agg #[x0_0.val, x0_1.val]] v fun r1 w2 =>
 ∃ q3 : Bool, r1 = .bool q3 ∧
 ∃ n4 : Int, ((!q3) = false →
 Wr .i64 ((x0_1.n : Int) - 1) n4) ∧
 ∃ q5 : Bool, ((!q3) = false →
 (Trip Tryz.prog 25 #[.int .i64 n_1, .int .i64 0, .int .i64 n4] w2 fun r6 w7 => r6 = .bool q5 ∧ Sub w2 w7)) ∧
 (((!q3) || (!q5)) = false →
 IxOk x0_1 n_1) ∧
 ∃ x8 : Sl, (((!q3) || (!q5)) = false →
 w2.cell? ((elA x0_1 n_1 5).add 4) = some (x8.val)) ∧
 ∃ n9 : Int, (((!q3) || (!q5)) = false →
 Wr .i64 ((x8.n : Int) - 1) n9) ∧
 ∃ q10 : Bool, (((!q3) || (!q5)) = false →
 (Trip Tryz.prog 25 #[.int .i64 n_2, .int .i64 0, .int .i64 n9] w2 fun r11 w12 => r11 = .bool q10 ∧ Sub w2 w12)) ∧
 ((((!q3) || (!q5)) || (!q10)) = true →
 NewAt w2 (.cells #[.slice none 0 0, .slice none 0 0, .slice none 0 0, .slice none 0 0, .slice none 0 0, .slice none 0 0, .slice none 0 0] 64 (0, 0)) fun a13 w14 =>
 Q (.tuple #[.pointer (some (a13.add 0)), .bool false]) w14) ∧
 ((((!q3) || (!q5)) || (!q10)) = false →
 IxOk x0_1 n_1 ∧
 ∃ x15 : Sl, ∃ x16 : Sl, ∃ n17 : Int, ∃ n18 : Int, ∃ x19 : Sl, (w2.cell? ((elA x0_1 n_1 5).add 0) = some (x15.val) ∧
 w2.cell? ((elA x0_1 n_1 5).add 1) = some (x16.val) ∧
 w2.cell? ((elA x0_1 n_1 5).add 2) = some (.int .i64 n17) ∧
 w2.cell? ((elA x0_1 n_1 5).add 3) = some (.int .i64 n18) ∧
 w2.cell? ((elA x0_1 n_1 5).add 4) = some (x19.val)) ∧
 Trip Tryz.prog 26 #[.agg #[x0_0.val, x0_1.val], .agg #[x15.val, x16.val, .int .i64 n17, .int .i64 n18, x19.val]] w2 fun r20 w21 =>
 ∃ a22 : Addr, ∃ q23 : Bool, r20 = .tuple #[.pointer (some (a22.add 0)), .bool q23] ∧
 ∃ x24 : Sl, w21.cell? (a22.add 0) = some (x24.val) ∧
 IxOk x24 n_2 ∧
 ∃ y25 : Vl, w21.cell? ((elA x24 n_2 1).add 0) = some (y25.x) ∧
 ∃ x26 : Sl, w21.cell? (a22.add 1) = some (x26.val) ∧
 IxOk x26 n_2 ∧
 ∃ q27 : Bool, w21.cell? ((elA x26 n_2 1).add 0) = some (.bool q27) ∧
 Q (.tuple #[y25.x, .bool q27]) w21)
theorem of34 (x0_0 : Sl) (x0_1 : Sl) (n_1 : Int) (n_2 : Int) (v : World) (Q : Value → World → Prop) (h : vc34 x0_0 x0_1 n_1 n_2 v Q) : Trip Tryz.prog 34 #[.agg #[x0_0.val, x0_1.val], .int .i64 n_1, .int .i64 n_2] v Q :=
 trip_of_eq (args := [.ag [.sl x0_0, .sl x0_1], .num .i64 n_1, .num .i64 n_2]) (A := ⟨[], [], [(3, [])], [36], psG⟩) Tryz.func34 (by kernel_rfl) (by kernel_rfl) (by kernel_rfl : vc34 x0_0 x0_1 n_1 n_2 v Q = _) h

def vc35 (x_0 : Sl) (v : World) (Q : Value → World → Prop) : Prop :=
 StepT Tryz.prog (Instr.buildSlice 37 0 #[]) v fun r1 w2 =>
 ∃ x3 : Sl, r1 = x3.val ∧
 StepT Tryz.prog (Builtin.append_ #[37, 37] 37 #[(x3.val), (x_0.val)]) w2 fun r4 w5 =>
 ∃ x6 : Sl, r4 = x6.val ∧
 Q (x6.val) w5
theorem of35 (x_0 : Sl) (v : World) (Q : Value → World → Prop) (h : vc35 x_0 v Q) : Trip Tryz.prog 35 #[x_0.val] v Q :=
 trip_of_eq (args := [.sl x_0]) (A := ⟨[], [], [], [], psG⟩) Tryz.func35 (by kernel_rfl) (by kernel_rfl) (by kernel_rfl : vc35 x_0 v Q = _) h

def vc36 (x0_0 : Sl) (x0_1 : Sl) (n_1 : Int) (n_2 : Int) (v : World) (Q : Value → World → Prop) : Prop :=
 Trip Tryz.prog 13 #[.agg #[x0_0.val, x0_1.val]] v fun r1 w2 =>
 ∃ q3 : Bool, r1 = .bool q3 ∧
 (((((!q3) || (decide (n_1 < 0))) || (decide (n_1 ≥ (x0_1.n : Int)))) || (decide (n_2 < 0))) = false →
 IxOk x0_1 n_1) ∧
 ∃ x4 : Sl, (((((!q3) || (decide (n_1 < 0))) || (decide (n_1 ≥ (x0_1.n : Int)))) || (decide (n_2 < 0))) = false →
 w2.cell? ((elA x0_1 n_1 5).add 4) = some (x4.val)) ∧
 ((((((!q3) || (decide (n_1 < 0))) || (decide (n_1 ≥ (x0_1.n : Int)))) || (decide (n_2 < 0))) || (decide (n_2 ≥ (x4.n : Int)))) = true →
 Q ((Vl.mk (Value.pointer none) rfl).x) w2) ∧
 ((((((!q3) || (decide (n_1 < 0))) || (decide (n_1 ≥ (x0_1.n : Int)))) || (decide (n_2 < 0))) || (decide (n_2 ≥ (x4.n : Int)))) = false →
 Trip Tryz.prog 30 #[.agg #[x0_0.val, x0_1.val], .int .i64 n_1] w2 fun r5 w6 =>
 ∃ x7 : Sl, ∃ q8 : Bool, r5 = .tuple #[x7.val, .bool q8] ∧
 IxOk x7 n_2 ∧
 ∃ y9 : Vl, w6.cell? ((elA x7 n_2 1).add 0) = some (y9.x) ∧
 Q (y9.x) w6)
theorem of36 (x0_0 : Sl) (x0_1 : Sl) (n_1 : Int) (n_2 : Int) (v : World) (Q : Value → World → Prop) (h : vc36 x0_0 x0_1 n_1 n_2 v Q) : Trip Tryz.prog 36 #[.agg #[x0_0.val, x0_1.val], .int .i64 n_1, .int .i64 n_2] v Q :=
 trip_of_eq (args := [.ag [.sl x0_0, .sl x0_1], .num .i64 n_1, .num .i64 n_2]) (A := ⟨[], [], [], [], psG⟩) Tryz.func36 (by kernel_rfl) (by kernel_rfl) (by kernel_rfl : vc36 x0_0 x0_1 n_1 n_2 v Q = _) h

def vc37 (x_0 : Sl) (n_1 : Int) (v : World) (Q : Value → World → Prop) : Prop :=
 ∃ I1 : Int → Int → World → Prop, ∃ m2 : Int → Int → World → Nat, I1 n_1 0 v ∧
 ∀ n3 : Int, ∀ n4 : Int, ∀ w5 : World, I1 n3 n4 w5 →
 ((decide (n4 < (x_0.n : Int))) = true →
 IxOk x_0 n4 ∧
 StoreAt w5 (elA x_0 n4 3) 0 [.int .i64 n3] fun w6 =>
 ∃ n7 : Int, Wr .i64 (n3 + 1) n7 ∧
 IxOk x_0 n4 ∧
 StoreAt w6 (elA x_0 n4 3) 1 [.int .i64 n7] fun w8 =>
 ∃ n9 : Int, Wr .i64 (n7 + 1) n9 ∧
 IxOk x_0 n4 ∧
 ∃ x10 : Sl, w8.cell? ((elA x_0 n4 3).add 2) = some (x10.val) ∧
 Trip Tryz.prog 58 #[x10.val, .int .i64 n9] w8 fun r11 w12 =>
 ∃ n13 : Int, r11 = .int .i64 n13 ∧
 ∃ n14 : Int, Wr .i64 (n4 + 1) n14 ∧
 I1 n13 n14 w12 ∧
 m2 n13 n14 w12 < m2 n3 n4 w5) ∧
 ((decide (n4 < (x_0.n : Int))) = false →
 Q (.int .i64 n3) w5)
theorem of37 (x_0 : Sl) (n_1 : Int) (v : World) (Q : Value → World → Prop) (h : vc37 x_0 n_1 v Q) : Trip Tryz.prog 37 #[x_0.val, .int .i64 n_1] v Q :=
 trip_of_eq (args := [.sl x_0, .num .i64 n_1]) (A := ⟨[(2, [(1, .int .i64), (5, .int .i64)], [])], [], [], [], psG⟩) Tryz.func37 (by kernel_rfl) (by kernel_rfl) (by kernel_rfl : vc37 x_0 n_1 v Q = _) h

def vc38 (x_0 : Sl) (n_1 : Int) (v : World) (Q : Value → World → Prop) : Prop :=
 ∃ I1 : Int → Int → World → Prop, ∃ m2 : Int → Int → World → Nat, I1 n_1 0 v ∧
 ∀ n3 : Int, ∀ n4 : Int, ∀ w5 : World, I1 n3 n4 w5 →
 ((decide (n4 < (x_0.n : Int))) = true →
 IxOk x_0 n4 ∧
 ∃ x6 : Sl, w5.cell? ((elA x_0 n4 5).add 0) = some (x6.val) ∧
 Trip Tryz.prog 18 #[x6.val, .int .i64 n3] w5 fun r7 w8 =>
 ∃ n9 : Int, r7 = .int .i64 n9 ∧
 IxOk x_0 n4 ∧
 ∃ x10 : Sl, w8.cell? ((elA x_0 n4 5).add 1) = some (x10.val) ∧
 Trip Tryz.prog 18 #[x10.val, .int .i64 n9] w8 fun r11 w12 =>
 ∃ n13 : Int, r11 = .int .i64 n13 ∧
 IxOk x_0 n4 ∧
 StoreAt w12 (elA x_0 n4 5) 2 [.int .i64 n13] fun w14 =>
 ∃ n15 : Int, Wr .i64 (n13 + 1) n15 ∧
 IxOk x_0 n4 ∧
 StoreAt w14 (elA x_0 n4 5) 3 [.int .i64 n15] fun w16 =>
 ∃ n17 : Int, Wr .i64 (n15 + 1) n17 ∧
 IxOk x_0 n4 ∧
 ∃ x18 : Sl, w16.cell? ((elA x_0 n4 5).add 4) = some (x18.val) ∧
 Trip Tryz.prog 59 #[x18.val, .int .i64 n17] w16 fun r19 w20 =>
 ∃ n21 : Int, r19 = .int .i64 n21 ∧
 ∃ n22 : Int, Wr .i64 (n4 + 1) n22 ∧
 I1 n21 n22 w20 ∧
 m2 n21 n22 w20 < m2 n3 n4 w5) ∧
 ((decide (n4 < (x_0.n : Int))) = false →
 Q (.int .i64 n3) w5)
theorem of38 (x_0 : Sl) (n_1 : Int) (v : World) (Q : Value → World → Prop) (h : vc38 x_0 n_1 v Q) : Trip Tryz.prog 38 #[x_0.val, .int .i64 n_1] v Q :=
 trip_of_eq (args := [.sl x_0, .num .i64 n_1]) (A := ⟨[(2, [(1, .int .i64), (5, .int .i64)], [])], [], [], [], psG⟩) Tryz.func38 (by kernel_rfl) (by kernel_rfl) (by kernel_rfl : vc38 x_0 n_1 v Q = _) h

def vc39 (n0_0 : Int) (n0_1 : Int) (x0_2 : Sl) (n_1 : Int) (v : World) (Q : Value → World → Prop) : Prop :=
 ∃ n1 : Int, (Trip Tryz.prog 60 #[x0_2.val, .int .i64 n_1] v fun r2 w3 => r2 = .int .i64 n1 ∧ Sub v w3) ∧
 ((decide (n1 < 0)) = true →
 Q (.int .i64 (-1)) v) ∧
 ((decide (n1 < 0)) = false →
 Q (.int .i64 n1) v)
theorem of39 (n0_0 : Int) (n0_1 : Int) (x0_2 : Sl) (n_1 : Int) (v : World) (Q : Value → World → Prop) (h : vc39 n0_0 n0_1 x0_2 n_1 v Q) : Trip Tryz.prog 39 #[.agg #[.int .i64 n0_0, .int .i64 n0_1, x0_2.val], .int .i64 n_1] v Q :=
 trip_of_eq (args := [.ag [.num .i64 n0_0, .num .i64 n0_1, .sl x0_2], .num .i64 n_1]) (A := ⟨[], [], [], [], psG⟩) Tryz.func39 (by kernel_rfl) (by kernel_rfl) (by kernel_rfl : vc39 n0_0 n0_1 x0_2 n_1 v Q = _) h

def vc40 (x0_0 : Sl) (x0_1 : Sl) (n0_2 : Int) (n0_3 : Int) (x0_4 : Sl) (n_1 : Int) (v : World) (Q : Value → World → Prop) : Prop :=
 ∃ n1 : Int, (Trip Tryz.prog 61 #[x0_0.val, .int .i64 n_1] v fun r2 w3 => r2 = .int .i64 n1 ∧ Sub v w3) ∧
 ((decide (n1 < 0)) = true →
 Q (.int .i64 (-1)) v) ∧
 ((decide (n1 < 0)) = false →
 ∃ n4 : Int, (Trip Tryz.prog 61 #[x0_1.val, .int .i64 n1] v fun r5 w6 => r5 = .int .i64 n4 ∧ Sub v w6) ∧
 ((decide (n4 < 0)) = true →
 Q (.int .i64 (-1)) v) ∧
 ((decide (n4 < 0)) = false →
 ∃ n7 : Int, (Trip Tryz.prog 62 #[x0_4.val, .int .i64 n4] v fun r8 w9 => r8 = .int .i64 n7 ∧ Sub v w9) ∧
 ((decide (n7 < 0)) = true →
 Q (.int .i64 (-1)) v) ∧
 ((decide (n7 < 0)) = false →
 Q (.int .i64 n7) v)))
theorem of40 (x0_0 : Sl) (x0_1 : Sl) (n0_2 : Int) (n0_3 : Int) (x0_4 : Sl) (n_1 : Int) (v : World) (Q : Value → World → Prop) (h : vc40 x0_0 x0_1 n0_2 n0_3 x0_4 n_1 v Q) : Trip Tryz.prog 40 #[.agg #[x0_0.val, x0_1.val, .int .i64 n0_2, .int .i64 n0_3, x0_4.val], .int .i64 n_1] v Q :=
 trip_of_eq (args := [.ag [.sl x0_0, .sl x0_1, .num .i64 n0_2, .num .i64 n0_3, .sl x0_4], .num .i64 n_1]) (A := ⟨[], [], [], [], psG⟩) Tryz.func40 (by kernel_rfl) (by kernel_rfl) (by kernel_rfl : vc40 x0_0 x0_1 n0_2 n0_3 x0_4 n_1 v Q = _) h

def vc41 (x0_0 : Sl) (x0_1 : Sl) (v : World) (Q : Value → World → Prop) : Prop :=
 ∃ q1 : Bool, (Trip Tryz.prog 63 #[x0_0.val] v fun r2 w3 => r2 = .bool q1 ∧ Sub v w3) ∧
 ∃ q4 : Bool, ((!q1) = false →
 (Trip Tryz.prog 25 #[.int .i64 (x0_1.n : Int), .int .i64 1, .int .i64 4] v fun r5 w6 => r5 = .bool q4 ∧ Sub v w6)) ∧
 (((!q1) || (!q4)) = true →
 Q (.bool false) v) ∧
 (((!q1) || (!q4)) = false →
 ∃ I7 : Int → World → Prop, ∃ m8 : Int → World → Nat, I7 0 v ∧
 ∀ n9 : Int, ∀ w10 : World, I7 n9 w10 →
 ((decide (n9 < (x0_1.n : Int))) = true →
 IxOk x0_1 n9 ∧
 ∃ x11 : Sl, ∃ n12 : Int, ∃ n13 : Int, ∃ n14 : Int, ∃ x15 : Sl, (w10.cell? ((elA x0_1 n9 5).add 0) = some (x11.val) ∧
 w10.cell? ((elA x0_1 n9 5).add 1) = some (.int .i64 n12) ∧
 w10.cell? ((elA x0_1 n9 5).add 2) = some (.int .i64 n13) ∧
 w10.cell? ((elA x0_1 n9 5).add 3) = some (.int .i64 n14) ∧
 w10.cell? ((elA x0_1 n9 5).add 4) = some (x15.val)) ∧
 ∃ q16 : Bool, ((decide ((x11.n : Int) > 3)) = false →
 (Trip Tryz.prog 64 #[x0_0.val, x11.val] w10 fun r17 w18 => r17 = .bool q16 ∧ Sub w10 w18)) ∧
 ∃ q19 : Bool, (((decide ((x11.n : Int) > 3)) || (!q16)) = false →
 (Trip Tryz.prog 25 #[.int .i64 n12, .int .i64 0, .int .i64 (x0_0.n : Int)] w10 fun r20 w21 => r20 = .bool q19 ∧ Sub w10 w21)) ∧
 ((((decide ((x11.n : Int) > 3)) || (!q16)) || (!q19)) = true →
 Q (.bool false) w10) ∧
 ((((decide ((x11.n : Int) > 3)) || (!q16)) || (!q19)) = false →
 ∃ n22 : Int, Wr .i64 (n9 + 1) n22 ∧
 ((.sl x0_0 : SV) = .sl x0_0) ∧
 ((.sl x0_1 : SV) = .sl x0_1) ∧
 I7 n22 w10 ∧
 m8 n22 w10 < m8 n9 w10)) ∧
 ((decide (n9 < (x0_1.n : Int))) = false →
 IxOk x0_1 0 ∧
 ∃ x23 : Sl, w10.cell? ((elA x0_1 0 5).add 0) = some (x23.val) ∧
 ((decide ((x23.n : Int) = 0)) = true →
 IxOk x0_1 0) ∧
 ∃ n24 : Int, ((decide ((x23.n : Int) = 0)) = true →
 w10.cell? ((elA x0_1 0 5).add 1) = some (.int .i64 n24)) ∧
 Q (.bool ((decide ((x23.n : Int) = 0)) && (decide (n24 = 0)))) w10))
theorem of41 (x0_0 : Sl) (x0_1 : Sl) (v : World) (Q : Value → World → Prop) (h : vc41 x0_0 x0_1 v Q) : Trip Tryz.prog 41 #[.agg #[x0_0.val, x0_1.val]] v Q :=
 trip_of_eq (args := [.ag [.sl x0_0, .sl x0_1]]) (A := ⟨[(4, [(3, .int .i64)], [])], [], [], [], psG⟩) Tryz.func41 (by kernel_rfl) (by kernel_rfl) (by kernel_rfl : vc41 x0_0 x0_1 v Q = _) h

def vc42 (x0_0 : Sl) (x0_1 : Sl) (v : World) (Q : Value → World → Prop) : Prop :=
 StepT Tryz.prog (Instr.buildSlice 83 0 #[]) v fun r1 w2 =>
 ∃ x3 : Sl, r1 = x3.val ∧
 ∃ I4 : Int → Sl → World → Prop, ∃ m5 : Int → Sl → World → Nat, I4 0 x3 w2 ∧
 ∀ n6 : Int, ∀ x7 : Sl, ∀ w8 : World, I4 n6 x7 w8 →
 ((decide (n6 < (x0_1.n : Int))) = true →
 IxOk x0_1 n6 ∧
 ∃ x9 : Sl, w8.cell? ((elA x0_1 n6 5).add 0) = some (x9.val) ∧
 IxOk x0_1 n6 ∧
 ∃ n10 : Int, w8.cell? ((elA x0_1 n6 5).add 2) = some (.int .i64 n10) ∧
 StepT Tryz.prog (Instr.buildSlice 83 1 #[(0, (.agg #[x9.val, .int .i64 n10, .int .i64 0, .int .i64 0, .slice none 0 0]))]) w8 fun r11 w12 =>
 ∃ x13 : Sl, r11 = x13.val ∧
 Sub w8 w12 ∧
 StepT Tryz.prog (Builtin.append_ #[83, 83] 83 #[(x7.val), (x13.val)]) w12 fun r14 w15 =>
 ∃ x16 : Sl, r14 = x16.val ∧
 ∃ n17 : Int, Wr .i64 (n6 + 1) n17 ∧
 ((.sl x0_0 : SV) = .sl x0_0) ∧
 ((.sl x0_1 : SV) = .sl x0_1) ∧
 ((.sl (Sl.mk none 0 0) : SV) = .sl (Sl.mk none 0 0)) ∧
 ((.sl (Sl.mk none 0 0) : SV) = .sl (Sl.mk none 0 0)) ∧
 ((.sl x0_0 : SV) = .sl x0_0) ∧
 I4 n17 x16 w15 ∧
 m5 n17 x16 w15 < m5 n6 x7 w8) ∧
 ((decide (n6 < (x0_1.n : Int))) = false →
 Q (.agg #[x0_0.val, x7.val]) w8)
theorem of42 (x0_0 : Sl) (x0_1 : Sl) (v : World) (Q : Value → World → Prop) (h : vc42 x0_0 x0_1 v Q) : Trip Tryz.prog 42 #[.agg #[x0_0.val, x0_1.val]] v Q :=
 trip_of_eq (args := [.ag [.sl x0_0, .sl x0_1]]) (A := ⟨[(3, [(4, .int .i64)], [(2, 1, .sl)])], [], [(5, [15])], [], psG⟩) Tryz.func42 (by kernel_rfl) (by kernel_rfl) (by kernel_rfl : vc42 x0_0 x0_1 v Q = _) h

def vc43 (x0_0 : Sl) (x0_1 : Sl) (x1_0 : Sl) (x1_1 : Sl) (n1_2 : Int) (n1_3 : Int) (x1_4 : Sl) (v : World) (Q : Value → World → Prop) : Prop :=
 ∃ q1 : Bool, (Trip Tryz.prog 65 #[x1_0.val, x1_1.val] v fun r2 w3 => r2 = .bool q1 ∧ Sub v w3) ∧
 ∃ n4 : Int, ((!q1) = false →
 PureT Tryz.prog (Builtin.max_ #[3, 3] 3 #[(.int .i64 1), (.int .i64 (x1_0.n : Int))]) v (.int .i64 n4)) ∧
 ∃ q5 : Bool, ((!q1) = false →
 (Trip Tryz.prog 25 #[.int .i64 n1_3, .int .i64 n4, .int .i64 2000] v fun r6 w7 => r6 = .bool q5 ∧ Sub v w7)) ∧
 ∃ q8 : Bool, (((!q1) || (!q5)) = false →
 (Trip Tryz.prog 25 #[.int .i64 (x1_4.n : Int), .int .i64 1, .int .i64 2000] v fun r9 w10 => r9 = .bool q8 ∧ Sub v w10)) ∧
 ((((!q1) || (!q5)) || (!q8)) = true →
 Q (.bool false) v) ∧
 ((((!q1) || (!q5)) || (!q8)) = false →
 ∃ I11 : Int → World → Prop, ∃ m12 : Int → World → Nat, I11 0 v ∧
 ∀ n13 : Int, ∀ w14 : World, I11 n13 w14 →
 ((decide (n13 < (x1_4.n : Int))) = true →
 ∃ q15 : Bool, (Trip Tryz.prog 66 #[.agg #[x0_0.val, x0_1.val], .agg #[x1_0.val, x1_1.val, .int .i64 n1_2, .int .i64 n1_3, x1_4.val], .int .i64 n13] w14 fun r16 w17 => r16 = .bool q15 ∧ Sub w14 w17) ∧
 ((!q15) = true →
 Q (.bool false) w14) ∧
 ((!q15) = false →
 ∃ n18 : Int, Wr .i64 (n13 + 1) n18 ∧
 ((.sl x0_0 : SV) = .sl x0_0) ∧
 ((.sl x0_1 : SV) = .sl x0_1) ∧
 ((.sl x1_0 : SV) = .sl x1_0) ∧
 ((.sl x1_1 : SV) = .sl x1_1) ∧
 ((.num .i64 n1_2 : SV) = .num .i64 n1_2) ∧
 ((.num .i64 n1_3 : SV) = .num .i64 n1_3) ∧
 ((.sl x1_4 : SV) = .sl x1_4) ∧
 I11 n18 w14 ∧
 m12 n18 w14 < m12 n13 w14)) ∧
 ((decide (n13 < (x1_4.n : Int))) = false →
 ∃ n19 : Int, Wr .i64 ((x1_4.n : Int) - 1) n19 ∧
 IxOk x1_4 n19 ∧
 ∃ n20 : Int, w14.cell? ((elA x1_4 n19 6).add 0) = some (.int .i64 n20) ∧
 ∃ n21 : Int, ((decide (n20 = 23)) = false →
 Wr .i64 ((x1_4.n : Int) - 1) n21) ∧
 ((decide (n20 = 23)) = false →
 IxOk x1_4 n21) ∧
 ∃ n22 : Int, ((decide (n20 = 23)) = false →
 w14.cell? ((elA x1_4 n21 6).add 0) = some (.int .i64 n22)) ∧
 Q (.bool ((decide (n20 = 23)) || (decide (n22 = 24)))) w14))
theorem of43 (x0_0 : Sl) (x0_1 : Sl) (x1_0 : Sl) (x1_1 : Sl) (n1_2 : Int) (n1_3 : Int) (x1_4 : Sl) (v : World) (Q : Value → World → Prop) (h : vc43 x0_0 x0_1 x1_0 x1_1 n1_2 n1_3 x1_4 v Q) : Trip Tryz.prog 43 #[.agg #[x0_0.val, x0_1.val], .agg #[x1_0.val, x1_1.val, .int .i64 n1_2, .int .i64 n1_3, x1_4.val]] v Q :=
 trip_of_eq (args := [.ag [.sl x0_0, .sl x0_1], .ag [.sl x1_0, .sl x1_1, .num .i64 n1_2, .num .i64 n1_3, .sl x1_4]]) (A := ⟨[(5, [(6, .int .i64)], [])], [], [], [], psG⟩) Tryz.func43 (by kernel_rfl) (by kernel_rfl) (by kernel_rfl : vc43 x0_0 x0_1 x1_0 x1_1 n1_2 n1_3 x1_4 v Q = _) h

def vc44 (a_0 : Addr) (n_1 : Int) (a_2 : Addr) (v : World) (Q : Value → World → Prop) : Prop :=
 ∃ x1 : Sl, v.cell? (a_0.add 1) = some (x1.val) ∧
 IxOk x1 n_1 ∧
 ∃ q2 : Bool, v.cell? ((elA x1 n_1 1).add 0) = some (.bool q2) ∧
 ((!q2) = true →
 ∃ x3 : Sl, v.cell? (a_0.add 1) = some (x3.val) ∧
 IxOk x3 n_1 ∧
 StoreAt v (elA x3 n_1 1) 0 [.bool true] fun w4 =>
 ∃ x5 : Sl, w4.cell? (a_0.add 0) = some (x5.val) ∧
 Trip Tryz.prog 46 #[.pointer (some (a_2.add 0))] w4 fun r6 w7 =>
 ∃ a8 : Addr, r6 = .pointer (some (a8.add 0)) ∧
 Sub w4 w7 ∧
 IxOk x5 n_1 ∧
 StoreAt w7 (elA x5 n_1 1) 0 [.pointer (some (a8.add 0))] fun w9 =>
 Q (.bool true) w9) ∧
 ((!q2) = false →
 ∃ x10 : Sl, v.cell? (a_0.add 0) = some (x10.val) ∧
 IxOk x10 n_1 ∧
 ∃ y11 : Vl, v.cell? ((elA x10 n_1 1).add 0) = some (y11.x) ∧
 Trip Tryz.prog 67 #[y11.x, .pointer (some (a_2.add 0))] v fun r12 w13 =>
 ∃ q14 : Bool, r12 = .bool q14 ∧
 Q (.bool q14) w13)
theorem of44 (a_0 : Addr) (n_1 : Int) (a_2 : Addr) (v : World) (Q : Value → World → Prop) (h : vc44 a_0 n_1 a_2 v Q) : Trip Tryz.prog 44 #[.pointer (some (a_0.add 0)), .int .i64 n_1, .pointer (some (a_2.add 0))] v Q :=
 trip_of_eq (args := [.pt a_0 0, .num .i64 n_1, .pt a_2 0]) (A := ⟨[], [], [(3, [6])], [], psG⟩) Tryz.func44 (by kernel_rfl) (by kernel_rfl) (by kernel_rfl : vc44 a_0 n_1 a_2 v Q = _) h

def vc45 (x0_0 : Sl) (x0_1 : Sl) (n0_2 : Int) (n0_3 : Int) (x0_4 : Sl) (v : World) (Q : Value → World → Prop) : Prop :=
 Trip Tryz.prog 68 #[.int .i64 n0_3, .int .i64 (-1)] v fun r1 w2 =>
 ∃ x3 : Sl, r1 = x3.val ∧
 Trip Tryz.prog 69 #[.int .i64 n0_3] w2 fun r4 w5 =>
 ∃ x6 : Sl, r4 = x6.val ∧
 Trip Tryz.prog 68 #[.int .i64 n0_3, .int .i64 (-1)] w5 fun r7 w8 =>
 ∃ x9 : Sl, r7 = x9.val ∧
 Trip Tryz.prog 68 #[.int .i64 n0_3, .int .i64 (-1)] w8 fun r10 w11 =>
 ∃ x12 : Sl, r10 = x12.val ∧
 Trip Tryz.prog 68 #[.int .i64 n0_3, .int .i64 (-1)] w11 fun r13 w14 =>
 ∃ x15 : Sl, r13 = x15.val ∧
 Trip Tryz.prog 68 #[.int .i64 n0_3, .int .i64 (-1)] w14 fun r16 w17 =>
 ∃ x18 : Sl, r16 = x18.val ∧
 Trip Tryz.prog 69 #[.int .i64 n0_3] w17 fun r19 w20 =>
 ∃ x21 : Sl, r19 = x21.val ∧
 NewAt w20 (.cells #[x3.val, x6.val, x9.val, x12.val, x15.val, x18.val, x21.val] 64 (0, 0)) fun a22 w23 =>
 ∃ I24 : Int → World → Prop, ∃ m25 : Int → World → Nat, I24 0 w23 ∧
 ∀ n26 : Int, ∀ w27 : World, I24 n26 w27 →
 ((decide (n26 < (x0_0.n : Int))) = true →
 ∃ x28 : Sl, w27.cell? (a22.add 0) = some (x28.val) ∧
 IxOk x0_0 n26 ∧
 ∃ n29 : Int, w27.cell? ((elA x0_0 n26 1).add 0) = some (.int .i64 n29) ∧
 IxOk x28 n26 ∧
 StoreAt w27 (elA x28 n26 1) 0 [.int .i64 n29] fun w30 =>
 ∃ q31 : Bool, (Trip Tryz.prog 70 #[x0_1.val, .int .i64 n26] w30 fun r32 w33 => r32 = .bool q31 ∧ Sub w30 w33) ∧
 (q31 = true →
 ∃ x34 : Sl, w30.cell? (a22.add 6) = some (x34.val) ∧
 IxOk x34 n26 ∧
 StoreAt w30 (elA x34 n26 1) 0 [.int .i64 1] fun w35 =>
 ∃ n36 : Int, Wr .i64 (n26 + 1) n36 ∧
 ((.sl x0_0 : SV) = .sl x0_0) ∧
 ((.sl x0_1 : SV) = .sl x0_1) ∧
 ((.num .i64 n0_2 : SV) = .num .i64 n0_2) ∧
 ((.num .i64 n0_3 : SV) = .num .i64 n0_3) ∧
 ((.sl x0_4 : SV) = .sl x0_4) ∧
 I24 n36 w35 ∧
 m25 n36 w35 < m25 n26 w27) ∧
 (q31 = false →
 IxOk x0_0 n26 ∧
 ∃ n37 : Int, w30.cell? ((elA x0_0 n26 1).add 0) = some (.int .i64 n37) ∧
 ((!decide (n37 = 0)) = true →
 ∃ x38 : Sl, w30.cell? (a22.add 1) = some (x38.val) ∧
 IxOk x38 n26 ∧
 StoreAt w30 (elA x38 n26 1) 0 [.int .i64 1] fun w39 =>
 ∃ n40 : Int, Wr .i64 (n26 + 1) n40 ∧
 ((.sl x0_0 : SV) = .sl x0_0) ∧
 ((.sl x0_1 : SV) = .sl x0_1) ∧
 ((.num .i64 n0_2 : SV) = .num .i64 n0_2) ∧
 ((.num .i64 n0_3 : SV) = .num .i64 n0_3) ∧
 ((.sl x0_4 : SV) = .sl x0_4) ∧
 I24 n40 w39 ∧
 m25 n40 w39 < m25 n26 w27) ∧
 ((!decide (n37 = 0)) = false →
 ∃ n41 : Int, Wr .i64 (n26 + 1) n41 ∧
 ((.sl x0_0 : SV) = .sl x0_0) ∧
 ((.sl x0_1 : SV) = .sl x0_1) ∧
 ((.num .i64 n0_2 : SV) = .num .i64 n0_2) ∧
 ((.num .i64 n0_3 : SV) = .num .i64 n0_3) ∧
 ((.sl x0_4 : SV) = .sl x0_4) ∧
 I24 n41 w30 ∧
 m25 n41 w30 < m25 n26 w27))) ∧
 ((decide (n26 < (x0_0.n : Int))) = false →
 Q (.pointer (some (a22.add 0))) w27)
theorem of45 (x0_0 : Sl) (x0_1 : Sl) (n0_2 : Int) (n0_3 : Int) (x0_4 : Sl) (v : World) (Q : Value → World → Prop) (h : vc45 x0_0 x0_1 n0_2 n0_3 x0_4 v Q) : Trip Tryz.prog 45 #[.agg #[x0_0.val, x0_1.val, .int .i64 n0_2, .int .i64 n0_3, x0_4.val]] v Q :=
 trip_of_eq (args := [.ag [.sl x0_0, .sl x0_1, .num .i64 n0_2, .num .i64 n0_3, .sl x0_4]]) (A := ⟨[(4, [(5, .int .i64)], [])], [], [(6, [])], [23], psG⟩) Tryz.func45 (by kernel_rfl) (by kernel_rfl) (by kernel_rfl : vc45 x0_0 x0_1 n0_2 n0_3 x0_4 v Q = _) h

def vc46 (a_0 : Addr) (v : World) (Q : Value → World → Prop) : Prop :=
 ∃ x1 : Sl, v.cell? (a_0.add 0) = some (x1.val) ∧
 ∃ x2 : Sl, v.cell? (a_0.add 1) = some (x2.val) ∧
 ∃ x3 : Sl, v.cell? (a_0.add 2) = some (x3.val) ∧
 ∃ x4 : Sl, v.cell? (a_0.add 3) = some (x4.val) ∧
 ∃ x5 : Sl, v.cell? (a_0.add 4) = some (x5.val) ∧
 ∃ x6 : Sl, v.cell? (a_0.add 5) = some (x6.val) ∧
 ∃ x7 : Sl, v.cell? (a_0.add 6) = some (x7.val) ∧
 Trip Tryz.prog 35 #[x1.val] v fun r8 w9 =>
 ∃ x10 : Sl, r8 = x10.val ∧
 Sub v w9 ∧
 Trip Tryz.prog 35 #[x2.val] w9 fun r11 w12 =>
 ∃ x13 : Sl, r11 = x13.val ∧
 Sub w9 w12 ∧
 Trip Tryz.prog 35 #[x3.val] w12 fun r14 w15 =>
 ∃ x16 : Sl, r14 = x16.val ∧
 Sub w12 w15 ∧
 Trip Tryz.prog 35 #[x4.val] w15 fun r17 w18 =>
 ∃ x19 : Sl, r17 = x19.val ∧
 Sub w15 w18 ∧
 Trip Tryz.prog 35 #[x5.val] w18 fun r20 w21 =>
 ∃ x22 : Sl, r20 = x22.val ∧
 Sub w18 w21 ∧
 Trip Tryz.prog 35 #[x6.val] w21 fun r23 w24 =>
 ∃ x25 : Sl, r23 = x25.val ∧
 Sub w21 w24 ∧
 Trip Tryz.prog 35 #[x7.val] w24 fun r26 w27 =>
 ∃ x28 : Sl, r26 = x28.val ∧
 NewAt w27 (.cells #[x10.val, x13.val, x16.val, x19.val, x22.val, x25.val, x28.val] 64 (0, 0)) fun a29 w30 =>
 Q (.pointer (some (a29.add 0))) w30
theorem of46 (a_0 : Addr) (v : World) (Q : Value → World → Prop) (h : vc46 a_0 v Q) : Trip Tryz.prog 46 #[.pointer (some (a_0.add 0))] v Q :=
 trip_of_eq (args := [.pt a_0 0]) (A := ⟨[], [], [(1, [4, 9, 14, 19, 24, 29])], [39], psG⟩) Tryz.func46 (by kernel_rfl) (by kernel_rfl) (by kernel_rfl : vc46 a_0 v Q = _) h

def vc47 (a_0 : Addr) (x1_0 : Sl) (x1_1 : Sl) (x2_0 : Sl) (x2_1 : Sl) (n2_2 : Int) (n2_3 : Int) (x2_4 : Sl) (n3_0 : Int) (n3_1 : Int) (n3_2 : Int) (n3_3 : Int) (x3_4 : Sl) (x3_5 : Sl) (v : World) (Q : Value → World → Prop) : Prop :=
 ((decide (n3_0 = 0)) = true →
 Trip Tryz.prog 71 #[.pointer (some (a_0.add 0)), .int .i64 n3_1, .int .i64 0] v fun r1 w2 =>
 ∃ q3 : Bool, r1 = .bool q3 ∧
 Q (.bool q3) w2) ∧
 ((decide (n3_0 = 0)) = false →
 ((decide (n3_0 = 1)) = true →
 StepT Tryz.prog (Instr.buildSlice 37 2 #[(0, (.int .i64 0)), (1, (.int .i64 0))]) v fun r4 w5 =>
 ∃ x6 : Sl, r4 = x6.val ∧
 Trip Tryz.prog 72 #[.pointer (some (a_0.add 0)), .agg #[x1_0.val, x1_1.val], .agg #[.int .i64 n3_0, .int .i64 n3_1, .int .i64 n3_2, .int .i64 n3_3, x3_4.val, x3_5.val], x6.val] w5 fun r7 w8 =>
 ∃ q9 : Bool, r7 = .bool q9 ∧
 (q9 = true →
 Trip Tryz.prog 71 #[.pointer (some (a_0.add 0)), .int .i64 n3_1, .int .i64 0] w8 fun r10 w11 =>
 ∃ q12 : Bool, r10 = .bool q12 ∧
 Q (.bool q12) w11) ∧
 (q9 = false →
 Q (.bool false) w8)) ∧
 ((decide (n3_0 = 1)) = false →
 ((decide (n3_0 = 2)) = true →
 StepT Tryz.prog (Instr.buildSlice 37 2 #[(0, (.int .i64 0)), (1, (.int .i64 0))]) v fun r13 w14 =>
 ∃ x15 : Sl, r13 = x15.val ∧
 Trip Tryz.prog 72 #[.pointer (some (a_0.add 0)), .agg #[x1_0.val, x1_1.val], .agg #[.int .i64 n3_0, .int .i64 n3_1, .int .i64 n3_2, .int .i64 n3_3, x3_4.val, x3_5.val], x15.val] w14 fun r16 w17 =>
 ∃ q18 : Bool, r16 = .bool q18 ∧
 (q18 = true →
 Trip Tryz.prog 71 #[.pointer (some (a_0.add 0)), .int .i64 n3_1, .int .i64 0] w17 fun r19 w20 =>
 ∃ q21 : Bool, r19 = .bool q21 ∧
 Q (.bool q21) w20) ∧
 (q18 = false →
 Q (.bool false) w17)) ∧
 ((decide (n3_0 = 2)) = false →
 ((decide (n3_0 = 3)) = true →
 StepT Tryz.prog (Instr.buildSlice 37 2 #[(0, (.int .i64 0)), (1, (.int .i64 0))]) v fun r22 w23 =>
 ∃ x24 : Sl, r22 = x24.val ∧
 Trip Tryz.prog 72 #[.pointer (some (a_0.add 0)), .agg #[x1_0.val, x1_1.val], .agg #[.int .i64 n3_0, .int .i64 n3_1, .int .i64 n3_2, .int .i64 n3_3, x3_4.val, x3_5.val], x24.val] w23 fun r25 w26 =>
 ∃ q27 : Bool, r25 = .bool q27 ∧
 (q27 = true →
 Trip Tryz.prog 71 #[.pointer (some (a_0.add 0)), .int .i64 n3_1, .int .i64 0] w26 fun r28 w29 =>
 ∃ q30 : Bool, r28 = .bool q30 ∧
 Q (.bool q30) w29) ∧
 (q27 = false →
 Q (.bool false) w26)) ∧
 ((decide (n3_0 = 3)) = false →
 ((decide (n3_0 = 4)) = true →
 StepT Tryz.prog (Instr.buildSlice 37 2 #[(0, (.int .i64 0)), (1, (.int .i64 0))]) v fun r31 w32 =>
 ∃ x33 : Sl, r31 = x33.val ∧
 Trip Tryz.prog 72 #[.pointer (some (a_0.add 0)), .agg #[x1_0.val, x1_1.val], .agg #[.int .i64 n3_0, .int .i64 n3_1, .int .i64 n3_2, .int .i64 n3_3, x3_4.val, x3_5.val], x33.val] w32 fun r34 w35 =>
 ∃ q36 : Bool, r34 = .bool q36 ∧
 (q36 = true →
 Trip Tryz.prog 71 #[.pointer (some (a_0.add 0)), .int .i64 n3_1, .int .i64 0] w35 fun r37 w38 =>
 ∃ q39 : Bool, r37 = .bool q39 ∧
 Q (.bool q39) w38) ∧
 (q36 = false →
 Q (.bool false) w35)) ∧
 ((decide (n3_0 = 4)) = false →
 ((decide (n3_0 = 5)) = true →
 StepT Tryz.prog (Instr.buildSlice 37 1 #[(0, (.int .i64 0))]) v fun r40 w41 =>
 ∃ x42 : Sl, r40 = x42.val ∧
 Trip Tryz.prog 72 #[.pointer (some (a_0.add 0)), .agg #[x1_0.val, x1_1.val], .agg #[.int .i64 n3_0, .int .i64 n3_1, .int .i64 n3_2, .int .i64 n3_3, x3_4.val, x3_5.val], x42.val] w41 fun r43 w44 =>
 ∃ q45 : Bool, r43 = .bool q45 ∧
 (q45 = true →
 Trip Tryz.prog 71 #[.pointer (some (a_0.add 0)), .int .i64 n3_1, .int .i64 0] w44 fun r46 w47 =>
 ∃ q48 : Bool, r46 = .bool q48 ∧
 Q (.bool q48) w47) ∧
 (q45 = false →
 Q (.bool false) w44)) ∧
 ((decide (n3_0 = 5)) = false →
 ((decide (n3_0 = 20)) = true →
 StepT Tryz.prog (Instr.buildSlice 37 1 #[(0, (.int .i64 0))]) v fun r49 w50 =>
 ∃ x51 : Sl, r49 = x51.val ∧
 Trip Tryz.prog 72 #[.pointer (some (a_0.add 0)), .agg #[x1_0.val, x1_1.val], .agg #[.int .i64 n3_0, .int .i64 n3_1, .int .i64 n3_2, .int .i64 n3_3, x3_4.val, x3_5.val], x51.val] w50 fun r52 w53 =>
 ∃ q54 : Bool, r52 = .bool q54 ∧
 Q (.bool q54) w53) ∧
 ((decide (n3_0 = 20)) = false →
 ((decide (n3_0 = 6)) = true →
 Trip Tryz.prog 73 #[.pointer (some (a_0.add 0)), .agg #[x1_0.val, x1_1.val], .agg #[.int .i64 n3_0, .int .i64 n3_1, .int .i64 n3_2, .int .i64 n3_3, x3_4.val, x3_5.val]] v fun r55 w56 =>
 ∃ q57 : Bool, r55 = .bool q57 ∧
 Q (.bool q57) w56) ∧
 ((decide (n3_0 = 6)) = false →
 ((decide (n3_0 = 9)) = true →
 Trip Tryz.prog 74 #[.pointer (some (a_0.add 0)), .agg #[x1_0.val, x1_1.val], .agg #[x2_0.val, x2_1.val, .int .i64 n2_2, .int .i64 n2_3, x2_4.val], .agg #[.int .i64 n3_0, .int .i64 n3_1, .int .i64 n3_2, .int .i64 n3_3, x3_4.val, x3_5.val]] v fun r58 w59 =>
 ∃ q60 : Bool, r58 = .bool q60 ∧
 Q (.bool q60) w59) ∧
 ((decide (n3_0 = 9)) = false →
 ((decide (n3_0 = 24)) = true →
 Trip Tryz.prog 74 #[.pointer (some (a_0.add 0)), .agg #[x1_0.val, x1_1.val], .agg #[x2_0.val, x2_1.val, .int .i64 n2_2, .int .i64 n2_3, x2_4.val], .agg #[.int .i64 n3_0, .int .i64 n3_1, .int .i64 n3_2, .int .i64 n3_3, x3_4.val, x3_5.val]] v fun r61 w62 =>
 ∃ q63 : Bool, r61 = .bool q63 ∧
 Q (.bool q63) w62) ∧
 ((decide (n3_0 = 24)) = false →
 ((decide (n3_0 = 10)) = true →
 Trip Tryz.prog 74 #[.pointer (some (a_0.add 0)), .agg #[x1_0.val, x1_1.val], .agg #[x2_0.val, x2_1.val, .int .i64 n2_2, .int .i64 n2_3, x2_4.val], .agg #[.int .i64 n3_0, .int .i64 n3_1, .int .i64 n3_2, .int .i64 n3_3, x3_4.val, x3_5.val]] v fun r64 w65 =>
 ∃ q66 : Bool, r64 = .bool q66 ∧
 Q (.bool q66) w65) ∧
 ((decide (n3_0 = 10)) = false →
 ((decide (n3_0 = 11)) = true →
 Trip Tryz.prog 75 #[.pointer (some (a_0.add 0)), .agg #[x1_0.val, x1_1.val], .agg #[.int .i64 n3_0, .int .i64 n3_1, .int .i64 n3_2, .int .i64 n3_3, x3_4.val, x3_5.val]] v fun r67 w68 =>
 ∃ q69 : Bool, r67 = .bool q69 ∧
 Q (.bool q69) w68) ∧
 ((decide (n3_0 = 11)) = false →
 ((decide (n3_0 = 14)) = true →
 ∃ x70 : Sl, v.cell? (a_0.add 0) = some (x70.val) ∧
 IxOk x3_4 0 ∧
 ∃ n71 : Int, v.cell? ((elA x3_4 0 1).add 0) = some (.int .i64 n71) ∧
 IxOk x70 n71 ∧
 ∃ n72 : Int, v.cell? ((elA x70 n71 1).add 0) = some (.int .i64 n72) ∧
 ((decide (n72 < 1)) = false →
 IxOk x3_4 0) ∧
 ∃ n73 : Int, ((decide (n72 < 1)) = false →
 v.cell? ((elA x3_4 0 1).add 0) = some (.int .i64 n73)) ∧
 ∃ q74 : Bool, ((decide (n72 < 1)) = false →
 (Trip Tryz.prog 76 #[.pointer (some (a_0.add 0)), .int .i64 n73] v fun r75 w76 => r75 = .bool q74 ∧ Sub v w76)) ∧
 (((decide (n72 < 1)) || (!q74)) = true →
 Q (.bool false) v) ∧
 (((decide (n72 < 1)) || (!q74)) = false →
 ∃ x77 : Sl, v.cell? (a_0.add 1) = some (x77.val) ∧
 IxOk x3_4 0 ∧
 ∃ n78 : Int, v.cell? ((elA x3_4 0 1).add 0) = some (.int .i64 n78) ∧
 ∃ x79 : Sl, v.cell? (a_0.add 1) = some (x79.val) ∧
 IxOk x3_4 0 ∧
 ∃ n80 : Int, v.cell? ((elA x3_4 0 1).add 0) = some (.int .i64 n80) ∧
 IxOk x79 n80 ∧
 ∃ n81 : Int, v.cell? ((elA x79 n80 1).add 0) = some (.int .i64 n81) ∧
 ∃ n82 : Int, Wr .i64 (n81 + 1) n82 ∧
 IxOk x77 n78 ∧
 StoreAt v (elA x77 n78 1) 0 [.int .i64 n82] fun w83 =>
 Q (.bool true) w83)) ∧
 ((decide (n3_0 = 14)) = false →
 ((decide (n3_0 = 15)) = true →
 ∃ x84 : Sl, v.cell? (a_0.add 0) = some (x84.val) ∧
 IxOk x3_4 0 ∧
 ∃ n85 : Int, v.cell? ((elA x3_4 0 1).add 0) = some (.int .i64 n85) ∧
 IxOk x84 n85 ∧
 ∃ n86 : Int, v.cell? ((elA x84 n85 1).add 0) = some (.int .i64 n86) ∧
 ((decide (n86 > 0)) = true →
 IxOk x3_4 0) ∧
 ∃ n87 : Int, ((decide (n86 > 0)) = true →
 v.cell? ((elA x3_4 0 1).add 0) = some (.int .i64 n87)) ∧
 ((decide (n86 > 0)) = true →
 Trip Tryz.prog 77 #[.pointer (some (a_0.add 0)), .int .i64 n87] v fun r88 w89 =>
 ∃ q90 : Bool, r88 = .bool q90 ∧
 Q (.bool q90) w89) ∧
 ((decide (n86 > 0)) = false →
 Q (.bool false) v)) ∧
 ((decide (n3_0 = 15)) = false →
 ((decide (n3_0 = 16)) = true →
 Trip Tryz.prog 78 #[.pointer (some (a_0.add 0)), .agg #[x1_0.val, x1_1.val], .agg #[.int .i64 n3_0, .int .i64 n3_1, .int .i64 n3_2, .int .i64 n3_3, x3_4.val, x3_5.val]] v fun r91 w92 =>
 ∃ q93 : Bool, r91 = .bool q93 ∧
 Q (.bool q93) w92) ∧
 ((decide (n3_0 = 16)) = false →
 ((decide (n3_0 = 17)) = true →
 Trip Tryz.prog 78 #[.pointer (some (a_0.add 0)), .agg #[x1_0.val, x1_1.val], .agg #[.int .i64 n3_0, .int .i64 n3_1, .int .i64 n3_2, .int .i64 n3_3, x3_4.val, x3_5.val]] v fun r94 w95 =>
 ∃ q96 : Bool, r94 = .bool q96 ∧
 Q (.bool q96) w95) ∧
 ((decide (n3_0 = 17)) = false →
 ((decide (n3_0 = 18)) = true →
 ∃ x97 : Sl, v.cell? (a_0.add 0) = some (x97.val) ∧
 IxOk x3_4 0 ∧
 ∃ n98 : Int, v.cell? ((elA x3_4 0 1).add 0) = some (.int .i64 n98) ∧
 IxOk x97 n98 ∧
 ∃ n99 : Int, v.cell? ((elA x97 n98 1).add 0) = some (.int .i64 n99) ∧
 ((decide (n99 ≥ 0)) = true →
 IxOk x3_4 0) ∧
 ∃ n100 : Int, ((decide (n99 ≥ 0)) = true →
 v.cell? ((elA x3_4 0 1).add 0) = some (.int .i64 n100)) ∧
 ((decide (n99 ≥ 0)) = true →
 Trip Tryz.prog 77 #[.pointer (some (a_0.add 0)), .int .i64 n100] v fun r101 w102 =>
 ∃ q103 : Bool, r101 = .bool q103 ∧
 (q103 = true →
 Trip Tryz.prog 79 #[.pointer (some (a_0.add 0)), .int .i64 n3_1, .int .i64 n99] w102 fun r104 w105 =>
 ∃ q106 : Bool, r104 = .bool q106 ∧
 Q (.bool q106) w105) ∧
 (q103 = false →
 Q (.bool false) w102)) ∧
 ((decide (n99 ≥ 0)) = false →
 Q (.bool false) v)) ∧
 ((decide (n3_0 = 18)) = false →
 ((decide (n3_0 = 19)) = true →
 Trip Tryz.prog 80 #[.pointer (some (a_0.add 0)), .agg #[x1_0.val, x1_1.val], .agg #[.int .i64 n3_0, .int .i64 n3_1, .int .i64 n3_2, .int .i64 n3_3, x3_4.val, x3_5.val]] v fun r107 w108 =>
 ∃ q109 : Bool, r107 = .bool q109 ∧
 Q (.bool q109) w108) ∧
 ((decide (n3_0 = 19)) = false →
 ((decide (n3_0 = 21)) = true →
 ∃ x110 : Sl, v.cell? (a_0.add 0) = some (x110.val) ∧
 IxOk x3_4 0 ∧
 ∃ n111 : Int, v.cell? ((elA x3_4 0 1).add 0) = some (.int .i64 n111) ∧
 IxOk x110 n111 ∧
 ∃ n112 : Int, v.cell? ((elA x110 n111 1).add 0) = some (.int .i64 n112) ∧
 ((decide (n112 = n3_2)) = true →
 IxOk x3_4 0) ∧
 ∃ n113 : Int, ((decide (n112 = n3_2)) = true →
 v.cell? ((elA x3_4 0 1).add 0) = some (.int .i64 n113)) ∧
 ∃ q114 : Bool, ((decide (n112 = n3_2)) = true →
 (Trip Tryz.prog 76 #[.pointer (some (a_0.add 0)), .int .i64 n113] v fun r115 w116 => r115 = .bool q114 ∧ Sub v w116)) ∧
 Q (.bool ((decide (n112 = n3_2)) && q114)) v) ∧
 ((decide (n3_0 = 21)) = false →
 ((decide (n3_0 = 23)) = true →
 StepT Tryz.prog (Instr.buildSlice 37 1 #[(0, (.int .i64 n2_2))]) v fun r117 w118 =>
 ∃ x119 : Sl, r117 = x119.val ∧
 Trip Tryz.prog 72 #[.pointer (some (a_0.add 0)), .agg #[x1_0.val, x1_1.val], .agg #[.int .i64 n3_0, .int .i64 n3_1, .int .i64 n3_2, .int .i64 n3_3, x3_4.val, x3_5.val], x119.val] w118 fun r120 w121 =>
 ∃ q122 : Bool, r120 = .bool q122 ∧
 ∃ q123 : Bool, (q122 = true →
 (Trip Tryz.prog 81 #[.pointer (some (a_0.add 0))] w121 fun r124 w125 => r124 = .bool q123 ∧ Sub w121 w125)) ∧
 Q (.bool (q122 && q123)) w121) ∧
 ((decide (n3_0 = 23)) = false →
 Q (.bool true) v))))))))))))))))))))
theorem of47 (a_0 : Addr) (x1_0 : Sl) (x1_1 : Sl) (x2_0 : Sl) (x2_1 : Sl) (n2_2 : Int) (n2_3 : Int) (x2_4 : Sl) (n3_0 : Int) (n3_1 : Int) (n3_2 : Int) (n3_3 : Int) (x3_4 : Sl) (x3_5 : Sl) (v : World) (Q : Value → World → Prop) (h : vc47 a_0 x1_0 x1_1 x2_0 x2_1 n2_2 n2_3 x2_4 n3_0 n3_1 n3_2 n3_3 x3_4 x3_5 v Q) : Trip Tryz.prog 47 #[.pointer (some (a_0.add 0)), .agg #[x1_0.val, x1_1.val], .agg #[x2_0.val, x2_1.val, .int .i64 n2_2, .int .i64 n2_3, x2_4.val], .agg #[.int .i64 n3_0, .int .i64 n3_1, .int .i64 n3_2, .int .i64 n3_3, x3_4.val, x3_5.val]] v Q :=
 trip_of_eq (args := [.pt a_0 0, .ag [.sl x1_0, .sl x1_1], .ag [.sl x2_0, .sl x2_1, .num .i64 n2_2, .num .i64 n2_3, .sl x2_4], .ag [.num .i64 n3_0, .num .i64 n3_1, .num .i64 n3_2, .num .i64 n3_3, .sl x3_4, .sl x3_5]]) (A := ⟨[], [], [(24, []), (27, [])], [999999], psG⟩) Tryz.func47 (by kernel_rfl) (by kernel_rfl) (by kernel_rfl : vc47 a_0 x1_0 x1_1 x2_0 x2_1 n2_2 n2_3 x2_4 n3_0 n3_1 n3_2 n3_3 x3_4 x3_5 v Q = _) h

def vc48 (a_0 : Addr) (x1_0 : Sl) (x1_1 : Sl) (x_2 : Sl) (n_3 : Int) (a_4 : Addr) (v : World) (Q : Value → World → Prop) : Prop :=
 IxOk x_2 n_3 ∧
 ∃ n1 : Int, ∃ n2 : Int, ∃ n3 : Int, ∃ n4 : Int, ∃ x5 : Sl, ∃ x6 : Sl, (v.cell? ((elA x_2 n_3 6).add 0) = some (.int .i64 n1) ∧
 v.cell? ((elA x_2 n_3 6).add 1) = some (.int .i64 n2) ∧
 v.cell? ((elA x_2 n_3 6).add 2) = some (.int .i64 n3) ∧
 v.cell? ((elA x_2 n_3 6).add 3) = some (.int .i64 n4) ∧
 v.cell? ((elA x_2 n_3 6).add 4) = some (x5.val) ∧
 v.cell? ((elA x_2 n_3 6).add 5) = some (x6.val)) ∧
 ((!decide (n1 = 21)) = true →
 Trip Tryz.prog 82 #[x_2.val, .int .i64 n_3] v fun r7 w8 =>
 ∃ x9 : Sl, r7 = x9.val ∧
 ∃ I10 : Int → World → Prop, ∃ m11 : Int → World → Nat, I10 0 w8 ∧
 ∀ n12 : Int, ∀ w13 : World, I10 n12 w13 →
 ((decide (n12 < (x9.n : Int))) = true →
 IxOk x9 n12 ∧
 ∃ n14 : Int, w13.cell? ((elA x9 n12 1).add 0) = some (.int .i64 n14) ∧
 Trip Tryz.prog 44 #[.pointer (some (a_0.add 0)), .int .i64 n14, .pointer (some (a_4.add 0))] w13 fun r15 w16 =>
 ∃ q17 : Bool, r15 = .bool q17 ∧
 ((!q17) = true →
 Q (.bool false) w16) ∧
 ((!q17) = false →
 ∃ n18 : Int, Wr .i64 (n12 + 1) n18 ∧
 ((.sl x1_0 : SV) = .sl x1_0) ∧
 ((.sl x1_1 : SV) = .sl x1_1) ∧
 ((.num .i64 n1 : SV) = .num .i64 n1) ∧
 ((.num .i64 n2 : SV) = .num .i64 n2) ∧
 ((.num .i64 n3 : SV) = .num .i64 n3) ∧
 ((.num .i64 n4 : SV) = .num .i64 n4) ∧
 ((.sl x5 : SV) = .sl x5) ∧
 ((.sl x6 : SV) = .sl x6) ∧
 I10 n18 w16 ∧
 m11 n18 w16 < m11 n12 w13)) ∧
 ((decide (n12 < (x9.n : Int))) = false →
 Q (.bool true) w13)) ∧
 ((!decide (n1 = 21)) = false →
 Trip Tryz.prog 83 #[x1_0.val, .int .i64 n3] v fun r19 w20 =>
 ∃ x21 : Sl, r19 = x21.val ∧
 IxOk x5 0 ∧
 ∃ n22 : Int, w20.cell? ((elA x5 0 1).add 0) = some (.int .i64 n22) ∧
 ∃ I23 : Int → World → Prop, ∃ m24 : Int → World → Nat, I23 0 w20 ∧
 ∀ n25 : Int, ∀ w26 : World, I23 n25 w26 →
 ((decide (n25 < (x21.n : Int))) = true →
 ∃ x27 : Sl, w26.cell? (a_4.add 4) = some (x27.val) ∧
 IxOk x27 n22 ∧
 ∃ n28 : Int, w26.cell? ((elA x27 n22 1).add 0) = some (.int .i64 n28) ∧
 ∃ x29 : Sl, ((decide (n28 < 0)) = false →
 w26.cell? (a_4.add 4) = some (x29.val)) ∧
 ((decide (n28 < 0)) = false →
 IxOk x29 n22) ∧
 ∃ n30 : Int, ((decide (n28 < 0)) = false →
 w26.cell? ((elA x29 n22 1).add 0) = some (.int .i64 n30)) ∧
 ((decide (n28 < 0)) = false →
 IxOk x21 n25) ∧
 ∃ n31 : Int, ((decide (n28 < 0)) = false →
 w26.cell? ((elA x21 n25 1).add 0) = some (.int .i64 n31)) ∧
 (((decide (n28 < 0)) || (decide (n30 = n31))) = true →
 Trip Tryz.prog 46 #[.pointer (some (a_4.add 0))] w26 fun r32 w33 =>
 ∃ a34 : Addr, r32 = .pointer (some (a34.add 0)) ∧
 ∃ x35 : Sl, w33.cell? (a34.add 4) = some (x35.val) ∧
 IxOk x21 n25 ∧
 ∃ n36 : Int, w33.cell? ((elA x21 n25 1).add 0) = some (.int .i64 n36) ∧
 IxOk x35 n22 ∧
 StoreAt w33 (elA x35 n22 1) 0 [.int .i64 n36] fun w37 =>
 IxOk x6 n25 ∧
 ∃ n38 : Int, w37.cell? ((elA x6 n25 1).add 0) = some (.int .i64 n38) ∧
 Trip Tryz.prog 44 #[.pointer (some (a_0.add 0)), .int .i64 n38, .pointer (some (a34.add 0))] w37 fun r39 w40 =>
 ∃ q41 : Bool, r39 = .bool q41 ∧
 ((!q41) = true →
 Q (.bool false) w40) ∧
 ((!q41) = false →
 ∃ n42 : Int, Wr .i64 (n25 + 1) n42 ∧
 ((.sl x1_0 : SV) = .sl x1_0) ∧
 ((.sl x1_1 : SV) = .sl x1_1) ∧
 ((.num .i64 n1 : SV) = .num .i64 n1) ∧
 ((.num .i64 n2 : SV) = .num .i64 n2) ∧
 ((.num .i64 n3 : SV) = .num .i64 n3) ∧
 ((.num .i64 n4 : SV) = .num .i64 n4) ∧
 ((.sl x5 : SV) = .sl x5) ∧
 ((.sl x6 : SV) = .sl x6) ∧
 I23 n42 w40 ∧
 m24 n42 w40 < m24 n25 w26)) ∧
 (((decide (n28 < 0)) || (decide (n30 = n31))) = false →
 ∃ n43 : Int, Wr .i64 (n25 + 1) n43 ∧
 ((.sl x1_0 : SV) = .sl x1_0) ∧
 ((.sl x1_1 : SV) = .sl x1_1) ∧
 ((.num .i64 n1 : SV) = .num .i64 n1) ∧
 ((.num .i64 n2 : SV) = .num .i64 n2) ∧
 ((.num .i64 n3 : SV) = .num .i64 n3) ∧
 ((.num .i64 n4 : SV) = .num .i64 n4) ∧
 ((.sl x5 : SV) = .sl x5) ∧
 ((.sl x6 : SV) = .sl x6) ∧
 I23 n43 w26 ∧
 m24 n43 w26 < m24 n25 w26)) ∧
 ((decide (n25 < (x21.n : Int))) = false →
 Q (.bool true) w26))
theorem of48 (a_0 : Addr) (x1_0 : Sl) (x1_1 : Sl) (x_2 : Sl) (n_3 : Int) (a_4 : Addr) (v : World) (Q : Value → World → Prop) (h : vc48 a_0 x1_0 x1_1 x_2 n_3 a_4 v Q) : Trip Tryz.prog 48 #[.pointer (some (a_0.add 0)), .agg #[x1_0.val, x1_1.val], x_2.val, .int .i64 n_3, .pointer (some (a_4.add 0))] v Q :=
 trip_of_eq (args := [.pt a_0 0, .ag [.sl x1_0, .sl x1_1], .sl x_2, .num .i64 n_3, .pt a_4 0]) (A := ⟨[(5, [(13, .int .i64)], []), (13, [(16, .int .i64)], [])], [], [(17, [])], [], psG⟩) Tryz.func48 (by kernel_rfl) (by kernel_rfl) (by kernel_rfl : vc48 a_0 x1_0 x1_1 x_2 n_3 a_4 v Q = _) h

def vc49 (n0_0 : Int) (n0_1 : Int) (x0_2 : Sl) (v : World) (Q : Value → World → Prop) : Prop :=
 Trip Tryz.prog 84 #[x0_2.val] v fun r1 w2 =>
 ∃ x3 : Sl, r1 = x3.val ∧
 Q (.agg #[.int .i64 n0_0, .int .i64 n0_1, x3.val]) w2
theorem of49 (n0_0 : Int) (n0_1 : Int) (x0_2 : Sl) (v : World) (Q : Value → World → Prop) (h : vc49 n0_0 n0_1 x0_2 v Q) : Trip Tryz.prog 49 #[.agg #[.int .i64 n0_0, .int .i64 n0_1, x0_2.val]] v Q :=
 trip_of_eq (args := [.ag [.num .i64 n0_0, .num .i64 n0_1, .sl x0_2]]) (A := ⟨[], [], [], [], psG⟩) Tryz.func49 (by kernel_rfl) (by kernel_rfl) (by kernel_rfl : vc49 n0_0 n0_1 x0_2 v Q = _) h

def vc50 (x0_0 : Sl) (x0_1 : Sl) (n0_2 : Int) (n0_3 : Int) (x0_4 : Sl) (v : World) (Q : Value → World → Prop) : Prop :=
 Trip Tryz.prog 85 #[x0_0.val] v fun r1 w2 =>
 ∃ x3 : Sl, r1 = x3.val ∧
 Trip Tryz.prog 85 #[x0_1.val] w2 fun r4 w5 =>
 ∃ x6 : Sl, r4 = x6.val ∧
 Trip Tryz.prog 86 #[x0_4.val] w5 fun r7 w8 =>
 ∃ x9 : Sl, r7 = x9.val ∧
 Q (.agg #[x3.val, x6.val, .int .i64 n0_2, .int .i64 n0_3, x9.val]) w8
theorem of50 (x0_0 : Sl) (x0_1 : Sl) (n0_2 : Int) (n0_3 : Int) (x0_4 : Sl) (v : World) (Q : Value → World → Prop) (h : vc50 x0_0 x0_1 n0_2 n0_3 x0_4 v Q) : Trip Tryz.prog 50 #[.agg #[x0_0.val, x0_1.val, .int .i64 n0_2, .int .i64 n0_3, x0_4.val]] v Q :=
 trip_of_eq (args := [.ag [.sl x0_0, .sl x0_1, .num .i64 n0_2, .num .i64 n0_3, .sl x0_4]]) (A := ⟨[], [], [], [], psG⟩) Tryz.func50 (by kernel_rfl) (by kernel_rfl) (by kernel_rfl : vc50 x0_0 x0_1 n0_2 n0_3 x0_4 v Q = _) h

def vc51 (x0_0 : Sl) (x0_1 : Sl) (v : World) (Q : Value → World → Prop) : Prop :=
 ((decide ((x0_1.n : Int) > 4)) = true →
 Q (.tuple #[.agg #[.slice none 0 0, .slice none 0 0], .bool false]) v) ∧
 ((decide ((x0_1.n : Int) > 4)) = false →
 ∃ I1 : Int → Sl → World → Prop, ∃ m2 : Int → Sl → World → Nat, I1 0 (Sl.mk none 0 0) v ∧
 ∀ n3 : Int, ∀ x4 : Sl, ∀ w5 : World, I1 n3 x4 w5 →
 ((decide (n3 < (x0_1.n : Int))) = true →
 IxOk x0_1 n3 ∧
 ∃ x6 : Sl, ∃ x7 : Sl, ∃ n8 : Int, ∃ n9 : Int, ∃ x10 : Sl, (w5.cell? ((elA x0_1 n3 5).add 0) = some (x6.val) ∧
 w5.cell? ((elA x0_1 n3 5).add 1) = some (x7.val) ∧
 w5.cell? ((elA x0_1 n3 5).add 2) = some (.int .i64 n8) ∧
 w5.cell? ((elA x0_1 n3 5).add 3) = some (.int .i64 n9) ∧
 w5.cell? ((elA x0_1 n3 5).add 4) = some (x10.val)) ∧
 StepT Tryz.prog (Instr.buildSlice 104 1 #[(0, (.agg #[x6.val, x7.val, .int .i64 n8]))]) w5 fun r11 w12 =>
 ∃ x13 : Sl, r11 = x13.val ∧
 StepT Tryz.prog (Builtin.append_ #[104, 104] 104 #[(x4.val), (x13.val)]) w12 fun r14 w15 =>
 ∃ x16 : Sl, r14 = x16.val ∧
 ∃ n17 : Int, Wr .i64 (n3 + 1) n17 ∧
 ((.sl x0_0 : SV) = .sl x0_0) ∧
 ((.sl x0_1 : SV) = .sl x0_1) ∧
 ((.sl (Sl.mk none 0 0) : SV) = .sl (Sl.mk none 0 0)) ∧
 ((.sl (Sl.mk none 0 0) : SV) = .sl (Sl.mk none 0 0)) ∧
 ((.sl x0_0 : SV) = .sl x0_0) ∧
 I1 n17 x16 w15 ∧
 m2 n17 x16 w15 < m2 n3 x4 w5) ∧
 ((decide (n3 < (x0_1.n : Int))) = false →
 ∃ q18 : Bool, (Trip Tryz.prog 87 #[x0_0.val, x4.val] w5 fun r19 w20 => r19 = .bool q18 ∧ Sub w5 w20) ∧
 Q (.tuple #[.agg #[x0_0.val, x4.val], .bool q18]) w5))
theorem of51 (x0_0 : Sl) (x0_1 : Sl) (v : World) (Q : Value → World → Prop) (h : vc51 x0_0 x0_1 v Q) : Trip Tryz.prog 51 #[.agg #[x0_0.val, x0_1.val]] v Q :=
 trip_of_eq (args := [.ag [.sl x0_0, .sl x0_1]]) (A := ⟨[(5, [(18, .int .i64)], [(2, 1, .sl)])], [], [(9, [])], [], psG⟩) Tryz.func51 (by kernel_rfl) (by kernel_rfl) (by kernel_rfl : vc51 x0_0 x0_1 v Q = _) h

def vc52 (x0_0 : Sl) (x0_1 : Sl) (x1_0 : Sl) (x1_1 : Sl) (n1_2 : Int) (n1_3 : Int) (x1_4 : Sl) (n_2 : Int) (n3_0 : Int) (n3_1 : Int) (n3_2 : Int) (n3_3 : Int) (x3_4 : Sl) (x3_5 : Sl) (v : World) (Q : Value → World → Prop) : Prop :=
 NewAt v (.cells #[x1_0.val, x1_1.val, .int .i64 n1_2, .int .i64 n1_3, x1_4.val] 51 (0, 0)) fun a1 w2 =>
 NewAt w2 (.cells #[.int .i64 n_2] 3 (0, 0)) fun a3 w4 =>
 (((((((decide (n3_0 < 0)) || (decide (n3_0 > 24))) || (decide (n3_0 = 7))) || (decide (n3_0 = 8))) || (decide (n3_0 = 12))) || (decide (n3_0 = 13))) = true →
 Q (.bool false) w4) ∧
 (((((((decide (n3_0 < 0)) || (decide (n3_0 > 24))) || (decide (n3_0 = 7))) || (decide (n3_0 = 8))) || (decide (n3_0 = 12))) || (decide (n3_0 = 13))) = false →
 ∃ n5 : Int, ((decide (n3_1 < 0)) = false →
 w4.cell? (a1.add 3) = some (.int .i64 n5)) ∧
 ∃ q6 : Bool, ((!decide (n3_1 = 0)) = true →
 ((decide (n3_1 < 0)) || (decide (n3_1 ≥ n5))) = false →
 (Trip Tryz.prog 88 #[.int .i64 n3_0] w4 fun r7 w8 => r7 = .bool q6 ∧ Sub w4 w8)) ∧
 ∃ n9 : Int, (((((decide (n3_1 < 0)) || (decide (n3_1 ≥ n5))) || ((!decide (n3_1 = 0)) && (!q6))) || (decide (n3_3 < 0))) = false →
 w4.cell? (a1.add 3) = some (.int .i64 n9)) ∧
 (((((((decide (n3_1 < 0)) || (decide (n3_1 ≥ n5))) || ((!decide (n3_1 = 0)) && (!q6))) || (decide (n3_3 < 0))) || (decide (n3_3 > n9))) || ((!decide (n3_3 = 0)) && (!decide (n3_0 = 6)))) = true →
 Q (.bool false) w4) ∧
 (((((((decide (n3_1 < 0)) || (decide (n3_1 ≥ n5))) || ((!decide (n3_1 = 0)) && (!q6))) || (decide (n3_3 < 0))) || (decide (n3_3 > n9))) || ((!decide (n3_3 = 0)) && (!decide (n3_0 = 6)))) = false →
 ∃ I10 : Int → World → Prop, ∃ m11 : Int → World → Nat, I10 0 w4 ∧
 ∀ n12 : Int, ∀ w13 : World, I10 n12 w13 →
 ((decide (n12 < (x3_4.n : Int))) = true →
 IxOk x3_4 n12 ∧
 ∃ n14 : Int, w13.cell? ((elA x3_4 n12 1).add 0) = some (.int .i64 n14) ∧
 ∃ n15 : Int, ((decide (n14 < 0)) = false →
 w13.cell? (a1.add 3) = some (.int .i64 n15)) ∧
 (((decide (n14 < 0)) || (decide (n14 ≥ n15))) = true →
 Q (.bool false) w13) ∧
 (((decide (n14 < 0)) || (decide (n14 ≥ n15))) = false →
 ∃ n16 : Int, Wr .i64 (n12 + 1) n16 ∧
 ((.sl x0_0 : SV) = .sl x0_0) ∧
 ((.sl x0_1 : SV) = .sl x0_1) ∧
 ((.num .i64 n3_0 : SV) = .num .i64 n3_0) ∧
 ((.num .i64 n3_1 : SV) = .num .i64 n3_1) ∧
 ((.num .i64 n3_2 : SV) = .num .i64 n3_2) ∧
 ((.num .i64 n3_3 : SV) = .num .i64 n3_3) ∧
 ((.sl x3_4 : SV) = .sl x3_4) ∧
 ((.sl x3_5 : SV) = .sl x3_5) ∧
 I10 n16 w13 ∧
 m11 n16 w13 < m11 n12 w13)) ∧
 ((decide (n12 < (x3_4.n : Int))) = false →
 NewAt w13 (.cells #[(Vl.mk Value.nilFunc rfl).x] 115 (0, 0)) fun a17 w18 =>
 StoreAt w18 a17 0 [(Vl.mk (.func (.func 89) #[] #[.pointer (some (a3.add 0)), .pointer (some (a1.add 0))]) rfl).x] fun w19 =>
 (((decide ((x3_5.n : Int) > 0)) && (!decide (n3_0 = 21))) = false →
 Trip Tryz.prog 90 #[x3_5.val, .func (.func 91) #[] #[.pointer (some (a17.add 0))]] w19 fun r20 w21 =>
 ∃ q22 : Bool, r20 = .bool q22 ∧
 (q22 = true →
 Q (.bool false) w21) ∧
 (q22 = false →
 ∃ y23 : Vl, w21.cell? (a17.add 0) = some (y23.x) ∧
 ∃ q24 : Bool, (Trip Tryz.prog 92 #[.agg #[x0_0.val, x0_1.val], .agg #[.int .i64 n3_0, .int .i64 n3_1, .int .i64 n3_2, .int .i64 n3_3, x3_4.val, x3_5.val], y23.x] w21 fun r25 w26 => r25 = .bool q24 ∧ Sub w21 w26) ∧
 ((!q24) = true →
 Q (.bool false) w21) ∧
 ((!q24) = false →
 ∃ n27 : Int, ∃ n28 : Int, (Trip Tryz.prog 93 #[.agg #[x0_0.val, x0_1.val], .agg #[.int .i64 n3_0, .int .i64 n3_1, .int .i64 n3_2, .int .i64 n3_3, x3_4.val, x3_5.val]] w21 fun r29 w30 => r29 = .tuple #[.int .i64 n27, .int .i64 n28] ∧ Sub w21 w30) ∧
 Q (.bool ((decide ((x3_4.n : Int) ≥ n27)) && (decide ((x3_4.n : Int) ≤ n28)))) w21))) ∧
 (((decide ((x3_5.n : Int) > 0)) && (!decide (n3_0 = 21))) = true →
 Q (.bool false) w19))))
theorem of52 (x0_0 : Sl) (x0_1 : Sl) (x1_0 : Sl) (x1_1 : Sl) (n1_2 : Int) (n1_3 : Int) (x1_4 : Sl) (n_2 : Int) (n3_0 : Int) (n3_1 : Int) (n3_2 : Int) (n3_3 : Int) (x3_4 : Sl) (x3_5 : Sl) (v : World) (Q : Value → World → Prop) (h : vc52 x0_0 x0_1 x1_0 x1_1 n1_2 n1_3 x1_4 n_2 n3_0 n3_1 n3_2 n3_3 x3_4 x3_5 v Q) : Trip Tryz.prog 52 #[.agg #[x0_0.val, x0_1.val], .agg #[x1_0.val, x1_1.val, .int .i64 n1_2, .int .i64 n1_3, x1_4.val], .int .i64 n_2, .agg #[.int .i64 n3_0, .int .i64 n3_1, .int .i64 n3_2, .int .i64 n3_3, x3_4.val, x3_5.val]] v Q :=
 trip_of_eq (args := [.ag [.sl x0_0, .sl x0_1], .ag [.sl x1_0, .sl x1_1, .num .i64 n1_2, .num .i64 n1_3, .sl x1_4], .num .i64 n_2, .ag [.num .i64 n3_0, .num .i64 n3_1, .num .i64 n3_2, .num .i64 n3_3, .sl x3_4, .sl x3_5]]) (A := ⟨[(6, [(88, .int .i64)], [])], [], [], [5, 6, 11], psG⟩) Tryz.func52 (by kernel_rfl) (by kernel_rfl) (by kernel_rfl : vc52 x0_0 x0_1 x1_0 x1_1 n1_2 n1_3 x1_4 n_2 n3_0 n3_1 n3_2 n3_3 x3_4 x3_5 v Q = _) h

def vc53  (v : World) (Q : Value → World → Prop) : Prop :=
 Q (.agg #[.int .i64 (-1), .int .i64 0, .bool false, .int .i64 (-1), .int .i64 (-1), .int .i64 (-1)]) v
theorem of53  (v : World) (Q : Value → World → Prop) (h : vc53  v Q) : Trip Tryz.prog 53 #[] v Q :=
 trip_of_eq (args := []) (A := ⟨[], [], [], [], psG⟩) Tryz.func53 (by kernel_rfl) (by kernel_rfl) (by kernel_rfl : vc53  v Q = _) h

def vc54 (x_0 : Sl) (n_1 : Int) (v : World) (Q : Value → World → Prop) : Prop :=
 ∃ n1 : Int, (Trip Tryz.prog 94 #[x_0.val, .int .i64 n_1] v fun r2 w3 => r2 = .int .i64 n1 ∧ Sub v w3) ∧
 Q (.bool (decide (n1 ≥ 0))) v
theorem of54 (x_0 : Sl) (n_1 : Int) (v : World) (Q : Value → World → Prop) (h : vc54 x_0 n_1 v Q) : Trip Tryz.prog 54 #[x_0.val, .int .i64 n_1] v Q :=
 trip_of_eq (args := [.sl x_0, .num .i64 n_1]) (A := ⟨[], [], [], [], psG⟩) Tryz.func54 (by kernel_rfl) (by kernel_rfl) (by kernel_rfl : vc54 x_0 n_1 v Q = _) h

def vc55 (a_0 : Addr) (n_1 : Int) (v : World) (Q : Value → World → Prop) : Prop :=
 ∃ x1 : Sl, v.cell? (a_0.add 7) = some (x1.val) ∧
 IxOk x1 n_1 ∧
 ∃ y2 : Vl, v.cell? ((elA x1 n_1 1).add 0) = some (y2.x) ∧
 ∃ x3 : Sl, v.cell? (a_0.add 6) = some (x3.val) ∧
 IxOk x3 n_1 ∧
 ∃ n4 : Int, ∃ n5 : Int, ∃ n6 : Int, ∃ n7 : Int, ∃ x8 : Sl, ∃ x9 : Sl, (v.cell? ((elA x3 n_1 6).add 0) = some (.int .i64 n4) ∧
 v.cell? ((elA x3 n_1 6).add 1) = some (.int .i64 n5) ∧
 v.cell? ((elA x3 n_1 6).add 2) = some (.int .i64 n6) ∧
 v.cell? ((elA x3 n_1 6).add 3) = some (.int .i64 n7) ∧
 v.cell? ((elA x3 n_1 6).add 4) = some (x8.val) ∧
 v.cell? ((elA x3 n_1 6).add 5) = some (x9.val)) ∧
 (Trip Tryz.prog 95 #[y2.x] v fun r10 w11 =>
 ∃ a12 : Addr, r10 = .pointer (some (a12.add 0)) ∧
 Sub v w11 ∧
 Sub w11 w11 ∧
 ((decide (n4 = 21)) = true →
 Trip Tryz.prog 96 #[.pointer (some (a_0.add 0)), .pointer (some (a12.add 0)), .agg #[.int .i64 n4, .int .i64 n5, .int .i64 n6, .int .i64 n7, x8.val, x9.val]] w11 fun r13 w14 =>
 ∃ q15 : Bool, r13 = .bool q15 ∧
 Q (.bool q15) w14) ∧
 ((decide (n4 = 21)) = false →
 Trip Tryz.prog 97 #[.pointer (some (a_0.add 0)), .pointer (some (a12.add 0)), .agg #[.int .i64 n4, .int .i64 n5, .int .i64 n6, .int .i64 n7, x8.val, x9.val]] w11 fun r16 w17 =>
 ∃ q18 : Bool, r16 = .bool q18 ∧
 ((!q18) = true →
 Q (.bool false) w17) ∧
 ((!q18) = false →
 Trip Tryz.prog 98 #[.agg #[.int .i64 n4, .int .i64 n5, .int .i64 n6, .int .i64 n7, x8.val, x9.val], .int .i64 n_1] w17 fun r19 w20 =>
 ∃ x21 : Sl, r19 = x21.val ∧
 ∃ I22 : Int → World → Prop, ∃ m23 : Int → World → Nat, I22 0 w20 ∧
 ∀ n24 : Int, ∀ w25 : World, I22 n24 w25 →
 ((decide (n24 < (x21.n : Int))) = true →
 IxOk x21 n24 ∧
 ∃ n26 : Int, w25.cell? ((elA x21 n24 1).add 0) = some (.int .i64 n26) ∧
 Trip Tryz.prog 99 #[.pointer (some (a_0.add 0)), .pointer (some (a12.add 0)), .int .i64 n26] w25 fun r27 w28 =>
 ∃ q29 : Bool, r27 = .bool q29 ∧
 ((!q29) = true →
 Q (.bool false) w28) ∧
 ((!q29) = false →
 ∃ n30 : Int, Wr .i64 (n24 + 1) n30 ∧
 ((.num .i64 n4 : SV) = .num .i64 n4) ∧
 ((.num .i64 n5 : SV) = .num .i64 n5) ∧
 ((.num .i64 n6 : SV) = .num .i64 n6) ∧
 ((.num .i64 n7 : SV) = .num .i64 n7) ∧
 ((.sl x8 : SV) = .sl x8) ∧
 ((.sl x9 : SV) = .sl x9) ∧
 I22 n30 w28 ∧
 m23 n30 w28 < m23 n24 w25)) ∧
 ((decide (n24 < (x21.n : Int))) = false →
 Q (.bool true) w25)))) ∧
 Sub v v ∧
 Trip Tryz.prog 95 #[y2.x] v fun r31 w32 =>
 ∃ a33 : Addr, r31 = .pointer (some (a33.add 0)) ∧
 Sub v w32 ∧
 ((decide (n4 = 21)) = true →
 Trip Tryz.prog 96 #[.pointer (some (a_0.add 0)), .pointer (some (a33.add 0)), .agg #[.int .i64 n4, .int .i64 n5, .int .i64 n6, .int .i64 n7, x8.val, x9.val]] w32 fun r34 w35 =>
 ∃ q36 : Bool, r34 = .bool q36 ∧
 Q (.bool q36) w35) ∧
 ((decide (n4 = 21)) = false →
 Trip Tryz.prog 97 #[.pointer (some (a_0.add 0)), .pointer (some (a33.add 0)), .agg #[.int .i64 n4, .int .i64 n5, .int .i64 n6, .int .i64 n7, x8.val, x9.val]] w32 fun r37 w38 =>
 ∃ q39 : Bool, r37 = .bool q39 ∧
 ((!q39) = true →
 Q (.bool false) w38) ∧
 ((!q39) = false →
 Trip Tryz.prog 98 #[.agg #[.int .i64 n4, .int .i64 n5, .int .i64 n6, .int .i64 n7, x8.val, x9.val], .int .i64 n_1] w38 fun r40 w41 =>
 ∃ x42 : Sl, r40 = x42.val ∧
 ∃ I43 : Int → World → Prop, ∃ m44 : Int → World → Nat, I43 0 w41 ∧
 ∀ n45 : Int, ∀ w46 : World, I43 n45 w46 →
 ((decide (n45 < (x42.n : Int))) = true →
 IxOk x42 n45 ∧
 ∃ n47 : Int, w46.cell? ((elA x42 n45 1).add 0) = some (.int .i64 n47) ∧
 Trip Tryz.prog 99 #[.pointer (some (a_0.add 0)), .pointer (some (a33.add 0)), .int .i64 n47] w46 fun r48 w49 =>
 ∃ q50 : Bool, r48 = .bool q50 ∧
 ((!q50) = true →
 Q (.bool false) w49) ∧
 ((!q50) = false →
 ∃ n51 : Int, Wr .i64 (n45 + 1) n51 ∧
 ((.num .i64 n4 : SV) = .num .i64 n4) ∧
 ((.num .i64 n5 : SV) = .num .i64 n5) ∧
 ((.num .i64 n6 : SV) = .num .i64 n6) ∧
 ((.num .i64 n7 : SV) = .num .i64 n7) ∧
 ((.sl x8 : SV) = .sl x8) ∧
 ((.sl x9 : SV) = .sl x9) ∧
 I43 n51 w49 ∧
 m44 n51 w49 < m44 n45 w46)) ∧
 ((decide (n45 < (x42.n : Int))) = false →
 Q (.bool true) w46)))
theorem of55 (a_0 : Addr) (n_1 : Int) (v : World) (Q : Value → World → Prop) (h : vc55 a_0 n_1 v Q) : Trip Tryz.prog 55 #[.pointer (some (a_0.add 0)), .int .i64 n_1] v Q :=
 trip_of_eq (args := [.pt a_0 0, .num .i64 n_1]) (A := ⟨[(7, [(41, .int .i64)], [])], [], [(1, [7, 16])], [999999], psG⟩) Tryz.func55 (by kernel_rfl) (by kernel_rfl) (by kernel_rfl : vc55 a_0 n_1 v Q = _) h

def vc56 (n0_0 : Int) (n0_1 : Int) (x0_2 : Sl) (n1_0 : Int) (n1_1 : Int) (x1_2 : Sl) (v : World) (Q : Value → World → Prop) : Prop :=
 ((!decide (n0_0 = n1_0)) = true →
 Q (.bool false) v) ∧
 ((!decide (n0_0 = n1_0)) = false →
 ((!decide (n0_1 = n1_1)) = true →
 Q (.bool false) v) ∧
 ((!decide (n0_1 = n1_1)) = false →
 ∃ q1 : Bool, (Trip Tryz.prog 100 #[x0_2.val, x1_2.val] v fun r2 w3 => r2 = .bool q1 ∧ Sub v w3) ∧
 ((!q1) = true →
 Q (.bool false) v) ∧
 ((!q1) = false →
 Q (.bool true) v)))
theorem of56 (n0_0 : Int) (n0_1 : Int) (x0_2 : Sl) (n1_0 : Int) (n1_1 : Int) (x1_2 : Sl) (v : World) (Q : Value → World → Prop) (h : vc56 n0_0 n0_1 x0_2 n1_0 n1_1 x1_2 v Q) : Trip Tryz.prog 56 #[.agg #[.int .i64 n0_0, .int .i64 n0_1, x0_2.val], .agg #[.int .i64 n1_0, .int .i64 n1_1, x1_2.val]] v Q :=
 trip_of_eq (args := [.ag [.num .i64 n0_0, .num .i64 n0_1, .sl x0_2], .ag [.num .i64 n1_0, .num .i64 n1_1, .sl x1_2]]) (A := ⟨[], [], [], [], psG⟩) Tryz.func56 (by kernel_rfl) (by kernel_rfl) (by kernel_rfl : vc56 n0_0 n0_1 x0_2 n1_0 n1_1 x1_2 v Q = _) h

def vc57 (x0_0 : Sl) (x0_1 : Sl) (n0_2 : Int) (n0_3 : Int) (x0_4 : Sl) (x1_0 : Sl) (x1_1 : Sl) (n1_2 : Int) (n1_3 : Int) (x1_4 : Sl) (v : World) (Q : Value → World → Prop) : Prop :=
 ∃ q1 : Bool, (Trip Tryz.prog 16 #[x0_0.val, x1_0.val] v fun r2 w3 => r2 = .bool q1 ∧ Sub v w3) ∧
 ((!q1) = true →
 Q (.bool false) v) ∧
 ((!q1) = false →
 ∃ q4 : Bool, (Trip Tryz.prog 16 #[x0_1.val, x1_1.val] v fun r5 w6 => r5 = .bool q4 ∧ Sub v w6) ∧
 ((!q4) = true →
 Q (.bool false) v) ∧
 ((!q4) = false →
 ((!decide (n0_2 = n1_2)) = true →
 Q (.bool false) v) ∧
 ((!decide (n0_2 = n1_2)) = false →
 ((!decide (n0_3 = n1_3)) = true →
 Q (.bool false) v) ∧
 ((!decide (n0_3 = n1_3)) = false →
 ∃ q7 : Bool, (Trip Tryz.prog 101 #[x0_4.val, x1_4.val] v fun r8 w9 => r8 = .bool q7 ∧ Sub v w9) ∧
 ((!q7) = true →
 Q (.bool false) v) ∧
 ((!q7) = false →
 Q (.bool true) v)))))
theorem of57 (x0_0 : Sl) (x0_1 : Sl) (n0_2 : Int) (n0_3 : Int) (x0_4 : Sl) (x1_0 : Sl) (x1_1 : Sl) (n1_2 : Int) (n1_3 : Int) (x1_4 : Sl) (v : World) (Q : Value → World → Prop) (h : vc57 x0_0 x0_1 n0_2 n0_3 x0_4 x1_0 x1_1 n1_2 n1_3 x1_4 v Q) : Trip Tryz.prog 57 #[.agg #[x0_0.val, x0_1.val, .int .i64 n0_2, .int .i64 n0_3, x0_4.val], .agg #[x1_0.val, x1_1.val, .int .i64 n1_2, .int .i64 n1_3, x1_4.val]] v Q :=
 trip_of_eq (args := [.ag [.sl x0_0, .sl x0_1, .num .i64 n0_2, .num .i64 n0_3, .sl x0_4], .ag [.sl x1_0, .sl x1_1, .num .i64 n1_2, .num .i64 n1_3, .sl x1_4]]) (A := ⟨[], [], [], [], psG⟩) Tryz.func57 (by kernel_rfl) (by kernel_rfl) (by kernel_rfl : vc57 x0_0 x0_1 n0_2 n0_3 x0_4 x1_0 x1_1 n1_2 n1_3 x1_4 v Q = _) h

def vc58 (x_0 : Sl) (n_1 : Int) (v : World) (Q : Value → World → Prop) : Prop :=
 ∃ I1 : Int → Int → World → Prop, ∃ m2 : Int → Int → World → Nat, I1 n_1 0 v ∧
 ∀ n3 : Int, ∀ n4 : Int, ∀ w5 : World, I1 n3 n4 w5 →
 ((decide (n4 < (x_0.n : Int))) = true →
 IxOk x_0 n4 ∧
 ∃ x6 : Sl, w5.cell? ((elA x_0 n4 1).add 0) = some (x6.val) ∧
 Trip Tryz.prog 18 #[x6.val, .int .i64 n3] w5 fun r7 w8 =>
 ∃ n9 : Int, r7 = .int .i64 n9 ∧
 ∃ n10 : Int, Wr .i64 (n4 + 1) n10 ∧
 I1 n9 n10 w8 ∧
 m2 n9 n10 w8 < m2 n3 n4 w5) ∧
 ((decide (n4 < (x_0.n : Int))) = false →
 Q (.int .i64 n3) w5)
theorem of58 (x_0 : Sl) (n_1 : Int) (v : World) (Q : Value → World → Prop) (h : vc58 x_0 n_1 v Q) : Trip Tryz.prog 58 #[x_0.val, .int .i64 n_1] v Q :=
 trip_of_eq (args := [.sl x_0, .num .i64 n_1]) (A := ⟨[(2, [(1, .int .i64), (5, .int .i64)], [])], [], [], [], psG⟩) Tryz.func58 (by kernel_rfl) (by kernel_rfl) (by kernel_rfl : vc58 x_0 n_1 v Q = _) h

def vc59 (x_0 : Sl) (n_1 : Int) (v : World) (Q : Value → World → Prop) : Prop :=
 ∃ I1 : Int → Int → World → Prop, ∃ m2 : Int → Int → World → Nat, I1 n_1 0 v ∧
 ∀ n3 : Int, ∀ n4 : Int, ∀ w5 : World, I1 n3 n4 w5 →
 ((decide (n4 < (x_0.n : Int))) = true →
 IxOk x_0 n4 ∧
 StoreAt w5 (elA x_0 n4 6) 0 [.int .i64 n3] fun w6 =>
 ∃ n7 : Int, Wr .i64 (n3 + 1) n7 ∧
 IxOk x_0 n4 ∧
 StoreAt w6 (elA x_0 n4 6) 1 [.int .i64 n7] fun w8 =>
 ∃ n9 : Int, Wr .i64 (n7 + 1) n9 ∧
 IxOk x_0 n4 ∧
 StoreAt w8 (elA x_0 n4 6) 2 [.int .i64 n9] fun w10 =>
 ∃ n11 : Int, Wr .i64 (n9 + 1) n11 ∧
 IxOk x_0 n4 ∧
 StoreAt w10 (elA x_0 n4 6) 3 [.int .i64 n11] fun w12 =>
 ∃ n13 : Int, Wr .i64 (n11 + 1) n13 ∧
 IxOk x_0 n4 ∧
 ∃ x14 : Sl, w12.cell? ((elA x_0 n4 6).add 4) = some (x14.val) ∧
 Trip Tryz.prog 18 #[x14.val, .int .i64 n13] w12 fun r15 w16 =>
 ∃ n17 : Int, r15 = .int .i64 n17 ∧
 IxOk x_0 n4 ∧
 ∃ x18 : Sl, w16.cell? ((elA x_0 n4 6).add 5) = some (x18.val) ∧
 Trip Tryz.prog 18 #[x18.val, .int .i64 n17] w16 fun r19 w20 =>
 ∃ n21 : Int, r19 = .int .i64 n21 ∧
 ∃ n22 : Int, Wr .i64 (n4 + 1) n22 ∧
 I1 n21 n22 w20 ∧
 m2 n21 n22 w20 < m2 n3 n4 w5) ∧
 ((decide (n4 < (x_0.n : Int))) = false →
 Q (.int .i64 n3) w5)
theorem of59 (x_0 : Sl) (n_1 : Int) (v : World) (Q : Value → World → Prop) (h : vc59 x_0 n_1 v Q) : Trip Tryz.prog 59 #[x_0.val, .int .i64 n_1] v Q :=
 trip_of_eq (args := [.sl x_0, .num .i64 n_1]) (A := ⟨[(2, [(1, .int .i64), (5, .int .i64)], [])], [], [], [], psG⟩) Tryz.func59 (by kernel_rfl) (by kernel_rfl) (by kernel_rfl : vc59 x_0 n_1 v Q = _) h

def vc60 (x_0 : Sl) (n_1 : Int) (v : World) (Q : Value → World → Prop) : Prop :=
 ∃ n1 : Int, Wr .i64 (n_1 - (x_0.n : Int)) n1 ∧
 ((decide (n1 < 0)) = true →
 Q (.int .i64 (-1)) v) ∧
 ((decide (n1 < 0)) = false →
 ∃ I2 : Int → Int → World → Prop, ∃ m3 : Int → Int → World → Nat, I2 n1 0 v ∧
 ∀ n4 : Int, ∀ n5 : Int, ∀ w6 : World, I2 n4 n5 w6 →
 ((decide (n5 < (x_0.n : Int))) = true →
 IxOk x_0 n5 ∧
 ∃ x7 : Sl, w6.cell? ((elA x_0 n5 1).add 0) = some (x7.val) ∧
 ∃ n8 : Int, (Trip Tryz.prog 102 #[.agg #[x7.val], .int .i64 n4] w6 fun r9 w10 => r9 = .int .i64 n8 ∧ Sub w6 w10) ∧
 ((decide (n8 < 0)) = true →
 Q (.int .i64 (-1)) w6) ∧
 ((decide (n8 < 0)) = false →
 ∃ n11 : Int, Wr .i64 (n5 + 1) n11 ∧
 I2 n8 n11 w6 ∧
 m3 n8 n11 w6 < m3 n4 n5 w6)) ∧
 ((decide (n5 < (x_0.n : Int))) = false →
 Q (.int .i64 n4) w6))
theorem of60 (x_0 : Sl) (n_1 : Int) (v : World) (Q : Value → World → Prop) (h : vc60 x_0 n_1 v Q) : Trip Tryz.prog 60 #[x_0.val, .int .i64 n_1] v Q :=
 trip_of_eq (args := [.sl x_0, .num .i64 n_1]) (A := ⟨[(5, [(1, .int .i64), (5, .int .i64)], [])], [], [], [], psG⟩) Tryz.func60 (by kernel_rfl) (by kernel_rfl) (by kernel_rfl : vc60 x_0 n_1 v Q = _) h

def vc61 (x_0 : Sl) (n_1 : Int) (v : World) (Q : Value → World → Prop) : Prop :=
 ∃ n1 : Int, Wr .i64 (n_1 - (x_0.n : Int)) n1 ∧
 ((decide (n1 < 0)) = true →
 Q (.int .i64 (-1)) v) ∧
 ((decide (n1 < 0)) = false →
 Q (.int .i64 n1) v)
theorem of61 (x_0 : Sl) (n_1 : Int) (v : World) (Q : Value → World → Prop) (h : vc61 x_0 n_1 v Q) : Trip Tryz.prog 61 #[x_0.val, .int .i64 n_1] v Q :=
 trip_of_eq (args := [.sl x_0, .num .i64 n_1]) (A := ⟨[], [], [], [], psG⟩) Tryz.func61 (by kernel_rfl) (by kernel_rfl) (by kernel_rfl : vc61 x_0 n_1 v Q = _) h

def vc62 (x_0 : Sl) (n_1 : Int) (v : World) (Q : Value → World → Prop) : Prop :=
 ∃ n1 : Int, Wr .i64 (n_1 - (x_0.n : Int)) n1 ∧
 ((decide (n1 < 0)) = true →
 Q (.int .i64 (-1)) v) ∧
 ((decide (n1 < 0)) = false →
 ∃ I2 : Int → Int → World → Prop, ∃ m3 : Int → Int → World → Nat, I2 n1 0 v ∧
 ∀ n4 : Int, ∀ n5 : Int, ∀ w6 : World, I2 n4 n5 w6 →
 ((decide (n5 < (x_0.n : Int))) = true →
 IxOk x_0 n5 ∧
 ∃ n7 : Int, ∃ n8 : Int, ∃ n9 : Int, ∃ n10 : Int, ∃ x11 : Sl, ∃ x12 : Sl, (w6.cell? ((elA x_0 n5 6).add 0) = some (.int .i64 n7) ∧
 w6.cell? ((elA x_0 n5 6).add 1) = some (.int .i64 n8) ∧
 w6.cell? ((elA x_0 n5 6).add 2) = some (.int .i64 n9) ∧
 w6.cell? ((elA x_0 n5 6).add 3) = some (.int .i64 n10) ∧
 w6.cell? ((elA x_0 n5 6).add 4) = some (x11.val) ∧
 w6.cell? ((elA x_0 n5 6).add 5) = some (x12.val)) ∧
 ∃ n13 : Int, (Trip Tryz.prog 103 #[.agg #[.int .i64 n7, .int .i64 n8, .int .i64 n9, .int .i64 n10, x11.val, x12.val], .int .i64 n4] w6 fun r14 w15 => r14 = .int .i64 n13 ∧ Sub w6 w15) ∧
 ((decide (n13 < 0)) = true →
 Q (.int .i64 (-1)) w6) ∧
 ((decide (n13 < 0)) = false →
 ∃ n16 : Int, Wr .i64 (n5 + 1) n16 ∧
 I2 n13 n16 w6 ∧
 m3 n13 n16 w6 < m3 n4 n5 w6)) ∧
 ((decide (n5 < (x_0.n : Int))) = false →
 Q (.int .i64 n4) w6))
theorem of62 (x_0 : Sl) (n_1 : Int) (v : World) (Q : Value → World → Prop) (h : vc62 x_0 n_1 v Q) : Trip Tryz.prog 62 #[x_0.val, .int .i64 n_1] v Q :=
 trip_of_eq (args := [.sl x_0, .num .i64 n_1]) (A := ⟨[(5, [(1, .int .i64), (5, .int .i64)], [])], [], [], [], psG⟩) Tryz.func62 (by kernel_rfl) (by kernel_rfl) (by kernel_rfl : vc62 x_0 n_1 v Q = _) h

def vc63 (x_0 : Sl) (v : World) (Q : Value → World → Prop) : Prop :=
 ((decide ((x_0.n : Int) > 4)) = true →
 Q (.bool false) v) ∧
 ((decide ((x_0.n : Int) > 4)) = false →
 ∃ I1 : Int → World → Prop, ∃ m2 : Int → World → Nat, I1 0 v ∧
 ∀ n3 : Int, ∀ w4 : World, I1 n3 w4 →
 ((decide (n3 < (x_0.n : Int))) = true →
 ∃ q5 : Bool, (Trip Tryz.prog 104 #[x_0.val, .int .i64 n3] w4 fun r6 w7 => r6 = .bool q5 ∧ Sub w4 w7) ∧
 ((!q5) = true →
 Q (.bool false) w4) ∧
 ((!q5) = false →
 ∃ n8 : Int, Wr .i64 (n3 + 1) n8 ∧
 I1 n8 w4 ∧
 m2 n8 w4 < m2 n3 w4)) ∧
 ((decide (n3 < (x_0.n : Int))) = false →
 Q (.bool true) w4))
theorem of63 (x_0 : Sl) (v : World) (Q : Value → World → Prop) (h : vc63 x_0 v Q) : Trip Tryz.prog 63 #[x_0.val] v Q :=
 trip_of_eq (args := [.sl x_0]) (A := ⟨[(4, [(3, .int .i64)], [])], [], [], [], psG⟩) Tryz.func63 (by kernel_rfl) (by kernel_rfl) (by kernel_rfl : vc63 x_0 v Q = _) h

def vc64 (x_0 : Sl) (x_1 : Sl) (v : World) (Q : Value → World → Prop) : Prop :=
 ∃ I1 : Int → World → Prop, ∃ m2 : Int → World → Nat, I1 0 v ∧
 ∀ n3 : Int, ∀ w4 : World, I1 n3 w4 →
 ((decide (n3 < (x_1.n : Int))) = true →
 IxOk x_1 n3 ∧
 ∃ n5 : Int, w4.cell? ((elA x_1 n3 1).add 0) = some (.int .i64 n5) ∧
 ∃ q6 : Bool, (Trip Tryz.prog 25 #[.int .i64 n5, .int .i64 0, .int .i64 (x_0.n : Int)] w4 fun r7 w8 => r7 = .bool q6 ∧ Sub w4 w8) ∧
 ((!q6) = true →
 Q (.bool false) w4) ∧
 ((!q6) = false →
 ∃ n9 : Int, Wr .i64 (n3 + 1) n9 ∧
 I1 n9 w4 ∧
 m2 n9 w4 < m2 n3 w4)) ∧
 ((decide (n3 < (x_1.n : Int))) = false →
 Q (.bool true) w4)
theorem of64 (x_0 : Sl) (x_1 : Sl) (v : World) (Q : Value → World → Prop) (h : vc64 x_0 x_1 v Q) : Trip Tryz.prog 64 #[x_0.val, x_1.val] v Q :=
 trip_of_eq (args := [.sl x_0, .sl x_1]) (A := ⟨[(2, [(5, .int .i64)], [])], [], [], [], psG⟩) Tryz.func64 (by kernel_rfl) (by kernel_rfl) (by kernel_rfl : vc64 x_0 x_1 v Q = _) h

def vc65 (x_0 : Sl) (x_1 : Sl) (v : World) (Q : Value → World → Prop) : Prop :=
 ∃ I1 : Int → World → Prop, ∃ m2 : Int → World → Nat, I1 0 v ∧
 ∀ n3 : Int, ∀ w4 : World, I1 n3 w4 →
 ((decide (n3 < (x_1.n : Int))) = true →
 IxOk x_1 n3 ∧
 ∃ n5 : Int, w4.cell? ((elA x_1 n3 1).add 0) = some (.int .i64 n5) ∧
 ∃ n6 : Int, Wr .i64 ((x_0.n : Int) - 1) n6 ∧
 ∃ q7 : Bool, (Trip Tryz.prog 25 #[.int .i64 n5, .int .i64 0, .int .i64 n6] w4 fun r8 w9 => r8 = .bool q7 ∧ Sub w4 w9) ∧
 ((!q7) = false →
 IxOk x_1 n3) ∧
 ∃ n10 : Int, ((!q7) = false →
 w4.cell? ((elA x_1 n3 1).add 0) = some (.int .i64 n10)) ∧
 ((!q7) = false →
 IxOk x_0 n10) ∧
 ∃ n11 : Int, ((!q7) = false →
 w4.cell? ((elA x_0 n10 1).add 0) = some (.int .i64 n11)) ∧
 ((decide (n3 > 0)) = true →
 ((!q7) || (decide (n11 = 0))) = false →
 IxOk x_1 n3) ∧
 ∃ n12 : Int, ((decide (n3 > 0)) = true →
 ((!q7) || (decide (n11 = 0))) = false →
 w4.cell? ((elA x_1 n3 1).add 0) = some (.int .i64 n12)) ∧
 ∃ n13 : Int, ((decide (n3 > 0)) = true →
 ((!q7) || (decide (n11 = 0))) = false →
 Wr .i64 (n3 - 1) n13) ∧
 ((decide (n3 > 0)) = true →
 ((!q7) || (decide (n11 = 0))) = false →
 IxOk x_1 n13) ∧
 ∃ n14 : Int, ((decide (n3 > 0)) = true →
 ((!q7) || (decide (n11 = 0))) = false →
 w4.cell? ((elA x_1 n13 1).add 0) = some (.int .i64 n14)) ∧
 ((((!q7) || (decide (n11 = 0))) || ((decide (n3 > 0)) && (decide (n12 ≤ n14)))) = true →
 Q (.bool false) w4) ∧
 ((((!q7) || (decide (n11 = 0))) || ((decide (n3 > 0)) && (decide (n12 ≤ n14)))) = false →
 ∃ n15 : Int, Wr .i64 (n3 + 1) n15 ∧
 I1 n15 w4 ∧
 m2 n15 w4 < m2 n3 w4)) ∧
 ((decide (n3 < (x_1.n : Int))) = false →
 Q (.bool true) w4)
theorem of65 (x_0 : Sl) (x_1 : Sl) (v : World) (Q : Value → World → Prop) (h : vc65 x_0 x_1 v Q) : Trip Tryz.prog 65 #[x_0.val, x_1.val] v Q :=
 trip_of_eq (args := [.sl x_0, .sl x_1]) (A := ⟨[(2, [(5, .int .i64)], [])], [], [], [], psG⟩) Tryz.func65 (by kernel_rfl) (by kernel_rfl) (by kernel_rfl : vc65 x_0 x_1 v Q = _) h

def vc66 (x0_0 : Sl) (x0_1 : Sl) (x1_0 : Sl) (x1_1 : Sl) (n1_2 : Int) (n1_3 : Int) (x1_4 : Sl) (n_2 : Int) (v : World) (Q : Value → World → Prop) : Prop :=
 IxOk x1_4 n_2 ∧
 ∃ n1 : Int, ∃ n2 : Int, ∃ n3 : Int, ∃ n4 : Int, ∃ x5 : Sl, ∃ x6 : Sl, (v.cell? ((elA x1_4 n_2 6).add 0) = some (.int .i64 n1) ∧
 v.cell? ((elA x1_4 n_2 6).add 1) = some (.int .i64 n2) ∧
 v.cell? ((elA x1_4 n_2 6).add 2) = some (.int .i64 n3) ∧
 v.cell? ((elA x1_4 n_2 6).add 3) = some (.int .i64 n4) ∧
 v.cell? ((elA x1_4 n_2 6).add 4) = some (x5.val) ∧
 v.cell? ((elA x1_4 n_2 6).add 5) = some (x6.val)) ∧
 ∃ I7 : Int → World → Prop, ∃ m8 : Int → World → Nat, I7 0 v ∧
 ∀ n9 : Int, ∀ w10 : World, I7 n9 w10 →
 ((decide (n9 < (x5.n : Int))) = true →
 IxOk x5 n9 ∧
 ∃ n11 : Int, w10.cell? ((elA x5 n9 1).add 0) = some (.int .i64 n11) ∧
 ∃ n12 : Int, Wr .i64 (n1_3 - 1) n12 ∧
 ∃ q13 : Bool, (Trip Tryz.prog 25 #[.int .i64 n11, .int .i64 0, .int .i64 n12] w10 fun r14 w15 => r14 = .bool q13 ∧ Sub w10 w15) ∧
 ((!q13) = true →
 Q (.bool false) w10) ∧
 ((!q13) = false →
 ∃ n16 : Int, Wr .i64 (n9 + 1) n16 ∧
 ((.sl x0_0 : SV) = .sl x0_0) ∧
 ((.sl x0_1 : SV) = .sl x0_1) ∧
 ((.sl x1_0 : SV) = .sl x1_0) ∧
 ((.sl x1_1 : SV) = .sl x1_1) ∧
 ((.num .i64 n1_2 : SV) = .num .i64 n1_2) ∧
 ((.num .i64 n1_3 : SV) = .num .i64 n1_3) ∧
 ((.sl x1_4 : SV) = .sl x1_4) ∧
 ((.num .i64 n1 : SV) = .num .i64 n1) ∧
 ((.num .i64 n2 : SV) = .num .i64 n2) ∧
 ((.num .i64 n3 : SV) = .num .i64 n3) ∧
 ((.num .i64 n4 : SV) = .num .i64 n4) ∧
 ((.sl x5 : SV) = .sl x5) ∧
 ((.sl x6 : SV) = .sl x6) ∧
 I7 n16 w10 ∧
 m8 n16 w10 < m8 n9 w10)) ∧
 ((decide (n9 < (x5.n : Int))) = false →
 ∃ n17 : Int, Wr .i64 (n1_3 - 1) n17 ∧
 ∃ q18 : Bool, (Trip Tryz.prog 25 #[.int .i64 n2, .int .i64 0, .int .i64 n17] w10 fun r19 w20 => r19 = .bool q18 ∧ Sub w10 w20) ∧
 ∃ q21 : Bool, ((!decide (n2 = 0)) = true →
 (!q18) = false →
 (Trip Tryz.prog 105 #[.int .i64 n1] w10 fun r22 w23 => r22 = .bool q21 ∧ Sub w10 w23)) ∧
 (((((!q18) || ((!decide (n2 = 0)) && (!q21))) || ((!decide (n4 = 0)) && (!decide (n1 = 6)))) || ((!decide (n1 = 21)) && (decide ((x6.n : Int) > 0)))) = true →
 Q (.bool false) w10) ∧
 (((((!q18) || ((!decide (n2 = 0)) && (!q21))) || ((!decide (n4 = 0)) && (!decide (n1 = 6)))) || ((!decide (n1 = 21)) && (decide ((x6.n : Int) > 0)))) = false →
 ((decide (n1 = 0)) = true →
 ∃ q24 : Bool, ((decide ((x5.n : Int) = 0)) = true →
 (Trip Tryz.prog 25 #[.int .i64 n3, .int .i64 (-999), .int .i64 999] w10 fun r25 w26 => r25 = .bool q24 ∧ Sub w10 w26)) ∧
 Q (.bool ((decide ((x5.n : Int) = 0)) && q24)) w10) ∧
 ((decide (n1 = 0)) = false →
 ((decide (n1 = 1)) = true →
 Q (.bool ((decide ((x5.n : Int) = 2)) && (decide (n3 = 0)))) w10) ∧
 ((decide (n1 = 1)) = false →
 ((decide (n1 = 2)) = true →
 Q (.bool ((decide ((x5.n : Int) = 2)) && (decide (n3 = 0)))) w10) ∧
 ((decide (n1 = 2)) = false →
 ((decide (n1 = 3)) = true →
 Q (.bool ((decide ((x5.n : Int) = 2)) && (decide (n3 = 0)))) w10) ∧
 ((decide (n1 = 3)) = false →
 ((decide (n1 = 4)) = true →
 Q (.bool ((decide ((x5.n : Int) = 2)) && (decide (n3 = 0)))) w10) ∧
 ((decide (n1 = 4)) = false →
 ((decide (n1 = 11)) = true →
 Q (.bool ((decide ((x5.n : Int) = 2)) && (decide (n3 = 0)))) w10) ∧
 ((decide (n1 = 11)) = false →
 ((decide (n1 = 5)) = true →
 Q (.bool ((decide ((x5.n : Int) = 1)) && (decide (n3 = 0)))) w10) ∧
 ((decide (n1 = 5)) = false →
 ((decide (n1 = 14)) = true →
 Q (.bool ((decide ((x5.n : Int) = 1)) && (decide (n3 = 0)))) w10) ∧
 ((decide (n1 = 14)) = false →
 ((decide (n1 = 15)) = true →
 Q (.bool ((decide ((x5.n : Int) = 1)) && (decide (n3 = 0)))) w10) ∧
 ((decide (n1 = 15)) = false →
 ((decide (n1 = 18)) = true →
 Q (.bool ((decide ((x5.n : Int) = 1)) && (decide (n3 = 0)))) w10) ∧
 ((decide (n1 = 18)) = false →
 ((decide (n1 = 23)) = true →
 Q (.bool ((decide ((x5.n : Int) = 1)) && (decide (n3 = 0)))) w10) ∧
 ((decide (n1 = 23)) = false →
 ((decide (n1 = 6)) = true →
 ∃ n27 : Int, (Trip Tryz.prog 106 #[x0_0.val, .int .i64 n3] w10 fun r28 w29 => r28 = .int .i64 n27 ∧ Sub w10 w29) ∧
 ((decide (n27 > 0)) = true →
 Trip Tryz.prog 107 #[x0_0.val, .int .i64 n3] w10 fun r30 w31 =>
 ∃ x32 : Sl, r30 = x32.val ∧
 ∃ q33 : Bool, ((decide ((x5.n : Int) = (x32.n : Int))) = true →
 (Trip Tryz.prog 25 #[.int .i64 n4, .int .i64 0, .int .i64 n1_3] w31 fun r34 w35 => r34 = .bool q33 ∧ Sub w31 w35)) ∧
 Q (.bool ((decide ((x5.n : Int) = (x32.n : Int))) && q33)) w31) ∧
 ((decide (n27 > 0)) = false →
 Q (.bool false) w10)) ∧
 ((decide (n1 = 6)) = false →
 ((decide (n1 = 9)) = true →
 ∃ q36 : Bool, (Trip Tryz.prog 108 #[.agg #[x0_0.val, x0_1.val], .int .i64 n3, .int .i64 (x5.n : Int), .int .i64 0] w10 fun r37 w38 => r37 = .bool q36 ∧ Sub w10 w38) ∧
 Q (.bool q36) w10) ∧
 ((decide (n1 = 9)) = false →
 ((decide (n1 = 24)) = true →
 ∃ q39 : Bool, (Trip Tryz.prog 108 #[.agg #[x0_0.val, x0_1.val], .int .i64 n3, .int .i64 (x5.n : Int), .int .i64 0] w10 fun r40 w41 => r40 = .bool q39 ∧ Sub w10 w41) ∧
 Q (.bool q39) w10) ∧
 ((decide (n1 = 24)) = false →
 ((decide (n1 = 10)) = true →
 ∃ q42 : Bool, (Trip Tryz.prog 108 #[.agg #[x0_0.val, x0_1.val], .int .i64 n3, .int .i64 (x5.n : Int), .int .i64 1] w10 fun r43 w44 => r43 = .bool q42 ∧ Sub w10 w44) ∧
 (q42 = true →
 IxOk x0_1 n3) ∧
 ∃ x45 : Sl, (q42 = true →
 w10.cell? ((elA x0_1 n3 5).add 1) = some (x45.val)) ∧
 Q (.bool (q42 && (decide ((x45.n : Int) = 0)))) w10) ∧
 ((decide (n1 = 10)) = false →
 ((decide (n1 = 16)) = true →
 ∃ q46 : Bool, (Trip Tryz.prog 25 #[.int .i64 (x5.n : Int), .int .i64 1, .int .i64 4] w10 fun r47 w48 => r47 = .bool q46 ∧ Sub w10 w48) ∧
 Q (.bool (q46 && (decide (n3 = 0)))) w10) ∧
 ((decide (n1 = 16)) = false →
 ((decide (n1 = 17)) = true →
 ∃ q49 : Bool, (Trip Tryz.prog 25 #[.int .i64 (x5.n : Int), .int .i64 1, .int .i64 4] w10 fun r50 w51 => r50 = .bool q49 ∧ Sub w10 w51) ∧
 Q (.bool (q49 && (decide (n3 = 0)))) w10) ∧
 ((decide (n1 = 17)) = false →
 ((decide (n1 = 19)) = true →
 ∃ q52 : Bool, ((decide ((x5.n : Int) = 1)) = true →
 (Trip Tryz.prog 25 #[.int .i64 n3, .int .i64 0, .int .i64 2] w10 fun r53 w54 => r53 = .bool q52 ∧ Sub w10 w54)) ∧
 Q (.bool ((decide ((x5.n : Int) = 1)) && q52)) w10) ∧
 ((decide (n1 = 19)) = false →
 ((decide (n1 = 20)) = true →
 ∃ n55 : Int, ((decide ((x5.n : Int) = 1)) = true →
 Wr .i64 (n_2 + 1) n55) ∧
 ∃ n56 : Int, ((decide ((x5.n : Int) = 1)) = true →
 Wr .i64 ((x1_4.n : Int) - 1) n56) ∧
 ∃ q57 : Bool, ((decide ((x5.n : Int) = 1)) = true →
 (Trip Tryz.prog 25 #[.int .i64 n3, .int .i64 n55, .int .i64 n56] w10 fun r58 w59 => r58 = .bool q57 ∧ Sub w10 w59)) ∧
 Q (.bool ((decide ((x5.n : Int) = 1)) && q57)) w10) ∧
 ((decide (n1 = 20)) = false →
 ((decide (n1 = 22)) = true →
 ∃ n60 : Int, ((decide ((x5.n : Int) = 0)) = true →
 Wr .i64 (n_2 + 1) n60) ∧
 ∃ n61 : Int, ((decide ((x5.n : Int) = 0)) = true →
 Wr .i64 ((x1_4.n : Int) - 1) n61) ∧
 ∃ q62 : Bool, ((decide ((x5.n : Int) = 0)) = true →
 (Trip Tryz.prog 25 #[.int .i64 n3, .int .i64 n60, .int .i64 n61] w10 fun r63 w64 => r63 = .bool q62 ∧ Sub w10 w64)) ∧
 Q (.bool ((decide ((x5.n : Int) = 0)) && q62)) w10) ∧
 ((decide (n1 = 22)) = false →
 ((decide (n1 = 21)) = true →
 Trip Tryz.prog 83 #[x0_0.val, .int .i64 n3] w10 fun r65 w66 =>
 ∃ x67 : Sl, r65 = x67.val ∧
 ∃ q68 : Bool, (((decide ((x5.n : Int) = 1)) && (decide ((x67.n : Int) > 0))) = true →
 (Trip Tryz.prog 109 #[x6.val, .int .i64 (x67.n : Int), .int .i64 n_2, .int .i64 (x1_4.n : Int)] w66 fun r69 w70 => r69 = .bool q68 ∧ Sub w66 w70)) ∧
 Q (.bool (((decide ((x5.n : Int) = 1)) && (decide ((x67.n : Int) > 0))) && q68)) w66) ∧
 ((decide (n1 = 21)) = false →
 Q (.bool false) w10)))))))))))))))))))))))
theorem of66 (x0_0 : Sl) (x0_1 : Sl) (x1_0 : Sl) (x1_1 : Sl) (n1_2 : Int) (n1_3 : Int) (x1_4 : Sl) (n_2 : Int) (v : World) (Q : Value → World → Prop) (h : vc66 x0_0 x0_1 x1_0 x1_1 n1_2 n1_3 x1_4 n_2 v Q) : Trip Tryz.prog 66 #[.agg #[x0_0.val, x0_1.val], .agg #[x1_0.val, x1_1.val, .int .i64 n1_2, .int .i64 n1_3, x1_4.val], .int .i64 n_2] v Q :=
 trip_of_eq (args := [.ag [.sl x0_0, .sl x0_1], .ag [.sl x1_0, .sl x1_1, .num .i64 n1_2, .num .i64 n1_3, .sl x1_4], .num .i64 n_2]) (A := ⟨[(4, [(9, .int .i64)], [])], [], [], [999999], psG⟩) Tryz.func66 (by kernel_rfl) (by kernel_rfl) (by kernel_rfl : vc66 x0_0 x0_1 x1_0 x1_1 n1_2 n1_3 x1_4 n_2 v Q = _) h

def vc67 (a_0 : Addr) (a_1 : Addr) (v : World) (Q : Value → World → Prop) : Prop :=
 ∃ x1 : Sl, v.cell? (a_0.add 1) = some (x1.val) ∧
 ∃ x2 : Sl, v.cell? (a_1.add 1) = some (x2.val) ∧
 ∃ q3 : Bool, (Trip Tryz.prog 110 #[x1.val, x2.val] v fun r4 w5 => r4 = .bool q3 ∧ Sub v w5) ∧
 ∃ x6 : Sl, ((!q3) = false →
 v.cell? (a_0.add 5) = some (x6.val)) ∧
 ∃ x7 : Sl, ((!q3) = false →
 v.cell? (a_1.add 5) = some (x7.val)) ∧
 ∃ q8 : Bool, ((!q3) = false →
 (Trip Tryz.prog 110 #[x6.val, x7.val] v fun r9 w10 => r9 = .bool q8 ∧ Sub v w10)) ∧
 (((!q3) || (!q8)) = true →
 Q (.bool false) v) ∧
 (((!q3) || (!q8)) = false →
 ∃ I11 : Int → World → Prop, ∃ m12 : Int → World → Nat, I11 0 v ∧
 ∀ n13 : Int, ∀ w14 : World, I11 n13 w14 →
 ∃ x15 : Sl, w14.cell? (a_0.add 0) = some (x15.val) ∧
 ((decide (n13 < (x15.n : Int))) = true →
 ∃ x16 : Sl, w14.cell? (a_0.add 0) = some (x16.val) ∧
 IxOk x16 n13 ∧
 ∃ n17 : Int, w14.cell? ((elA x16 n13 1).add 0) = some (.int .i64 n17) ∧
 ∃ x18 : Sl, w14.cell? (a_1.add 0) = some (x18.val) ∧
 IxOk x18 n13 ∧
 ∃ n19 : Int, w14.cell? ((elA x18 n13 1).add 0) = some (.int .i64 n19) ∧
 ((!decide (n17 = n19)) = true →
 ∃ x20 : Sl, w14.cell? (a_0.add 0) = some (x20.val) ∧
 IxOk x20 n13 ∧
 StoreAt w14 (elA x20 n13 1) 0 [.int .i64 (-1)] fun w21 =>
 ∃ x22 : Sl, w21.cell? (a_0.add 4) = some (x22.val) ∧
 IxOk x22 n13 ∧
 StoreAt w21 (elA x22 n13 1) 0 [.int .i64 (-1)] fun w23 =>
 ∃ x24 : Sl, w23.cell? (a_0.add 4) = some (x24.val) ∧
 IxOk x24 n13 ∧
 ∃ n25 : Int, w23.cell? ((elA x24 n13 1).add 0) = some (.int .i64 n25) ∧
 ∃ x26 : Sl, w23.cell? (a_1.add 4) = some (x26.val) ∧
 IxOk x26 n13 ∧
 ∃ n27 : Int, w23.cell? ((elA x26 n13 1).add 0) = some (.int .i64 n27) ∧
 ((!decide (n25 = n27)) = true →
 ∃ x28 : Sl, w23.cell? (a_0.add 4) = some (x28.val) ∧
 IxOk x28 n13 ∧
 StoreAt w23 (elA x28 n13 1) 0 [.int .i64 (-1)] fun w29 =>
 ∃ x30 : Sl, w29.cell? (a_0.add 0) = some (x30.val) ∧
 IxOk x30 n13 ∧
 ∃ n31 : Int, w29.cell? ((elA x30 n13 1).add 0) = some (.int .i64 n31) ∧
 ∃ x32 : Sl, ((decide (n31 < 0)) = false →
 w29.cell? (a_0.add 2) = some (x32.val)) ∧
 ((decide (n31 < 0)) = false →
 IxOk x32 n13) ∧
 ∃ n33 : Int, ((decide (n31 < 0)) = false →
 w29.cell? ((elA x32 n13 1).add 0) = some (.int .i64 n33)) ∧
 ∃ x34 : Sl, ((decide (n31 < 0)) = false →
 w29.cell? (a_1.add 2) = some (x34.val)) ∧
 ((decide (n31 < 0)) = false →
 IxOk x34 n13) ∧
 ∃ n35 : Int, ((decide (n31 < 0)) = false →
 w29.cell? ((elA x34 n13 1).add 0) = some (.int .i64 n35)) ∧
 ∃ x36 : Sl, (((decide (n31 < 0)) || (!decide (n33 = n35))) = false →
 w29.cell? (a_0.add 3) = some (x36.val)) ∧
 (((decide (n31 < 0)) || (!decide (n33 = n35))) = false →
 IxOk x36 n13) ∧
 ∃ n37 : Int, (((decide (n31 < 0)) || (!decide (n33 = n35))) = false →
 w29.cell? ((elA x36 n13 1).add 0) = some (.int .i64 n37)) ∧
 ∃ x38 : Sl, (((decide (n31 < 0)) || (!decide (n33 = n35))) = false →
 w29.cell? (a_1.add 3) = some (x38.val)) ∧
 (((decide (n31 < 0)) || (!decide (n33 = n35))) = false →
 IxOk x38 n13) ∧
 ∃ n39 : Int, (((decide (n31 < 0)) || (!decide (n33 = n35))) = false →
 w29.cell? ((elA x38 n13 1).add 0) = some (.int .i64 n39)) ∧
 ((((decide (n31 < 0)) || (!decide (n33 = n35))) || (!decide (n37 = n39))) = true →
 ∃ x40 : Sl, w29.cell? (a_0.add 2) = some (x40.val) ∧
 IxOk x40 n13 ∧
 StoreAt w29 (elA x40 n13 1) 0 [.int .i64 (-1)] fun w41 =>
 ∃ x42 : Sl, w41.cell? (a_0.add 3) = some (x42.val) ∧
 IxOk x42 n13 ∧
 StoreAt w41 (elA x42 n13 1) 0 [.int .i64 (-1)] fun w43 =>
 ∃ x44 : Sl, w43.cell? (a_0.add 6) = some (x44.val) ∧
 ∃ x45 : Sl, w43.cell? (a_0.add 6) = some (x45.val) ∧
 IxOk x45 n13 ∧
 ∃ n46 : Int, w43.cell? ((elA x45 n13 1).add 0) = some (.int .i64 n46) ∧
 ∃ x47 : Sl, w43.cell? (a_1.add 6) = some (x47.val) ∧
 IxOk x47 n13 ∧
 ∃ n48 : Int, w43.cell? ((elA x47 n13 1).add 0) = some (.int .i64 n48) ∧
 ∃ n49 : Int, PureT Tryz.prog (Builtin.min_ #[3, 3] 3 #[(.int .i64 n46), (.int .i64 n48)]) w43 (.int .i64 n49) ∧
 IxOk x44 n13 ∧
 StoreAt w43 (elA x44 n13 1) 0 [.int .i64 n49] fun w50 =>
 ∃ n51 : Int, Wr .i64 (n13 + 1) n51 ∧
 I11 n51 w50 ∧
 m12 n51 w50 < m12 n13 w14) ∧
 ((((decide (n31 < 0)) || (!decide (n33 = n35))) || (!decide (n37 = n39))) = false →
 ∃ x52 : Sl, w29.cell? (a_0.add 6) = some (x52.val) ∧
 ∃ x53 : Sl, w29.cell? (a_0.add 6) = some (x53.val) ∧
 IxOk x53 n13 ∧
 ∃ n54 : Int, w29.cell? ((elA x53 n13 1).add 0) = some (.int .i64 n54) ∧
 ∃ x55 : Sl, w29.cell? (a_1.add 6) = some (x55.val) ∧
 IxOk x55 n13 ∧
 ∃ n56 : Int, w29.cell? ((elA x55 n13 1).add 0) = some (.int .i64 n56) ∧
 ∃ n57 : Int, PureT Tryz.prog (Builtin.min_ #[3, 3] 3 #[(.int .i64 n54), (.int .i64 n56)]) w29 (.int .i64 n57) ∧
 IxOk x52 n13 ∧
 StoreAt w29 (elA x52 n13 1) 0 [.int .i64 n57] fun w58 =>
 ∃ n59 : Int, Wr .i64 (n13 + 1) n59 ∧
 I11 n59 w58 ∧
 m12 n59 w58 < m12 n13 w14)) ∧
 ((!decide (n25 = n27)) = false →
 ∃ x60 : Sl, w23.cell? (a_0.add 0) = some (x60.val) ∧
 IxOk x60 n13 ∧
 ∃ n61 : Int, w23.cell? ((elA x60 n13 1).add 0) = some (.int .i64 n61) ∧
 ∃ x62 : Sl, ((decide (n61 < 0)) = false →
 w23.cell? (a_0.add 2) = some (x62.val)) ∧
 ((decide (n61 < 0)) = false →
 IxOk x62 n13) ∧
 ∃ n63 : Int, ((decide (n61 < 0)) = false →
 w23.cell? ((elA x62 n13 1).add 0) = some (.int .i64 n63)) ∧
 ∃ x64 : Sl, ((decide (n61 < 0)) = false →
 w23.cell? (a_1.add 2) = some (x64.val)) ∧
 ((decide (n61 < 0)) = false →
 IxOk x64 n13) ∧
 ∃ n65 : Int, ((decide (n61 < 0)) = false →
 w23.cell? ((elA x64 n13 1).add 0) = some (.int .i64 n65)) ∧
 ∃ x66 : Sl, (((decide (n61 < 0)) || (!decide (n63 = n65))) = false →
 w23.cell? (a_0.add 3) = some (x66.val)) ∧
 (((decide (n61 < 0)) || (!decide (n63 = n65))) = false →
 IxOk x66 n13) ∧
 ∃ n67 : Int, (((decide (n61 < 0)) || (!decide (n63 = n65))) = false →
 w23.cell? ((elA x66 n13 1).add 0) = some (.int .i64 n67)) ∧
 ∃ x68 : Sl, (((decide (n61 < 0)) || (!decide (n63 = n65))) = false →
 w23.cell? (a_1.add 3) = some (x68.val)) ∧
 (((decide (n61 < 0)) || (!decide (n63 = n65))) = false →
 IxOk x68 n13) ∧
 ∃ n69 : Int, (((decide (n61 < 0)) || (!decide (n63 = n65))) = false →
 w23.cell? ((elA x68 n13 1).add 0) = some (.int .i64 n69)) ∧
 ((((decide (n61 < 0)) || (!decide (n63 = n65))) || (!decide (n67 = n69))) = true →
 ∃ x70 : Sl, w23.cell? (a_0.add 2) = some (x70.val) ∧
 IxOk x70 n13 ∧
 StoreAt w23 (elA x70 n13 1) 0 [.int .i64 (-1)] fun w71 =>
 ∃ x72 : Sl, w71.cell? (a_0.add 3) = some (x72.val) ∧
 IxOk x72 n13 ∧
 StoreAt w71 (elA x72 n13 1) 0 [.int .i64 (-1)] fun w73 =>
 ∃ x74 : Sl, w73.cell? (a_0.add 6) = some (x74.val) ∧
 ∃ x75 : Sl, w73.cell? (a_0.add 6) = some (x75.val) ∧
 IxOk x75 n13 ∧
 ∃ n76 : Int, w73.cell? ((elA x75 n13 1).add 0) = some (.int .i64 n76) ∧
 ∃ x77 : Sl, w73.cell? (a_1.add 6) = some (x77.val) ∧
 IxOk x77 n13 ∧
 ∃ n78 : Int, w73.cell? ((elA x77 n13 1).add 0) = some (.int .i64 n78) ∧
 ∃ n79 : Int, PureT Tryz.prog (Builtin.min_ #[3, 3] 3 #[(.int .i64 n76), (.int .i64 n78)]) w73 (.int .i64 n79) ∧
 IxOk x74 n13 ∧
 StoreAt w73 (elA x74 n13 1) 0 [.int .i64 n79] fun w80 =>
 ∃ n81 : Int, Wr .i64 (n13 + 1) n81 ∧
 I11 n81 w80 ∧
 m12 n81 w80 < m12 n13 w14) ∧
 ((((decide (n61 < 0)) || (!decide (n63 = n65))) || (!decide (n67 = n69))) = false →
 ∃ x82 : Sl, w23.cell? (a_0.add 6) = some (x82.val) ∧
 ∃ x83 : Sl, w23.cell? (a_0.add 6) = some (x83.val) ∧
 IxOk x83 n13 ∧
 ∃ n84 : Int, w23.cell? ((elA x83 n13 1).add 0) = some (.int .i64 n84) ∧
 ∃ x85 : Sl, w23.cell? (a_1.add 6) = some (x85.val) ∧
 IxOk x85 n13 ∧
 ∃ n86 : Int, w23.cell? ((elA x85 n13 1).add 0) = some (.int .i64 n86) ∧
 ∃ n87 : Int, PureT Tryz.prog (Builtin.min_ #[3, 3] 3 #[(.int .i64 n84), (.int .i64 n86)]) w23 (.int .i64 n87) ∧
 IxOk x82 n13 ∧
 StoreAt w23 (elA x82 n13 1) 0 [.int .i64 n87] fun w88 =>
 ∃ n89 : Int, Wr .i64 (n13 + 1) n89 ∧
 I11 n89 w88 ∧
 m12 n89 w88 < m12 n13 w14))) ∧
 ((!decide (n17 = n19)) = false →
 ∃ x90 : Sl, w14.cell? (a_0.add 4) = some (x90.val) ∧
 IxOk x90 n13 ∧
 ∃ n91 : Int, w14.cell? ((elA x90 n13 1).add 0) = some (.int .i64 n91) ∧
 ∃ x92 : Sl, w14.cell? (a_1.add 4) = some (x92.val) ∧
 IxOk x92 n13 ∧
 ∃ n93 : Int, w14.cell? ((elA x92 n13 1).add 0) = some (.int .i64 n93) ∧
 ((!decide (n91 = n93)) = true →
 ∃ x94 : Sl, w14.cell? (a_0.add 4) = some (x94.val) ∧
 IxOk x94 n13 ∧
 StoreAt w14 (elA x94 n13 1) 0 [.int .i64 (-1)] fun w95 =>
 ∃ x96 : Sl, w95.cell? (a_0.add 0) = some (x96.val) ∧
 IxOk x96 n13 ∧
 ∃ n97 : Int, w95.cell? ((elA x96 n13 1).add 0) = some (.int .i64 n97) ∧
 ∃ x98 : Sl, ((decide (n97 < 0)) = false →
 w95.cell? (a_0.add 2) = some (x98.val)) ∧
 ((decide (n97 < 0)) = false →
 IxOk x98 n13) ∧
 ∃ n99 : Int, ((decide (n97 < 0)) = false →
 w95.cell? ((elA x98 n13 1).add 0) = some (.int .i64 n99)) ∧
 ∃ x100 : Sl, ((decide (n97 < 0)) = false →
 w95.cell? (a_1.add 2) = some (x100.val)) ∧
 ((decide (n97 < 0)) = false →
 IxOk x100 n13) ∧
 ∃ n101 : Int, ((decide (n97 < 0)) = false →
 w95.cell? ((elA x100 n13 1).add 0) = some (.int .i64 n101)) ∧
 ∃ x102 : Sl, (((decide (n97 < 0)) || (!decide (n99 = n101))) = false →
 w95.cell? (a_0.add 3) = some (x102.val)) ∧
 (((decide (n97 < 0)) || (!decide (n99 = n101))) = false →
 IxOk x102 n13) ∧
 ∃ n103 : Int, (((decide (n97 < 0)) || (!decide (n99 = n101))) = false →
 w95.cell? ((elA x102 n13 1).add 0) = some (.int .i64 n103)) ∧
 ∃ x104 : Sl, (((decide (n97 < 0)) || (!decide (n99 = n101))) = false →
 w95.cell? (a_1.add 3) = some (x104.val)) ∧
 (((decide (n97 < 0)) || (!decide (n99 = n101))) = false →
 IxOk x104 n13) ∧
 ∃ n105 : Int, (((decide (n97 < 0)) || (!decide (n99 = n101))) = false →
 w95.cell? ((elA x104 n13 1).add 0) = some (.int .i64 n105)) ∧
 ((((decide (n97 < 0)) || (!decide (n99 = n101))) || (!decide (n103 = n105))) = true →
 ∃ x106 : Sl, w95.cell? (a_0.add 2) = some (x106.val) ∧
 IxOk x106 n13 ∧
 StoreAt w95 (elA x106 n13 1) 0 [.int .i64 (-1)] fun w107 =>
 ∃ x108 : Sl, w107.cell? (a_0.add 3) = some (x108.val) ∧
 IxOk x108 n13 ∧
 StoreAt w107 (elA x108 n13 1) 0 [.int .i64 (-1)] fun w109 =>
 ∃ x110 : Sl, w109.cell? (a_0.add 6) = some (x110.val) ∧
 ∃ x111 : Sl, w109.cell? (a_0.add 6) = some (x111.val) ∧
 IxOk x111 n13 ∧
 ∃ n112 : Int, w109.cell? ((elA x111 n13 1).add 0) = some (.int .i64 n112) ∧
 ∃ x113 : Sl, w109.cell? (a_1.add 6) = some (x113.val) ∧
 IxOk x113 n13 ∧
 ∃ n114 : Int, w109.cell? ((elA x113 n13 1).add 0) = some (.int .i64 n114) ∧
 ∃ n115 : Int, PureT Tryz.prog (Builtin.min_ #[3, 3] 3 #[(.int .i64 n112), (.int .i64 n114)]) w109 (.int .i64 n115) ∧
 IxOk x110 n13 ∧
 StoreAt w109 (elA x110 n13 1) 0 [.int .i64 n115] fun w116 =>
 ∃ n117 : Int, Wr .i64 (n13 + 1) n117 ∧
 I11 n117 w116 ∧
 m12 n117 w116 < m12 n13 w14) ∧
 ((((decide (n97 < 0)) || (!decide (n99 = n101))) || (!decide (n103 = n105))) = false →
 ∃ x118 : Sl, w95.cell? (a_0.add 6) = some (x118.val) ∧
 ∃ x119 : Sl, w95.cell? (a_0.add 6) = some (x119.val) ∧
 IxOk x119 n13 ∧
 ∃ n120 : Int, w95.cell? ((elA x119 n13 1).add 0) = some (.int .i64 n120) ∧
 ∃ x121 : Sl, w95.cell? (a_1.add 6) = some (x121.val) ∧
 IxOk x121 n13 ∧
 ∃ n122 : Int, w95.cell? ((elA x121 n13 1).add 0) = some (.int .i64 n122) ∧
 ∃ n123 : Int, PureT Tryz.prog (Builtin.min_ #[3, 3] 3 #[(.int .i64 n120), (.int .i64 n122)]) w95 (.int .i64 n123) ∧
 IxOk x118 n13 ∧
 StoreAt w95 (elA x118 n13 1) 0 [.int .i64 n123] fun w124 =>
 ∃ n125 : Int, Wr .i64 (n13 + 1) n125 ∧
 I11 n125 w124 ∧
 m12 n125 w124 < m12 n13 w14)) ∧
 ((!decide (n91 = n93)) = false →
 ∃ x126 : Sl, w14.cell? (a_0.add 0) = some (x126.val) ∧
 IxOk x126 n13 ∧
 ∃ n127 : Int, w14.cell? ((elA x126 n13 1).add 0) = some (.int .i64 n127) ∧
 ∃ x128 : Sl, ((decide (n127 < 0)) = false →
 w14.cell? (a_0.add 2) = some (x128.val)) ∧
 ((decide (n127 < 0)) = false →
 IxOk x128 n13) ∧
 ∃ n129 : Int, ((decide (n127 < 0)) = false →
 w14.cell? ((elA x128 n13 1).add 0) = some (.int .i64 n129)) ∧
 ∃ x130 : Sl, ((decide (n127 < 0)) = false →
 w14.cell? (a_1.add 2) = some (x130.val)) ∧
 ((decide (n127 < 0)) = false →
 IxOk x130 n13) ∧
 ∃ n131 : Int, ((decide (n127 < 0)) = false →
 w14.cell? ((elA x130 n13 1).add 0) = some (.int .i64 n131)) ∧
 ∃ x132 : Sl, (((decide (n127 < 0)) || (!decide (n129 = n131))) = false →
 w14.cell? (a_0.add 3) = some (x132.val)) ∧
 (((decide (n127 < 0)) || (!decide (n129 = n131))) = false →
 IxOk x132 n13) ∧
 ∃ n133 : Int, (((decide (n127 < 0)) || (!decide (n129 = n131))) = false →
 w14.cell? ((elA x132 n13 1).add 0) = some (.int .i64 n133)) ∧
 ∃ x134 : Sl, (((decide (n127 < 0)) || (!decide (n129 = n131))) = false →
 w14.cell? (a_1.add 3) = some (x134.val)) ∧
 (((decide (n127 < 0)) || (!decide (n129 = n131))) = false →
 IxOk x134 n13) ∧
 ∃ n135 : Int, (((decide (n127 < 0)) || (!decide (n129 = n131))) = false →
 w14.cell? ((elA x134 n13 1).add 0) = some (.int .i64 n135)) ∧
 ((((decide (n127 < 0)) || (!decide (n129 = n131))) || (!decide (n133 = n135))) = true →
 ∃ x136 : Sl, w14.cell? (a_0.add 2) = some (x136.val) ∧
 IxOk x136 n13 ∧
 StoreAt w14 (elA x136 n13 1) 0 [.int .i64 (-1)] fun w137 =>
 ∃ x138 : Sl, w137.cell? (a_0.add 3) = some (x138.val) ∧
 IxOk x138 n13 ∧
 StoreAt w137 (elA x138 n13 1) 0 [.int .i64 (-1)] fun w139 =>
 ∃ x140 : Sl, w139.cell? (a_0.add 6) = some (x140.val) ∧
 ∃ x141 : Sl, w139.cell? (a_0.add 6) = some (x141.val) ∧
 IxOk x141 n13 ∧
 ∃ n142 : Int, w139.cell? ((elA x141 n13 1).add 0) = some (.int .i64 n142) ∧
 ∃ x143 : Sl, w139.cell? (a_1.add 6) = some (x143.val) ∧
 IxOk x143 n13 ∧
 ∃ n144 : Int, w139.cell? ((elA x143 n13 1).add 0) = some (.int .i64 n144) ∧
 ∃ n145 : Int, PureT Tryz.prog (Builtin.min_ #[3, 3] 3 #[(.int .i64 n142), (.int .i64 n144)]) w139 (.int .i64 n145) ∧
 IxOk x140 n13 ∧
 StoreAt w139 (elA x140 n13 1) 0 [.int .i64 n145] fun w146 =>
 ∃ n147 : Int, Wr .i64 (n13 + 1) n147 ∧
 I11 n147 w146 ∧
 m12 n147 w146 < m12 n13 w14) ∧
 ((((decide (n127 < 0)) || (!decide (n129 = n131))) || (!decide (n133 = n135))) = false →
 ∃ x148 : Sl, w14.cell? (a_0.add 6) = some (x148.val) ∧
 ∃ x149 : Sl, w14.cell? (a_0.add 6) = some (x149.val) ∧
 IxOk x149 n13 ∧
 ∃ n150 : Int, w14.cell? ((elA x149 n13 1).add 0) = some (.int .i64 n150) ∧
 ∃ x151 : Sl, w14.cell? (a_1.add 6) = some (x151.val) ∧
 IxOk x151 n13 ∧
 ∃ n152 : Int, w14.cell? ((elA x151 n13 1).add 0) = some (.int .i64 n152) ∧
 ∃ n153 : Int, PureT Tryz.prog (Builtin.min_ #[3, 3] 3 #[(.int .i64 n150), (.int .i64 n152)]) w14 (.int .i64 n153) ∧
 IxOk x148 n13 ∧
 StoreAt w14 (elA x148 n13 1) 0 [.int .i64 n153] fun w154 =>
 ∃ n155 : Int, Wr .i64 (n13 + 1) n155 ∧
 I11 n155 w154 ∧
 m12 n155 w154 < m12 n13 w14)))) ∧
 ((decide (n13 < (x15.n : Int))) = false →
 Q (.bool true) w14))
theorem of67 (a_0 : Addr) (a_1 : Addr) (v : World) (Q : Value → World → Prop) (h : vc67 a_0 a_1 v Q) : Trip Tryz.prog 67 #[.pointer (some (a_0.add 0)), .pointer (some (a_1.add 0))] v Q :=
 trip_of_eq (args := [.pt a_0 0, .pt a_1 0]) (A := ⟨[(4, [(5, .int .i64)], [])], [], [(14, [])], [999999], psG⟩) Tryz.func67 (by kernel_rfl) (by kernel_rfl) (by kernel_rfl : vc67 a_0 a_1 v Q = _) h

def vc68 (n_0 : Int) (n_1 : Int) (v : World) (Q : Value → World → Prop) : Prop :=
 StepT Tryz.prog (Instr.buildSlice 37 0 #[]) v fun r1 w2 =>
 ∃ x3 : Sl, r1 = x3.val ∧
 ∃ I4 : Sl → Int → World → Prop, ∃ m5 : Sl → Int → World → Nat, I4 x3 0 w2 ∧
 ∀ x6 : Sl, ∀ n7 : Int, ∀ w8 : World, I4 x6 n7 w8 →
 ((decide (n7 < n_0)) = true →
 StepT Tryz.prog (Instr.buildSlice 37 1 #[(0, (.int .i64 n_1))]) w8 fun r9 w10 =>
 ∃ x11 : Sl, r9 = x11.val ∧
 StepT Tryz.prog (Builtin.append_ #[37, 37] 37 #[(x6.val), (x11.val)]) w10 fun r12 w13 =>
 ∃ x14 : Sl, r12 = x14.val ∧
 ∃ n15 : Int, Wr .i64 (n7 + 1) n15 ∧
 I4 x14 n15 w13 ∧
 m5 x14 n15 w13 < m5 x6 n7 w8) ∧
 ((decide (n7 < n_0)) = false →
 Q (x6.val) w8)
theorem of68 (n_0 : Int) (n_1 : Int) (v : World) (Q : Value → World → Prop) (h : vc68 n_0 n_1 v Q) : Trip Tryz.prog 68 #[.int .i64 n_0, .int .i64 n_1] v Q :=
 trip_of_eq (args := [.num .i64 n_0, .num .i64 n_1]) (A := ⟨[(3, [(5, .sl), (6, .int .i64)], [])], [], [], [], psG⟩) Tryz.func68 (by kernel_rfl) (by kernel_rfl) (by kernel_rfl : vc68 n_0 n_1 v Q = _) h

def vc69 (n_0 : Int) (v : World) (Q : Value → World → Prop) : Prop :=
 StepT Tryz.prog (Instr.makeSlice 37 (.int .i64 n_0) (.int .i64 n_0)) v fun r1 w2 =>
 ∃ x3 : Sl, r1 = x3.val ∧
 Q (x3.val) w2
theorem of69 (n_0 : Int) (v : World) (Q : Value → World → Prop) (h : vc69 n_0 v Q) : Trip Tryz.prog 69 #[.int .i64 n_0] v Q :=
 trip_of_eq (args := [.num .i64 n_0]) (A := ⟨[], [], [], [], psG⟩) Tryz.func69 (by kernel_rfl) (by kernel_rfl) (by kernel_rfl : vc69 n_0 v Q = _) h

def vc70 (x_0 : Sl) (n_1 : Int) (v : World) (Q : Value → World → Prop) : Prop :=
 ∃ I1 : Int → World → Prop, ∃ m2 : Int → World → Nat, I1 0 v ∧
 ∀ n3 : Int, ∀ w4 : World, I1 n3 w4 →
 ((decide (n3 < (x_0.n : Int))) = true →
 IxOk x_0 n3 ∧
 ∃ n5 : Int, w4.cell? ((elA x_0 n3 1).add 0) = some (.int .i64 n5) ∧
 ((decide (n5 = n_1)) = true →
 Q (.bool true) w4) ∧
 ((decide (n5 = n_1)) = false →
 ∃ n6 : Int, Wr .i64 (n3 + 1) n6 ∧
 I1 n6 w4 ∧
 m2 n6 w4 < m2 n3 w4)) ∧
 ((decide (n3 < (x_0.n : Int))) = false →
 Q (.bool false) w4)
theorem of70 (x_0 : Sl) (n_1 : Int) (v : World) (Q : Value → World → Prop) (h : vc70 x_0 n_1 v Q) : Trip Tryz.prog 70 #[x_0.val, .int .i64 n_1] v Q :=
 trip_of_eq (args := [.sl x_0, .num .i64 n_1]) (A := ⟨[(2, [(5, .int .i64)], [])], [], [], [], psG⟩) Tryz.func70 (by kernel_rfl) (by kernel_rfl) (by kernel_rfl : vc70 x_0 n_1 v Q = _) h

def vc71 (a_0 : Addr) (n_1 : Int) (n_2 : Int) (v : World) (Q : Value → World → Prop) : Prop :=
 ∃ x1 : Sl, v.cell? (a_0.add 1) = some (x1.val) ∧
 IxOk x1 n_1 ∧
 ∃ n2 : Int, v.cell? ((elA x1 n_1 1).add 0) = some (.int .i64 n2) ∧
 ((!decide (n2 = 0)) = true →
 Q (.bool false) v) ∧
 ((!decide (n2 = 0)) = false →
 ∃ I3 : Int → World → Prop, ∃ m4 : Int → World → Nat, I3 0 v ∧
 ∀ n5 : Int, ∀ w6 : World, I3 n5 w6 →
 ∃ x7 : Sl, w6.cell? (a_0.add 2) = some (x7.val) ∧
 ((decide (n5 < (x7.n : Int))) = true →
 ∃ x8 : Sl, w6.cell? (a_0.add 2) = some (x8.val) ∧
 IxOk x8 n5 ∧
 ∃ n9 : Int, w6.cell? ((elA x8 n5 1).add 0) = some (.int .i64 n9) ∧
 ((decide (n9 = n_1)) = true →
 ∃ x10 : Sl, w6.cell? (a_0.add 2) = some (x10.val) ∧
 IxOk x10 n5 ∧
 StoreAt w6 (elA x10 n5 1) 0 [.int .i64 (-1)] fun w11 =>
 ∃ x12 : Sl, w11.cell? (a_0.add 3) = some (x12.val) ∧
 IxOk x12 n5 ∧
 StoreAt w11 (elA x12 n5 1) 0 [.int .i64 (-1)] fun w13 =>
 ∃ n14 : Int, Wr .i64 (n5 + 1) n14 ∧
 I3 n14 w13 ∧
 m4 n14 w13 < m4 n5 w6) ∧
 ((decide (n9 = n_1)) = false →
 ∃ n15 : Int, Wr .i64 (n5 + 1) n15 ∧
 I3 n15 w6 ∧
 m4 n15 w6 < m4 n5 w6)) ∧
 ((decide (n5 < (x7.n : Int))) = false →
 ∃ x16 : Sl, w6.cell? (a_0.add 0) = some (x16.val) ∧
 IxOk x16 n_1 ∧
 StoreAt w6 (elA x16 n_1 1) 0 [.int .i64 n_2] fun w17 =>
 ∃ x18 : Sl, w17.cell? (a_0.add 2) = some (x18.val) ∧
 IxOk x18 n_1 ∧
 StoreAt w17 (elA x18 n_1 1) 0 [.int .i64 (-1)] fun w19 =>
 ∃ x20 : Sl, w19.cell? (a_0.add 3) = some (x20.val) ∧
 IxOk x20 n_1 ∧
 StoreAt w19 (elA x20 n_1 1) 0 [.int .i64 (-1)] fun w21 =>
 ∃ x22 : Sl, w21.cell? (a_0.add 4) = some (x22.val) ∧
 IxOk x22 n_1 ∧
 StoreAt w21 (elA x22 n_1 1) 0 [.int .i64 (-1)] fun w23 =>
 ∃ x24 : Sl, w23.cell? (a_0.add 6) = some (x24.val) ∧
 IxOk x24 n_1 ∧
 StoreAt w23 (elA x24 n_1 1) 0 [.int .i64 0] fun w25 =>
 Q (.bool true) w25))
theorem of71 (a_0 : Addr) (n_1 : Int) (n_2 : Int) (v : World) (Q : Value → World → Prop) (h : vc71 a_0 n_1 n_2 v Q) : Trip Tryz.prog 71 #[.pointer (some (a_0.add 0)), .int .i64 n_1, .int .i64 n_2] v Q :=
 trip_of_eq (args := [.pt a_0 0, .num .i64 n_1, .num .i64 n_2]) (A := ⟨[(4, [(7, .int .i64)], [])], [], [], [], psG⟩) Tryz.func71 (by kernel_rfl) (by kernel_rfl) (by kernel_rfl : vc71 a_0 n_1 n_2 v Q = _) h

def vc72 (a_0 : Addr) (x1_0 : Sl) (x1_1 : Sl) (n2_0 : Int) (n2_1 : Int) (n2_2 : Int) (n2_3 : Int) (x2_4 : Sl) (x2_5 : Sl) (x_3 : Sl) (v : World) (Q : Value → World → Prop) : Prop :=
 ((!decide ((x2_4.n : Int) = (x_3.n : Int))) = true →
 Q (.bool false) v) ∧
 ((!decide ((x2_4.n : Int) = (x_3.n : Int))) = false →
 ∃ I1 : Int → World → Prop, ∃ m2 : Int → World → Nat, I1 0 v ∧
 ∀ n3 : Int, ∀ w4 : World, I1 n3 w4 →
 ((decide (n3 < (x_3.n : Int))) = true →
 ∃ x5 : Sl, w4.cell? (a_0.add 0) = some (x5.val) ∧
 IxOk x2_4 n3 ∧
 ∃ n6 : Int, w4.cell? ((elA x2_4 n3 1).add 0) = some (.int .i64 n6) ∧
 IxOk x5 n6 ∧
 ∃ n7 : Int, w4.cell? ((elA x5 n6 1).add 0) = some (.int .i64 n7) ∧
 IxOk x_3 n3 ∧
 ∃ n8 : Int, w4.cell? ((elA x_3 n3 1).add 0) = some (.int .i64 n8) ∧
 ((!decide (n7 = n8)) = true →
 Q (.bool false) w4) ∧
 ((!decide (n7 = n8)) = false →
 ∃ n9 : Int, Wr .i64 (n3 + 1) n9 ∧
 ((.sl x1_0 : SV) = .sl x1_0) ∧
 ((.sl x1_1 : SV) = .sl x1_1) ∧
 ((.num .i64 n2_0 : SV) = .num .i64 n2_0) ∧
 ((.num .i64 n2_1 : SV) = .num .i64 n2_1) ∧
 ((.num .i64 n2_2 : SV) = .num .i64 n2_2) ∧
 ((.num .i64 n2_3 : SV) = .num .i64 n2_3) ∧
 ((.sl x2_4 : SV) = .sl x2_4) ∧
 ((.sl x2_5 : SV) = .sl x2_5) ∧
 I1 n9 w4 ∧
 m2 n9 w4 < m2 n3 w4)) ∧
 ((decide (n3 < (x_3.n : Int))) = false →
 ∃ I10 : Int → World → Prop, ∃ m11 : Int → World → Nat, I10 0 w4 ∧
 ∀ n12 : Int, ∀ w13 : World, I10 n12 w13 →
 ((decide (n12 < (x_3.n : Int))) = true →
 ∃ q14 : Bool, (Trip Tryz.prog 111 #[.agg #[x1_0.val, x1_1.val], .agg #[.int .i64 n2_0, .int .i64 n2_1, .int .i64 n2_2, .int .i64 n2_3, x2_4.val, x2_5.val], .int .i64 n12] w13 fun r15 w16 => r15 = .bool q14 ∧ Sub w13 w16) ∧
 ((!q14) = true →
 IxOk x2_4 n12) ∧
 ∃ n17 : Int, ((!q14) = true →
 w13.cell? ((elA x2_4 n12 1).add 0) = some (.int .i64 n17)) ∧
 ((!q14) = true →
 Trip Tryz.prog 77 #[.pointer (some (a_0.add 0)), .int .i64 n17] w13 fun r18 w19 =>
 ∃ q20 : Bool, r18 = .bool q20 ∧
 ((!q20) = true →
 Q (.bool false) w19) ∧
 ((!q20) = false →
 ∃ n21 : Int, Wr .i64 (n12 + 1) n21 ∧
 ((.sl x1_0 : SV) = .sl x1_0) ∧
 ((.sl x1_1 : SV) = .sl x1_1) ∧
 ((.num .i64 n2_0 : SV) = .num .i64 n2_0) ∧
 ((.num .i64 n2_1 : SV) = .num .i64 n2_1) ∧
 ((.num .i64 n2_2 : SV) = .num .i64 n2_2) ∧
 ((.num .i64 n2_3 : SV) = .num .i64 n2_3) ∧
 ((.sl x2_4 : SV) = .sl x2_4) ∧
 ((.sl x2_5 : SV) = .sl x2_5) ∧
 I10 n21 w19 ∧
 m11 n21 w19 < m11 n12 w13)) ∧
 ((!q14) = false →
 ∃ n22 : Int, Wr .i64 (n12 + 1) n22 ∧
 ((.sl x1_0 : SV) = .sl x1_0) ∧
 ((.sl x1_1 : SV) = .sl x1_1) ∧
 ((.num .i64 n2_0 : SV) = .num .i64 n2_0) ∧
 ((.num .i64 n2_1 : SV) = .num .i64 n2_1) ∧
 ((.num .i64 n2_2 : SV) = .num .i64 n2_2) ∧
 ((.num .i64 n2_3 : SV) = .num .i64 n2_3) ∧
 ((.sl x2_4 : SV) = .sl x2_4) ∧
 ((.sl x2_5 : SV) = .sl x2_5) ∧
 I10 n22 w13 ∧
 m11 n22 w13 < m11 n12 w13)) ∧
 ((decide (n12 < (x_3.n : Int))) = false →
 ∃ I23 : Int → World → Prop, ∃ m24 : Int → World → Nat, I23 0 w13 ∧
 ∀ n25 : Int, ∀ w26 : World, I23 n25 w26 →
 ((decide (n25 < (x_3.n : Int))) = true →
 ∃ q27 : Bool, (Trip Tryz.prog 111 #[.agg #[x1_0.val, x1_1.val], .agg #[.int .i64 n2_0, .int .i64 n2_1, .int .i64 n2_2, .int .i64 n2_3, x2_4.val, x2_5.val], .int .i64 n25] w26 fun r28 w29 => r28 = .bool q27 ∧ Sub w26 w29) ∧
 (q27 = true →
 IxOk x2_4 n25) ∧
 ∃ n30 : Int, (q27 = true →
 w26.cell? ((elA x2_4 n25 1).add 0) = some (.int .i64 n30)) ∧
 ∃ q31 : Bool, (q27 = true →
 (Trip Tryz.prog 76 #[.pointer (some (a_0.add 0)), .int .i64 n30] w26 fun r32 w33 => r32 = .bool q31 ∧ Sub w26 w33)) ∧
 ((q27 && (!q31)) = true →
 Q (.bool false) w26) ∧
 ((q27 && (!q31)) = false →
 ∃ n34 : Int, Wr .i64 (n25 + 1) n34 ∧
 ((.sl x1_0 : SV) = .sl x1_0) ∧
 ((.sl x1_1 : SV) = .sl x1_1) ∧
 ((.num .i64 n2_0 : SV) = .num .i64 n2_0) ∧
 ((.num .i64 n2_1 : SV) = .num .i64 n2_1) ∧
 ((.num .i64 n2_2 : SV) = .num .i64 n2_2) ∧
 ((.num .i64 n2_3 : SV) = .num .i64 n2_3) ∧
 ((.sl x2_4 : SV) = .sl x2_4) ∧
 ((.sl x2_5 : SV) = .sl x2_5) ∧
 I23 n34 w26 ∧
 m24 n34 w26 < m24 n25 w26)) ∧
 ((decide (n25 < (x_3.n : Int))) = false →
 Q (.bool true) w26))))
theorem of72 (a_0 : Addr) (x1_0 : Sl) (x1_1 : Sl) (n2_0 : Int) (n2_1 : Int) (n2_2 : Int) (n2_3 : Int) (x2_4 : Sl) (x2_5 : Sl) (x_3 : Sl) (v : World) (Q : Value → World → Prop) (h : vc72 a_0 x1_0 x1_1 n2_0 n2_1 n2_2 n2_3 x2_4 x2_5 x_3 v Q) : Trip Tryz.prog 72 #[.pointer (some (a_0.add 0)), .agg #[x1_0.val, x1_1.val], .agg #[.int .i64 n2_0, .int .i64 n2_1, .int .i64 n2_2, .int .i64 n2_3, x2_4.val, x2_5.val], x_3.val] v Q :=
 trip_of_eq (args := [.pt a_0 0, .ag [.sl x1_0, .sl x1_1], .ag [.num .i64 n2_0, .num .i64 n2_1, .num .i64 n2_2, .num .i64 n2_3, .sl x2_4, .sl x2_5], .sl x_3]) (A := ⟨[(4, [(9, .int .i64)], []), (9, [(10, .int .i64)], []), (14, [(11, .int .i64)], [])], [], [], [], psG⟩) Tryz.func72 (by kernel_rfl) (by kernel_rfl) (by kernel_rfl : vc72 a_0 x1_0 x1_1 n2_0 n2_1 n2_2 n2_3 x2_4 x2_5 x_3 v Q = _) h

end Go.Vc
