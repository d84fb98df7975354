/- Part of the proofs about the heaps and memories: a law is joined in the text whose name ends in W and the law. -/
import Derived.Test.YtojmcdmbkfigaaaGreatEVcFn
import Derived.Test.YtojmcdmbkfigaaaGreatProg
import Derived.KernelRfl
namespace Go.Vc
open Go Go.Proofs
set_option linter.all false
abbrev psG : List Nat := [8, 12, 17, 20, 20, 25, 26, 27, 28, 32, 34, 35, 42, 43, 44, 45, 46, 47, 48, 55, 60, 61, 65, 66, 67, 68, 69, 70, 72, 73, 74, 75, 81, 85, 89, 90, 95, 96, 97, 98, 99, 100, 101, 102, 103, 105, 106, 107, 108, 111, 112, 113, 114, 117, 120, 122, 123, 125, 126, 127, 128, 129, 130, 133, 137, 138, 139, 140, 146, 148, 149, 152, 156, 158, 161, 162, 165, 185]
def vc5 (x0_0 : Sl) (x0_1 : Sl) (n_1 : Int) (n_2 : Int) (v : World) (Q : Value → World → Prop) : Prop :=
 ∃ n1 : Int, (Trip Tryz.prog 8 #[.agg #[x0_0.val, x0_1.val], .int .i64 1048576] v fun r2 w3 => r2 = .int .i64 n1 ∧ Sub v w3) ∧
 ((decide (n1 < 0)) = true →
 Q (.bool true) v) ∧
 ((decide (n1 < 0)) = false →
 Trip Tryz.prog 10 #[.agg #[x0_0.val, x0_1.val]] v fun r4 w5 =>
 ∃ x6 : Sl, ∃ x7 : Sl, r4 = .agg #[x6.val, x7.val] ∧
 Trip Tryz.prog 15 #[.agg #[x6.val, x7.val], .int .i64 n_1, .int .i64 n_2] w5 fun r8 w9 =>
 ∃ x10 : Sl, r8 = x10.val ∧
 Trip Tryz.prog 10 #[.agg #[x0_0.val, x0_1.val]] w9 fun r11 w12 =>
 ∃ x13 : Sl, ∃ x14 : Sl, r11 = .agg #[x13.val, x14.val] ∧
 Trip Tryz.prog 16 #[.agg #[x13.val, x14.val], .int .i64 n_1, .int .i64 n_2] w12 fun r15 w16 =>
 ∃ x17 : Sl, r15 = x17.val ∧
 ∃ q18 : Bool, (Trip Tryz.prog 17 #[x17.val, x10.val] w16 fun r19 w20 => r19 = .bool q18 ∧ Sub w16 w20) ∧
 ((!q18) = true →
 Q (.bool false) w16) ∧
 ((!q18) = false →
 Trip Tryz.prog 10 #[.agg #[x0_0.val, x0_1.val]] w16 fun r21 w22 =>
 ∃ x23 : Sl, ∃ x24 : Sl, r21 = .agg #[x23.val, x24.val] ∧
 Sub w16 w22 ∧
 ∃ q25 : Bool, (Trip Tryz.prog 12 #[.agg #[x13.val, x14.val], .agg #[x23.val, x24.val]] w22 fun r26 w27 => r26 = .bool q25 ∧ Sub w22 w27) ∧
 ((!q25) = true →
 Q (.bool false) w22) ∧
 ((!q25) = false →
 Trip Tryz.prog 18 #[.agg #[x13.val, x14.val], .int .i64 1] w22 fun r28 w29 =>
 ∃ n30 : Int, r28 = .int .i64 n30 ∧
 ∃ q31 : Bool, ((decide (n30 < 0)) = false →
 (Trip Tryz.prog 17 #[x17.val, x10.val] w29 fun r32 w33 => r32 = .bool q31 ∧ Sub w29 w33)) ∧
 (((decide (n30 < 0)) || (!q31)) = true →
 Q (.bool false) w29) ∧
 (((decide (n30 < 0)) || (!q31)) = false →
 Trip Tryz.prog 19 #[x17.val, .int .i64 1] w29 fun r34 w35 =>
 ∃ n36 : Int, r34 = .int .i64 n36 ∧
 ∃ n37 : Int, (Trip Tryz.prog 20 #[x17.val, .int .i64 1] w35 fun r38 w39 => r38 = .int .i64 n37 ∧ Sub w35 w39) ∧
 ((decide (n37 < 0)) = true →
 Q (.bool false) w35) ∧
 ((decide (n37 < 0)) = false →
 ((!decide (n37 = n36)) = true →
 Q (.bool false) w35) ∧
 ((!decide (n37 = n36)) = false →
 Trip Tryz.prog 10 #[.agg #[x0_0.val, x0_1.val]] w35 fun r40 w41 =>
 ∃ x42 : Sl, ∃ x43 : Sl, r40 = .agg #[x42.val, x43.val] ∧
 Trip Tryz.prog 16 #[.agg #[x42.val, x43.val], .int .i64 n_1, .int .i64 n_2] w41 fun r44 w45 =>
 ∃ x46 : Sl, r44 = x46.val ∧
 ∃ q47 : Bool, (Trip Tryz.prog 17 #[x46.val, x10.val] w45 fun r48 w49 => r48 = .bool q47 ∧ Sub w45 w49) ∧
 ((!q47) = true →
 Q (.bool false) w45) ∧
 ((!q47) = false →
 ∃ n50 : Int, (Trip Tryz.prog 20 #[x17.val, .int .i64 1] w45 fun r51 w52 => r51 = .int .i64 n50 ∧ Sub w45 w52) ∧
 ((decide (n50 < 0)) = true →
 Q (.bool false) w45) ∧
 ((decide (n50 < 0)) = false →
 ((!decide (n50 = n36)) = true →
 Q (.bool false) w45) ∧
 ((!decide (n50 = n36)) = false →
 Q (.bool true) w45)))))))))
theorem of5 (x0_0 : Sl) (x0_1 : Sl) (n_1 : Int) (n_2 : Int) (v : World) (Q : Value → World → Prop) (h : vc5 x0_0 x0_1 n_1 n_2 v Q) : Trip Tryz.prog 5 #[.agg #[x0_0.val, x0_1.val], .int .i64 n_1, .int .i64 n_2] v Q :=
 trip_of_eq (args := [.ag [.sl x0_0, .sl x0_1], .num .i64 n_1, .num .i64 n_2]) (A := ⟨[], [], [(10, [2])], [], psG⟩) Tryz.func5 (by kernel_rfl) (by kernel_rfl) (by kernel_rfl : vc5 x0_0 x0_1 n_1 n_2 v Q = _) h

def vc6 (x0_0 : Sl) (x0_1 : Sl) (n_1 : Int) (n_2 : Int) (v : World) (Q : Value → World → Prop) : Prop :=
 ∃ n1 : Int, (Trip Tryz.prog 8 #[.agg #[x0_0.val, x0_1.val], .int .i64 1048576] v fun r2 w3 => r2 = .int .i64 n1 ∧ Sub v w3) ∧
 ((decide (n1 < 0)) = true →
 Q (.bool true) v) ∧
 ((decide (n1 < 0)) = false →
 Trip Tryz.prog 10 #[.agg #[x0_0.val, x0_1.val]] v fun r4 w5 =>
 ∃ x6 : Sl, ∃ x7 : Sl, r4 = .agg #[x6.val, x7.val] ∧
 Trip Tryz.prog 21 #[.agg #[x6.val, x7.val], .int .i64 n_1, .int .i64 n_2] w5 fun r8 w9 =>
 ∃ x10 : Sl, r8 = x10.val ∧
 Trip Tryz.prog 10 #[.agg #[x0_0.val, x0_1.val]] w9 fun r11 w12 =>
 ∃ x13 : Sl, ∃ x14 : Sl, r11 = .agg #[x13.val, x14.val] ∧
 Trip Tryz.prog 22 #[.agg #[x13.val, x14.val], .int .i64 n_1, .int .i64 n_2] w12 fun r15 w16 =>
 ∃ x17 : Sl, r15 = x17.val ∧
 ∃ q18 : Bool, (Trip Tryz.prog 17 #[x17.val, x10.val] w16 fun r19 w20 => r19 = .bool q18 ∧ Sub w16 w20) ∧
 ((!q18) = true →
 Q (.bool false) w16) ∧
 ((!q18) = false →
 Trip Tryz.prog 10 #[.agg #[x0_0.val, x0_1.val]] w16 fun r21 w22 =>
 ∃ x23 : Sl, ∃ x24 : Sl, r21 = .agg #[x23.val, x24.val] ∧
 Sub w16 w22 ∧
 ∃ q25 : Bool, (Trip Tryz.prog 12 #[.agg #[x13.val, x14.val], .agg #[x23.val, x24.val]] w22 fun r26 w27 => r26 = .bool q25 ∧ Sub w22 w27) ∧
 ((!q25) = true →
 Q (.bool false) w22) ∧
 ((!q25) = false →
 Trip Tryz.prog 18 #[.agg #[x13.val, x14.val], .int .i64 1] w22 fun r28 w29 =>
 ∃ n30 : Int, r28 = .int .i64 n30 ∧
 ∃ q31 : Bool, ((decide (n30 < 0)) = false →
 (Trip Tryz.prog 17 #[x17.val, x10.val] w29 fun r32 w33 => r32 = .bool q31 ∧ Sub w29 w33)) ∧
 (((decide (n30 < 0)) || (!q31)) = true →
 Q (.bool false) w29) ∧
 (((decide (n30 < 0)) || (!q31)) = false →
 Trip Tryz.prog 19 #[x17.val, .int .i64 1] w29 fun r34 w35 =>
 ∃ n36 : Int, r34 = .int .i64 n36 ∧
 ∃ n37 : Int, (Trip Tryz.prog 20 #[x17.val, .int .i64 1] w35 fun r38 w39 => r38 = .int .i64 n37 ∧ Sub w35 w39) ∧
 ((decide (n37 < 0)) = true →
 Q (.bool false) w35) ∧
 ((decide (n37 < 0)) = false →
 ((!decide (n37 = n36)) = true →
 Q (.bool false) w35) ∧
 ((!decide (n37 = n36)) = false →
 Trip Tryz.prog 10 #[.agg #[x0_0.val, x0_1.val]] w35 fun r40 w41 =>
 ∃ x42 : Sl, ∃ x43 : Sl, r40 = .agg #[x42.val, x43.val] ∧
 Trip Tryz.prog 22 #[.agg #[x42.val, x43.val], .int .i64 n_1, .int .i64 n_2] w41 fun r44 w45 =>
 ∃ x46 : Sl, r44 = x46.val ∧
 ∃ q47 : Bool, (Trip Tryz.prog 17 #[x46.val, x10.val] w45 fun r48 w49 => r48 = .bool q47 ∧ Sub w45 w49) ∧
 ((!q47) = true →
 Q (.bool false) w45) ∧
 ((!q47) = false →
 ∃ n50 : Int, (Trip Tryz.prog 20 #[x17.val, .int .i64 1] w45 fun r51 w52 => r51 = .int .i64 n50 ∧ Sub w45 w52) ∧
 ((decide (n50 < 0)) = true →
 Q (.bool false) w45) ∧
 ((decide (n50 < 0)) = false →
 ((!decide (n50 = n36)) = true →
 Q (.bool false) w45) ∧
 ((!decide (n50 = n36)) = false →
 Q (.bool true) w45)))))))))
theorem of6 (x0_0 : Sl) (x0_1 : Sl) (n_1 : Int) (n_2 : Int) (v : World) (Q : Value → World → Prop) (h : vc6 x0_0 x0_1 n_1 n_2 v Q) : Trip Tryz.prog 6 #[.agg #[x0_0.val, x0_1.val], .int .i64 n_1, .int .i64 n_2] v Q :=
 trip_of_eq (args := [.ag [.sl x0_0, .sl x0_1], .num .i64 n_1, .num .i64 n_2]) (A := ⟨[], [], [(10, [2])], [], psG⟩) Tryz.func6 (by kernel_rfl) (by kernel_rfl) (by kernel_rfl : vc6 x0_0 x0_1 n_1 n_2 v Q = _) h

def vc7 (x0_0 : Sl) (x0_1 : Sl) (n_1 : Int) (n_2 : Int) (v : World) (Q : Value → World → Prop) : Prop :=
 ∃ n1 : Int, (Trip Tryz.prog 8 #[.agg #[x0_0.val, x0_1.val], .int .i64 1048576] v fun r2 w3 => r2 = .int .i64 n1 ∧ Sub v w3) ∧
 ((decide (n1 < 0)) = true →
 Q (.bool true) v) ∧
 ((decide (n1 < 0)) = false →
 Trip Tryz.prog 10 #[.agg #[x0_0.val, x0_1.val]] v fun r4 w5 =>
 ∃ x6 : Sl, ∃ x7 : Sl, r4 = .agg #[x6.val, x7.val] ∧
 Trip Tryz.prog 23 #[.agg #[x6.val, x7.val], .int .i64 n_1, .int .i64 n_2] w5 fun r8 w9 =>
 ∃ x10 : Sl, r8 = x10.val ∧
 Trip Tryz.prog 10 #[.agg #[x0_0.val, x0_1.val]] w9 fun r11 w12 =>
 ∃ x13 : Sl, ∃ x14 : Sl, r11 = .agg #[x13.val, x14.val] ∧
 Trip Tryz.prog 24 #[.agg #[x13.val, x14.val], .int .i64 n_1, .int .i64 n_2] w12 fun r15 w16 =>
 ∃ x17 : Sl, r15 = x17.val ∧
 ∃ q18 : Bool, (Trip Tryz.prog 17 #[x17.val, x10.val] w16 fun r19 w20 => r19 = .bool q18 ∧ Sub w16 w20) ∧
 ((!q18) = true →
 Q (.bool false) w16) ∧
 ((!q18) = false →
 Trip Tryz.prog 10 #[.agg #[x0_0.val, x0_1.val]] w16 fun r21 w22 =>
 ∃ x23 : Sl, ∃ x24 : Sl, r21 = .agg #[x23.val, x24.val] ∧
 Sub w16 w22 ∧
 ∃ q25 : Bool, (Trip Tryz.prog 12 #[.agg #[x13.val, x14.val], .agg #[x23.val, x24.val]] w22 fun r26 w27 => r26 = .bool q25 ∧ Sub w22 w27) ∧
 ((!q25) = true →
 Q (.bool false) w22) ∧
 ((!q25) = false →
 Trip Tryz.prog 18 #[.agg #[x13.val, x14.val], .int .i64 1] w22 fun r28 w29 =>
 ∃ n30 : Int, r28 = .int .i64 n30 ∧
 ∃ q31 : Bool, ((decide (n30 < 0)) = false →
 (Trip Tryz.prog 17 #[x17.val, x10.val] w29 fun r32 w33 => r32 = .bool q31 ∧ Sub w29 w33)) ∧
 (((decide (n30 < 0)) || (!q31)) = true →
 Q (.bool false) w29) ∧
 (((decide (n30 < 0)) || (!q31)) = false →
 Trip Tryz.prog 19 #[x17.val, .int .i64 1] w29 fun r34 w35 =>
 ∃ n36 : Int, r34 = .int .i64 n36 ∧
 ∃ n37 : Int, (Trip Tryz.prog 20 #[x17.val, .int .i64 1] w35 fun r38 w39 => r38 = .int .i64 n37 ∧ Sub w35 w39) ∧
 ((decide (n37 < 0)) = true →
 Q (.bool false) w35) ∧
 ((decide (n37 < 0)) = false →
 ((!decide (n37 = n36)) = true →
 Q (.bool false) w35) ∧
 ((!decide (n37 = n36)) = false →
 Trip Tryz.prog 10 #[.agg #[x0_0.val, x0_1.val]] w35 fun r40 w41 =>
 ∃ x42 : Sl, ∃ x43 : Sl, r40 = .agg #[x42.val, x43.val] ∧
 Trip Tryz.prog 24 #[.agg #[x42.val, x43.val], .int .i64 n_1, .int .i64 n_2] w41 fun r44 w45 =>
 ∃ x46 : Sl, r44 = x46.val ∧
 ∃ q47 : Bool, (Trip Tryz.prog 17 #[x46.val, x10.val] w45 fun r48 w49 => r48 = .bool q47 ∧ Sub w45 w49) ∧
 ((!q47) = true →
 Q (.bool false) w45) ∧
 ((!q47) = false →
 ∃ n50 : Int, (Trip Tryz.prog 20 #[x17.val, .int .i64 1] w45 fun r51 w52 => r51 = .int .i64 n50 ∧ Sub w45 w52) ∧
 ((decide (n50 < 0)) = true →
 Q (.bool false) w45) ∧
 ((decide (n50 < 0)) = false →
 ((!decide (n50 = n36)) = true →
 Q (.bool false) w45) ∧
 ((!decide (n50 = n36)) = false →
 Q (.bool true) w45)))))))))
theorem of7 (x0_0 : Sl) (x0_1 : Sl) (n_1 : Int) (n_2 : Int) (v : World) (Q : Value → World → Prop) (h : vc7 x0_0 x0_1 n_1 n_2 v Q) : Trip Tryz.prog 7 #[.agg #[x0_0.val, x0_1.val], .int .i64 n_1, .int .i64 n_2] v Q :=
 trip_of_eq (args := [.ag [.sl x0_0, .sl x0_1], .num .i64 n_1, .num .i64 n_2]) (A := ⟨[], [], [(10, [2])], [], psG⟩) Tryz.func7 (by kernel_rfl) (by kernel_rfl) (by kernel_rfl : vc7 x0_0 x0_1 n_1 n_2 v Q = _) h

def vc8 (x0_0 : Sl) (x0_1 : Sl) (n_1 : Int) (v : World) (Q : Value → World → Prop) : Prop :=
 ∃ n1 : Int, (Trip Tryz.prog 25 #[x0_0.val, .int .i64 n_1] v fun r2 w3 => r2 = .int .i64 n1 ∧ Sub v w3) ∧
 ((decide (n1 < 0)) = true →
 Q (.int .i64 (-1)) v) ∧
 ((decide (n1 < 0)) = false →
 ∃ n4 : Int, (Trip Tryz.prog 26 #[x0_1.val, .int .i64 n1] v fun r5 w6 => r5 = .int .i64 n4 ∧ Sub v w6) ∧
 ((decide (n4 < 0)) = true →
 Q (.int .i64 (-1)) v) ∧
 ((decide (n4 < 0)) = false →
 Q (.int .i64 n4) v))
theorem of8 (x0_0 : Sl) (x0_1 : Sl) (n_1 : Int) (v : World) (Q : Value → World → Prop) (h : vc8 x0_0 x0_1 n_1 v Q) : Trip Tryz.prog 8 #[.agg #[x0_0.val, x0_1.val], .int .i64 n_1] v Q :=
 trip_of_eq (args := [.ag [.sl x0_0, .sl x0_1], .num .i64 n_1]) (A := ⟨[], [], [], [], psG⟩) Tryz.func8 (by kernel_rfl) (by kernel_rfl) (by kernel_rfl : vc8 x0_0 x0_1 n_1 v Q = _) h

def vc10 (x0_0 : Sl) (x0_1 : Sl) (v : World) (Q : Value → World → Prop) : Prop :=
 Trip Tryz.prog 30 #[x0_0.val] v fun r1 w2 =>
 ∃ x3 : Sl, r1 = x3.val ∧
 Trip Tryz.prog 31 #[x0_1.val] w2 fun r4 w5 =>
 ∃ x6 : Sl, r4 = x6.val ∧
 Q (.agg #[x3.val, x6.val]) w5
theorem of10 (x0_0 : Sl) (x0_1 : Sl) (v : World) (Q : Value → World → Prop) (h : vc10 x0_0 x0_1 v Q) : Trip Tryz.prog 10 #[.agg #[x0_0.val, x0_1.val]] v Q :=
 trip_of_eq (args := [.ag [.sl x0_0, .sl x0_1]]) (A := ⟨[], [], [], [], psG⟩) Tryz.func10 (by kernel_rfl) (by kernel_rfl) (by kernel_rfl : vc10 x0_0 x0_1 v Q = _) h

def vc12 (x0_0 : Sl) (x0_1 : Sl) (x1_0 : Sl) (x1_1 : Sl) (v : World) (Q : Value → World → Prop) : Prop :=
 ∃ q1 : Bool, (Trip Tryz.prog 34 #[x0_0.val, x1_0.val] v fun r2 w3 => r2 = .bool q1 ∧ Sub v w3) ∧
 ((!q1) = true →
 Q (.bool false) v) ∧
 ((!q1) = false →
 ∃ q4 : Bool, (Trip Tryz.prog 35 #[x0_1.val, x1_1.val] v fun r5 w6 => r5 = .bool q4 ∧ Sub v w6) ∧
 ((!q4) = true →
 Q (.bool false) v) ∧
 ((!q4) = false →
 Q (.bool true) v))
theorem of12 (x0_0 : Sl) (x0_1 : Sl) (x1_0 : Sl) (x1_1 : Sl) (v : World) (Q : Value → World → Prop) (h : vc12 x0_0 x0_1 x1_0 x1_1 v Q) : Trip Tryz.prog 12 #[.agg #[x0_0.val, x0_1.val], .agg #[x1_0.val, x1_1.val]] v Q :=
 trip_of_eq (args := [.ag [.sl x0_0, .sl x0_1], .ag [.sl x1_0, .sl x1_1]]) (A := ⟨[], [], [], [], psG⟩) Tryz.func12 (by kernel_rfl) (by kernel_rfl) (by kernel_rfl : vc12 x0_0 x0_1 x1_0 x1_1 v Q = _) h

def vc15 (x0_0 : Sl) (x0_1 : Sl) (n_1 : Int) (n_2 : Int) (v : World) (Q : Value → World → Prop) : Prop :=
 Trip Tryz.prog 37 #[.agg #[x0_0.val, x0_1.val], .int .i64 n_1, .int .i64 n_2] v fun r1 w2 =>
 ∃ a3 : Addr, ∃ q4 : Bool, r1 = .tuple #[.pointer (some (a3.add 0)), .bool q4] ∧
 ((!q4) = true →
 Q (.slice none 0 0) w2) ∧
 ((!q4) = false →
 ∃ x5 : Sl, w2.cell? (a3.add 5) = some (x5.val) ∧
 Trip Tryz.prog 38 #[x5.val] w2 fun r6 w7 =>
 ∃ x8 : Sl, r6 = x8.val ∧
 Q (x8.val) w7)
theorem of15 (x0_0 : Sl) (x0_1 : Sl) (n_1 : Int) (n_2 : Int) (v : World) (Q : Value → World → Prop) (h : vc15 x0_0 x0_1 n_1 n_2 v Q) : Trip Tryz.prog 15 #[.agg #[x0_0.val, x0_1.val], .int .i64 n_1, .int .i64 n_2] v Q :=
 trip_of_eq (args := [.ag [.sl x0_0, .sl x0_1], .num .i64 n_1, .num .i64 n_2]) (A := ⟨[], [], [], [], psG⟩) Tryz.func15 (by kernel_rfl) (by kernel_rfl) (by kernel_rfl : vc15 x0_0 x0_1 n_1 n_2 v Q = _) h

def vc17 (x_0 : Sl) (x_1 : Sl) (v : World) (Q : Value → World → Prop) : Prop :=
 ((!decide ((x_0.n : Int) = (x_1.n : Int))) = true →
 Q (.bool false) v) ∧
 ((!decide ((x_0.n : Int) = (x_1.n : Int))) = false →
 ∃ I1 : Int → World → Prop, ∃ m2 : Int → World → Nat, I1 0 v ∧
 ∀ n3 : Int, ∀ w4 : World, I1 n3 w4 →
 ((decide (n3 < (x_0.n : Int))) = true →
 IxOk x_0 n3 ∧
 ∃ n5 : Int, w4.cell? ((elA x_0 n3 1).add 0) = some (.int .i64 n5) ∧
 IxOk x_1 n3 ∧
 ∃ n6 : Int, w4.cell? ((elA x_1 n3 1).add 0) = some (.int .i64 n6) ∧
 ((!decide (n5 = n6)) = true →
 Q (.bool false) w4) ∧
 ((!decide (n5 = n6)) = false →
 ∃ n7 : Int, Wr .i64 (n3 + 1) n7 ∧
 I1 n7 w4 ∧
 m2 n7 w4 < m2 n3 w4)) ∧
 ((decide (n3 < (x_0.n : Int))) = false →
 Q (.bool true) w4))
theorem of17 (x_0 : Sl) (x_1 : Sl) (v : World) (Q : Value → World → Prop) (h : vc17 x_0 x_1 v Q) : Trip Tryz.prog 17 #[x_0.val, x_1.val] v Q :=
 trip_of_eq (args := [.sl x_0, .sl x_1]) (A := ⟨[(4, [(5, .int .i64)], [])], [], [], [], psG⟩) Tryz.func17 (by kernel_rfl) (by kernel_rfl) (by kernel_rfl : vc17 x_0 x_1 v Q = _) h

def vc18 (x0_0 : Sl) (x0_1 : Sl) (n_1 : Int) (v : World) (Q : Value → World → Prop) : Prop :=
 Trip Tryz.prog 40 #[x0_0.val, .int .i64 n_1] v fun r1 w2 =>
 ∃ n3 : Int, r1 = .int .i64 n3 ∧
 Trip Tryz.prog 41 #[x0_1.val, .int .i64 n3] w2 fun r4 w5 =>
 ∃ n6 : Int, r4 = .int .i64 n6 ∧
 Q (.int .i64 n6) w5
theorem of18 (x0_0 : Sl) (x0_1 : Sl) (n_1 : Int) (v : World) (Q : Value → World → Prop) (h : vc18 x0_0 x0_1 n_1 v Q) : Trip Tryz.prog 18 #[.agg #[x0_0.val, x0_1.val], .int .i64 n_1] v Q :=
 trip_of_eq (args := [.ag [.sl x0_0, .sl x0_1], .num .i64 n_1]) (A := ⟨[], [], [], [], psG⟩) Tryz.func18 (by kernel_rfl) (by kernel_rfl) (by kernel_rfl : vc18 x0_0 x0_1 n_1 v Q = _) h

def vc19 (x_0 : Sl) (n_1 : Int) (v : World) (Q : Value → World → Prop) : Prop :=
 ∃ I1 : Int → Int → World → Prop, ∃ m2 : Int → Int → World → Nat, I1 n_1 0 v ∧
 ∀ n3 : Int, ∀ n4 : Int, ∀ w5 : World, I1 n3 n4 w5 →
 ((decide (n4 < (x_0.n : Int))) = true →
 IxOk x_0 n4 ∧
 StoreAt w5 (elA x_0 n4 1) 0 [.int .i64 n3] fun w6 =>
 ∃ n7 : Int, Wr .i64 (n3 + 1) n7 ∧
 ∃ n8 : Int, Wr .i64 (n4 + 1) n8 ∧
 I1 n7 n8 w6 ∧
 m2 n7 n8 w6 < m2 n3 n4 w5) ∧
 ((decide (n4 < (x_0.n : Int))) = false →
 Q (.int .i64 n3) w5)
theorem of19 (x_0 : Sl) (n_1 : Int) (v : World) (Q : Value → World → Prop) (h : vc19 x_0 n_1 v Q) : Trip Tryz.prog 19 #[x_0.val, .int .i64 n_1] v Q :=
 trip_of_eq (args := [.sl x_0, .num .i64 n_1]) (A := ⟨[(2, [(1, .int .i64), (5, .int .i64)], [])], [], [], [], psG⟩) Tryz.func19 (by kernel_rfl) (by kernel_rfl) (by kernel_rfl : vc19 x_0 n_1 v Q = _) h

def vc20 (x_0 : Sl) (n_1 : Int) (v : World) (Q : Value → World → Prop) : Prop :=
 ∃ I1 : Int → Int → World → Prop, ∃ m2 : Int → Int → World → Nat, I1 n_1 0 v ∧
 ∀ n3 : Int, ∀ n4 : Int, ∀ w5 : World, I1 n3 n4 w5 →
 ((decide (n4 < (x_0.n : Int))) = true →
 IxOk x_0 n4 ∧
 ∃ n6 : Int, w5.cell? ((elA x_0 n4 1).add 0) = some (.int .i64 n6) ∧
 ((!decide (n6 = n3)) = true →
 Q (.int .i64 (-1)) w5) ∧
 ((!decide (n6 = n3)) = false →
 ∃ n7 : Int, Wr .i64 (n3 + 1) n7 ∧
 ∃ n8 : Int, Wr .i64 (n4 + 1) n8 ∧
 I1 n7 n8 w5 ∧
 m2 n7 n8 w5 < m2 n3 n4 w5)) ∧
 ((decide (n4 < (x_0.n : Int))) = false →
 Q (.int .i64 n3) w5)
theorem of20 (x_0 : Sl) (n_1 : Int) (v : World) (Q : Value → World → Prop) (h : vc20 x_0 n_1 v Q) : Trip Tryz.prog 20 #[x_0.val, .int .i64 n_1] v Q :=
 trip_of_eq (args := [.sl x_0, .num .i64 n_1]) (A := ⟨[(2, [(1, .int .i64), (5, .int .i64)], [])], [], [], [], psG⟩) Tryz.func20 (by kernel_rfl) (by kernel_rfl) (by kernel_rfl : vc20 x_0 n_1 v Q = _) h

def vc21 (x0_0 : Sl) (x0_1 : Sl) (n_1 : Int) (n_2 : Int) (v : World) (Q : Value → World → Prop) : Prop :=
 Trip Tryz.prog 37 #[.agg #[x0_0.val, x0_1.val], .int .i64 n_1, .int .i64 n_2] v fun r1 w2 =>
 ∃ a3 : Addr, ∃ q4 : Bool, r1 = .tuple #[.pointer (some (a3.add 0)), .bool q4] ∧
 ((!q4) = true →
 Q (.slice none 0 0) w2) ∧
 ((!q4) = false →
 ∃ x5 : Sl, w2.cell? (a3.add 1) = some (x5.val) ∧
 Trip Tryz.prog 38 #[x5.val] w2 fun r6 w7 =>
 ∃ x8 : Sl, r6 = x8.val ∧
 Q (x8.val) w7)
theorem of21 (x0_0 : Sl) (x0_1 : Sl) (n_1 : Int) (n_2 : Int) (v : World) (Q : Value → World → Prop) (h : vc21 x0_0 x0_1 n_1 n_2 v Q) : Trip Tryz.prog 21 #[.agg #[x0_0.val, x0_1.val], .int .i64 n_1, .int .i64 n_2] v Q :=
 trip_of_eq (args := [.ag [.sl x0_0, .sl x0_1], .num .i64 n_1, .num .i64 n_2]) (A := ⟨[], [], [], [], psG⟩) Tryz.func21 (by kernel_rfl) (by kernel_rfl) (by kernel_rfl : vc21 x0_0 x0_1 n_1 n_2 v Q = _) h

def vc23 (x0_0 : Sl) (x0_1 : Sl) (n_1 : Int) (n_2 : Int) (v : World) (Q : Value → World → Prop) : Prop :=
 Trip Tryz.prog 37 #[.agg #[x0_0.val, x0_1.val], .int .i64 n_1, .int .i64 n_2] v fun r1 w2 =>
 ∃ a3 : Addr, ∃ q4 : Bool, r1 = .tuple #[.pointer (some (a3.add 0)), .bool q4] ∧
 ((!q4) = true →
 Q (.slice none 0 0) w2) ∧
 ((!q4) = false →
 StepT Tryz.prog (Instr.buildSlice 37 0 #[]) w2 fun r5 w6 =>
 ∃ x7 : Sl, r5 = x7.val ∧
 ∃ I8 : Sl → Int → World → Prop, ∃ m9 : Sl → Int → World → Nat, I8 x7 0 w6 ∧
 ∀ x10 : Sl, ∀ n11 : Int, ∀ w12 : World, I8 x10 n11 w12 →
 ∃ x13 : Sl, w12.cell? (a3.add 0) = some (x13.val) ∧
 ((decide (n11 < (x13.n : Int))) = true →
 ∃ x14 : Sl, w12.cell? (a3.add 0) = some (x14.val) ∧
 IxOk x14 n11 ∧
 ∃ n15 : Int, w12.cell? ((elA x14 n11 1).add 0) = some (.int .i64 n15) ∧
 ∃ q16 : Bool, ((!decide (n15 = 0)) = true →
 (Trip Tryz.prog 42 #[.pointer (some (a3.add 0)), .int .i64 n11] w12 fun r17 w18 => r17 = .bool q16 ∧ Sub w12 w18)) ∧
 (((!decide (n15 = 0)) && q16) = true →
 StepT Tryz.prog (Instr.buildSlice 37 1 #[(0, (.int .i64 n11))]) w12 fun r19 w20 =>
 ∃ x21 : Sl, r19 = x21.val ∧
 StepT Tryz.prog (Builtin.append_ #[37, 37] 37 #[(x10.val), (x21.val)]) w20 fun r22 w23 =>
 ∃ x24 : Sl, r22 = x24.val ∧
 ∃ n25 : Int, Wr .i64 (n11 + 1) n25 ∧
 ((.sl x0_0 : SV) = .sl x0_0) ∧
 ((.sl x0_1 : SV) = .sl x0_1) ∧
 I8 x24 n25 w23 ∧
 m9 x24 n25 w23 < m9 x10 n11 w12) ∧
 (((!decide (n15 = 0)) && q16) = false →
 ∃ n26 : Int, Wr .i64 (n11 + 1) n26 ∧
 ((.sl x0_0 : SV) = .sl x0_0) ∧
 ((.sl x0_1 : SV) = .sl x0_1) ∧
 I8 x10 n26 w12 ∧
 m9 x10 n26 w12 < m9 x10 n11 w12)) ∧
 ((decide (n11 < (x13.n : Int))) = false →
 Q (x10.val) w12))
theorem of23 (x0_0 : Sl) (x0_1 : Sl) (n_1 : Int) (n_2 : Int) (v : World) (Q : Value → World → Prop) (h : vc23 x0_0 x0_1 n_1 n_2 v Q) : Trip Tryz.prog 23 #[.agg #[x0_0.val, x0_1.val], .int .i64 n_1, .int .i64 n_2] v Q :=
 trip_of_eq (args := [.ag [.sl x0_0, .sl x0_1], .num .i64 n_1, .num .i64 n_2]) (A := ⟨[(6, [(9, .sl), (10, .int .i64)], [])], [], [], [], psG⟩) Tryz.func23 (by kernel_rfl) (by kernel_rfl) (by kernel_rfl : vc23 x0_0 x0_1 n_1 n_2 v Q = _) h

def vc25 (x_0 : Sl) (n_1 : Int) (v : World) (Q : Value → World → Prop) : Prop :=
 ∃ n1 : Int, Wr .i64 (n_1 - (x_0.n : Int)) n1 ∧
 ((decide (n1 < 0)) = true →
 Q (.int .i64 (-1)) v) ∧
 ((decide (n1 < 0)) = false →
 ∃ I2 : Int → Int → World → Prop, ∃ m3 : Int → Int → World → Nat, I2 n1 0 v ∧
 ∀ n4 : Int, ∀ n5 : Int, ∀ w6 : World, I2 n4 n5 w6 →
 ((decide (n5 < (x_0.n : Int))) = true →
 IxOk x_0 n5 ∧
 ∃ n7 : Int, ∃ n8 : Int, ∃ x9 : Sl, (w6.cell? ((elA x_0 n5 3).add 0) = some (.int .i64 n7) ∧
 w6.cell? ((elA x_0 n5 3).add 1) = some (.int .i64 n8) ∧
 w6.cell? ((elA x_0 n5 3).add 2) = some (x9.val)) ∧
 ∃ n10 : Int, (Trip Tryz.prog 44 #[.agg #[.int .i64 n7, .int .i64 n8, x9.val], .int .i64 n4] w6 fun r11 w12 => r11 = .int .i64 n10 ∧ Sub w6 w12) ∧
 ((decide (n10 < 0)) = true →
 Q (.int .i64 (-1)) w6) ∧
 ((decide (n10 < 0)) = false →
 ∃ n13 : Int, Wr .i64 (n5 + 1) n13 ∧
 I2 n10 n13 w6 ∧
 m3 n10 n13 w6 < m3 n4 n5 w6)) ∧
 ((decide (n5 < (x_0.n : Int))) = false →
 Q (.int .i64 n4) w6))
theorem of25 (x_0 : Sl) (n_1 : Int) (v : World) (Q : Value → World → Prop) (h : vc25 x_0 n_1 v Q) : Trip Tryz.prog 25 #[x_0.val, .int .i64 n_1] v Q :=
 trip_of_eq (args := [.sl x_0, .num .i64 n_1]) (A := ⟨[(5, [(1, .int .i64), (5, .int .i64)], [])], [], [], [], psG⟩) Tryz.func25 (by kernel_rfl) (by kernel_rfl) (by kernel_rfl : vc25 x_0 n_1 v Q = _) h

def vc26 (x_0 : Sl) (n_1 : Int) (v : World) (Q : Value → World → Prop) : Prop :=
 ∃ n1 : Int, Wr .i64 (n_1 - (x_0.n : Int)) n1 ∧
 ((decide (n1 < 0)) = true →
 Q (.int .i64 (-1)) v) ∧
 ((decide (n1 < 0)) = false →
 ∃ I2 : Int → Int → World → Prop, ∃ m3 : Int → Int → World → Nat, I2 n1 0 v ∧
 ∀ n4 : Int, ∀ n5 : Int, ∀ w6 : World, I2 n4 n5 w6 →
 ((decide (n5 < (x_0.n : Int))) = true →
 IxOk x_0 n5 ∧
 ∃ x7 : Sl, ∃ x8 : Sl, ∃ n9 : Int, ∃ x10 : Sl, ∃ n11 : Int, (w6.cell? ((elA x_0 n5 5).add 0) = some (x7.val) ∧
 w6.cell? ((elA x_0 n5 5).add 1) = some (x8.val) ∧
 w6.cell? ((elA x_0 n5 5).add 2) = some (.int .i64 n9) ∧
 w6.cell? ((elA x_0 n5 5).add 3) = some (x10.val) ∧
 w6.cell? ((elA x_0 n5 5).add 4) = some (.int .i64 n11)) ∧
 ∃ n12 : Int, (Trip Tryz.prog 45 #[.agg #[x7.val, x8.val, .int .i64 n9, x10.val, .int .i64 n11], .int .i64 n4] w6 fun r13 w14 => r13 = .int .i64 n12 ∧ Sub w6 w14) ∧
 ((decide (n12 < 0)) = true →
 Q (.int .i64 (-1)) w6) ∧
 ((decide (n12 < 0)) = false →
 ∃ n15 : Int, Wr .i64 (n5 + 1) n15 ∧
 I2 n12 n15 w6 ∧
 m3 n12 n15 w6 < m3 n4 n5 w6)) ∧
 ((decide (n5 < (x_0.n : Int))) = false →
 Q (.int .i64 n4) w6))
theorem of26 (x_0 : Sl) (n_1 : Int) (v : World) (Q : Value → World → Prop) (h : vc26 x_0 n_1 v Q) : Trip Tryz.prog 26 #[x_0.val, .int .i64 n_1] v Q :=
 trip_of_eq (args := [.sl x_0, .num .i64 n_1]) (A := ⟨[(5, [(1, .int .i64), (5, .int .i64)], [])], [], [], [], psG⟩) Tryz.func26 (by kernel_rfl) (by kernel_rfl) (by kernel_rfl : vc26 x_0 n_1 v Q = _) h

def vc27 (x0_0 : Sl) (x0_1 : Sl) (v : World) (Q : Value → World → Prop) : Prop :=
 ∃ q1 : Bool, (Trip Tryz.prog 46 #[.agg #[x0_0.val, x0_1.val]] v fun r2 w3 => r2 = .bool q1 ∧ Sub v w3) ∧
 ((!q1) = true →
 Q (.bool false) v) ∧
 ((!q1) = false →
 ∃ I4 : Int → World → Prop, ∃ m5 : Int → World → Nat, I4 0 v ∧
 ∀ n6 : Int, ∀ w7 : World, I4 n6 w7 →
 ((decide (n6 < (x0_1.n : Int))) = true →
 IxOk x0_1 n6 ∧
 ∃ x8 : Sl, ∃ x9 : Sl, ∃ n10 : Int, ∃ x11 : Sl, ∃ n12 : Int, (w7.cell? ((elA x0_1 n6 5).add 0) = some (x8.val) ∧
 w7.cell? ((elA x0_1 n6 5).add 1) = some (x9.val) ∧
 w7.cell? ((elA x0_1 n6 5).add 2) = some (.int .i64 n10) ∧
 w7.cell? ((elA x0_1 n6 5).add 3) = some (x11.val) ∧
 w7.cell? ((elA x0_1 n6 5).add 4) = some (.int .i64 n12)) ∧
 ∃ n13 : Int, (Trip Tryz.prog 47 #[.agg #[x11.val, .int .i64 n12]] w7 fun r14 w15 => r14 = .int .i64 n13 ∧ Sub w7 w15) ∧
 ∃ n16 : Int, ((decide (n13 < 0)) = false →
 (Trip Tryz.prog 48 #[.agg #[x0_0.val, x0_1.val], x8.val, .agg #[x11.val, .int .i64 n12]] w7 fun r17 w18 => r17 = .int .i64 n16 ∧ Sub w7 w18)) ∧
 (((decide (n13 < 0)) || (!decide (n16 = n10))) = true →
 Q (.bool false) w7) ∧
 (((decide (n13 < 0)) || (!decide (n16 = n10))) = false →
 ∃ n19 : Int, Wr .i64 (n6 + 1) n19 ∧
 ((.sl x0_0 : SV) = .sl x0_0) ∧
 ((.sl x0_1 : SV) = .sl x0_1) ∧
 I4 n19 w7 ∧
 m5 n19 w7 < m5 n6 w7)) ∧
 ((decide (n6 < (x0_1.n : Int))) = false →
 Q (.bool true) w7))
theorem of27 (x0_0 : Sl) (x0_1 : Sl) (v : World) (Q : Value → World → Prop) (h : vc27 x0_0 x0_1 v Q) : Trip Tryz.prog 27 #[.agg #[x0_0.val, x0_1.val]] v Q :=
 trip_of_eq (args := [.ag [.sl x0_0, .sl x0_1]]) (A := ⟨[(4, [(3, .int .i64)], [])], [], [], [], psG⟩) Tryz.func27 (by kernel_rfl) (by kernel_rfl) (by kernel_rfl : vc27 x0_0 x0_1 v Q = _) h

def vc28 (n_0 : Int) (n_1 : Int) (n_2 : Int) (v : World) (Q : Value → World → Prop) : Prop :=
 Q (.bool ((decide (n_1 ≤ n_0)) && (decide (n_0 ≤ n_2)))) v
theorem of28 (n_0 : Int) (n_1 : Int) (n_2 : Int) (v : World) (Q : Value → World → Prop) (h : vc28 n_0 n_1 n_2 v Q) : Trip Tryz.prog 28 #[.int .i64 n_0, .int .i64 n_1, .int .i64 n_2] v Q :=
 trip_of_eq (args := [.num .i64 n_0, .num .i64 n_1, .num .i64 n_2]) (A := ⟨[], [], [], [], psG⟩) Tryz.func28 (by kernel_rfl) (by kernel_rfl) (by kernel_rfl : vc28 n_0 n_1 n_2 v Q = _) h

def vc30 (x_0 : Sl) (v : World) (Q : Value → World → Prop) : Prop :=
 StepT Tryz.prog (Instr.makeSlice 28 (.int .i64 (x_0.n : Int)) (.int .i64 (x_0.n : Int))) v fun r1 w2 =>
 ∃ x3 : Sl, r1 = x3.val ∧
 ∃ I4 : Int → World → Prop, ∃ m5 : Int → World → Nat, I4 0 w2 ∧
 ∀ n6 : Int, ∀ w7 : World, I4 n6 w7 →
 ((decide (n6 < (x_0.n : Int))) = true →
 IxOk x_0 n6 ∧
 ∃ n8 : Int, ∃ n9 : Int, ∃ x10 : Sl, (w7.cell? ((elA x_0 n6 3).add 0) = some (.int .i64 n8) ∧
 w7.cell? ((elA x_0 n6 3).add 1) = some (.int .i64 n9) ∧
 w7.cell? ((elA x_0 n6 3).add 2) = some (x10.val)) ∧
 Trip Tryz.prog 52 #[.agg #[.int .i64 n8, .int .i64 n9, x10.val]] w7 fun r11 w12 =>
 ∃ n13 : Int, ∃ n14 : Int, ∃ x15 : Sl, r11 = .agg #[.int .i64 n13, .int .i64 n14, x15.val] ∧
 IxOk x3 n6 ∧
 StoreAt w12 (elA x3 n6 3) 0 [.int .i64 n13, .int .i64 n14, x15.val] fun w16 =>
 ∃ n17 : Int, Wr .i64 (n6 + 1) n17 ∧
 I4 n17 w16 ∧
 m5 n17 w16 < m5 n6 w7) ∧
 ((decide (n6 < (x_0.n : Int))) = false →
 Q (x3.val) w7)
theorem of30 (x_0 : Sl) (v : World) (Q : Value → World → Prop) (h : vc30 x_0 v Q) : Trip Tryz.prog 30 #[x_0.val] v Q :=
 trip_of_eq (args := [.sl x_0]) (A := ⟨[(3, [(4, .int .i64)], [])], [], [], [], psG⟩) Tryz.func30 (by kernel_rfl) (by kernel_rfl) (by kernel_rfl : vc30 x_0 v Q = _) h

def vc31 (x_0 : Sl) (v : World) (Q : Value → World → Prop) : Prop :=
 StepT Tryz.prog (Instr.makeSlice 29 (.int .i64 (x_0.n : Int)) (.int .i64 (x_0.n : Int))) v fun r1 w2 =>
 ∃ x3 : Sl, r1 = x3.val ∧
 ∃ I4 : Int → World → Prop, ∃ m5 : Int → World → Nat, I4 0 w2 ∧
 ∀ n6 : Int, ∀ w7 : World, I4 n6 w7 →
 ((decide (n6 < (x_0.n : Int))) = true →
 IxOk x_0 n6 ∧
 ∃ x8 : Sl, ∃ x9 : Sl, ∃ n10 : Int, ∃ x11 : Sl, ∃ n12 : Int, (w7.cell? ((elA x_0 n6 5).add 0) = some (x8.val) ∧
 w7.cell? ((elA x_0 n6 5).add 1) = some (x9.val) ∧
 w7.cell? ((elA x_0 n6 5).add 2) = some (.int .i64 n10) ∧
 w7.cell? ((elA x_0 n6 5).add 3) = some (x11.val) ∧
 w7.cell? ((elA x_0 n6 5).add 4) = some (.int .i64 n12)) ∧
 Trip Tryz.prog 53 #[.agg #[x8.val, x9.val, .int .i64 n10, x11.val, .int .i64 n12]] w7 fun r13 w14 =>
 ∃ x15 : Sl, ∃ x16 : Sl, ∃ n17 : Int, ∃ x18 : Sl, ∃ n19 : Int, r13 = .agg #[x15.val, x16.val, .int .i64 n17, x18.val, .int .i64 n19] ∧
 IxOk x3 n6 ∧
 StoreAt w14 (elA x3 n6 5) 0 [x15.val, x16.val, .int .i64 n17, x18.val, .int .i64 n19] fun w20 =>
 ∃ n21 : Int, Wr .i64 (n6 + 1) n21 ∧
 I4 n21 w20 ∧
 m5 n21 w20 < m5 n6 w7) ∧
 ((decide (n6 < (x_0.n : Int))) = false →
 Q (x3.val) w7)
theorem of31 (x_0 : Sl) (v : World) (Q : Value → World → Prop) (h : vc31 x_0 v Q) : Trip Tryz.prog 31 #[x_0.val] v Q :=
 trip_of_eq (args := [.sl x_0]) (A := ⟨[(3, [(4, .int .i64)], [])], [], [], [], psG⟩) Tryz.func31 (by kernel_rfl) (by kernel_rfl) (by kernel_rfl : vc31 x_0 v Q = _) h

def vc32 (x0_0 : Sl) (x0_1 : Sl) (v : World) (Q : Value → World → Prop) : Prop :=
 Trip Tryz.prog 54 #[.agg #[x0_0.val, x0_1.val]] v fun r1 w2 =>
 ∃ x3 : Sl, ∃ x4 : Sl, ∃ q5 : Bool, r1 = .tuple #[.agg #[x3.val, x4.val], .bool q5] ∧
 ((!q5) = true →
 Q (.bool false) w2) ∧
 ((!q5) = false →
 ∃ I6 : Int → World → Prop, ∃ m7 : Int → World → Nat, I6 0 w2 ∧
 ∀ n8 : Int, ∀ w9 : World, I6 n8 w9 →
 ((decide (n8 < (x0_1.n : Int))) = true →
 IxOk x0_1 n8 ∧
 ∃ x10 : Sl, ∃ x11 : Sl, ∃ n12 : Int, ∃ x13 : Sl, ∃ n14 : Int, (w9.cell? ((elA x0_1 n8 5).add 0) = some (x10.val) ∧
 w9.cell? ((elA x0_1 n8 5).add 1) = some (x11.val) ∧
 w9.cell? ((elA x0_1 n8 5).add 2) = some (.int .i64 n12) ∧
 w9.cell? ((elA x0_1 n8 5).add 3) = some (x13.val) ∧
 w9.cell? ((elA x0_1 n8 5).add 4) = some (.int .i64 n14)) ∧
 ∃ n15 : Int, (Trip Tryz.prog 55 #[.agg #[x13.val, .int .i64 n14]] w9 fun r16 w17 => r16 = .int .i64 n15 ∧ Sub w9 w17) ∧
 ((decide (n15 < 0)) = false →
 Trip Tryz.prog 56 #[.agg #[x3.val, x4.val], x10.val, .agg #[x13.val, .int .i64 n14]] w9 fun r18 w19 =>
 ∃ n20 : Int, r18 = .int .i64 n20 ∧
 Sub w9 w19 ∧
 ((!decide (n20 = n12)) = true →
 Q (.bool false) w19) ∧
 ((!decide (n20 = n12)) = false →
 ∃ n21 : Int, Wr .i64 (n8 + 1) n21 ∧
 ((.sl x0_0 : SV) = .sl x0_0) ∧
 ((.sl x0_1 : SV) = .sl x0_1) ∧
 ((.sl x3 : SV) = .sl x3) ∧
 ((.sl x4 : SV) = .sl x4) ∧
 I6 n21 w19 ∧
 m7 n21 w19 < m7 n8 w9)) ∧
 ((decide (n15 < 0)) = true →
 Sub w9 w9 ∧
 Q (.bool false) w9)) ∧
 ((decide (n8 < (x0_1.n : Int))) = false →
 Q (.bool true) w9))
theorem of32 (x0_0 : Sl) (x0_1 : Sl) (v : World) (Q : Value → World → Prop) (h : vc32 x0_0 x0_1 v Q) : Trip Tryz.prog 32 #[.agg #[x0_0.val, x0_1.val]] v Q :=
 trip_of_eq (args := [.ag [.sl x0_0, .sl x0_1]]) (A := ⟨[(5, [(17, .int .i64)], [])], [], [(7, [10])], [], psG⟩) Tryz.func32 (by kernel_rfl) (by kernel_rfl) (by kernel_rfl : vc32 x0_0 x0_1 v Q = _) h

def vc34 (x_0 : Sl) (x_1 : Sl) (v : World) (Q : Value → World → Prop) : Prop :=
 ((!decide ((x_0.n : Int) = (x_1.n : Int))) = true →
 Q (.bool false) v) ∧
 ((!decide ((x_0.n : Int) = (x_1.n : Int))) = false →
 ∃ I1 : Int → World → Prop, ∃ m2 : Int → World → Nat, I1 0 v ∧
 ∀ n3 : Int, ∀ w4 : World, I1 n3 w4 →
 ((decide (n3 < (x_0.n : Int))) = true →
 IxOk x_0 n3 ∧
 ∃ n5 : Int, ∃ n6 : Int, ∃ x7 : Sl, (w4.cell? ((elA x_0 n3 3).add 0) = some (.int .i64 n5) ∧
 w4.cell? ((elA x_0 n3 3).add 1) = some (.int .i64 n6) ∧
 w4.cell? ((elA x_0 n3 3).add 2) = some (x7.val)) ∧
 IxOk x_1 n3 ∧
 ∃ n8 : Int, ∃ n9 : Int, ∃ x10 : Sl, (w4.cell? ((elA x_1 n3 3).add 0) = some (.int .i64 n8) ∧
 w4.cell? ((elA x_1 n3 3).add 1) = some (.int .i64 n9) ∧
 w4.cell? ((elA x_1 n3 3).add 2) = some (x10.val)) ∧
 ∃ q11 : Bool, (Trip Tryz.prog 60 #[.agg #[.int .i64 n5, .int .i64 n6, x7.val], .agg #[.int .i64 n8, .int .i64 n9, x10.val]] w4 fun r12 w13 => r12 = .bool q11 ∧ Sub w4 w13) ∧
 ((!q11) = true →
 Q (.bool false) w4) ∧
 ((!q11) = false →
 ∃ n14 : Int, Wr .i64 (n3 + 1) n14 ∧
 I1 n14 w4 ∧
 m2 n14 w4 < m2 n3 w4)) ∧
 ((decide (n3 < (x_0.n : Int))) = false →
 Q (.bool true) w4))
theorem of34 (x_0 : Sl) (x_1 : Sl) (v : World) (Q : Value → World → Prop) (h : vc34 x_0 x_1 v Q) : Trip Tryz.prog 34 #[x_0.val, x_1.val] v Q :=
 trip_of_eq (args := [.sl x_0, .sl x_1]) (A := ⟨[(4, [(5, .int .i64)], [])], [], [], [], psG⟩) Tryz.func34 (by kernel_rfl) (by kernel_rfl) (by kernel_rfl : vc34 x_0 x_1 v Q = _) h

def vc35 (x_0 : Sl) (x_1 : Sl) (v : World) (Q : Value → World → Prop) : Prop :=
 ((!decide ((x_0.n : Int) = (x_1.n : Int))) = true →
 Q (.bool false) v) ∧
 ((!decide ((x_0.n : Int) = (x_1.n : Int))) = false →
 ∃ I1 : Int → World → Prop, ∃ m2 : Int → World → Nat, I1 0 v ∧
 ∀ n3 : Int, ∀ w4 : World, I1 n3 w4 →
 ((decide (n3 < (x_0.n : Int))) = true →
 IxOk x_0 n3 ∧
 ∃ x5 : Sl, ∃ x6 : Sl, ∃ n7 : Int, ∃ x8 : Sl, ∃ n9 : Int, (w4.cell? ((elA x_0 n3 5).add 0) = some (x5.val) ∧
 w4.cell? ((elA x_0 n3 5).add 1) = some (x6.val) ∧
 w4.cell? ((elA x_0 n3 5).add 2) = some (.int .i64 n7) ∧
 w4.cell? ((elA x_0 n3 5).add 3) = some (x8.val) ∧
 w4.cell? ((elA x_0 n3 5).add 4) = some (.int .i64 n9)) ∧
 IxOk x_1 n3 ∧
 ∃ x10 : Sl, ∃ x11 : Sl, ∃ n12 : Int, ∃ x13 : Sl, ∃ n14 : Int, (w4.cell? ((elA x_1 n3 5).add 0) = some (x10.val) ∧
 w4.cell? ((elA x_1 n3 5).add 1) = some (x11.val) ∧
 w4.cell? ((elA x_1 n3 5).add 2) = some (.int .i64 n12) ∧
 w4.cell? ((elA x_1 n3 5).add 3) = some (x13.val) ∧
 w4.cell? ((elA x_1 n3 5).add 4) = some (.int .i64 n14)) ∧
 ∃ q15 : Bool, (Trip Tryz.prog 61 #[.agg #[x5.val, x6.val, .int .i64 n7, x8.val, .int .i64 n9], .agg #[x10.val, x11.val, .int .i64 n12, x13.val, .int .i64 n14]] w4 fun r16 w17 => r16 = .bool q15 ∧ Sub w4 w17) ∧
 ((!q15) = true →
 Q (.bool false) w4) ∧
 ((!q15) = false →
 ∃ n18 : Int, Wr .i64 (n3 + 1) n18 ∧
 I1 n18 w4 ∧
 m2 n18 w4 < m2 n3 w4)) ∧
 ((decide (n3 < (x_0.n : Int))) = false →
 Q (.bool true) w4))
theorem of35 (x_0 : Sl) (x_1 : Sl) (v : World) (Q : Value → World → Prop) (h : vc35 x_0 x_1 v Q) : Trip Tryz.prog 35 #[x_0.val, x_1.val] v Q :=
 trip_of_eq (args := [.sl x_0, .sl x_1]) (A := ⟨[(4, [(5, .int .i64)], [])], [], [], [], psG⟩) Tryz.func35 (by kernel_rfl) (by kernel_rfl) (by kernel_rfl : vc35 x_0 x_1 v Q = _) h

def vc37 (x0_0 : Sl) (x0_1 : Sl) (n_1 : Int) (n_2 : Int) (v : World) (Q : Value → World → Prop) : Prop :=
 ∃ q1 : Bool, (Trip Tryz.prog 27 #[.agg #[x0_0.val, x0_1.val]] v fun r2 w3 => r2 = .bool q1 ∧ Sub v w3) ∧
 ∃ n4 : Int, ((!q1) = false →
 Wr .i64 ((x0_1.n : Int) - 1) n4) ∧
 ∃ q5 : Bool, ((!q1) = false →
 (Trip Tryz.prog 28 #[.int .i64 n_1, .int .i64 0, .int .i64 n4] v fun r6 w7 => r6 = .bool q5 ∧ Sub v w7)) ∧
 (((!q1) || (!q5)) = false →
 IxOk x0_1 n_1) ∧
 ∃ x8 : Sl, (((!q1) || (!q5)) = false →
 v.cell? ((elA x0_1 n_1 5).add 3) = some (x8.val)) ∧
 ∃ q9 : Bool, (((!q1) || (!q5)) = false →
 (Trip Tryz.prog 28 #[.int .i64 n_2, .int .i64 0, .int .i64 (x8.n : Int)] v fun r10 w11 => r10 = .bool q9 ∧ Sub v w11)) ∧
 ((((!q1) || (!q5)) || (!q9)) = true →
 NewAt v (.cells #[.slice none 0 0, .slice none 0 0, .slice none 0 0, .slice none 0 0, .slice none 0 0, .slice none 0 0, .slice none 0 0] 55 (0, 0)) fun a12 w13 =>
 Q (.tuple #[.pointer (some (a12.add 0)), .bool false]) w13) ∧
 ((((!q1) || (!q5)) || (!q9)) = false →
 IxOk x0_1 n_1 ∧
 ∃ x14 : Sl, ∃ x15 : Sl, ∃ n16 : Int, ∃ x17 : Sl, ∃ n18 : Int, (v.cell? ((elA x0_1 n_1 5).add 0) = some (x14.val) ∧
 v.cell? ((elA x0_1 n_1 5).add 1) = some (x15.val) ∧
 v.cell? ((elA x0_1 n_1 5).add 2) = some (.int .i64 n16) ∧
 v.cell? ((elA x0_1 n_1 5).add 3) = some (x17.val) ∧
 v.cell? ((elA x0_1 n_1 5).add 4) = some (.int .i64 n18)) ∧
 Trip Tryz.prog 49 #[.agg #[x14.val, x15.val, .int .i64 n16, x17.val, .int .i64 n18]] v fun r19 w20 =>
 ∃ a21 : Addr, r19 = .pointer (some (a21.add 0)) ∧
 ∃ I22 : Int → World → Prop, ∃ m23 : Int → World → Nat, I22 0 w20 ∧
 ∀ n24 : Int, ∀ w25 : World, I22 n24 w25 →
 ((decide (n24 < n_2)) = true →
 IxOk x0_1 n_1 ∧
 ∃ x26 : Sl, w25.cell? ((elA x0_1 n_1 5).add 3) = some (x26.val) ∧
 IxOk x26 n24 ∧
 ∃ n27 : Int, ∃ n28 : Int, ∃ n29 : Int, ∃ x30 : Sl, ∃ x31 : Sl, (w25.cell? ((elA x26 n24 5).add 0) = some (.int .i64 n27) ∧
 w25.cell? ((elA x26 n24 5).add 1) = some (.int .i64 n28) ∧
 w25.cell? ((elA x26 n24 5).add 2) = some (.int .i64 n29) ∧
 w25.cell? ((elA x26 n24 5).add 3) = some (x30.val) ∧
 w25.cell? ((elA x26 n24 5).add 4) = some (x31.val)) ∧
 Trip Tryz.prog 62 #[.pointer (some (a21.add 0)), .agg #[x0_0.val, x0_1.val], .agg #[.int .i64 n27, .int .i64 n28, .int .i64 n29, x30.val, x31.val]] w25 fun r32 w33 =>
 ∃ q34 : Bool, r32 = .bool q34 ∧
 ((!q34) = true →
 Q (.tuple #[.pointer (some (a21.add 0)), .bool false]) w33) ∧
 ((!q34) = false →
 ∃ n35 : Int, Wr .i64 (n24 + 1) n35 ∧
 ((.sl x0_0 : SV) = .sl x0_0) ∧
 ((.sl x0_1 : SV) = .sl x0_1) ∧
 I22 n35 w33 ∧
 m23 n35 w33 < m23 n24 w25)) ∧
 ((decide (n24 < n_2)) = false →
 Q (.tuple #[.pointer (some (a21.add 0)), .bool true]) w25))
theorem of37 (x0_0 : Sl) (x0_1 : Sl) (n_1 : Int) (n_2 : Int) (v : World) (Q : Value → World → Prop) (h : vc37 x0_0 x0_1 n_1 n_2 v Q) : Trip Tryz.prog 37 #[.agg #[x0_0.val, x0_1.val], .int .i64 n_1, .int .i64 n_2] v Q :=
 trip_of_eq (args := [.ag [.sl x0_0, .sl x0_1], .num .i64 n_1, .num .i64 n_2]) (A := ⟨[(5, [(9, .int .i64)], [])], [], [(7, [])], [36], psG⟩) Tryz.func37 (by kernel_rfl) (by kernel_rfl) (by kernel_rfl : vc37 x0_0 x0_1 n_1 n_2 v Q = _) h

def vc38 (x_0 : Sl) (v : World) (Q : Value → World → Prop) : Prop :=
 StepT Tryz.prog (Instr.buildSlice 37 0 #[]) v fun r1 w2 =>
 ∃ x3 : Sl, r1 = x3.val ∧
 StepT Tryz.prog (Builtin.append_ #[37, 37] 37 #[(x3.val), (x_0.val)]) w2 fun r4 w5 =>
 ∃ x6 : Sl, r4 = x6.val ∧
 Q (x6.val) w5
theorem of38 (x_0 : Sl) (v : World) (Q : Value → World → Prop) (h : vc38 x_0 v Q) : Trip Tryz.prog 38 #[x_0.val] v Q :=
 trip_of_eq (args := [.sl x_0]) (A := ⟨[], [], [], [], psG⟩) Tryz.func38 (by kernel_rfl) (by kernel_rfl) (by kernel_rfl : vc38 x_0 v Q = _) h

def vc39 (x0_0 : Sl) (x0_1 : Sl) (n_1 : Int) (n_2 : Int) (v : World) (Q : Value → World → Prop) : Prop :=
 ∃ q1 : Bool, (Trip Tryz.prog 32 #[.agg #[x0_0.val, x0_1.val]] v fun r2 w3 => r2 = .bool q1 ∧ Sub v w3) ∧
 (((((!q1) || (decide (n_1 < 0))) || (decide (n_1 ≥ (x0_1.n : Int)))) || (decide (n_2 < 0))) = false →
 IxOk x0_1 n_1) ∧
 ∃ x4 : Sl, (((((!q1) || (decide (n_1 < 0))) || (decide (n_1 ≥ (x0_1.n : Int)))) || (decide (n_2 < 0))) = false →
 v.cell? ((elA x0_1 n_1 5).add 3) = some (x4.val)) ∧
 ((((((!q1) || (decide (n_1 < 0))) || (decide (n_1 ≥ (x0_1.n : Int)))) || (decide (n_2 < 0))) || (decide (n_2 > (x4.n : Int)))) = true →
 Q ((Vl.mk (Value.pointer none) rfl).x) v) ∧
 ((((((!q1) || (decide (n_1 < 0))) || (decide (n_1 ≥ (x0_1.n : Int)))) || (decide (n_2 < 0))) || (decide (n_2 > (x4.n : Int)))) = false →
 Trip Tryz.prog 57 #[.agg #[x0_0.val, x0_1.val], .int .i64 n_1] v fun r5 w6 =>
 ∃ a7 : Addr, r5 = .pointer (some (a7.add 0)) ∧
 IxOk x0_1 n_1 ∧
 ∃ x8 : Sl, w6.cell? ((elA x0_1 n_1 5).add 3) = some (x8.val) ∧
 CutOk x8 0 n_2 ∧
 Trip Tryz.prog 58 #[.pointer (some (a7.add 0)), (x8.cut 0 n_2 5).val] w6 fun r9 w10 =>
 ∃ q11 : Bool, r9 = .bool q11 ∧
 ((!q11) = true →
 Q ((Vl.mk (Value.pointer none) rfl).x) w10) ∧
 ((!q11) = false →
 Q (.pointer (some (a7.add 0))) w10))
theorem of39 (x0_0 : Sl) (x0_1 : Sl) (n_1 : Int) (n_2 : Int) (v : World) (Q : Value → World → Prop) (h : vc39 x0_0 x0_1 n_1 n_2 v Q) : Trip Tryz.prog 39 #[.agg #[x0_0.val, x0_1.val], .int .i64 n_1, .int .i64 n_2] v Q :=
 trip_of_eq (args := [.ag [.sl x0_0, .sl x0_1], .num .i64 n_1, .num .i64 n_2]) (A := ⟨[], [], [], [], psG⟩) Tryz.func39 (by kernel_rfl) (by kernel_rfl) (by kernel_rfl : vc39 x0_0 x0_1 n_1 n_2 v Q = _) h

def vc40 (x_0 : Sl) (n_1 : Int) (v : World) (Q : Value → World → Prop) : Prop :=
 ∃ I1 : Int → Int → World → Prop, ∃ m2 : Int → Int → World → Nat, I1 n_1 0 v ∧
 ∀ n3 : Int, ∀ n4 : Int, ∀ w5 : World, I1 n3 n4 w5 →
 ((decide (n4 < (x_0.n : Int))) = true →
 IxOk x_0 n4 ∧
 StoreAt w5 (elA x_0 n4 3) 0 [.int .i64 n3] fun w6 =>
 ∃ n7 : Int, Wr .i64 (n3 + 1) n7 ∧
 IxOk x_0 n4 ∧
 StoreAt w6 (elA x_0 n4 3) 1 [.int .i64 n7] fun w8 =>
 ∃ n9 : Int, Wr .i64 (n7 + 1) n9 ∧
 IxOk x_0 n4 ∧
 ∃ x10 : Sl, w8.cell? ((elA x_0 n4 3).add 2) = some (x10.val) ∧
 Trip Tryz.prog 63 #[x10.val, .int .i64 n9] w8 fun r11 w12 =>
 ∃ n13 : Int, r11 = .int .i64 n13 ∧
 ∃ n14 : Int, Wr .i64 (n4 + 1) n14 ∧
 I1 n13 n14 w12 ∧
 m2 n13 n14 w12 < m2 n3 n4 w5) ∧
 ((decide (n4 < (x_0.n : Int))) = false →
 Q (.int .i64 n3) w5)
theorem of40 (x_0 : Sl) (n_1 : Int) (v : World) (Q : Value → World → Prop) (h : vc40 x_0 n_1 v Q) : Trip Tryz.prog 40 #[x_0.val, .int .i64 n_1] v Q :=
 trip_of_eq (args := [.sl x_0, .num .i64 n_1]) (A := ⟨[(2, [(1, .int .i64), (5, .int .i64)], [])], [], [], [], psG⟩) Tryz.func40 (by kernel_rfl) (by kernel_rfl) (by kernel_rfl : vc40 x_0 n_1 v Q = _) h

def vc41 (x_0 : Sl) (n_1 : Int) (v : World) (Q : Value → World → Prop) : Prop :=
 ∃ I1 : Int → Int → World → Prop, ∃ m2 : Int → Int → World → Nat, I1 n_1 0 v ∧
 ∀ n3 : Int, ∀ n4 : Int, ∀ w5 : World, I1 n3 n4 w5 →
 ((decide (n4 < (x_0.n : Int))) = true →
 IxOk x_0 n4 ∧
 ∃ x6 : Sl, w5.cell? ((elA x_0 n4 5).add 0) = some (x6.val) ∧
 Trip Tryz.prog 19 #[x6.val, .int .i64 n3] w5 fun r7 w8 =>
 ∃ n9 : Int, r7 = .int .i64 n9 ∧
 IxOk x_0 n4 ∧
 ∃ x10 : Sl, w8.cell? ((elA x_0 n4 5).add 1) = some (x10.val) ∧
 Trip Tryz.prog 19 #[x10.val, .int .i64 n9] w8 fun r11 w12 =>
 ∃ n13 : Int, r11 = .int .i64 n13 ∧
 IxOk x_0 n4 ∧
 StoreAt w12 (elA x_0 n4 5) 2 [.int .i64 n13] fun w14 =>
 ∃ n15 : Int, Wr .i64 (n13 + 1) n15 ∧
 IxOk x_0 n4 ∧
 ∃ x16 : Sl, w14.cell? ((elA x_0 n4 5).add 3) = some (x16.val) ∧
 Trip Tryz.prog 64 #[x16.val, .int .i64 n15] w14 fun r17 w18 =>
 ∃ n19 : Int, r17 = .int .i64 n19 ∧
 IxOk x_0 n4 ∧
 StoreAt w18 (elA x_0 n4 5) 4 [.int .i64 n19] fun w20 =>
 ∃ n21 : Int, Wr .i64 (n19 + 1) n21 ∧
 ∃ n22 : Int, Wr .i64 (n4 + 1) n22 ∧
 I1 n21 n22 w20 ∧
 m2 n21 n22 w20 < m2 n3 n4 w5) ∧
 ((decide (n4 < (x_0.n : Int))) = false →
 Q (.int .i64 n3) w5)
theorem of41 (x_0 : Sl) (n_1 : Int) (v : World) (Q : Value → World → Prop) (h : vc41 x_0 n_1 v Q) : Trip Tryz.prog 41 #[x_0.val, .int .i64 n_1] v Q :=
 trip_of_eq (args := [.sl x_0, .num .i64 n_1]) (A := ⟨[(2, [(1, .int .i64), (5, .int .i64)], [])], [], [], [], psG⟩) Tryz.func41 (by kernel_rfl) (by kernel_rfl) (by kernel_rfl : vc41 x_0 n_1 v Q = _) h

def vc42 (a_0 : Addr) (n_1 : Int) (v : World) (Q : Value → World → Prop) : Prop :=
 ∃ I1 : Int → World → Prop, ∃ m2 : Int → World → Nat, I1 n_1 v ∧
 ∀ n3 : Int, ∀ w4 : World, I1 n3 w4 →
 ∃ x5 : Sl, w4.cell? (a_0.add 1) = some (x5.val) ∧
 IxOk x5 n3 ∧
 ∃ n6 : Int, w4.cell? ((elA x5 n3 1).add 0) = some (.int .i64 n6) ∧
 ∃ x7 : Sl, ((decide (n6 < 1)) = true →
 w4.cell? (a_0.add 6) = some (x7.val)) ∧
 ∃ q8 : Bool, ((decide (n6 < 1)) = true →
 (Trip Tryz.prog 65 #[x7.val, .int .i64 n3] w4 fun r9 w10 => r9 = .bool q8 ∧ Sub w4 w10)) ∧
 (((decide (n6 < 1)) && (!q8)) = true →
 ∃ x11 : Sl, w4.cell? (a_0.add 2) = some (x11.val) ∧
 IxOk x11 n3 ∧
 ∃ n12 : Int, w4.cell? ((elA x11 n3 1).add 0) = some (.int .i64 n12) ∧
 ((decide (n12 < 0)) = true →
 Q (.bool false) w4) ∧
 ((decide (n12 < 0)) = false →
 I1 n12 w4 ∧
 m2 n12 w4 < m2 n3 w4)) ∧
 (((decide (n6 < 1)) && (!q8)) = false →
 Q (.bool true) w4)
theorem of42 (a_0 : Addr) (n_1 : Int) (v : World) (Q : Value → World → Prop) (h : vc42 a_0 n_1 v Q) : Trip Tryz.prog 42 #[.pointer (some (a_0.add 0)), .int .i64 n_1] v Q :=
 trip_of_eq (args := [.pt a_0 0, .num .i64 n_1]) (A := ⟨[(1, [(1, .int .i64)], [])], [], [], [], psG⟩) Tryz.func42 (by kernel_rfl) (by kernel_rfl) (by kernel_rfl : vc42 a_0 n_1 v Q = _) h

def vc43 (a_0 : Addr) (n_1 : Int) (v : World) (Q : Value → World → Prop) : Prop :=
 ∃ x1 : Sl, v.cell? (a_0.add 5) = some (x1.val) ∧
 IxOk x1 n_1 ∧
 ∃ n2 : Int, v.cell? ((elA x1 n_1 1).add 0) = some (.int .i64 n2) ∧
 ∃ x3 : Sl, ((decide (n2 > 0)) = false →
 v.cell? (a_0.add 2) = some (x3.val)) ∧
 ∃ q4 : Bool, ((decide (n2 > 0)) = false →
 (Trip Tryz.prog 66 #[x3.val, .int .i64 n_1] v fun r5 w6 => r5 = .bool q4 ∧ Sub v w6)) ∧
 (((decide (n2 > 0)) || q4) = true →
 Q (.bool true) v) ∧
 (((decide (n2 > 0)) || q4) = false →
 ∃ x7 : Sl, v.cell? (a_0.add 3) = some (x7.val) ∧
 ∃ I8 : Int → World → Prop, ∃ m9 : Int → World → Nat, I8 0 v ∧
 ∀ n10 : Int, ∀ w11 : World, I8 n10 w11 →
 ((decide (n10 < (x7.n : Int))) = true →
 IxOk x7 n10 ∧
 ∃ n12 : Int, ∃ n13 : Int, ∃ x14 : Sl, ∃ q15 : Bool, (w11.cell? ((elA x7 n10 4).add 0) = some (.int .i64 n12) ∧
 w11.cell? ((elA x7 n10 4).add 1) = some (.int .i64 n13) ∧
 w11.cell? ((elA x7 n10 4).add 2) = some (x14.val) ∧
 w11.cell? ((elA x7 n10 4).add 3) = some (.bool q15)) ∧
 ∃ n16 : Int, ((decide (n_1 ≥ n13)) = true →
 Wr .i64 (n13 + (x14.n : Int)) n16) ∧
 (((decide (n_1 ≥ n13)) && (decide (n_1 < n16))) = true →
 ∃ q17 : Bool, (Trip Tryz.prog 43 #[.pointer (some (a_0.add 0)), .int .i64 n12] w11 fun r18 w19 => r18 = .bool q17 ∧ Sub w11 w19) ∧
 Q (.bool q17) w11) ∧
 (((decide (n_1 ≥ n13)) && (decide (n_1 < n16))) = false →
 ∃ n20 : Int, Wr .i64 (n10 + 1) n20 ∧
 I8 n20 w11 ∧
 m9 n20 w11 < m9 n10 w11)) ∧
 ((decide (n10 < (x7.n : Int))) = false →
 Q (.bool false) w11))
theorem of43 (a_0 : Addr) (n_1 : Int) (v : World) (Q : Value → World → Prop) (h : vc43 a_0 n_1 v Q) : Trip Tryz.prog 43 #[.pointer (some (a_0.add 0)), .int .i64 n_1] v Q :=
 trip_of_eq (args := [.pt a_0 0, .num .i64 n_1]) (A := ⟨[(4, [(28, .int .i64)], [])], [], [], [], psG⟩) Tryz.func43 (by kernel_rfl) (by kernel_rfl) (by kernel_rfl : vc43 a_0 n_1 v Q = _) h

def vc44 (n0_0 : Int) (n0_1 : Int) (x0_2 : Sl) (n_1 : Int) (v : World) (Q : Value → World → Prop) : Prop :=
 ∃ n1 : Int, (Trip Tryz.prog 67 #[x0_2.val, .int .i64 n_1] v fun r2 w3 => r2 = .int .i64 n1 ∧ Sub v w3) ∧
 ((decide (n1 < 0)) = true →
 Q (.int .i64 (-1)) v) ∧
 ((decide (n1 < 0)) = false →
 Q (.int .i64 n1) v)
theorem of44 (n0_0 : Int) (n0_1 : Int) (x0_2 : Sl) (n_1 : Int) (v : World) (Q : Value → World → Prop) (h : vc44 n0_0 n0_1 x0_2 n_1 v Q) : Trip Tryz.prog 44 #[.agg #[.int .i64 n0_0, .int .i64 n0_1, x0_2.val], .int .i64 n_1] v Q :=
 trip_of_eq (args := [.ag [.num .i64 n0_0, .num .i64 n0_1, .sl x0_2], .num .i64 n_1]) (A := ⟨[], [], [], [], psG⟩) Tryz.func44 (by kernel_rfl) (by kernel_rfl) (by kernel_rfl : vc44 n0_0 n0_1 x0_2 n_1 v Q = _) h

def vc45 (x0_0 : Sl) (x0_1 : Sl) (n0_2 : Int) (x0_3 : Sl) (n0_4 : Int) (n_1 : Int) (v : World) (Q : Value → World → Prop) : Prop :=
 ∃ n1 : Int, (Trip Tryz.prog 68 #[x0_0.val, .int .i64 n_1] v fun r2 w3 => r2 = .int .i64 n1 ∧ Sub v w3) ∧
 ((decide (n1 < 0)) = true →
 Q (.int .i64 (-1)) v) ∧
 ((decide (n1 < 0)) = false →
 ∃ n4 : Int, (Trip Tryz.prog 68 #[x0_1.val, .int .i64 n1] v fun r5 w6 => r5 = .int .i64 n4 ∧ Sub v w6) ∧
 ((decide (n4 < 0)) = true →
 Q (.int .i64 (-1)) v) ∧
 ((decide (n4 < 0)) = false →
 ∃ n7 : Int, (Trip Tryz.prog 69 #[.agg #[x0_3.val, .int .i64 n0_4], .int .i64 n4] v fun r8 w9 => r8 = .int .i64 n7 ∧ Sub v w9) ∧
 ((decide (n7 < 0)) = true →
 Q (.int .i64 (-1)) v) ∧
 ((decide (n7 < 0)) = false →
 Q (.int .i64 n7) v)))
theorem of45 (x0_0 : Sl) (x0_1 : Sl) (n0_2 : Int) (x0_3 : Sl) (n0_4 : Int) (n_1 : Int) (v : World) (Q : Value → World → Prop) (h : vc45 x0_0 x0_1 n0_2 x0_3 n0_4 n_1 v Q) : Trip Tryz.prog 45 #[.agg #[x0_0.val, x0_1.val, .int .i64 n0_2, x0_3.val, .int .i64 n0_4], .int .i64 n_1] v Q :=
 trip_of_eq (args := [.ag [.sl x0_0, .sl x0_1, .num .i64 n0_2, .sl x0_3, .num .i64 n0_4], .num .i64 n_1]) (A := ⟨[], [], [], [], psG⟩) Tryz.func45 (by kernel_rfl) (by kernel_rfl) (by kernel_rfl : vc45 x0_0 x0_1 n0_2 x0_3 n0_4 n_1 v Q = _) h

def vc46 (x0_0 : Sl) (x0_1 : Sl) (v : World) (Q : Value → World → Prop) : Prop :=
 ((decide ((x0_1.n : Int) > 4)) = false →
 Trip Tryz.prog 71 #[.agg #[x0_0.val, x0_1.val]] v fun r1 w2 =>
 ∃ x3 : Sl, ∃ x4 : Sl, r1 = .agg #[x3.val, x4.val] ∧
 ∃ q5 : Bool, (Trip Tryz.prog 70 #[.agg #[x3.val, x4.val]] w2 fun r6 w7 => r6 = .bool q5 ∧ Sub w2 w7) ∧
 ((!q5) = true →
 Q (.bool false) w2) ∧
 ((!q5) = false →
 ∃ I8 : Int → World → Prop, ∃ m9 : Int → World → Nat, I8 0 w2 ∧
 ∀ n10 : Int, ∀ w11 : World, I8 n10 w11 →
 ((decide (n10 < (x0_1.n : Int))) = true →
 IxOk x0_1 n10 ∧
 ∃ x12 : Sl, w11.cell? ((elA x0_1 n10 5).add 0) = some (x12.val) ∧
 IxOk x0_1 n10 ∧
 ∃ x13 : Sl, w11.cell? ((elA x0_1 n10 5).add 1) = some (x13.val) ∧
 ∃ q14 : Bool, (Trip Tryz.prog 72 #[x12.val, x13.val] w11 fun r15 w16 => r15 = .bool q14 ∧ Sub w11 w16) ∧
 ((!q14) = true →
 Q (.bool false) w11) ∧
 ((!q14) = false →
 ∃ n17 : Int, Wr .i64 (n10 + 1) n17 ∧
 ((.sl x0_0 : SV) = .sl x0_0) ∧
 ((.sl x0_1 : SV) = .sl x0_1) ∧
 I8 n17 w11 ∧
 m9 n17 w11 < m9 n10 w11)) ∧
 ((decide (n10 < (x0_1.n : Int))) = false →
 Q (.bool true) w11))) ∧
 ((decide ((x0_1.n : Int) > 4)) = true →
 Q (.bool false) v)
theorem of46 (x0_0 : Sl) (x0_1 : Sl) (v : World) (Q : Value → World → Prop) (h : vc46 x0_0 x0_1 v Q) : Trip Tryz.prog 46 #[.agg #[x0_0.val, x0_1.val]] v Q :=
 trip_of_eq (args := [.ag [.sl x0_0, .sl x0_1]]) (A := ⟨[(4, [(3, .int .i64)], [])], [], [], [], psG⟩) Tryz.func46 (by kernel_rfl) (by kernel_rfl) (by kernel_rfl : vc46 x0_0 x0_1 v Q = _) h

def vc47 (x0_0 : Sl) (n0_1 : Int) (v : World) (Q : Value → World → Prop) : Prop :=
 ∃ n1 : Int, (Trip Tryz.prog 73 #[.agg #[x0_0.val, .int .i64 n0_1], .int .i64 600] v fun r2 w3 => r2 = .int .i64 n1 ∧ Sub v w3) ∧
 ((decide (n1 < 0)) = true →
 Q (.int .i64 (-1)) v) ∧
 ((decide (n1 < 0)) = false →
 ∃ n4 : Int, Wr .i64 (600 - n1) n4 ∧
 Q (.int .i64 n4) v)
theorem of47 (x0_0 : Sl) (n0_1 : Int) (v : World) (Q : Value → World → Prop) (h : vc47 x0_0 n0_1 v Q) : Trip Tryz.prog 47 #[.agg #[x0_0.val, .int .i64 n0_1]] v Q :=
 trip_of_eq (args := [.ag [.sl x0_0, .num .i64 n0_1]]) (A := ⟨[], [], [], [], psG⟩) Tryz.func47 (by kernel_rfl) (by kernel_rfl) (by kernel_rfl : vc47 x0_0 n0_1 v Q = _) h

def vc48 (x0_0 : Sl) (x0_1 : Sl) (x_1 : Sl) (x2_0 : Sl) (n2_1 : Int) (v : World) (Q : Value → World → Prop) : Prop :=
 Trip Tryz.prog 38 #[x_1.val] v fun r1 w2 =>
 ∃ x3 : Sl, r1 = x3.val ∧
 ∃ I4 : Sl → Int → World → Prop, ∃ m5 : Sl → Int → World → Nat, I4 x3 0 w2 ∧
 ∀ x6 : Sl, ∀ n7 : Int, ∀ w8 : World, I4 x6 n7 w8 →
 ((decide (n7 < (x2_0.n : Int))) = true →
 IxOk x2_0 n7 ∧
 ∃ n9 : Int, ∃ n10 : Int, ∃ n11 : Int, ∃ x12 : Sl, ∃ x13 : Sl, (w8.cell? ((elA x2_0 n7 5).add 0) = some (.int .i64 n9) ∧
 w8.cell? ((elA x2_0 n7 5).add 1) = some (.int .i64 n10) ∧
 w8.cell? ((elA x2_0 n7 5).add 2) = some (.int .i64 n11) ∧
 w8.cell? ((elA x2_0 n7 5).add 3) = some (x12.val) ∧
 w8.cell? ((elA x2_0 n7 5).add 4) = some (x13.val)) ∧
 ∃ n14 : Int, (Trip Tryz.prog 74 #[.agg #[x0_0.val, x0_1.val], x6.val, .agg #[.int .i64 n9, .int .i64 n10, .int .i64 n11, x12.val, x13.val]] w8 fun r15 w16 => r15 = .int .i64 n14 ∧ Sub w8 w16) ∧
 ((decide (n14 < 0)) = true →
 Q (.int .i64 (-1)) w8) ∧
 ((decide (n14 < 0)) = false →
 IxOk x2_0 n7 ∧
 ∃ n17 : Int, w8.cell? ((elA x2_0 n7 5).add 0) = some (.int .i64 n17) ∧
 ∃ q18 : Bool, (Trip Tryz.prog 75 #[.int .i64 n17] w8 fun r19 w20 => r19 = .bool q18 ∧ Sub w8 w20) ∧
 (q18 = true →
 StepT Tryz.prog (Instr.buildSlice 37 1 #[(0, (.int .i64 n14))]) w8 fun r21 w22 =>
 ∃ x23 : Sl, r21 = x23.val ∧
 StepT Tryz.prog (Builtin.append_ #[37, 37] 37 #[(x6.val), (x23.val)]) w22 fun r24 w25 =>
 ∃ x26 : Sl, r24 = x26.val ∧
 ∃ n27 : Int, Wr .i64 (n7 + 1) n27 ∧
 ((.sl x0_0 : SV) = .sl x0_0) ∧
 ((.sl x0_1 : SV) = .sl x0_1) ∧
 ((.sl x2_0 : SV) = .sl x2_0) ∧
 ((.num .i64 n2_1 : SV) = .num .i64 n2_1) ∧
 I4 x26 n27 w25 ∧
 m5 x26 n27 w25 < m5 x6 n7 w8) ∧
 (q18 = false →
 ∃ n28 : Int, Wr .i64 (n7 + 1) n28 ∧
 ((.sl x0_0 : SV) = .sl x0_0) ∧
 ((.sl x0_1 : SV) = .sl x0_1) ∧
 ((.sl x2_0 : SV) = .sl x2_0) ∧
 ((.num .i64 n2_1 : SV) = .num .i64 n2_1) ∧
 I4 x6 n28 w8 ∧
 m5 x6 n28 w8 < m5 x6 n7 w8))) ∧
 ((decide (n7 < (x2_0.n : Int))) = false →
 ∃ n29 : Int, Wr .i64 ((x6.n : Int) - 1) n29 ∧
 ∃ q30 : Bool, (Trip Tryz.prog 28 #[.int .i64 n2_1, .int .i64 0, .int .i64 n29] w8 fun r31 w32 => r31 = .bool q30 ∧ Sub w8 w32) ∧
 ((!q30) = true →
 Q (.int .i64 (-1)) w8) ∧
 ((!q30) = false →
 IxOk x6 n2_1 ∧
 ∃ n33 : Int, w8.cell? ((elA x6 n2_1 1).add 0) = some (.int .i64 n33) ∧
 Q (.int .i64 n33) w8))
theorem of48 (x0_0 : Sl) (x0_1 : Sl) (x_1 : Sl) (x2_0 : Sl) (n2_1 : Int) (v : World) (Q : Value → World → Prop) (h : vc48 x0_0 x0_1 x_1 x2_0 n2_1 v Q) : Trip Tryz.prog 48 #[.agg #[x0_0.val, x0_1.val], x_1.val, .agg #[x2_0.val, .int .i64 n2_1]] v Q :=
 trip_of_eq (args := [.ag [.sl x0_0, .sl x0_1], .sl x_1, .ag [.sl x2_0, .num .i64 n2_1]]) (A := ⟨[(3, [(7, .sl), (8, .int .i64)], [])], [], [], [], psG⟩) Tryz.func48 (by kernel_rfl) (by kernel_rfl) (by kernel_rfl : vc48 x0_0 x0_1 x_1 x2_0 n2_1 v Q = _) h

def vc49 (x0_0 : Sl) (x0_1 : Sl) (n0_2 : Int) (x0_3 : Sl) (n0_4 : Int) (v : World) (Q : Value → World → Prop) : Prop :=
 Trip Tryz.prog 38 #[x0_1.val] v fun r1 w2 =>
 ∃ x3 : Sl, r1 = x3.val ∧
 NewAt w2 (.cells #[.slice none 0 0, .slice none 0 0, .slice none 0 0, .slice none 0 0, .slice none 0 0, .slice none 0 0, x3.val] 55 (0, 0)) fun a4 w5 =>
 ∃ I6 : Int → World → Prop, ∃ m7 : Int → World → Nat, I6 0 w5 ∧
 ∀ n8 : Int, ∀ w9 : World, I6 n8 w9 →
 ((decide (n8 < (x0_0.n : Int))) = true →
 IxOk x0_0 n8 ∧
 ∃ n10 : Int, w9.cell? ((elA x0_0 n8 1).add 0) = some (.int .i64 n10) ∧
 ∃ q11 : Bool, ((!decide (n10 = 0)) = true →
 (Trip Tryz.prog 65 #[x0_1.val, .int .i64 n8] w9 fun r12 w13 => r12 = .bool q11 ∧ Sub w9 w13)) ∧
 (((!decide (n10 = 0)) && (!q11)) = true →
 IxOk x0_0 n8 ∧
 ∃ n14 : Int, w9.cell? ((elA x0_0 n8 1).add 0) = some (.int .i64 n14) ∧
 Trip Tryz.prog 76 #[.pointer (some (a4.add 0)), .int .i64 n14, .int .i64 1, .int .i64 (-1)] w9 fun r15 w16 =>
 r15 = .tuple #[] ∧
 ∃ n17 : Int, Wr .i64 (n8 + 1) n17 ∧
 ((.sl x0_0 : SV) = .sl x0_0) ∧
 ((.sl x0_1 : SV) = .sl x0_1) ∧
 ((.num .i64 n0_2 : SV) = .num .i64 n0_2) ∧
 ((.sl x0_3 : SV) = .sl x0_3) ∧
 ((.num .i64 n0_4 : SV) = .num .i64 n0_4) ∧
 I6 n17 w16 ∧
 m7 n17 w16 < m7 n8 w9) ∧
 (((!decide (n10 = 0)) && (!q11)) = false →
 IxOk x0_0 n8 ∧
 ∃ n18 : Int, w9.cell? ((elA x0_0 n8 1).add 0) = some (.int .i64 n18) ∧
 Trip Tryz.prog 76 #[.pointer (some (a4.add 0)), .int .i64 n18, .int .i64 0, .int .i64 (-1)] w9 fun r19 w20 =>
 r19 = .tuple #[] ∧
 ∃ n21 : Int, Wr .i64 (n8 + 1) n21 ∧
 ((.sl x0_0 : SV) = .sl x0_0) ∧
 ((.sl x0_1 : SV) = .sl x0_1) ∧
 ((.num .i64 n0_2 : SV) = .num .i64 n0_2) ∧
 ((.sl x0_3 : SV) = .sl x0_3) ∧
 ((.num .i64 n0_4 : SV) = .num .i64 n0_4) ∧
 I6 n21 w20 ∧
 m7 n21 w20 < m7 n8 w9)) ∧
 ((decide (n8 < (x0_0.n : Int))) = false →
 Q (.pointer (some (a4.add 0))) w9)
theorem of49 (x0_0 : Sl) (x0_1 : Sl) (n0_2 : Int) (x0_3 : Sl) (n0_4 : Int) (v : World) (Q : Value → World → Prop) (h : vc49 x0_0 x0_1 n0_2 x0_3 n0_4 v Q) : Trip Tryz.prog 49 #[.agg #[x0_0.val, x0_1.val, .int .i64 n0_2, x0_3.val, .int .i64 n0_4]] v Q :=
 trip_of_eq (args := [.ag [.sl x0_0, .sl x0_1, .num .i64 n0_2, .sl x0_3, .num .i64 n0_4]]) (A := ⟨[(3, [(4, .int .i64)], [])], [], [], [9], psG⟩) Tryz.func49 (by kernel_rfl) (by kernel_rfl) (by kernel_rfl : vc49 x0_0 x0_1 n0_2 x0_3 n0_4 v Q = _) h

def vc50 (a_0 : Addr) (x1_0 : Sl) (x1_1 : Sl) (x2_0 : Sl) (n2_1 : Int) (n_3 : Int) (v : World) (Q : Value → World → Prop) : Prop :=
 ∃ I1 : Int → World → Prop, ∃ m2 : Int → World → Nat, I1 0 v ∧
 ∀ n3 : Int, ∀ w4 : World, I1 n3 w4 →
 ((decide (n3 < (x2_0.n : Int))) = true →
 IxOk x2_0 n3 ∧
 ∃ n5 : Int, ∃ n6 : Int, ∃ n7 : Int, ∃ x8 : Sl, ∃ x9 : Sl, (w4.cell? ((elA x2_0 n3 5).add 0) = some (.int .i64 n5) ∧
 w4.cell? ((elA x2_0 n3 5).add 1) = some (.int .i64 n6) ∧
 w4.cell? ((elA x2_0 n3 5).add 2) = some (.int .i64 n7) ∧
 w4.cell? ((elA x2_0 n3 5).add 3) = some (x8.val) ∧
 w4.cell? ((elA x2_0 n3 5).add 4) = some (x9.val)) ∧
 Trip Tryz.prog 62 #[.pointer (some (a_0.add 0)), .agg #[x1_0.val, x1_1.val], .agg #[.int .i64 n5, .int .i64 n6, .int .i64 n7, x8.val, x9.val]] w4 fun r10 w11 =>
 ∃ q12 : Bool, r10 = .bool q12 ∧
 ((!q12) = true →
 Q (.bool false) w11) ∧
 ((!q12) = false →
 ∃ n13 : Int, Wr .i64 (n3 + 1) n13 ∧
 ((.sl x1_0 : SV) = .sl x1_0) ∧
 ((.sl x1_1 : SV) = .sl x1_1) ∧
 ((.sl x2_0 : SV) = .sl x2_0) ∧
 ((.num .i64 n2_1 : SV) = .num .i64 n2_1) ∧
 I1 n13 w11 ∧
 m2 n13 w11 < m2 n3 w4)) ∧
 ((decide (n3 < (x2_0.n : Int))) = false →
 ∃ x14 : Sl, w4.cell? (a_0.add 0) = some (x14.val) ∧
 IxOk x14 n2_1 ∧
 ∃ n15 : Int, w4.cell? ((elA x14 n2_1 1).add 0) = some (.int .i64 n15) ∧
 ((!decide (n15 = 0)) = true →
 Trip Tryz.prog 77 #[.pointer (some (a_0.add 0)), .int .i64 n2_1] w4 fun r16 w17 =>
 ∃ q18 : Bool, r16 = .bool q18 ∧
 ((!q18) = true →
 Q (.bool false) w17) ∧
 ((!q18) = false →
 Trip Tryz.prog 51 #[.pointer (some (a_0.add 0)), .int .i64 n_3] w17 fun r19 w20 =>
 ∃ q21 : Bool, r19 = .bool q21 ∧
 Q (.bool q21) w20)) ∧
 ((!decide (n15 = 0)) = false →
 Trip Tryz.prog 51 #[.pointer (some (a_0.add 0)), .int .i64 n_3] w4 fun r22 w23 =>
 ∃ q24 : Bool, r22 = .bool q24 ∧
 Q (.bool q24) w23))
theorem of50 (a_0 : Addr) (x1_0 : Sl) (x1_1 : Sl) (x2_0 : Sl) (n2_1 : Int) (n_3 : Int) (v : World) (Q : Value → World → Prop) (h : vc50 a_0 x1_0 x1_1 x2_0 n2_1 n_3 v Q) : Trip Tryz.prog 50 #[.pointer (some (a_0.add 0)), .agg #[x1_0.val, x1_1.val], .agg #[x2_0.val, .int .i64 n2_1], .int .i64 n_3] v Q :=
 trip_of_eq (args := [.pt a_0 0, .ag [.sl x1_0, .sl x1_1], .ag [.sl x2_0, .num .i64 n2_1], .num .i64 n_3]) (A := ⟨[(2, [(9, .int .i64)], [])], [], [(4, []), (6, [])], [], psG⟩) Tryz.func50 (by kernel_rfl) (by kernel_rfl) (by kernel_rfl : vc50 a_0 x1_0 x1_1 x2_0 n2_1 n_3 v Q = _) h

def vc51 (a_0 : Addr) (n_1 : Int) (v : World) (Q : Value → World → Prop) : Prop :=
 ∃ I1 : Int → World → Prop, ∃ m2 : Int → World → Nat, I1 n_1 v ∧
 ∀ n3 : Int, ∀ w4 : World, I1 n3 w4 →
 ∃ x5 : Sl, w4.cell? (a_0.add 0) = some (x5.val) ∧
 ((decide (n3 < (x5.n : Int))) = true →
 ∃ x6 : Sl, w4.cell? (a_0.add 1) = some (x6.val) ∧
 IxOk x6 n3 ∧
 ∃ n7 : Int, w4.cell? ((elA x6 n3 1).add 0) = some (.int .i64 n7) ∧
 ∃ x8 : Sl, ((!decide (n7 = 0)) = false →
 w4.cell? (a_0.add 5) = some (x8.val)) ∧
 ((!decide (n7 = 0)) = false →
 IxOk x8 n3) ∧
 ∃ n9 : Int, ((!decide (n7 = 0)) = false →
 w4.cell? ((elA x8 n3 1).add 0) = some (.int .i64 n9)) ∧
 (((!decide (n7 = 0)) || (decide (n9 ≥ 0))) = true →
 Q (.bool false) w4) ∧
 (((!decide (n7 = 0)) || (decide (n9 ≥ 0))) = false →
 ∃ n10 : Int, Wr .i64 (n3 + 1) n10 ∧
 I1 n10 w4 ∧
 m2 n10 w4 < m2 n3 w4)) ∧
 ((decide (n3 < (x5.n : Int))) = false →
 ∃ x11 : Sl, w4.cell? (a_0.add 0) = some (x11.val) ∧
 CutOk x11 0 n_1 ∧
 StoreAt w4 a_0 0 [(x11.cut 0 n_1 1).val] fun w12 =>
 ∃ x13 : Sl, w12.cell? (a_0.add 1) = some (x13.val) ∧
 CutOk x13 0 n_1 ∧
 StoreAt w12 a_0 1 [(x13.cut 0 n_1 1).val] fun w14 =>
 ∃ x15 : Sl, w14.cell? (a_0.add 2) = some (x15.val) ∧
 CutOk x15 0 n_1 ∧
 StoreAt w14 a_0 2 [(x15.cut 0 n_1 1).val] fun w16 =>
 ∃ x17 : Sl, w16.cell? (a_0.add 3) = some (x17.val) ∧
 CutOk x17 0 n_1 ∧
 StoreAt w16 a_0 3 [(x17.cut 0 n_1 1).val] fun w18 =>
 ∃ x19 : Sl, w18.cell? (a_0.add 4) = some (x19.val) ∧
 CutOk x19 0 n_1 ∧
 StoreAt w18 a_0 4 [(x19.cut 0 n_1 1).val] fun w20 =>
 ∃ x21 : Sl, w20.cell? (a_0.add 5) = some (x21.val) ∧
 CutOk x21 0 n_1 ∧
 StoreAt w20 a_0 5 [(x21.cut 0 n_1 1).val] fun w22 =>
 Q (.bool true) w22)
theorem of51 (a_0 : Addr) (n_1 : Int) (v : World) (Q : Value → World → Prop) (h : vc51 a_0 n_1 v Q) : Trip Tryz.prog 51 #[.pointer (some (a_0.add 0)), .int .i64 n_1] v Q :=
 trip_of_eq (args := [.pt a_0 0, .num .i64 n_1]) (A := ⟨[(2, [(5, .int .i64)], [])], [], [], [], psG⟩) Tryz.func51 (by kernel_rfl) (by kernel_rfl) (by kernel_rfl : vc51 a_0 n_1 v Q = _) h

def vc52 (n0_0 : Int) (n0_1 : Int) (x0_2 : Sl) (v : World) (Q : Value → World → Prop) : Prop :=
 Trip Tryz.prog 78 #[x0_2.val] v fun r1 w2 =>
 ∃ x3 : Sl, r1 = x3.val ∧
 Q (.agg #[.int .i64 n0_0, .int .i64 n0_1, x3.val]) w2
theorem of52 (n0_0 : Int) (n0_1 : Int) (x0_2 : Sl) (v : World) (Q : Value → World → Prop) (h : vc52 n0_0 n0_1 x0_2 v Q) : Trip Tryz.prog 52 #[.agg #[.int .i64 n0_0, .int .i64 n0_1, x0_2.val]] v Q :=
 trip_of_eq (args := [.ag [.num .i64 n0_0, .num .i64 n0_1, .sl x0_2]]) (A := ⟨[], [], [], [], psG⟩) Tryz.func52 (by kernel_rfl) (by kernel_rfl) (by kernel_rfl : vc52 n0_0 n0_1 x0_2 v Q = _) h

def vc53 (x0_0 : Sl) (x0_1 : Sl) (n0_2 : Int) (x0_3 : Sl) (n0_4 : Int) (v : World) (Q : Value → World → Prop) : Prop :=
 Trip Tryz.prog 79 #[x0_0.val] v fun r1 w2 =>
 ∃ x3 : Sl, r1 = x3.val ∧
 Trip Tryz.prog 79 #[x0_1.val] w2 fun r4 w5 =>
 ∃ x6 : Sl, r4 = x6.val ∧
 Trip Tryz.prog 80 #[.agg #[x0_3.val, .int .i64 n0_4]] w5 fun r7 w8 =>
 ∃ x9 : Sl, ∃ n10 : Int, r7 = .agg #[x9.val, .int .i64 n10] ∧
 Q (.agg #[x3.val, x6.val, .int .i64 n0_2, x9.val, .int .i64 n10]) w8
theorem of53 (x0_0 : Sl) (x0_1 : Sl) (n0_2 : Int) (x0_3 : Sl) (n0_4 : Int) (v : World) (Q : Value → World → Prop) (h : vc53 x0_0 x0_1 n0_2 x0_3 n0_4 v Q) : Trip Tryz.prog 53 #[.agg #[x0_0.val, x0_1.val, .int .i64 n0_2, x0_3.val, .int .i64 n0_4]] v Q :=
 trip_of_eq (args := [.ag [.sl x0_0, .sl x0_1, .num .i64 n0_2, .sl x0_3, .num .i64 n0_4]]) (A := ⟨[], [], [], [], psG⟩) Tryz.func53 (by kernel_rfl) (by kernel_rfl) (by kernel_rfl : vc53 x0_0 x0_1 n0_2 x0_3 n0_4 v Q = _) h

def vc54 (x0_0 : Sl) (x0_1 : Sl) (v : World) (Q : Value → World → Prop) : Prop :=
 ((decide ((x0_1.n : Int) > 4)) = true →
 Q (.tuple #[.agg #[.slice none 0 0, .slice none 0 0], .bool false]) v) ∧
 ((decide ((x0_1.n : Int) > 4)) = false →
 ∃ I1 : Int → Sl → World → Prop, ∃ m2 : Int → Sl → World → Nat, I1 0 (Sl.mk none 0 0) v ∧
 ∀ n3 : Int, ∀ x4 : Sl, ∀ w5 : World, I1 n3 x4 w5 →
 ((decide (n3 < (x0_1.n : Int))) = true →
 IxOk x0_1 n3 ∧
 ∃ x6 : Sl, ∃ x7 : Sl, ∃ n8 : Int, ∃ x9 : Sl, ∃ n10 : Int, (w5.cell? ((elA x0_1 n3 5).add 0) = some (x6.val) ∧
 w5.cell? ((elA x0_1 n3 5).add 1) = some (x7.val) ∧
 w5.cell? ((elA x0_1 n3 5).add 2) = some (.int .i64 n8) ∧
 w5.cell? ((elA x0_1 n3 5).add 3) = some (x9.val) ∧
 w5.cell? ((elA x0_1 n3 5).add 4) = some (.int .i64 n10)) ∧
 StepT Tryz.prog (Instr.buildSlice 58 1 #[(0, (.agg #[x6.val, x7.val, .int .i64 n8]))]) w5 fun r11 w12 =>
 ∃ x13 : Sl, r11 = x13.val ∧
 StepT Tryz.prog (Builtin.append_ #[58, 58] 58 #[(x4.val), (x13.val)]) w12 fun r14 w15 =>
 ∃ x16 : Sl, r14 = x16.val ∧
 ∃ n17 : Int, Wr .i64 (n3 + 1) n17 ∧
 ((.sl x0_0 : SV) = .sl x0_0) ∧
 ((.sl x0_1 : SV) = .sl x0_1) ∧
 ((.sl (Sl.mk none 0 0) : SV) = .sl (Sl.mk none 0 0)) ∧
 ((.sl (Sl.mk none 0 0) : SV) = .sl (Sl.mk none 0 0)) ∧
 ((.sl x0_0 : SV) = .sl x0_0) ∧
 I1 n17 x16 w15 ∧
 m2 n17 x16 w15 < m2 n3 x4 w5) ∧
 ((decide (n3 < (x0_1.n : Int))) = false →
 ∃ q18 : Bool, (Trip Tryz.prog 81 #[x0_0.val, x4.val] w5 fun r19 w20 => r19 = .bool q18 ∧ Sub w5 w20) ∧
 Q (.tuple #[.agg #[x0_0.val, x4.val], .bool q18]) w5))
theorem of54 (x0_0 : Sl) (x0_1 : Sl) (v : World) (Q : Value → World → Prop) (h : vc54 x0_0 x0_1 v Q) : Trip Tryz.prog 54 #[.agg #[x0_0.val, x0_1.val]] v Q :=
 trip_of_eq (args := [.ag [.sl x0_0, .sl x0_1]]) (A := ⟨[(5, [(18, .int .i64)], [(2, 1, .sl)])], [], [(9, [])], [], psG⟩) Tryz.func54 (by kernel_rfl) (by kernel_rfl) (by kernel_rfl : vc54 x0_0 x0_1 v Q = _) h

def vc55 (x0_0 : Sl) (n0_1 : Int) (v : World) (Q : Value → World → Prop) : Prop :=
 NewAt v (.cells #[.int .i64 0] 3 (0, 0)) fun a1 w2 =>
 StoreAt w2 a1 0 [.int .i64 0] fun w3 =>
 Trip Tryz.prog 82 #[.agg #[x0_0.val, .int .i64 n0_1], .pointer (some (a1.add 0))] w3 fun r4 w5 =>
 ∃ q6 : Bool, r4 = .bool q6 ∧
 ((!q6) = true →
 Q (.int .i64 (-1)) w5) ∧
 ((!q6) = false →
 ∃ n7 : Int, w5.cell? (a1.add 0) = some (.int .i64 n7) ∧
 Q (.int .i64 n7) w5)
theorem of55 (x0_0 : Sl) (n0_1 : Int) (v : World) (Q : Value → World → Prop) (h : vc55 x0_0 n0_1 v Q) : Trip Tryz.prog 55 #[.agg #[x0_0.val, .int .i64 n0_1]] v Q :=
 trip_of_eq (args := [.ag [.sl x0_0, .num .i64 n0_1]]) (A := ⟨[], [], [], [3], psG⟩) Tryz.func55 (by kernel_rfl) (by kernel_rfl) (by kernel_rfl : vc55 x0_0 n0_1 v Q = _) h

def vc56 (x0_0 : Sl) (x0_1 : Sl) (x_1 : Sl) (x2_0 : Sl) (n2_1 : Int) (v : World) (Q : Value → World → Prop) : Prop :=
 Trip Tryz.prog 83 #[x_1.val] v fun r1 w2 =>
 ∃ x3 : Sl, r1 = x3.val ∧
 ∃ I4 : Sl → Int → World → Prop, ∃ m5 : Sl → Int → World → Nat, I4 x3 0 w2 ∧
 ∀ x6 : Sl, ∀ n7 : Int, ∀ w8 : World, I4 x6 n7 w8 →
 ((decide (n7 < (x2_0.n : Int))) = true →
 IxOk x2_0 n7 ∧
 ∃ n9 : Int, ∃ n10 : Int, ∃ n11 : Int, ∃ x12 : Sl, ∃ x13 : Sl, (w8.cell? ((elA x2_0 n7 5).add 0) = some (.int .i64 n9) ∧
 w8.cell? ((elA x2_0 n7 5).add 1) = some (.int .i64 n10) ∧
 w8.cell? ((elA x2_0 n7 5).add 2) = some (.int .i64 n11) ∧
 w8.cell? ((elA x2_0 n7 5).add 3) = some (x12.val) ∧
 w8.cell? ((elA x2_0 n7 5).add 4) = some (x13.val)) ∧
 Trip Tryz.prog 84 #[.agg #[x0_0.val, x0_1.val], x6.val, .agg #[.int .i64 n9, .int .i64 n10, .int .i64 n11, x12.val, x13.val]] w8 fun r14 w15 =>
 ∃ n16 : Int, ∃ q17 : Bool, r14 = .tuple #[.int .i64 n16, .bool q17] ∧
 ((!q17) = true →
 Q (.int .i64 (-1)) w15) ∧
 ((!q17) = false →
 ∃ q18 : Bool, (Trip Tryz.prog 85 #[.int .i64 n9] w15 fun r19 w20 => r19 = .bool q18 ∧ Sub w15 w20) ∧
 ((!q18) = true →
 StepT Tryz.prog (Instr.buildSlice 37 1 #[(0, (.int .i64 n16))]) w15 fun r21 w22 =>
 ∃ x23 : Sl, r21 = x23.val ∧
 StepT Tryz.prog (Builtin.append_ #[37, 37] 37 #[(x6.val), (x23.val)]) w22 fun r24 w25 =>
 ∃ x26 : Sl, r24 = x26.val ∧
 ∃ n27 : Int, Wr .i64 (n7 + 1) n27 ∧
 ((.sl x0_0 : SV) = .sl x0_0) ∧
 ((.sl x0_1 : SV) = .sl x0_1) ∧
 ((.sl x2_0 : SV) = .sl x2_0) ∧
 ((.num .i64 n2_1 : SV) = .num .i64 n2_1) ∧
 I4 x26 n27 w25 ∧
 m5 x26 n27 w25 < m5 x6 n7 w8) ∧
 ((!q18) = false →
 ∃ n28 : Int, Wr .i64 (n7 + 1) n28 ∧
 ((.sl x0_0 : SV) = .sl x0_0) ∧
 ((.sl x0_1 : SV) = .sl x0_1) ∧
 ((.sl x2_0 : SV) = .sl x2_0) ∧
 ((.num .i64 n2_1 : SV) = .num .i64 n2_1) ∧
 I4 x6 n28 w15 ∧
 m5 x6 n28 w15 < m5 x6 n7 w8))) ∧
 ((decide (n7 < (x2_0.n : Int))) = false →
 (((decide (n2_1 < 0)) || (decide (n2_1 ≥ (x6.n : Int)))) = true →
 Q (.int .i64 (-1)) w8) ∧
 (((decide (n2_1 < 0)) || (decide (n2_1 ≥ (x6.n : Int)))) = false →
 IxOk x6 n2_1 ∧
 ∃ n29 : Int, w8.cell? ((elA x6 n2_1 1).add 0) = some (.int .i64 n29) ∧
 Q (.int .i64 n29) w8))
theorem of56 (x0_0 : Sl) (x0_1 : Sl) (x_1 : Sl) (x2_0 : Sl) (n2_1 : Int) (v : World) (Q : Value → World → Prop) (h : vc56 x0_0 x0_1 x_1 x2_0 n2_1 v Q) : Trip Tryz.prog 56 #[.agg #[x0_0.val, x0_1.val], x_1.val, .agg #[x2_0.val, .int .i64 n2_1]] v Q :=
 trip_of_eq (args := [.ag [.sl x0_0, .sl x0_1], .sl x_1, .ag [.sl x2_0, .num .i64 n2_1]]) (A := ⟨[(3, [(7, .sl), (17, .int .i64)], [])], [], [], [], psG⟩) Tryz.func56 (by kernel_rfl) (by kernel_rfl) (by kernel_rfl : vc56 x0_0 x0_1 x_1 x2_0 n2_1 v Q = _) h

def vc57 (x0_0 : Sl) (x0_1 : Sl) (n_1 : Int) (v : World) (Q : Value → World → Prop) : Prop :=
 Trip Tryz.prog 54 #[.agg #[x0_0.val, x0_1.val]] v fun r1 w2 =>
 ∃ x3 : Sl, ∃ x4 : Sl, ∃ q5 : Bool, r1 = .tuple #[.agg #[x3.val, x4.val], .bool q5] ∧
 IxOk x0_1 n_1 ∧
 ∃ x6 : Sl, w2.cell? ((elA x0_1 n_1 5).add 1) = some (x6.val) ∧
 NewAt w2 (.cells #[x3.val, x4.val, x6.val, .slice none 0 0, .slice none 0 0, .slice none 0 0, .slice none 0 0] 64 (0, 0)) fun a7 w8 =>
 IxOk x0_1 n_1 ∧
 ∃ x9 : Sl, w8.cell? ((elA x0_1 n_1 5).add 0) = some (x9.val) ∧
 ∃ I10 : Int → World → Prop, ∃ m11 : Int → World → Nat, I10 0 w8 ∧
 ∀ n12 : Int, ∀ w13 : World, I10 n12 w13 →
 ((decide (n12 < (x9.n : Int))) = true →
 IxOk x9 n12 ∧
 ∃ n14 : Int, w13.cell? ((elA x9 n12 1).add 0) = some (.int .i64 n14) ∧
 Trip Tryz.prog 86 #[.pointer (some (a7.add 0)), .int .i64 n14, .int .i64 0] w13 fun r15 w16 =>
 r15 = .tuple #[] ∧
 ∃ x17 : Sl, ((!decide (n14 = 0)) = true →
 w16.cell? (a7.add 2) = some (x17.val)) ∧
 ∃ q18 : Bool, ((!decide (n14 = 0)) = true →
 (Trip Tryz.prog 66 #[x17.val, .int .i64 n12] w16 fun r19 w20 => r19 = .bool q18 ∧ Sub w16 w20)) ∧
 (((!decide (n14 = 0)) && (!q18)) = true →
 ∃ x21 : Sl, w16.cell? (a7.add 5) = some (x21.val) ∧
 IxOk x21 n12 ∧
 StoreAt w16 (elA x21 n12 1) 0 [.int .i64 1] fun w22 =>
 ∃ n23 : Int, Wr .i64 (n12 + 1) n23 ∧
 ((.sl x0_0 : SV) = .sl x0_0) ∧
 ((.sl x0_1 : SV) = .sl x0_1) ∧
 ((.sl x3 : SV) = .sl x3) ∧
 ((.sl x4 : SV) = .sl x4) ∧
 I10 n23 w22 ∧
 m11 n23 w22 < m11 n12 w13) ∧
 (((!decide (n14 = 0)) && (!q18)) = false →
 ∃ n24 : Int, Wr .i64 (n12 + 1) n24 ∧
 ((.sl x0_0 : SV) = .sl x0_0) ∧
 ((.sl x0_1 : SV) = .sl x0_1) ∧
 ((.sl x3 : SV) = .sl x3) ∧
 ((.sl x4 : SV) = .sl x4) ∧
 I10 n24 w16 ∧
 m11 n24 w16 < m11 n12 w13)) ∧
 ((decide (n12 < (x9.n : Int))) = false →
 Q (.pointer (some (a7.add 0))) w13)
theorem of57 (x0_0 : Sl) (x0_1 : Sl) (n_1 : Int) (v : World) (Q : Value → World → Prop) (h : vc57 x0_0 x0_1 n_1 v Q) : Trip Tryz.prog 57 #[.agg #[x0_0.val, x0_1.val], .int .i64 n_1] v Q :=
 trip_of_eq (args := [.ag [.sl x0_0, .sl x0_1], .num .i64 n_1]) (A := ⟨[(4, [(31, .int .i64)], [])], [], [(2, [])], [23], psG⟩) Tryz.func57 (by kernel_rfl) (by kernel_rfl) (by kernel_rfl : vc57 x0_0 x0_1 n_1 v Q = _) h

def vc58 (a_0 : Addr) (x_1 : Sl) (v : World) (Q : Value → World → Prop) : Prop :=
 ∃ I1 : Int → World → Prop, ∃ m2 : Int → World → Nat, I1 0 v ∧
 ∀ n3 : Int, ∀ w4 : World, I1 n3 w4 →
 ((decide (n3 < (x_1.n : Int))) = true →
 IxOk x_1 n3 ∧
 ∃ n5 : Int, ∃ n6 : Int, ∃ n7 : Int, ∃ x8 : Sl, ∃ x9 : Sl, (w4.cell? ((elA x_1 n3 5).add 0) = some (.int .i64 n5) ∧
 w4.cell? ((elA x_1 n3 5).add 1) = some (.int .i64 n6) ∧
 w4.cell? ((elA x_1 n3 5).add 2) = some (.int .i64 n7) ∧
 w4.cell? ((elA x_1 n3 5).add 3) = some (x8.val) ∧
 w4.cell? ((elA x_1 n3 5).add 4) = some (x9.val)) ∧
 Trip Tryz.prog 87 #[.pointer (some (a_0.add 0)), .agg #[.int .i64 n5, .int .i64 n6, .int .i64 n7, x8.val, x9.val]] w4 fun r10 w11 =>
 ∃ q12 : Bool, r10 = .bool q12 ∧
 ((!q12) = true →
 Q (.bool false) w11) ∧
 ((!q12) = false →
 ∃ n13 : Int, Wr .i64 (n3 + 1) n13 ∧
 I1 n13 w11 ∧
 m2 n13 w11 < m2 n3 w4)) ∧
 ((decide (n3 < (x_1.n : Int))) = false →
 Q (.bool true) w4)
theorem of58 (a_0 : Addr) (x_1 : Sl) (v : World) (Q : Value → World → Prop) (h : vc58 a_0 x_1 v Q) : Trip Tryz.prog 58 #[.pointer (some (a_0.add 0)), x_1.val] v Q :=
 trip_of_eq (args := [.pt a_0 0, .sl x_1]) (A := ⟨[(2, [(9, .int .i64)], [])], [], [], [], psG⟩) Tryz.func58 (by kernel_rfl) (by kernel_rfl) (by kernel_rfl : vc58 a_0 x_1 v Q = _) h

def vc59 (a_0 : Addr) (x1_0 : Sl) (n1_1 : Int) (n_2 : Int) (v : World) (Q : Value → World → Prop) : Prop :=
 ∃ x1 : Sl, v.cell? (a_0.add 4) = some (x1.val) ∧
 IxOk x1 n1_1 ∧
 ∃ n2 : Int, v.cell? ((elA x1 n1_1 1).add 0) = some (.int .i64 n2) ∧
 ((!decide (n2 = 0)) = true →
 Trip Tryz.prog 88 #[.pointer (some (a_0.add 0)), .int .i64 n1_1] v fun r3 w4 =>
 ∃ q5 : Bool, r3 = .bool q5 ∧
 ((!q5) = true →
 Q (.bool false) w4) ∧
 ((!q5) = false →
 ∃ I6 : Int → World → Prop, ∃ m7 : Int → World → Nat, I6 n_2 w4 ∧
 ∀ n8 : Int, ∀ w9 : World, I6 n8 w9 →
 ∃ x10 : Sl, w9.cell? (a_0.add 4) = some (x10.val) ∧
 ((decide (n8 < (x10.n : Int))) = true →
 ∃ x11 : Sl, w9.cell? (a_0.add 5) = some (x11.val) ∧
 IxOk x11 n8 ∧
 ∃ n12 : Int, w9.cell? ((elA x11 n8 1).add 0) = some (.int .i64 n12) ∧
 ∃ x13 : Sl, ((!decide (n12 = 0)) = false →
 w9.cell? (a_0.add 6) = some (x13.val)) ∧
 ((!decide (n12 = 0)) = false →
 IxOk x13 n8) ∧
 ∃ n14 : Int, ((!decide (n12 = 0)) = false →
 w9.cell? ((elA x13 n8 1).add 0) = some (.int .i64 n14)) ∧
 (((!decide (n12 = 0)) || (decide (n14 ≥ 0))) = true →
 Q (.bool false) w9) ∧
 (((!decide (n12 = 0)) || (decide (n14 ≥ 0))) = false →
 ∃ n15 : Int, Wr .i64 (n8 + 1) n15 ∧
 ((.sl x1_0 : SV) = .sl x1_0) ∧
 ((.num .i64 n1_1 : SV) = .num .i64 n1_1) ∧
 I6 n15 w9 ∧
 m7 n15 w9 < m7 n8 w9)) ∧
 ((decide (n8 < (x10.n : Int))) = false →
 Q (.bool true) w9))) ∧
 ((!decide (n2 = 0)) = false →
 ∃ I16 : Int → World → Prop, ∃ m17 : Int → World → Nat, I16 n_2 v ∧
 ∀ n18 : Int, ∀ w19 : World, I16 n18 w19 →
 ∃ x20 : Sl, w19.cell? (a_0.add 4) = some (x20.val) ∧
 ((decide (n18 < (x20.n : Int))) = true →
 ∃ x21 : Sl, w19.cell? (a_0.add 5) = some (x21.val) ∧
 IxOk x21 n18 ∧
 ∃ n22 : Int, w19.cell? ((elA x21 n18 1).add 0) = some (.int .i64 n22) ∧
 ∃ x23 : Sl, ((!decide (n22 = 0)) = false →
 w19.cell? (a_0.add 6) = some (x23.val)) ∧
 ((!decide (n22 = 0)) = false →
 IxOk x23 n18) ∧
 ∃ n24 : Int, ((!decide (n22 = 0)) = false →
 w19.cell? ((elA x23 n18 1).add 0) = some (.int .i64 n24)) ∧
 (((!decide (n22 = 0)) || (decide (n24 ≥ 0))) = true →
 Q (.bool false) w19) ∧
 (((!decide (n22 = 0)) || (decide (n24 ≥ 0))) = false →
 ∃ n25 : Int, Wr .i64 (n18 + 1) n25 ∧
 ((.sl x1_0 : SV) = .sl x1_0) ∧
 ((.num .i64 n1_1 : SV) = .num .i64 n1_1) ∧
 I16 n25 w19 ∧
 m17 n25 w19 < m17 n18 w19)) ∧
 ((decide (n18 < (x20.n : Int))) = false →
 Q (.bool true) w19))
theorem of59 (a_0 : Addr) (x1_0 : Sl) (n1_1 : Int) (n_2 : Int) (v : World) (Q : Value → World → Prop) (h : vc59 a_0 x1_0 n1_1 n_2 v Q) : Trip Tryz.prog 59 #[.pointer (some (a_0.add 0)), .agg #[x1_0.val, .int .i64 n1_1], .int .i64 n_2] v Q :=
 trip_of_eq (args := [.pt a_0 0, .ag [.sl x1_0, .num .i64 n1_1], .num .i64 n_2]) (A := ⟨[(4, [(7, .int .i64)], [])], [], [(1, [])], [], psG⟩) Tryz.func59 (by kernel_rfl) (by kernel_rfl) (by kernel_rfl : vc59 a_0 x1_0 n1_1 n_2 v Q = _) h

def vc60 (n0_0 : Int) (n0_1 : Int) (x0_2 : Sl) (n1_0 : Int) (n1_1 : Int) (x1_2 : Sl) (v : World) (Q : Value → World → Prop) : Prop :=
 ((!decide (n0_0 = n1_0)) = true →
 Q (.bool false) v) ∧
 ((!decide (n0_0 = n1_0)) = false →
 ((!decide (n0_1 = n1_1)) = true →
 Q (.bool false) v) ∧
 ((!decide (n0_1 = n1_1)) = false →
 ∃ q1 : Bool, (Trip Tryz.prog 89 #[x0_2.val, x1_2.val] v fun r2 w3 => r2 = .bool q1 ∧ Sub v w3) ∧
 ((!q1) = true →
 Q (.bool false) v) ∧
 ((!q1) = false →
 Q (.bool true) v)))
theorem of60 (n0_0 : Int) (n0_1 : Int) (x0_2 : Sl) (n1_0 : Int) (n1_1 : Int) (x1_2 : Sl) (v : World) (Q : Value → World → Prop) (h : vc60 n0_0 n0_1 x0_2 n1_0 n1_1 x1_2 v Q) : Trip Tryz.prog 60 #[.agg #[.int .i64 n0_0, .int .i64 n0_1, x0_2.val], .agg #[.int .i64 n1_0, .int .i64 n1_1, x1_2.val]] v Q :=
 trip_of_eq (args := [.ag [.num .i64 n0_0, .num .i64 n0_1, .sl x0_2], .ag [.num .i64 n1_0, .num .i64 n1_1, .sl x1_2]]) (A := ⟨[], [], [], [], psG⟩) Tryz.func60 (by kernel_rfl) (by kernel_rfl) (by kernel_rfl : vc60 n0_0 n0_1 x0_2 n1_0 n1_1 x1_2 v Q = _) h

def vc61 (x0_0 : Sl) (x0_1 : Sl) (n0_2 : Int) (x0_3 : Sl) (n0_4 : Int) (x1_0 : Sl) (x1_1 : Sl) (n1_2 : Int) (x1_3 : Sl) (n1_4 : Int) (v : World) (Q : Value → World → Prop) : Prop :=
 ∃ q1 : Bool, (Trip Tryz.prog 17 #[x0_0.val, x1_0.val] v fun r2 w3 => r2 = .bool q1 ∧ Sub v w3) ∧
 ((!q1) = true →
 Q (.bool false) v) ∧
 ((!q1) = false →
 ∃ q4 : Bool, (Trip Tryz.prog 17 #[x0_1.val, x1_1.val] v fun r5 w6 => r5 = .bool q4 ∧ Sub v w6) ∧
 ((!q4) = true →
 Q (.bool false) v) ∧
 ((!q4) = false →
 ((!decide (n0_2 = n1_2)) = true →
 Q (.bool false) v) ∧
 ((!decide (n0_2 = n1_2)) = false →
 ∃ q7 : Bool, (Trip Tryz.prog 90 #[.agg #[x0_3.val, .int .i64 n0_4], .agg #[x1_3.val, .int .i64 n1_4]] v fun r8 w9 => r8 = .bool q7 ∧ Sub v w9) ∧
 ((!q7) = true →
 Q (.bool false) v) ∧
 ((!q7) = false →
 Q (.bool true) v))))
theorem of61 (x0_0 : Sl) (x0_1 : Sl) (n0_2 : Int) (x0_3 : Sl) (n0_4 : Int) (x1_0 : Sl) (x1_1 : Sl) (n1_2 : Int) (x1_3 : Sl) (n1_4 : Int) (v : World) (Q : Value → World → Prop) (h : vc61 x0_0 x0_1 n0_2 x0_3 n0_4 x1_0 x1_1 n1_2 x1_3 n1_4 v Q) : Trip Tryz.prog 61 #[.agg #[x0_0.val, x0_1.val, .int .i64 n0_2, x0_3.val, .int .i64 n0_4], .agg #[x1_0.val, x1_1.val, .int .i64 n1_2, x1_3.val, .int .i64 n1_4]] v Q :=
 trip_of_eq (args := [.ag [.sl x0_0, .sl x0_1, .num .i64 n0_2, .sl x0_3, .num .i64 n0_4], .ag [.sl x1_0, .sl x1_1, .num .i64 n1_2, .sl x1_3, .num .i64 n1_4]]) (A := ⟨[], [], [], [], psG⟩) Tryz.func61 (by kernel_rfl) (by kernel_rfl) (by kernel_rfl : vc61 x0_0 x0_1 n0_2 x0_3 n0_4 x1_0 x1_1 n1_2 x1_3 n1_4 v Q = _) h

def vc63 (x_0 : Sl) (n_1 : Int) (v : World) (Q : Value → World → Prop) : Prop :=
 ∃ I1 : Int → Int → World → Prop, ∃ m2 : Int → Int → World → Nat, I1 n_1 0 v ∧
 ∀ n3 : Int, ∀ n4 : Int, ∀ w5 : World, I1 n3 n4 w5 →
 ((decide (n4 < (x_0.n : Int))) = true →
 IxOk x_0 n4 ∧
 ∃ x6 : Sl, w5.cell? ((elA x_0 n4 1).add 0) = some (x6.val) ∧
 Trip Tryz.prog 19 #[x6.val, .int .i64 n3] w5 fun r7 w8 =>
 ∃ n9 : Int, r7 = .int .i64 n9 ∧
 ∃ n10 : Int, Wr .i64 (n4 + 1) n10 ∧
 I1 n9 n10 w8 ∧
 m2 n9 n10 w8 < m2 n3 n4 w5) ∧
 ((decide (n4 < (x_0.n : Int))) = false →
 Q (.int .i64 n3) w5)
theorem of63 (x_0 : Sl) (n_1 : Int) (v : World) (Q : Value → World → Prop) (h : vc63 x_0 n_1 v Q) : Trip Tryz.prog 63 #[x_0.val, .int .i64 n_1] v Q :=
 trip_of_eq (args := [.sl x_0, .num .i64 n_1]) (A := ⟨[(2, [(1, .int .i64), (5, .int .i64)], [])], [], [], [], psG⟩) Tryz.func63 (by kernel_rfl) (by kernel_rfl) (by kernel_rfl : vc63 x_0 n_1 v Q = _) h

def vc64 (x_0 : Sl) (n_1 : Int) (v : World) (Q : Value → World → Prop) : Prop :=
 ∃ I1 : Int → Int → World → Prop, ∃ m2 : Int → Int → World → Nat, I1 n_1 0 v ∧
 ∀ n3 : Int, ∀ n4 : Int, ∀ w5 : World, I1 n3 n4 w5 →
 ((decide (n4 < (x_0.n : Int))) = true →
 IxOk x_0 n4 ∧
 StoreAt w5 (elA x_0 n4 5) 0 [.int .i64 n3] fun w6 =>
 ∃ n7 : Int, Wr .i64 (n3 + 1) n7 ∧
 IxOk x_0 n4 ∧
 StoreAt w6 (elA x_0 n4 5) 1 [.int .i64 n7] fun w8 =>
 ∃ n9 : Int, Wr .i64 (n7 + 1) n9 ∧
 IxOk x_0 n4 ∧
 StoreAt w8 (elA x_0 n4 5) 2 [.int .i64 n9] fun w10 =>
 ∃ n11 : Int, Wr .i64 (n9 + 1) n11 ∧
 IxOk x_0 n4 ∧
 ∃ x12 : Sl, w10.cell? ((elA x_0 n4 5).add 3) = some (x12.val) ∧
 Trip Tryz.prog 19 #[x12.val, .int .i64 n11] w10 fun r13 w14 =>
 ∃ n15 : Int, r13 = .int .i64 n15 ∧
 IxOk x_0 n4 ∧
 ∃ x16 : Sl, w14.cell? ((elA x_0 n4 5).add 4) = some (x16.val) ∧
 Trip Tryz.prog 94 #[x16.val, .int .i64 n15] w14 fun r17 w18 =>
 ∃ n19 : Int, r17 = .int .i64 n19 ∧
 ∃ n20 : Int, Wr .i64 (n4 + 1) n20 ∧
 I1 n19 n20 w18 ∧
 m2 n19 n20 w18 < m2 n3 n4 w5) ∧
 ((decide (n4 < (x_0.n : Int))) = false →
 Q (.int .i64 n3) w5)
theorem of64 (x_0 : Sl) (n_1 : Int) (v : World) (Q : Value → World → Prop) (h : vc64 x_0 n_1 v Q) : Trip Tryz.prog 64 #[x_0.val, .int .i64 n_1] v Q :=
 trip_of_eq (args := [.sl x_0, .num .i64 n_1]) (A := ⟨[(2, [(1, .int .i64), (5, .int .i64)], [])], [], [], [], psG⟩) Tryz.func64 (by kernel_rfl) (by kernel_rfl) (by kernel_rfl : vc64 x_0 n_1 v Q = _) h

def vc65 (x_0 : Sl) (n_1 : Int) (v : World) (Q : Value → World → Prop) : Prop :=
 ∃ I1 : Int → World → Prop, ∃ m2 : Int → World → Nat, I1 0 v ∧
 ∀ n3 : Int, ∀ w4 : World, I1 n3 w4 →
 ((decide (n3 < (x_0.n : Int))) = true →
 IxOk x_0 n3 ∧
 ∃ n5 : Int, w4.cell? ((elA x_0 n3 1).add 0) = some (.int .i64 n5) ∧
 ((decide (n5 = n_1)) = true →
 Q (.bool true) w4) ∧
 ((decide (n5 = n_1)) = false →
 ∃ n6 : Int, Wr .i64 (n3 + 1) n6 ∧
 I1 n6 w4 ∧
 m2 n6 w4 < m2 n3 w4)) ∧
 ((decide (n3 < (x_0.n : Int))) = false →
 Q (.bool false) w4)
theorem of65 (x_0 : Sl) (n_1 : Int) (v : World) (Q : Value → World → Prop) (h : vc65 x_0 n_1 v Q) : Trip Tryz.prog 65 #[x_0.val, .int .i64 n_1] v Q :=
 trip_of_eq (args := [.sl x_0, .num .i64 n_1]) (A := ⟨[(2, [(5, .int .i64)], [])], [], [], [], psG⟩) Tryz.func65 (by kernel_rfl) (by kernel_rfl) (by kernel_rfl : vc65 x_0 n_1 v Q = _) h

def vc66 (x_0 : Sl) (n_1 : Int) (v : World) (Q : Value → World → Prop) : Prop :=
 ∃ n1 : Int, (Trip Tryz.prog 95 #[x_0.val, .int .i64 n_1] v fun r2 w3 => r2 = .int .i64 n1 ∧ Sub v w3) ∧
 Q (.bool (decide (n1 ≥ 0))) v
theorem of66 (x_0 : Sl) (n_1 : Int) (v : World) (Q : Value → World → Prop) (h : vc66 x_0 n_1 v Q) : Trip Tryz.prog 66 #[x_0.val, .int .i64 n_1] v Q :=
 trip_of_eq (args := [.sl x_0, .num .i64 n_1]) (A := ⟨[], [], [], [], psG⟩) Tryz.func66 (by kernel_rfl) (by kernel_rfl) (by kernel_rfl : vc66 x_0 n_1 v Q = _) h

def vc67 (x_0 : Sl) (n_1 : Int) (v : World) (Q : Value → World → Prop) : Prop :=
 ∃ n1 : Int, Wr .i64 (n_1 - (x_0.n : Int)) n1 ∧
 ((decide (n1 < 0)) = true →
 Q (.int .i64 (-1)) v) ∧
 ((decide (n1 < 0)) = false →
 ∃ I2 : Int → Int → World → Prop, ∃ m3 : Int → Int → World → Nat, I2 n1 0 v ∧
 ∀ n4 : Int, ∀ n5 : Int, ∀ w6 : World, I2 n4 n5 w6 →
 ((decide (n5 < (x_0.n : Int))) = true →
 IxOk x_0 n5 ∧
 ∃ x7 : Sl, w6.cell? ((elA x_0 n5 1).add 0) = some (x7.val) ∧
 ∃ n8 : Int, (Trip Tryz.prog 96 #[.agg #[x7.val], .int .i64 n4] w6 fun r9 w10 => r9 = .int .i64 n8 ∧ Sub w6 w10) ∧
 ((decide (n8 < 0)) = true →
 Q (.int .i64 (-1)) w6) ∧
 ((decide (n8 < 0)) = false →
 ∃ n11 : Int, Wr .i64 (n5 + 1) n11 ∧
 I2 n8 n11 w6 ∧
 m3 n8 n11 w6 < m3 n4 n5 w6)) ∧
 ((decide (n5 < (x_0.n : Int))) = false →
 Q (.int .i64 n4) w6))
theorem of67 (x_0 : Sl) (n_1 : Int) (v : World) (Q : Value → World → Prop) (h : vc67 x_0 n_1 v Q) : Trip Tryz.prog 67 #[x_0.val, .int .i64 n_1] v Q :=
 trip_of_eq (args := [.sl x_0, .num .i64 n_1]) (A := ⟨[(5, [(1, .int .i64), (5, .int .i64)], [])], [], [], [], psG⟩) Tryz.func67 (by kernel_rfl) (by kernel_rfl) (by kernel_rfl : vc67 x_0 n_1 v Q = _) h

def vc68 (x_0 : Sl) (n_1 : Int) (v : World) (Q : Value → World → Prop) : Prop :=
 ∃ n1 : Int, Wr .i64 (n_1 - (x_0.n : Int)) n1 ∧
 ((decide (n1 < 0)) = true →
 Q (.int .i64 (-1)) v) ∧
 ((decide (n1 < 0)) = false →
 Q (.int .i64 n1) v)
theorem of68 (x_0 : Sl) (n_1 : Int) (v : World) (Q : Value → World → Prop) (h : vc68 x_0 n_1 v Q) : Trip Tryz.prog 68 #[x_0.val, .int .i64 n_1] v Q :=
 trip_of_eq (args := [.sl x_0, .num .i64 n_1]) (A := ⟨[], [], [], [], psG⟩) Tryz.func68 (by kernel_rfl) (by kernel_rfl) (by kernel_rfl : vc68 x_0 n_1 v Q = _) h

def vc69 (x0_0 : Sl) (n0_1 : Int) (n_1 : Int) (v : World) (Q : Value → World → Prop) : Prop :=
 ∃ n1 : Int, (Trip Tryz.prog 97 #[x0_0.val, .int .i64 n_1] v fun r2 w3 => r2 = .int .i64 n1 ∧ Sub v w3) ∧
 ((decide (n1 < 0)) = true →
 Q (.int .i64 (-1)) v) ∧
 ((decide (n1 < 0)) = false →
 Q (.int .i64 n1) v)
theorem of69 (x0_0 : Sl) (n0_1 : Int) (n_1 : Int) (v : World) (Q : Value → World → Prop) (h : vc69 x0_0 n0_1 n_1 v Q) : Trip Tryz.prog 69 #[.agg #[x0_0.val, .int .i64 n0_1], .int .i64 n_1] v Q :=
 trip_of_eq (args := [.ag [.sl x0_0, .num .i64 n0_1], .num .i64 n_1]) (A := ⟨[], [], [], [], psG⟩) Tryz.func69 (by kernel_rfl) (by kernel_rfl) (by kernel_rfl : vc69 x0_0 n0_1 n_1 v Q = _) h

def vc70 (x0_0 : Sl) (x0_1 : Sl) (v : World) (Q : Value → World → Prop) : Prop :=
 ∃ q1 : Bool, (Trip Tryz.prog 98 #[x0_0.val] v fun r2 w3 => r2 = .bool q1 ∧ Sub v w3) ∧
 ∃ q4 : Bool, ((!q1) = false →
 (Trip Tryz.prog 28 #[.int .i64 (x0_1.n : Int), .int .i64 1, .int .i64 4] v fun r5 w6 => r5 = .bool q4 ∧ Sub v w6)) ∧
 (((!q1) || (!q4)) = true →
 Q (.bool false) v) ∧
 (((!q1) || (!q4)) = false →
 ∃ I7 : Int → World → Prop, ∃ m8 : Int → World → Nat, I7 0 v ∧
 ∀ n9 : Int, ∀ w10 : World, I7 n9 w10 →
 ((decide (n9 < (x0_1.n : Int))) = true →
 IxOk x0_1 n9 ∧
 ∃ x11 : Sl, ∃ n12 : Int, ∃ n13 : Int, ∃ n14 : Int, ∃ x15 : Sl, (w10.cell? ((elA x0_1 n9 5).add 0) = some (x11.val) ∧
 w10.cell? ((elA x0_1 n9 5).add 1) = some (.int .i64 n12) ∧
 w10.cell? ((elA x0_1 n9 5).add 2) = some (.int .i64 n13) ∧
 w10.cell? ((elA x0_1 n9 5).add 3) = some (.int .i64 n14) ∧
 w10.cell? ((elA x0_1 n9 5).add 4) = some (x15.val)) ∧
 ∃ q16 : Bool, ((decide ((x11.n : Int) > 3)) = false →
 (Trip Tryz.prog 99 #[x0_0.val, x11.val] w10 fun r17 w18 => r17 = .bool q16 ∧ Sub w10 w18)) ∧
 ∃ q19 : Bool, (((decide ((x11.n : Int) > 3)) || (!q16)) = false →
 (Trip Tryz.prog 28 #[.int .i64 n12, .int .i64 0, .int .i64 (x0_0.n : Int)] w10 fun r20 w21 => r20 = .bool q19 ∧ Sub w10 w21)) ∧
 ((((decide ((x11.n : Int) > 3)) || (!q16)) || (!q19)) = true →
 Q (.bool false) w10) ∧
 ((((decide ((x11.n : Int) > 3)) || (!q16)) || (!q19)) = false →
 ∃ n22 : Int, Wr .i64 (n9 + 1) n22 ∧
 ((.sl x0_0 : SV) = .sl x0_0) ∧
 ((.sl x0_1 : SV) = .sl x0_1) ∧
 I7 n22 w10 ∧
 m8 n22 w10 < m8 n9 w10)) ∧
 ((decide (n9 < (x0_1.n : Int))) = false →
 IxOk x0_1 0 ∧
 ∃ x23 : Sl, w10.cell? ((elA x0_1 0 5).add 0) = some (x23.val) ∧
 ((decide ((x23.n : Int) = 0)) = true →
 IxOk x0_1 0) ∧
 ∃ n24 : Int, ((decide ((x23.n : Int) = 0)) = true →
 w10.cell? ((elA x0_1 0 5).add 1) = some (.int .i64 n24)) ∧
 Q (.bool ((decide ((x23.n : Int) = 0)) && (decide (n24 = 0)))) w10))
theorem of70 (x0_0 : Sl) (x0_1 : Sl) (v : World) (Q : Value → World → Prop) (h : vc70 x0_0 x0_1 v Q) : Trip Tryz.prog 70 #[.agg #[x0_0.val, x0_1.val]] v Q :=
 trip_of_eq (args := [.ag [.sl x0_0, .sl x0_1]]) (A := ⟨[(4, [(3, .int .i64)], [])], [], [], [], psG⟩) Tryz.func70 (by kernel_rfl) (by kernel_rfl) (by kernel_rfl : vc70 x0_0 x0_1 v Q = _) h

def vc71 (x0_0 : Sl) (x0_1 : Sl) (v : World) (Q : Value → World → Prop) : Prop :=
 StepT Tryz.prog (Instr.buildSlice 112 0 #[]) v fun r1 w2 =>
 ∃ x3 : Sl, r1 = x3.val ∧
 ∃ I4 : Int → Sl → World → Prop, ∃ m5 : Int → Sl → World → Nat, I4 0 x3 w2 ∧
 ∀ n6 : Int, ∀ x7 : Sl, ∀ w8 : World, I4 n6 x7 w8 →
 ((decide (n6 < (x0_1.n : Int))) = true →
 IxOk x0_1 n6 ∧
 ∃ x9 : Sl, w8.cell? ((elA x0_1 n6 5).add 0) = some (x9.val) ∧
 IxOk x0_1 n6 ∧
 ∃ n10 : Int, w8.cell? ((elA x0_1 n6 5).add 2) = some (.int .i64 n10) ∧
 StepT Tryz.prog (Instr.buildSlice 112 1 #[(0, (.agg #[x9.val, .int .i64 n10, .int .i64 0, .int .i64 0, .slice none 0 0]))]) w8 fun r11 w12 =>
 ∃ x13 : Sl, r11 = x13.val ∧
 Sub w8 w12 ∧
 StepT Tryz.prog (Builtin.append_ #[112, 112] 112 #[(x7.val), (x13.val)]) w12 fun r14 w15 =>
 ∃ x16 : Sl, r14 = x16.val ∧
 ∃ n17 : Int, Wr .i64 (n6 + 1) n17 ∧
 ((.sl x0_0 : SV) = .sl x0_0) ∧
 ((.sl x0_1 : SV) = .sl x0_1) ∧
 ((.sl (Sl.mk none 0 0) : SV) = .sl (Sl.mk none 0 0)) ∧
 ((.sl (Sl.mk none 0 0) : SV) = .sl (Sl.mk none 0 0)) ∧
 ((.sl x0_0 : SV) = .sl x0_0) ∧
 I4 n17 x16 w15 ∧
 m5 n17 x16 w15 < m5 n6 x7 w8) ∧
 ((decide (n6 < (x0_1.n : Int))) = false →
 Q (.agg #[x0_0.val, x7.val]) w8)
theorem of71 (x0_0 : Sl) (x0_1 : Sl) (v : World) (Q : Value → World → Prop) (h : vc71 x0_0 x0_1 v Q) : Trip Tryz.prog 71 #[.agg #[x0_0.val, x0_1.val]] v Q :=
 trip_of_eq (args := [.ag [.sl x0_0, .sl x0_1]]) (A := ⟨[(3, [(4, .int .i64)], [(2, 1, .sl)])], [], [(5, [15])], [], psG⟩) Tryz.func71 (by kernel_rfl) (by kernel_rfl) (by kernel_rfl : vc71 x0_0 x0_1 v Q = _) h

def vc72 (x_0 : Sl) (x_1 : Sl) (v : World) (Q : Value → World → Prop) : Prop :=
 ∃ I1 : Int → World → Prop, ∃ m2 : Int → World → Nat, I1 0 v ∧
 ∀ n3 : Int, ∀ w4 : World, I1 n3 w4 →
 ((decide (n3 < (x_1.n : Int))) = true →
 IxOk x_1 n3 ∧
 ∃ n5 : Int, w4.cell? ((elA x_1 n3 1).add 0) = some (.int .i64 n5) ∧
 ∃ n6 : Int, Wr .i64 ((x_0.n : Int) - 1) n6 ∧
 ∃ q7 : Bool, (Trip Tryz.prog 28 #[.int .i64 n5, .int .i64 0, .int .i64 n6] w4 fun r8 w9 => r8 = .bool q7 ∧ Sub w4 w9) ∧
 ((!q7) = false →
 IxOk x_1 n3) ∧
 ∃ n10 : Int, ((!q7) = false →
 w4.cell? ((elA x_1 n3 1).add 0) = some (.int .i64 n10)) ∧
 ((!q7) = false →
 IxOk x_0 n10) ∧
 ∃ n11 : Int, ((!q7) = false →
 w4.cell? ((elA x_0 n10 1).add 0) = some (.int .i64 n11)) ∧
 ((decide (n3 > 0)) = true →
 ((!q7) || (decide (n11 = 0))) = false →
 IxOk x_1 n3) ∧
 ∃ n12 : Int, ((decide (n3 > 0)) = true →
 ((!q7) || (decide (n11 = 0))) = false →
 w4.cell? ((elA x_1 n3 1).add 0) = some (.int .i64 n12)) ∧
 ∃ n13 : Int, ((decide (n3 > 0)) = true →
 ((!q7) || (decide (n11 = 0))) = false →
 Wr .i64 (n3 - 1) n13) ∧
 ((decide (n3 > 0)) = true →
 ((!q7) || (decide (n11 = 0))) = false →
 IxOk x_1 n13) ∧
 ∃ n14 : Int, ((decide (n3 > 0)) = true →
 ((!q7) || (decide (n11 = 0))) = false →
 w4.cell? ((elA x_1 n13 1).add 0) = some (.int .i64 n14)) ∧
 ((((!q7) || (decide (n11 = 0))) || ((decide (n3 > 0)) && (decide (n12 ≤ n14)))) = true →
 Q (.bool false) w4) ∧
 ((((!q7) || (decide (n11 = 0))) || ((decide (n3 > 0)) && (decide (n12 ≤ n14)))) = false →
 ∃ n15 : Int, Wr .i64 (n3 + 1) n15 ∧
 I1 n15 w4 ∧
 m2 n15 w4 < m2 n3 w4)) ∧
 ((decide (n3 < (x_1.n : Int))) = false →
 Q (.bool true) w4)
theorem of72 (x_0 : Sl) (x_1 : Sl) (v : World) (Q : Value → World → Prop) (h : vc72 x_0 x_1 v Q) : Trip Tryz.prog 72 #[x_0.val, x_1.val] v Q :=
 trip_of_eq (args := [.sl x_0, .sl x_1]) (A := ⟨[(2, [(5, .int .i64)], [])], [], [], [], psG⟩) Tryz.func72 (by kernel_rfl) (by kernel_rfl) (by kernel_rfl : vc72 x_0 x_1 v Q = _) h

def vc73 (x0_0 : Sl) (n0_1 : Int) (n_1 : Int) (v : World) (Q : Value → World → Prop) : Prop :=
 ∃ I1 : Int → Int → World → Prop, ∃ m2 : Int → Int → World → Nat, I1 n_1 0 v ∧
 ∀ n3 : Int, ∀ n4 : Int, ∀ w5 : World, I1 n3 n4 w5 →
 ((decide (n4 < (x0_0.n : Int))) = true →
 ((decide (n3 < 1)) = true →
 Q (.int .i64 (-1)) w5) ∧
 ((decide (n3 < 1)) = false →
 ∃ n6 : Int, Wr .i64 (n3 - 1) n6 ∧
 ∃ I7 : Int → Int → World → Prop, ∃ m8 : Int → Int → World → Nat, I7 n6 0 w5 ∧
 ∀ n9 : Int, ∀ n10 : Int, ∀ w11 : World, I7 n9 n10 w11 →
 IxOk x0_0 n4 ∧
 ∃ x12 : Sl, w11.cell? ((elA x0_0 n4 5).add 4) = some (x12.val) ∧
 ((decide (n10 < (x12.n : Int))) = true →
 IxOk x0_0 n4 ∧
 ∃ x13 : Sl, w11.cell? ((elA x0_0 n4 5).add 4) = some (x13.val) ∧
 IxOk x13 n10 ∧
 ∃ x14 : Sl, ∃ n15 : Int, (w11.cell? ((elA x13 n10 2).add 0) = some (x14.val) ∧
 w11.cell? ((elA x13 n10 2).add 1) = some (.int .i64 n15)) ∧
 ∃ n16 : Int, (Trip Tryz.prog 73 #[.agg #[x14.val, .int .i64 n15], .int .i64 n9] w11 fun r17 w18 => r17 = .int .i64 n16 ∧ Sub w11 w18) ∧
 ((decide (n16 < 0)) = true →
 Q (.int .i64 (-1)) w11) ∧
 ((decide (n16 < 0)) = false →
 ∃ n19 : Int, Wr .i64 (n10 + 1) n19 ∧
 ((.sl x0_0 : SV) = .sl x0_0) ∧
 ((.num .i64 n0_1 : SV) = .num .i64 n0_1) ∧
 I7 n16 n19 w11 ∧
 m8 n16 n19 w11 < m8 n9 n10 w11)) ∧
 ((decide (n10 < (x12.n : Int))) = false →
 ∃ n20 : Int, Wr .i64 (n4 + 1) n20 ∧
 ((.sl x0_0 : SV) = .sl x0_0) ∧
 ((.num .i64 n0_1 : SV) = .num .i64 n0_1) ∧
 I1 n9 n20 w11 ∧
 m2 n9 n20 w11 < m2 n3 n4 w5))) ∧
 ((decide (n4 < (x0_0.n : Int))) = false →
 Q (.int .i64 n3) w5)
theorem of73 (x0_0 : Sl) (n0_1 : Int) (n_1 : Int) (v : World) (Q : Value → World → Prop) (h : vc73 x0_0 n0_1 n_1 v Q) : Trip Tryz.prog 73 #[.agg #[x0_0.val, .int .i64 n0_1], .int .i64 n_1] v Q :=
 trip_of_eq (args := [.ag [.sl x0_0, .num .i64 n0_1], .num .i64 n_1]) (A := ⟨[(2, [(1, .int .i64), (5, .int .i64)], []), (8, [(1, .int .i64), (6, .int .i64)], [])], [], [], [], psG⟩) Tryz.func73 (by kernel_rfl) (by kernel_rfl) (by kernel_rfl : vc73 x0_0 n0_1 n_1 v Q = _) h

def vc74 (x0_0 : Sl) (x0_1 : Sl) (x_1 : Sl) (n2_0 : Int) (n2_1 : Int) (n2_2 : Int) (x2_3 : Sl) (x2_4 : Sl) (v : World) (Q : Value → World → Prop) : Prop :=
 ∃ q1 : Bool, ((!decide (n2_1 = 0)) = true →
 (Trip Tryz.prog 100 #[.int .i64 n2_0] v fun r2 w3 => r2 = .bool q1 ∧ Sub v w3)) ∧
 ∃ q4 : Bool, (((!decide (n2_1 = 0)) && (!q1)) = false →
 (Trip Tryz.prog 101 #[x_1.val, .agg #[.int .i64 n2_0, .int .i64 n2_1, .int .i64 n2_2, x2_3.val, x2_4.val]] v fun r5 w6 => r5 = .bool q4 ∧ Sub v w6)) ∧
 (((((!decide (n2_1 = 0)) && (!q1)) || (!q4)) || (((decide ((x2_4.n : Int) > 0)) && (!decide (n2_0 = 7))) && (!decide (n2_0 = 8)))) = true →
 Q (.int .i64 (-1)) v) ∧
 (((((!decide (n2_1 = 0)) && (!q1)) || (!q4)) || (((decide ((x2_4.n : Int) > 0)) && (!decide (n2_0 = 7))) && (!decide (n2_0 = 8)))) = false →
 ((decide (n2_0 = 0)) = true →
 ∃ q7 : Bool, ((decide ((x2_3.n : Int) = 0)) = true →
 (Trip Tryz.prog 28 #[.int .i64 n2_1, .int .i64 (-999), .int .i64 999] v fun r8 w9 => r8 = .bool q7 ∧ Sub v w9)) ∧
 (((decide ((x2_3.n : Int) = 0)) && q7) = true →
 Q (.int .i64 0) v) ∧
 (((decide ((x2_3.n : Int) = 0)) && q7) = false →
 Q (.int .i64 (-1)) v)) ∧
 ((decide (n2_0 = 0)) = false →
 ((decide (n2_0 = 1)) = true →
 StepT Tryz.prog (Instr.buildSlice 37 2 #[(0, (.int .i64 0)), (1, (.int .i64 0))]) v fun r10 w11 =>
 ∃ x12 : Sl, r10 = x12.val ∧
 ∃ q13 : Bool, (Trip Tryz.prog 102 #[x_1.val, x2_3.val, x12.val] w11 fun r14 w15 => r14 = .bool q13 ∧ Sub w11 w15) ∧
 (q13 = true →
 Q (.int .i64 0) w11) ∧
 (q13 = false →
 Q (.int .i64 (-1)) w11)) ∧
 ((decide (n2_0 = 1)) = false →
 ((decide (n2_0 = 2)) = true →
 StepT Tryz.prog (Instr.buildSlice 37 2 #[(0, (.int .i64 0)), (1, (.int .i64 0))]) v fun r16 w17 =>
 ∃ x18 : Sl, r16 = x18.val ∧
 ∃ q19 : Bool, (Trip Tryz.prog 102 #[x_1.val, x2_3.val, x18.val] w17 fun r20 w21 => r20 = .bool q19 ∧ Sub w17 w21) ∧
 (q19 = true →
 Q (.int .i64 0) w17) ∧
 (q19 = false →
 Q (.int .i64 (-1)) w17)) ∧
 ((decide (n2_0 = 2)) = false →
 ((decide (n2_0 = 3)) = true →
 StepT Tryz.prog (Instr.buildSlice 37 2 #[(0, (.int .i64 0)), (1, (.int .i64 0))]) v fun r22 w23 =>
 ∃ x24 : Sl, r22 = x24.val ∧
 ∃ q25 : Bool, (Trip Tryz.prog 102 #[x_1.val, x2_3.val, x24.val] w23 fun r26 w27 => r26 = .bool q25 ∧ Sub w23 w27) ∧
 (q25 = true →
 Q (.int .i64 0) w23) ∧
 (q25 = false →
 Q (.int .i64 (-1)) w23)) ∧
 ((decide (n2_0 = 3)) = false →
 ((decide (n2_0 = 4)) = true →
 StepT Tryz.prog (Instr.buildSlice 37 2 #[(0, (.int .i64 0)), (1, (.int .i64 0))]) v fun r28 w29 =>
 ∃ x30 : Sl, r28 = x30.val ∧
 ∃ q31 : Bool, (Trip Tryz.prog 102 #[x_1.val, x2_3.val, x30.val] w29 fun r32 w33 => r32 = .bool q31 ∧ Sub w29 w33) ∧
 (q31 = true →
 Q (.int .i64 0) w29) ∧
 (q31 = false →
 Q (.int .i64 (-1)) w29)) ∧
 ((decide (n2_0 = 4)) = false →
 ((decide (n2_0 = 5)) = true →
 StepT Tryz.prog (Instr.buildSlice 37 1 #[(0, (.int .i64 0))]) v fun r34 w35 =>
 ∃ x36 : Sl, r34 = x36.val ∧
 ∃ q37 : Bool, (Trip Tryz.prog 102 #[x_1.val, x2_3.val, x36.val] w35 fun r38 w39 => r38 = .bool q37 ∧ Sub w35 w39) ∧
 (q37 = true →
 Q (.int .i64 0) w35) ∧
 (q37 = false →
 Q (.int .i64 (-1)) w35)) ∧
 ((decide (n2_0 = 5)) = false →
 ((decide (n2_0 = 6)) = true →
 ∃ n40 : Int, (Trip Tryz.prog 103 #[x0_0.val, .int .i64 n2_1] v fun r41 w42 => r41 = .int .i64 n40 ∧ Sub v w42) ∧
 ((decide (n40 > 0)) = true →
 Trip Tryz.prog 104 #[x0_0.val, .int .i64 n2_1] v fun r43 w44 =>
 ∃ x45 : Sl, r43 = x45.val ∧
 Sub v w44 ∧
 ∃ q46 : Bool, (Trip Tryz.prog 102 #[x_1.val, x2_3.val, x45.val] w44 fun r47 w48 => r47 = .bool q46 ∧ Sub w44 w48) ∧
 (q46 = true →
 ∃ n49 : Int, (Trip Tryz.prog 103 #[x0_0.val, .int .i64 n2_1] w44 fun r50 w51 => r50 = .int .i64 n49 ∧ Sub w44 w51) ∧
 Q (.int .i64 n49) w44) ∧
 (q46 = false →
 Q (.int .i64 (-1)) w44)) ∧
 ((decide (n40 > 0)) = false →
 Sub v v ∧
 Q (.int .i64 (-1)) v)) ∧
 ((decide (n2_0 = 6)) = false →
 ((decide (n2_0 = 7)) = true →
 StepT Tryz.prog (Instr.buildSlice 37 1 #[(0, (.int .i64 0))]) v fun r52 w53 =>
 ∃ x54 : Sl, r52 = x54.val ∧
 ∃ q55 : Bool, (Trip Tryz.prog 102 #[x_1.val, x2_3.val, x54.val] w53 fun r56 w57 => r56 = .bool q55 ∧ Sub w53 w57) ∧
 (q55 = true →
 ∃ n58 : Int, (Trip Tryz.prog 105 #[.agg #[x0_0.val, x0_1.val], x_1.val, .agg #[.int .i64 n2_0, .int .i64 n2_1, .int .i64 n2_2, x2_3.val, x2_4.val]] w53 fun r59 w60 => r59 = .int .i64 n58 ∧ Sub w53 w60) ∧
 Q (.int .i64 n58) w53) ∧
 (q55 = false →
 Q (.int .i64 (-1)) w53)) ∧
 ((decide (n2_0 = 7)) = false →
 ((decide (n2_0 = 8)) = true →
 StepT Tryz.prog (Instr.buildSlice 37 1 #[(0, (.int .i64 n2_1))]) v fun r61 w62 =>
 ∃ x63 : Sl, r61 = x63.val ∧
 ∃ q64 : Bool, (Trip Tryz.prog 102 #[x_1.val, x2_3.val, x63.val] w62 fun r65 w66 => r65 = .bool q64 ∧ Sub w62 w66) ∧
 (q64 = true →
 ∃ n67 : Int, (Trip Tryz.prog 105 #[.agg #[x0_0.val, x0_1.val], x_1.val, .agg #[.int .i64 n2_0, .int .i64 n2_1, .int .i64 n2_2, x2_3.val, x2_4.val]] w62 fun r68 w69 => r68 = .int .i64 n67 ∧ Sub w62 w69) ∧
 Q (.int .i64 n67) w62) ∧
 (q64 = false →
 Q (.int .i64 (-1)) w62)) ∧
 ((decide (n2_0 = 8)) = false →
 ((decide (n2_0 = 9)) = true →
 ∃ n70 : Int, (Trip Tryz.prog 106 #[.agg #[x0_0.val, x0_1.val], x_1.val, .agg #[.int .i64 n2_0, .int .i64 n2_1, .int .i64 n2_2, x2_3.val, x2_4.val]] v fun r71 w72 => r71 = .int .i64 n70 ∧ Sub v w72) ∧
 Q (.int .i64 n70) v) ∧
 ((decide (n2_0 = 9)) = false →
 ((decide (n2_0 = 10)) = true →
 ∃ n73 : Int, (Trip Tryz.prog 106 #[.agg #[x0_0.val, x0_1.val], x_1.val, .agg #[.int .i64 n2_0, .int .i64 n2_1, .int .i64 n2_2, x2_3.val, x2_4.val]] v fun r74 w75 => r74 = .int .i64 n73 ∧ Sub v w75) ∧
 Q (.int .i64 n73) v) ∧
 ((decide (n2_0 = 10)) = false →
 ((decide (n2_0 = 11)) = true →
 ((decide ((x2_3.n : Int) = 2)) = true →
 IxOk x2_3 0) ∧
 ∃ n76 : Int, ((decide ((x2_3.n : Int) = 2)) = true →
 v.cell? ((elA x2_3 0 1).add 0) = some (.int .i64 n76)) ∧
 ∃ n77 : Int, ((decide ((x2_3.n : Int) = 2)) = true →
 Wr .i64 ((x_1.n : Int) - 1) n77) ∧
 ∃ q78 : Bool, ((decide ((x2_3.n : Int) = 2)) = true →
 (Trip Tryz.prog 28 #[.int .i64 n76, .int .i64 0, .int .i64 n77] v fun r79 w80 => r79 = .bool q78 ∧ Sub v w80)) ∧
 (((decide ((x2_3.n : Int) = 2)) && q78) = true →
 IxOk x2_3 0) ∧
 ∃ n81 : Int, (((decide ((x2_3.n : Int) = 2)) && q78) = true →
 v.cell? ((elA x2_3 0 1).add 0) = some (.int .i64 n81)) ∧
 (((decide ((x2_3.n : Int) = 2)) && q78) = true →
 IxOk x_1 n81) ∧
 ∃ n82 : Int, (((decide ((x2_3.n : Int) = 2)) && q78) = true →
 v.cell? ((elA x_1 n81 1).add 0) = some (.int .i64 n82)) ∧
 ∃ q83 : Bool, (((decide ((x2_3.n : Int) = 2)) && q78) = true →
 (Trip Tryz.prog 107 #[x0_0.val, .int .i64 n82] v fun r84 w85 => r84 = .bool q83 ∧ Sub v w85)) ∧
 ((((decide ((x2_3.n : Int) = 2)) && q78) && q83) = true →
 IxOk x2_3 0 ∧
 ∃ n86 : Int, v.cell? ((elA x2_3 0 1).add 0) = some (.int .i64 n86) ∧
 IxOk x_1 n86 ∧
 ∃ n87 : Int, v.cell? ((elA x_1 n86 1).add 0) = some (.int .i64 n87) ∧
 ∃ n88 : Int, Wr .i64 (n87 - 1) n88 ∧
 IxOk x0_0 n88 ∧
 ∃ n89 : Int, ∃ n90 : Int, ∃ x91 : Sl, (v.cell? ((elA x0_0 n88 3).add 0) = some (.int .i64 n89) ∧
 v.cell? ((elA x0_0 n88 3).add 1) = some (.int .i64 n90) ∧
 v.cell? ((elA x0_0 n88 3).add 2) = some (x91.val)) ∧
 Sub v v ∧
 ((0 : Int) ≤ 1 ∧ 1 ≤ (x2_3.n : Int)) ∧
 StepT Tryz.prog (Instr.buildSlice 37 1 #[(0, (.int .i64 n89))]) v fun r92 w93 =>
 ∃ x94 : Sl, r92 = x94.val ∧
 Sub v w93 ∧
 ∃ q95 : Bool, (Trip Tryz.prog 102 #[x_1.val, (x2_3.cut 1 (x2_3.n : Int) 1).val, x94.val] w93 fun r96 w97 => r96 = .bool q95 ∧ Sub w93 w97) ∧
 (q95 = true →
 Q (.int .i64 n90) w93) ∧
 (q95 = false →
 Q (.int .i64 (-1)) w93)) ∧
 ((((decide ((x2_3.n : Int) = 2)) && q78) && q83) = false →
 Q (.int .i64 (-1)) v)) ∧
 ((decide (n2_0 = 11)) = false →
 ((decide (n2_0 = 14)) = true →
 ∃ n98 : Int, (Trip Tryz.prog 108 #[.agg #[x0_0.val, x0_1.val], x_1.val, .agg #[.int .i64 n2_0, .int .i64 n2_1, .int .i64 n2_2, x2_3.val, x2_4.val]] v fun r99 w100 => r99 = .int .i64 n98 ∧ Sub v w100) ∧
 Q (.int .i64 n98) v) ∧
 ((decide (n2_0 = 14)) = false →
 ((decide (n2_0 = 15)) = true →
 ∃ n101 : Int, (Trip Tryz.prog 108 #[.agg #[x0_0.val, x0_1.val], x_1.val, .agg #[.int .i64 n2_0, .int .i64 n2_1, .int .i64 n2_2, x2_3.val, x2_4.val]] v fun r102 w103 => r102 = .int .i64 n101 ∧ Sub v w103) ∧
 Q (.int .i64 n101) v) ∧
 ((decide (n2_0 = 15)) = false →
 ((decide (n2_0 = 16)) = true →
 ∃ n104 : Int, (Trip Tryz.prog 108 #[.agg #[x0_0.val, x0_1.val], x_1.val, .agg #[.int .i64 n2_0, .int .i64 n2_1, .int .i64 n2_2, x2_3.val, x2_4.val]] v fun r105 w106 => r105 = .int .i64 n104 ∧ Sub v w106) ∧
 Q (.int .i64 n104) v) ∧
 ((decide (n2_0 = 16)) = false →
 ((decide (n2_0 = 17)) = true →
 ∃ n107 : Int, (Trip Tryz.prog 108 #[.agg #[x0_0.val, x0_1.val], x_1.val, .agg #[.int .i64 n2_0, .int .i64 n2_1, .int .i64 n2_2, x2_3.val, x2_4.val]] v fun r108 w109 => r108 = .int .i64 n107 ∧ Sub v w109) ∧
 Q (.int .i64 n107) v) ∧
 ((decide (n2_0 = 17)) = false →
 Q (.int .i64 (-1)) v)))))))))))))))))
theorem of74 (x0_0 : Sl) (x0_1 : Sl) (x_1 : Sl) (n2_0 : Int) (n2_1 : Int) (n2_2 : Int) (x2_3 : Sl) (x2_4 : Sl) (v : World) (Q : Value → World → Prop) (h : vc74 x0_0 x0_1 x_1 n2_0 n2_1 n2_2 x2_3 x2_4 v Q) : Trip Tryz.prog 74 #[.agg #[x0_0.val, x0_1.val], x_1.val, .agg #[.int .i64 n2_0, .int .i64 n2_1, .int .i64 n2_2, x2_3.val, x2_4.val]] v Q :=
 trip_of_eq (args := [.ag [.sl x0_0, .sl x0_1], .sl x_1, .ag [.num .i64 n2_0, .num .i64 n2_1, .num .i64 n2_2, .sl x2_3, .sl x2_4]]) (A := ⟨[], [], [(17, [14]), (30, [12]), (31, [6])], [999999], psG⟩) Tryz.func74 (by kernel_rfl) (by kernel_rfl) (by kernel_rfl : vc74 x0_0 x0_1 x_1 n2_0 n2_1 n2_2 x2_3 x2_4 v Q = _) h

def vc75 (n_0 : Int) (v : World) (Q : Value → World → Prop) : Prop :=
 ∃ q1 : Bool, (Trip Tryz.prog 28 #[.int .i64 n_0, .int .i64 0, .int .i64 11] v fun r2 w3 => r2 = .bool q1 ∧ Sub v w3) ∧
 Q (.bool q1) v
theorem of75 (n_0 : Int) (v : World) (Q : Value → World → Prop) (h : vc75 n_0 v Q) : Trip Tryz.prog 75 #[.int .i64 n_0] v Q :=
 trip_of_eq (args := [.num .i64 n_0]) (A := ⟨[], [], [], [], psG⟩) Tryz.func75 (by kernel_rfl) (by kernel_rfl) (by kernel_rfl : vc75 n_0 v Q = _) h

def vc76 (a_0 : Addr) (n_1 : Int) (n_2 : Int) (n_3 : Int) (v : World) (Q : Value → World → Prop) : Prop :=
 ∃ x1 : Sl, v.cell? (a_0.add 0) = some (x1.val) ∧
 StepT Tryz.prog (Instr.buildSlice 37 1 #[(0, (.int .i64 n_1))]) v fun r2 w3 =>
 ∃ x4 : Sl, r2 = x4.val ∧
 StepT Tryz.prog (Builtin.append_ #[37, 37] 37 #[(x1.val), (x4.val)]) w3 fun r5 w6 =>
 ∃ x7 : Sl, r5 = x7.val ∧
 StoreAt w6 a_0 0 [x7.val] fun w8 =>
 ∃ x9 : Sl, w8.cell? (a_0.add 1) = some (x9.val) ∧
 StepT Tryz.prog (Instr.buildSlice 37 1 #[(0, (.int .i64 n_2))]) w8 fun r10 w11 =>
 ∃ x12 : Sl, r10 = x12.val ∧
 StepT Tryz.prog (Builtin.append_ #[37, 37] 37 #[(x9.val), (x12.val)]) w11 fun r13 w14 =>
 ∃ x15 : Sl, r13 = x15.val ∧
 StoreAt w14 a_0 1 [x15.val] fun w16 =>
 ∃ x17 : Sl, w16.cell? (a_0.add 2) = some (x17.val) ∧
 StepT Tryz.prog (Instr.buildSlice 37 1 #[(0, (.int .i64 n_3))]) w16 fun r18 w19 =>
 ∃ x20 : Sl, r18 = x20.val ∧
 StepT Tryz.prog (Builtin.append_ #[37, 37] 37 #[(x17.val), (x20.val)]) w19 fun r21 w22 =>
 ∃ x23 : Sl, r21 = x23.val ∧
 StoreAt w22 a_0 2 [x23.val] fun w24 =>
 ∃ x25 : Sl, w24.cell? (a_0.add 3) = some (x25.val) ∧
 StepT Tryz.prog (Instr.buildSlice 37 1 #[(0, (.int .i64 (-1)))]) w24 fun r26 w27 =>
 ∃ x28 : Sl, r26 = x28.val ∧
 StepT Tryz.prog (Builtin.append_ #[37, 37] 37 #[(x25.val), (x28.val)]) w27 fun r29 w30 =>
 ∃ x31 : Sl, r29 = x31.val ∧
 StoreAt w30 a_0 3 [x31.val] fun w32 =>
 ∃ x33 : Sl, w32.cell? (a_0.add 4) = some (x33.val) ∧
 StepT Tryz.prog (Instr.buildSlice 37 1 #[(0, (.int .i64 (-1)))]) w32 fun r34 w35 =>
 ∃ x36 : Sl, r34 = x36.val ∧
 StepT Tryz.prog (Builtin.append_ #[37, 37] 37 #[(x33.val), (x36.val)]) w35 fun r37 w38 =>
 ∃ x39 : Sl, r37 = x39.val ∧
 StoreAt w38 a_0 4 [x39.val] fun w40 =>
 ∃ x41 : Sl, w40.cell? (a_0.add 5) = some (x41.val) ∧
 StepT Tryz.prog (Instr.buildSlice 37 1 #[(0, (.int .i64 (-1)))]) w40 fun r42 w43 =>
 ∃ x44 : Sl, r42 = x44.val ∧
 StepT Tryz.prog (Builtin.append_ #[37, 37] 37 #[(x41.val), (x44.val)]) w43 fun r45 w46 =>
 ∃ x47 : Sl, r45 = x47.val ∧
 StoreAt w46 a_0 5 [x47.val] fun w48 =>
 Q (.tuple #[]) w48
theorem of76 (a_0 : Addr) (n_1 : Int) (n_2 : Int) (n_3 : Int) (v : World) (Q : Value → World → Prop) (h : vc76 a_0 n_1 n_2 n_3 v Q) : Trip Tryz.prog 76 #[.pointer (some (a_0.add 0)), .int .i64 n_1, .int .i64 n_2, .int .i64 n_3] v Q :=
 trip_of_eq (args := [.pt a_0 0, .num .i64 n_1, .num .i64 n_2, .num .i64 n_3]) (A := ⟨[], [], [], [], psG⟩) Tryz.func76 (by kernel_rfl) (by kernel_rfl) (by kernel_rfl : vc76 a_0 n_1 n_2 n_3 v Q = _) h

def vc77 (a_0 : Addr) (n_1 : Int) (v : World) (Q : Value → World → Prop) : Prop :=
 ∃ x1 : Sl, v.cell? (a_0.add 1) = some (x1.val) ∧
 IxOk x1 n_1 ∧
 ∃ n2 : Int, v.cell? ((elA x1 n_1 1).add 0) = some (.int .i64 n2) ∧
 ((decide (n2 < 1)) = true →
 Q (.bool false) v) ∧
 ((decide (n2 < 1)) = false →
 ∃ x3 : Sl, v.cell? (a_0.add 1) = some (x3.val) ∧
 ∃ x4 : Sl, v.cell? (a_0.add 1) = some (x4.val) ∧
 IxOk x4 n_1 ∧
 ∃ n5 : Int, v.cell? ((elA x4 n_1 1).add 0) = some (.int .i64 n5) ∧
 ∃ n6 : Int, Wr .i64 (n5 - 1) n6 ∧
 IxOk x3 n_1 ∧
 StoreAt v (elA x3 n_1 1) 0 [.int .i64 n6] fun w7 =>
 Q (.bool true) w7)
theorem of77 (a_0 : Addr) (n_1 : Int) (v : World) (Q : Value → World → Prop) (h : vc77 a_0 n_1 v Q) : Trip Tryz.prog 77 #[.pointer (some (a_0.add 0)), .int .i64 n_1] v Q :=
 trip_of_eq (args := [.pt a_0 0, .num .i64 n_1]) (A := ⟨[], [], [(3, [])], [], psG⟩) Tryz.func77 (by kernel_rfl) (by kernel_rfl) (by kernel_rfl : vc77 a_0 n_1 v Q = _) h

def vc78 (x_0 : Sl) (v : World) (Q : Value → World → Prop) : Prop :=
 StepT Tryz.prog (Instr.makeSlice 87 (.int .i64 (x_0.n : Int)) (.int .i64 (x_0.n : Int))) v fun r1 w2 =>
 ∃ x3 : Sl, r1 = x3.val ∧
 ∃ I4 : Int → World → Prop, ∃ m5 : Int → World → Nat, I4 0 w2 ∧
 ∀ n6 : Int, ∀ w7 : World, I4 n6 w7 →
 ((decide (n6 < (x_0.n : Int))) = true →
 IxOk x_0 n6 ∧
 ∃ x8 : Sl, w7.cell? ((elA x_0 n6 1).add 0) = some (x8.val) ∧
 Trip Tryz.prog 109 #[.agg #[x8.val]] w7 fun r9 w10 =>
 ∃ x11 : Sl, r9 = .agg #[x11.val] ∧
 IxOk x3 n6 ∧
 StoreAt w10 (elA x3 n6 1) 0 [x11.val] fun w12 =>
 ∃ n13 : Int, Wr .i64 (n6 + 1) n13 ∧
 I4 n13 w12 ∧
 m5 n13 w12 < m5 n6 w7) ∧
 ((decide (n6 < (x_0.n : Int))) = false →
 Q (x3.val) w7)
theorem of78 (x_0 : Sl) (v : World) (Q : Value → World → Prop) (h : vc78 x_0 v Q) : Trip Tryz.prog 78 #[x_0.val] v Q :=
 trip_of_eq (args := [.sl x_0]) (A := ⟨[(3, [(4, .int .i64)], [])], [], [], [], psG⟩) Tryz.func78 (by kernel_rfl) (by kernel_rfl) (by kernel_rfl : vc78 x_0 v Q = _) h

def vc79 (x_0 : Sl) (v : World) (Q : Value → World → Prop) : Prop :=
 StepT Tryz.prog (Instr.makeSlice 37 (.int .i64 (x_0.n : Int)) (.int .i64 (x_0.n : Int))) v fun r1 w2 =>
 ∃ x3 : Sl, r1 = x3.val ∧
 ∃ I4 : Int → World → Prop, ∃ m5 : Int → World → Nat, I4 0 w2 ∧
 ∀ n6 : Int, ∀ w7 : World, I4 n6 w7 →
 ((decide (n6 < (x_0.n : Int))) = true →
 IxOk x_0 n6 ∧
 ∃ n8 : Int, w7.cell? ((elA x_0 n6 1).add 0) = some (.int .i64 n8) ∧
 IxOk x3 n6 ∧
 StoreAt w7 (elA x3 n6 1) 0 [.int .i64 n8] fun w9 =>
 ∃ n10 : Int, Wr .i64 (n6 + 1) n10 ∧
 I4 n10 w9 ∧
 m5 n10 w9 < m5 n6 w7) ∧
 ((decide (n6 < (x_0.n : Int))) = false →
 Q (x3.val) w7)
theorem of79 (x_0 : Sl) (v : World) (Q : Value → World → Prop) (h : vc79 x_0 v Q) : Trip Tryz.prog 79 #[x_0.val] v Q :=
 trip_of_eq (args := [.sl x_0]) (A := ⟨[(3, [(4, .int .i64)], [])], [], [], [], psG⟩) Tryz.func79 (by kernel_rfl) (by kernel_rfl) (by kernel_rfl : vc79 x_0 v Q = _) h

def vc80 (x0_0 : Sl) (n0_1 : Int) (v : World) (Q : Value → World → Prop) : Prop :=
 Trip Tryz.prog 110 #[x0_0.val] v fun r1 w2 =>
 ∃ x3 : Sl, r1 = x3.val ∧
 Q (.agg #[x3.val, .int .i64 n0_1]) w2
theorem of80 (x0_0 : Sl) (n0_1 : Int) (v : World) (Q : Value → World → Prop) (h : vc80 x0_0 n0_1 v Q) : Trip Tryz.prog 80 #[.agg #[x0_0.val, .int .i64 n0_1]] v Q :=
 trip_of_eq (args := [.ag [.sl x0_0, .num .i64 n0_1]]) (A := ⟨[], [], [], [], psG⟩) Tryz.func80 (by kernel_rfl) (by kernel_rfl) (by kernel_rfl : vc80 x0_0 n0_1 v Q = _) h

def vc81 (x_0 : Sl) (x_1 : Sl) (v : World) (Q : Value → World → Prop) : Prop :=
 ∃ q1 : Bool, (Trip Tryz.prog 111 #[x_0.val] v fun r2 w3 => r2 = .bool q1 ∧ Sub v w3) ∧
 ((((!q1) || (decide ((x_1.n : Int) < 1))) || (decide ((x_1.n : Int) > 4))) = false →
 IxOk x_1 0) ∧
 ∃ x4 : Sl, ((((!q1) || (decide ((x_1.n : Int) < 1))) || (decide ((x_1.n : Int) > 4))) = false →
 v.cell? ((elA x_1 0 3).add 0) = some (x4.val)) ∧
 (((((!q1) || (decide ((x_1.n : Int) < 1))) || (decide ((x_1.n : Int) > 4))) || (decide ((x4.n : Int) > 0))) = false →
 IxOk x_1 0) ∧
 ∃ n5 : Int, (((((!q1) || (decide ((x_1.n : Int) < 1))) || (decide ((x_1.n : Int) > 4))) || (decide ((x4.n : Int) > 0))) = false →
 v.cell? ((elA x_1 0 3).add 2) = some (.int .i64 n5)) ∧
 ((((((!q1) || (decide ((x_1.n : Int) < 1))) || (decide ((x_1.n : Int) > 4))) || (decide ((x4.n : Int) > 0))) || (!decide (n5 = 0))) = true →
 Q (.bool false) v) ∧
 ((((((!q1) || (decide ((x_1.n : Int) < 1))) || (decide ((x_1.n : Int) > 4))) || (decide ((x4.n : Int) > 0))) || (!decide (n5 = 0))) = false →
 ∃ I6 : Int → World → Prop, ∃ m7 : Int → World → Nat, I6 0 v ∧
 ∀ n8 : Int, ∀ w9 : World, I6 n8 w9 →
 ((decide (n8 < (x_1.n : Int))) = true →
 IxOk x_1 n8 ∧
 ∃ x10 : Sl, ∃ x11 : Sl, ∃ n12 : Int, (w9.cell? ((elA x_1 n8 3).add 0) = some (x10.val) ∧
 w9.cell? ((elA x_1 n8 3).add 1) = some (x11.val) ∧
 w9.cell? ((elA x_1 n8 3).add 2) = some (.int .i64 n12)) ∧
 ∃ q13 : Bool, ((decide ((x10.n : Int) > 3)) = false →
 (Trip Tryz.prog 112 #[x_0.val, x10.val] w9 fun r14 w15 => r14 = .bool q13 ∧ Sub w9 w15)) ∧
 ∃ q16 : Bool, (((decide ((x10.n : Int) > 3)) || (!q13)) = false →
 (Trip Tryz.prog 113 #[x_0.val, .int .i64 n12] w9 fun r17 w18 => r17 = .bool q16 ∧ Sub w9 w18)) ∧
 ((((decide ((x10.n : Int) > 3)) || (!q13)) || (!q16)) = true →
 Q (.bool false) w9) ∧
 ((((decide ((x10.n : Int) > 3)) || (!q13)) || (!q16)) = false →
 ∃ I19 : Int → World → Prop, ∃ m20 : Int → World → Nat, I19 0 w9 ∧
 ∀ n21 : Int, ∀ w22 : World, I19 n21 w22 →
 ((decide (n21 < (x11.n : Int))) = true →
 IxOk x11 n21 ∧
 ∃ n23 : Int, w22.cell? ((elA x11 n21 1).add 0) = some (.int .i64 n23) ∧
 (((decide (n23 < 0)) || (decide (n23 ≥ (x10.n : Int)))) = false →
 IxOk x10 n23) ∧
 ∃ n24 : Int, (((decide (n23 < 0)) || (decide (n23 ≥ (x10.n : Int)))) = false →
 w22.cell? ((elA x10 n23 1).add 0) = some (.int .i64 n24)) ∧
 ∃ n25 : Int, ((decide (n21 > 0)) = true →
 (((decide (n23 < 0)) || (decide (n23 ≥ (x10.n : Int)))) || (decide (n24 = 0))) = false →
 Wr .i64 (n21 - 1) n25) ∧
 ((decide (n21 > 0)) = true →
 (((decide (n23 < 0)) || (decide (n23 ≥ (x10.n : Int)))) || (decide (n24 = 0))) = false →
 IxOk x11 n25) ∧
 ∃ n26 : Int, ((decide (n21 > 0)) = true →
 (((decide (n23 < 0)) || (decide (n23 ≥ (x10.n : Int)))) || (decide (n24 = 0))) = false →
 w22.cell? ((elA x11 n25 1).add 0) = some (.int .i64 n26)) ∧
 (((((decide (n23 < 0)) || (decide (n23 ≥ (x10.n : Int)))) || (decide (n24 = 0))) || ((decide (n21 > 0)) && (decide (n23 ≤ n26)))) = true →
 Q (.bool false) w22) ∧
 (((((decide (n23 < 0)) || (decide (n23 ≥ (x10.n : Int)))) || (decide (n24 = 0))) || ((decide (n21 > 0)) && (decide (n23 ≤ n26)))) = false →
 ∃ n27 : Int, Wr .i64 (n21 + 1) n27 ∧
 ((.sl x10 : SV) = .sl x10) ∧
 ((.sl x11 : SV) = .sl x11) ∧
 ((.num .i64 n12 : SV) = .num .i64 n12) ∧
 I19 n27 w22 ∧
 m20 n27 w22 < m20 n21 w22)) ∧
 ((decide (n21 < (x11.n : Int))) = false →
 ∃ n28 : Int, Wr .i64 (n8 + 1) n28 ∧
 I6 n28 w22 ∧
 m7 n28 w22 < m7 n8 w9))) ∧
 ((decide (n8 < (x_1.n : Int))) = false →
 Q (.bool true) w9))
theorem of81 (x_0 : Sl) (x_1 : Sl) (v : World) (Q : Value → World → Prop) (h : vc81 x_0 x_1 v Q) : Trip Tryz.prog 81 #[x_0.val, x_1.val] v Q :=
 trip_of_eq (args := [.sl x_0, .sl x_1]) (A := ⟨[(4, [(39, .int .i64)], []), (9, [(64, .int .i64)], [])], [], [], [], psG⟩) Tryz.func81 (by kernel_rfl) (by kernel_rfl) (by kernel_rfl : vc81 x_0 x_1 v Q = _) h

def vc82 (x0_0 : Sl) (n0_1 : Int) (a_1 : Addr) (v : World) (Q : Value → World → Prop) : Prop :=
 ∃ I1 : Int → World → Prop, ∃ m2 : Int → World → Nat, I1 0 v ∧
 ∀ n3 : Int, ∀ w4 : World, I1 n3 w4 →
 ((decide (n3 < (x0_0.n : Int))) = true →
 IxOk x0_0 n3 ∧
 ∃ n5 : Int, ∃ n6 : Int, ∃ n7 : Int, ∃ x8 : Sl, ∃ x9 : Sl, (w4.cell? ((elA x0_0 n3 5).add 0) = some (.int .i64 n5) ∧
 w4.cell? ((elA x0_0 n3 5).add 1) = some (.int .i64 n6) ∧
 w4.cell? ((elA x0_0 n3 5).add 2) = some (.int .i64 n7) ∧
 w4.cell? ((elA x0_0 n3 5).add 3) = some (x8.val) ∧
 w4.cell? ((elA x0_0 n3 5).add 4) = some (x9.val)) ∧
 ∃ n10 : Int, w4.cell? (a_1.add 0) = some (.int .i64 n10) ∧
 ∃ n11 : Int, Wr .i64 (n10 + 1) n11 ∧
 StoreAt w4 a_1 0 [.int .i64 n11] fun w12 =>
 ∃ n13 : Int, w12.cell? (a_1.add 0) = some (.int .i64 n13) ∧
 ((decide (n13 > 600)) = true →
 Q (.bool false) w12) ∧
 ((decide (n13 > 600)) = false →
 ∃ I14 : Int → World → Prop, ∃ m15 : Int → World → Nat, I14 0 w12 ∧
 ∀ n16 : Int, ∀ w17 : World, I14 n16 w17 →
 ((decide (n16 < (x9.n : Int))) = true →
 IxOk x9 n16 ∧
 ∃ x18 : Sl, ∃ n19 : Int, (w17.cell? ((elA x9 n16 2).add 0) = some (x18.val) ∧
 w17.cell? ((elA x9 n16 2).add 1) = some (.int .i64 n19)) ∧
 Trip Tryz.prog 82 #[.agg #[x18.val, .int .i64 n19], .pointer (some (a_1.add 0))] w17 fun r20 w21 =>
 ∃ q22 : Bool, r20 = .bool q22 ∧
 ((!q22) = true →
 Q (.bool false) w21) ∧
 ((!q22) = false →
 ∃ n23 : Int, Wr .i64 (n16 + 1) n23 ∧
 ((.sl x0_0 : SV) = .sl x0_0) ∧
 ((.num .i64 n0_1 : SV) = .num .i64 n0_1) ∧
 ((.num .i64 n5 : SV) = .num .i64 n5) ∧
 ((.num .i64 n6 : SV) = .num .i64 n6) ∧
 ((.num .i64 n7 : SV) = .num .i64 n7) ∧
 ((.sl x8 : SV) = .sl x8) ∧
 ((.sl x9 : SV) = .sl x9) ∧
 I14 n23 w21 ∧
 m15 n23 w21 < m15 n16 w17)) ∧
 ((decide (n16 < (x9.n : Int))) = false →
 ∃ n24 : Int, Wr .i64 (n3 + 1) n24 ∧
 ((.sl x0_0 : SV) = .sl x0_0) ∧
 ((.num .i64 n0_1 : SV) = .num .i64 n0_1) ∧
 I1 n24 w17 ∧
 m2 n24 w17 < m2 n3 w4))) ∧
 ((decide (n3 < (x0_0.n : Int))) = false →
 Q (.bool true) w4)
theorem of82 (x0_0 : Sl) (n0_1 : Int) (a_1 : Addr) (v : World) (Q : Value → World → Prop) (h : vc82 x0_0 n0_1 a_1 v Q) : Trip Tryz.prog 82 #[.agg #[x0_0.val, .int .i64 n0_1], .pointer (some (a_1.add 0))] v Q :=
 trip_of_eq (args := [.ag [.sl x0_0, .num .i64 n0_1], .pt a_1 0]) (A := ⟨[(2, [(12, .int .i64)], []), (8, [(28, .int .i64)], [])], [], [], [], psG⟩) Tryz.func82 (by kernel_rfl) (by kernel_rfl) (by kernel_rfl : vc82 x0_0 n0_1 a_1 v Q = _) h

def vc83 (x_0 : Sl) (v : World) (Q : Value → World → Prop) : Prop :=
 ∃ q1 : Bool, PureT Tryz.prog (do eqGuard .eql 37 (.tmp 3) (.const (.slice none 0 0)) (x_0.val) (.slice none 0 0); binOp .eql 37 (x_0.val) (.slice none 0 0)) v (.bool q1) ∧
 (q1 = true →
 Q (.slice none 0 0) v) ∧
 (q1 = false →
 StepT Tryz.prog (Instr.buildSlice 37 0 #[]) v fun r2 w3 =>
 ∃ x4 : Sl, r2 = x4.val ∧
 StepT Tryz.prog (Builtin.append_ #[37, 37] 37 #[(x4.val), (x_0.val)]) w3 fun r5 w6 =>
 ∃ x7 : Sl, r5 = x7.val ∧
 Q (x7.val) w6)
theorem of83 (x_0 : Sl) (v : World) (Q : Value → World → Prop) (h : vc83 x_0 v Q) : Trip Tryz.prog 83 #[x_0.val] v Q :=
 trip_of_eq (args := [.sl x_0]) (A := ⟨[], [], [], [], psG⟩) Tryz.func83 (by kernel_rfl) (by kernel_rfl) (by kernel_rfl : vc83 x_0 v Q = _) h

def vc84 (x0_0 : Sl) (x0_1 : Sl) (x_1 : Sl) (n2_0 : Int) (n2_1 : Int) (n2_2 : Int) (x2_3 : Sl) (x2_4 : Sl) (v : World) (Q : Value → World → Prop) : Prop :=
 StepT Tryz.prog (Instr.makeSlice 37 (.int .i64 0) (.int .i64 (x2_3.n : Int))) v fun r1 w2 =>
 ∃ x3 : Sl, r1 = x3.val ∧
 ∃ I4 : Sl → Int → World → Prop, ∃ m5 : Sl → Int → World → Nat, I4 x3 0 w2 ∧
 ∀ x6 : Sl, ∀ n7 : Int, ∀ w8 : World, I4 x6 n7 w8 →
 ((decide (n7 < (x2_3.n : Int))) = true →
 IxOk x2_3 n7 ∧
 ∃ n9 : Int, w8.cell? ((elA x2_3 n7 1).add 0) = some (.int .i64 n9) ∧
 (((decide (n9 < 0)) || (decide (n9 ≥ (x_1.n : Int)))) = true →
 Q (.tuple #[.int .i64 (-1), .bool false]) w8) ∧
 (((decide (n9 < 0)) || (decide (n9 ≥ (x_1.n : Int)))) = false →
 IxOk x_1 n9 ∧
 ∃ n10 : Int, w8.cell? ((elA x_1 n9 1).add 0) = some (.int .i64 n10) ∧
 StepT Tryz.prog (Instr.buildSlice 37 1 #[(0, (.int .i64 n10))]) w8 fun r11 w12 =>
 ∃ x13 : Sl, r11 = x13.val ∧
 StepT Tryz.prog (Builtin.append_ #[37, 37] 37 #[(x6.val), (x13.val)]) w12 fun r14 w15 =>
 ∃ x16 : Sl, r14 = x16.val ∧
 ∃ n17 : Int, Wr .i64 (n7 + 1) n17 ∧
 ((.sl x0_0 : SV) = .sl x0_0) ∧
 ((.sl x0_1 : SV) = .sl x0_1) ∧
 ((.num .i64 n2_0 : SV) = .num .i64 n2_0) ∧
 ((.num .i64 n2_1 : SV) = .num .i64 n2_1) ∧
 ((.num .i64 n2_2 : SV) = .num .i64 n2_2) ∧
 ((.sl x2_3 : SV) = .sl x2_3) ∧
 ((.sl x2_4 : SV) = .sl x2_4) ∧
 I4 x16 n17 w15 ∧
 m5 x16 n17 w15 < m5 x6 n7 w8)) ∧
 ((decide (n7 < (x2_3.n : Int))) = false →
 ∃ n18 : Int, ((((!decide (n2_0 = 6)) || (decide (n2_2 < 1))) || (decide (n2_2 > (x_1.n : Int)))) = false →
 (!decide (n2_2 = 0)) = true →
 Wr .i64 (n2_2 - 1) n18) ∧
 ((((!decide (n2_0 = 6)) || (decide (n2_2 < 1))) || (decide (n2_2 > (x_1.n : Int)))) = false →
 (!decide (n2_2 = 0)) = true →
 IxOk x_1 n18) ∧
 ∃ n19 : Int, ((((!decide (n2_0 = 6)) || (decide (n2_2 < 1))) || (decide (n2_2 > (x_1.n : Int)))) = false →
 (!decide (n2_2 = 0)) = true →
 w8.cell? ((elA x_1 n18 1).add 0) = some (.int .i64 n19)) ∧
 (((!decide (n2_2 = 0)) && ((((!decide (n2_0 = 6)) || (decide (n2_2 < 1))) || (decide (n2_2 > (x_1.n : Int)))) || (decide (n19 = 0)))) = true →
 Q (.tuple #[.int .i64 (-1), .bool false]) w8) ∧
 (((!decide (n2_2 = 0)) && ((((!decide (n2_0 = 6)) || (decide (n2_2 < 1))) || (decide (n2_2 > (x_1.n : Int)))) || (decide (n19 = 0)))) = false →
 ∃ q20 : Bool, (Trip Tryz.prog 85 #[.int .i64 n2_0] w8 fun r21 w22 => r21 = .bool q20 ∧ Sub w8 w22) ∧
 (q20 = true →
 ((decide ((x6.n : Int) = 1)) = true →
 IxOk x6 0) ∧
 ∃ n23 : Int, ((decide ((x6.n : Int) = 1)) = true →
 w8.cell? ((elA x6 0 1).add 0) = some (.int .i64 n23)) ∧
 ((((((decide ((x6.n : Int) = 1)) && (!decide (n23 = 0))) && (decide (n2_1 = 0))) && (decide ((x2_4.n : Int) = 0))) && ((decide (n2_0 = 16)) || (decide (n2_0 = 17)))) = true →
 IxOk x6 0 ∧
 ∃ n24 : Int, w8.cell? ((elA x6 0 1).add 0) = some (.int .i64 n24) ∧
 ∃ n25 : Int, ∃ n26 : Int, ∃ x27 : Sl, ∃ q28 : Bool, (Trip Tryz.prog 114 #[x0_0.val, .int .i64 n24] w8 fun r29 w30 => r29 = .tuple #[.agg #[.int .i64 n25, .int .i64 n26, x27.val], .bool q28] ∧ Sub w8 w30) ∧
 Sub w8 w8 ∧
 Q (.tuple #[.int .i64 (-1), .bool (!q28)]) w8) ∧
 ((((((decide ((x6.n : Int) = 1)) && (!decide (n23 = 0))) && (decide (n2_1 = 0))) && (decide ((x2_4.n : Int) = 0))) && ((decide (n2_0 = 16)) || (decide (n2_0 = 17)))) = false →
 Q (.tuple #[.int .i64 (-1), .bool ((((decide ((x6.n : Int) = 1)) && (!decide (n23 = 0))) && (decide (n2_1 = 0))) && (decide ((x2_4.n : Int) = 0)))]) w8)) ∧
 (q20 = false →
 ((decide (n2_0 = 7)) = true →
 ((!decide ((x6.n : Int) = 1)) = false →
 IxOk x6 0) ∧
 ∃ n31 : Int, ((!decide ((x6.n : Int) = 1)) = false →
 w8.cell? ((elA x6 0 1).add 0) = some (.int .i64 n31)) ∧
 (((((!decide ((x6.n : Int) = 1)) || (!decide (n31 = 0))) || (!decide (n2_1 = 0))) || (!decide ((x2_4.n : Int) = 2))) = true →
 Q (.tuple #[.int .i64 (-1), .bool false]) w8) ∧
 (((((!decide ((x6.n : Int) = 1)) || (!decide (n31 = 0))) || (!decide (n2_1 = 0))) || (!decide ((x2_4.n : Int) = 2))) = false →
 StepT Tryz.prog (Instr.makeSlice 154 (.int .i64 2) (.int .i64 2)) w8 fun r32 w33 =>
 ∃ x34 : Sl, r32 = x34.val ∧
 Sub w8 w33 ∧
 Trip Tryz.prog 115 #[.agg #[x0_0.val, x0_1.val], x_1.val, x2_4.val, x34.val] w33 fun r35 w36 =>
 ∃ n37 : Int, ∃ q38 : Bool, r35 = .tuple #[.int .i64 n37, .bool q38] ∧
 Q (.tuple #[.int .i64 n37, .bool q38]) w36)) ∧
 ((decide (n2_0 = 7)) = false →
 ((decide (n2_0 = 8)) = true →
 Trip Tryz.prog 116 #[.agg #[x0_0.val, x0_1.val], .int .i64 n2_1] w8 fun r39 w40 =>
 ∃ x41 : Sl, r39 = x41.val ∧
 ((!decide ((x6.n : Int) = 1)) = false →
 IxOk x6 0) ∧
 ∃ n42 : Int, ((!decide ((x6.n : Int) = 1)) = false →
 w40.cell? ((elA x6 0 1).add 0) = some (.int .i64 n42)) ∧
 (((((!decide ((x6.n : Int) = 1)) || (!decide (n42 = n2_1))) || (decide ((x41.n : Int) = 0))) || (!decide ((x2_4.n : Int) = (x41.n : Int)))) = true →
 Q (.tuple #[.int .i64 (-1), .bool false]) w40) ∧
 (((((!decide ((x6.n : Int) = 1)) || (!decide (n42 = n2_1))) || (decide ((x41.n : Int) = 0))) || (!decide ((x2_4.n : Int) = (x41.n : Int)))) = false →
 Trip Tryz.prog 115 #[.agg #[x0_0.val, x0_1.val], x_1.val, x2_4.val, x41.val] w40 fun r43 w44 =>
 ∃ n45 : Int, ∃ q46 : Bool, r43 = .tuple #[.int .i64 n45, .bool q46] ∧
 Q (.tuple #[.int .i64 n45, .bool q46]) w44)) ∧
 ((decide (n2_0 = 8)) = false →
 ((((decide (n2_0 = 10)) && (decide (n2_1 ≥ 0))) && (decide (n2_1 < (x0_1.n : Int)))) = true →
 (decide ((x2_4.n : Int) > 0)) = false →
 IxOk x0_1 n2_1) ∧
 ∃ x47 : Sl, ((((decide (n2_0 = 10)) && (decide (n2_1 ≥ 0))) && (decide (n2_1 < (x0_1.n : Int)))) = true →
 (decide ((x2_4.n : Int) > 0)) = false →
 w8.cell? ((elA x0_1 n2_1 3).add 1) = some (x47.val)) ∧
 (((decide ((x2_4.n : Int) > 0)) || ((((decide (n2_0 = 10)) && (decide (n2_1 ≥ 0))) && (decide (n2_1 < (x0_1.n : Int)))) && (decide ((x47.n : Int) > 0)))) = true →
 Q (.tuple #[.int .i64 (-1), .bool false]) w8) ∧
 (((decide ((x2_4.n : Int) > 0)) || ((((decide (n2_0 = 10)) && (decide (n2_1 ≥ 0))) && (decide (n2_1 < (x0_1.n : Int)))) && (decide ((x47.n : Int) > 0)))) = false →
 ∃ n48 : Int, ∃ q49 : Bool, (Trip Tryz.prog 117 #[.agg #[x0_0.val, x0_1.val], .int .i64 n2_0, .int .i64 n2_1, x6.val] w8 fun r50 w51 => r50 = .tuple #[.int .i64 n48, .bool q49] ∧ Sub w8 w51) ∧
 Q (.tuple #[.int .i64 n48, .bool q49]) w8))))))
theorem of84 (x0_0 : Sl) (x0_1 : Sl) (x_1 : Sl) (n2_0 : Int) (n2_1 : Int) (n2_2 : Int) (x2_3 : Sl) (x2_4 : Sl) (v : World) (Q : Value → World → Prop) (h : vc84 x0_0 x0_1 x_1 n2_0 n2_1 n2_2 x2_3 x2_4 v Q) : Trip Tryz.prog 84 #[.agg #[x0_0.val, x0_1.val], x_1.val, .agg #[.int .i64 n2_0, .int .i64 n2_1, .int .i64 n2_2, x2_3.val, x2_4.val]] v Q :=
 trip_of_eq (args := [.ag [.sl x0_0, .sl x0_1], .sl x_1, .ag [.num .i64 n2_0, .num .i64 n2_1, .num .i64 n2_2, .sl x2_3, .sl x2_4]]) (A := ⟨[(3, [(8, .sl), (22, .int .i64)], [])], [], [(14, [9]), (20, [4])], [999999], psG⟩) Tryz.func84 (by kernel_rfl) (by kernel_rfl) (by kernel_rfl : vc84 x0_0 x0_1 x_1 n2_0 n2_1 n2_2 x2_3 x2_4 v Q = _) h

def vc85 (n_0 : Int) (v : World) (Q : Value → World → Prop) : Prop :=
 Q (.bool ((decide (n_0 ≥ 14)) && (decide (n_0 ≤ 17)))) v
theorem of85 (n_0 : Int) (v : World) (Q : Value → World → Prop) (h : vc85 n_0 v Q) : Trip Tryz.prog 85 #[.int .i64 n_0] v Q :=
 trip_of_eq (args := [.num .i64 n_0]) (A := ⟨[], [], [], [], psG⟩) Tryz.func85 (by kernel_rfl) (by kernel_rfl) (by kernel_rfl : vc85 n_0 v Q = _) h

def vc86 (a_0 : Addr) (n_1 : Int) (n_2 : Int) (v : World) (Q : Value → World → Prop) : Prop :=
 ∃ x1 : Sl, v.cell? (a_0.add 4) = some (x1.val) ∧
 StepT Tryz.prog (Instr.buildSlice 37 1 #[(0, (.int .i64 n_1))]) v fun r2 w3 =>
 ∃ x4 : Sl, r2 = x4.val ∧
 StepT Tryz.prog (Builtin.append_ #[37, 37] 37 #[(x1.val), (x4.val)]) w3 fun r5 w6 =>
 ∃ x7 : Sl, r5 = x7.val ∧
 StoreAt w6 a_0 4 [x7.val] fun w8 =>
 ∃ x9 : Sl, w8.cell? (a_0.add 5) = some (x9.val) ∧
 StepT Tryz.prog (Instr.buildSlice 37 1 #[(0, (.int .i64 n_2))]) w8 fun r10 w11 =>
 ∃ x12 : Sl, r10 = x12.val ∧
 StepT Tryz.prog (Builtin.append_ #[37, 37] 37 #[(x9.val), (x12.val)]) w11 fun r13 w14 =>
 ∃ x15 : Sl, r13 = x15.val ∧
 StoreAt w14 a_0 5 [x15.val] fun w16 =>
 ∃ x17 : Sl, w16.cell? (a_0.add 6) = some (x17.val) ∧
 StepT Tryz.prog (Instr.buildSlice 37 1 #[(0, (.int .i64 (-1)))]) w16 fun r18 w19 =>
 ∃ x20 : Sl, r18 = x20.val ∧
 StepT Tryz.prog (Builtin.append_ #[37, 37] 37 #[(x17.val), (x20.val)]) w19 fun r21 w22 =>
 ∃ x23 : Sl, r21 = x23.val ∧
 StoreAt w22 a_0 6 [x23.val] fun w24 =>
 Q (.tuple #[]) w24
theorem of86 (a_0 : Addr) (n_1 : Int) (n_2 : Int) (v : World) (Q : Value → World → Prop) (h : vc86 a_0 n_1 n_2 v Q) : Trip Tryz.prog 86 #[.pointer (some (a_0.add 0)), .int .i64 n_1, .int .i64 n_2] v Q :=
 trip_of_eq (args := [.pt a_0 0, .num .i64 n_1, .num .i64 n_2]) (A := ⟨[], [], [], [], psG⟩) Tryz.func86 (by kernel_rfl) (by kernel_rfl) (by kernel_rfl : vc86 a_0 n_1 n_2 v Q = _) h

def vc87 (a_0 : Addr) (n1_0 : Int) (n1_1 : Int) (n1_2 : Int) (x1_3 : Sl) (x1_4 : Sl) (v : World) (Q : Value → World → Prop) : Prop :=
 ∃ q1 : Bool, (Trip Tryz.prog 85 #[.int .i64 n1_0] v fun r2 w3 => r2 = .bool q1 ∧ Sub v w3) ∧
 (q1 = true →
 IxOk x1_3 0 ∧
 ∃ n4 : Int, v.cell? ((elA x1_3 0 1).add 0) = some (.int .i64 n4) ∧
 Trip Tryz.prog 118 #[.pointer (some (a_0.add 0)), .int .i64 n1_0, .int .i64 n4] v fun r5 w6 =>
 ∃ q7 : Bool, r5 = .bool q7 ∧
 Q (.bool q7) w6) ∧
 (q1 = false →
 (((decide (n1_0 = 7)) || (decide (n1_0 = 8))) = true →
 Trip Tryz.prog 119 #[.pointer (some (a_0.add 0)), .agg #[.int .i64 n1_0, .int .i64 n1_1, .int .i64 n1_2, x1_3.val, x1_4.val]] v fun r8 w9 =>
 ∃ q10 : Bool, r8 = .bool q10 ∧
 ((!q10) = true →
 Q (.bool false) w9) ∧
 ((!q10) = false →
 ∃ x11 : Sl, ∃ x12 : Sl, (w9.cell? (a_0.add 0) = some (x11.val) ∧
 w9.cell? (a_0.add 1) = some (x12.val)) ∧
 ∃ x13 : Sl, w9.cell? (a_0.add 4) = some (x13.val) ∧
 Trip Tryz.prog 84 #[.agg #[x11.val, x12.val], x13.val, .agg #[.int .i64 n1_0, .int .i64 n1_1, .int .i64 n1_2, x1_3.val, x1_4.val]] w9 fun r14 w15 =>
 ∃ n16 : Int, ∃ q17 : Bool, r14 = .tuple #[.int .i64 n16, .bool q17] ∧
 ∃ n18 : Int, PureT Tryz.prog (Builtin.min_ #[3, 3] 3 #[(.int .i64 n16), (.int .i64 1)]) w15 (.int .i64 n18) ∧
 Trip Tryz.prog 86 #[.pointer (some (a_0.add 0)), .int .i64 n16, .int .i64 n18] w15 fun r19 w20 =>
 r19 = .tuple #[] ∧
 Q (.bool true) w20)) ∧
 (((decide (n1_0 = 7)) || (decide (n1_0 = 8))) = false →
 ∃ q21 : Bool, (Trip Tryz.prog 120 #[.int .i64 n1_0] v fun r22 w23 => r22 = .bool q21 ∧ Sub v w23) ∧
 (q21 = true →
 Trip Tryz.prog 121 #[.pointer (some (a_0.add 0)), .agg #[.int .i64 n1_0, .int .i64 n1_1, .int .i64 n1_2, x1_3.val, x1_4.val]] v fun r24 w25 =>
 ∃ q26 : Bool, r24 = .bool q26 ∧
 ((!q26) = true →
 Q (.bool false) w25) ∧
 ((!q26) = false →
 ∃ x27 : Sl, ∃ x28 : Sl, (w25.cell? (a_0.add 0) = some (x27.val) ∧
 w25.cell? (a_0.add 1) = some (x28.val)) ∧
 ∃ x29 : Sl, w25.cell? (a_0.add 4) = some (x29.val) ∧
 Trip Tryz.prog 84 #[.agg #[x27.val, x28.val], x29.val, .agg #[.int .i64 n1_0, .int .i64 n1_1, .int .i64 n1_2, x1_3.val, x1_4.val]] w25 fun r30 w31 =>
 ∃ n32 : Int, ∃ q33 : Bool, r30 = .tuple #[.int .i64 n32, .bool q33] ∧
 ∃ n34 : Int, PureT Tryz.prog (Builtin.min_ #[3, 3] 3 #[(.int .i64 n32), (.int .i64 1)]) w31 (.int .i64 n34) ∧
 Trip Tryz.prog 86 #[.pointer (some (a_0.add 0)), .int .i64 n32, .int .i64 n34] w31 fun r35 w36 =>
 r35 = .tuple #[] ∧
 Q (.bool true) w36)) ∧
 (q21 = false →
 ∃ x37 : Sl, ∃ x38 : Sl, (v.cell? (a_0.add 0) = some (x37.val) ∧
 v.cell? (a_0.add 1) = some (x38.val)) ∧
 ∃ x39 : Sl, v.cell? (a_0.add 4) = some (x39.val) ∧
 Trip Tryz.prog 84 #[.agg #[x37.val, x38.val], x39.val, .agg #[.int .i64 n1_0, .int .i64 n1_1, .int .i64 n1_2, x1_3.val, x1_4.val]] v fun r40 w41 =>
 ∃ n42 : Int, ∃ q43 : Bool, r40 = .tuple #[.int .i64 n42, .bool q43] ∧
 ∃ n44 : Int, PureT Tryz.prog (Builtin.min_ #[3, 3] 3 #[(.int .i64 n42), (.int .i64 1)]) w41 (.int .i64 n44) ∧
 Trip Tryz.prog 86 #[.pointer (some (a_0.add 0)), .int .i64 n42, .int .i64 n44] w41 fun r45 w46 =>
 r45 = .tuple #[] ∧
 Q (.bool true) w46)))
theorem of87 (a_0 : Addr) (n1_0 : Int) (n1_1 : Int) (n1_2 : Int) (x1_3 : Sl) (x1_4 : Sl) (v : World) (Q : Value → World → Prop) (h : vc87 a_0 n1_0 n1_1 n1_2 x1_3 x1_4 v Q) : Trip Tryz.prog 87 #[.pointer (some (a_0.add 0)), .agg #[.int .i64 n1_0, .int .i64 n1_1, .int .i64 n1_2, x1_3.val, x1_4.val]] v Q :=
 trip_of_eq (args := [.pt a_0 0, .ag [.num .i64 n1_0, .num .i64 n1_1, .num .i64 n1_2, .sl x1_3, .sl x1_4]]) (A := ⟨[], [], [(2, []), (9, [])], [999999], psG⟩) Tryz.func87 (by kernel_rfl) (by kernel_rfl) (by kernel_rfl : vc87 a_0 n1_0 n1_1 n1_2 x1_3 x1_4 v Q = _) h

def vc88 (a_0 : Addr) (n_1 : Int) (v : World) (Q : Value → World → Prop) : Prop :=
 ∃ x1 : Sl, v.cell? (a_0.add 5) = some (x1.val) ∧
 IxOk x1 n_1 ∧
 ∃ n2 : Int, v.cell? ((elA x1 n_1 1).add 0) = some (.int .i64 n2) ∧
 ∃ n3 : Int, Wr .i64 (n2 - 1) n3 ∧
 IxOk x1 n_1 ∧
 StoreAt v (elA x1 n_1 1) 0 [.int .i64 n3] fun w4 =>
 ∃ x5 : Sl, w4.cell? (a_0.add 5) = some (x5.val) ∧
 IxOk x5 n_1 ∧
 ∃ n6 : Int, w4.cell? ((elA x5 n_1 1).add 0) = some (.int .i64 n6) ∧
 Q (.bool (decide (n6 ≥ 0))) w4
theorem of88 (a_0 : Addr) (n_1 : Int) (v : World) (Q : Value → World → Prop) (h : vc88 a_0 n_1 v Q) : Trip Tryz.prog 88 #[.pointer (some (a_0.add 0)), .int .i64 n_1] v Q :=
 trip_of_eq (args := [.pt a_0 0, .num .i64 n_1]) (A := ⟨[], [], [], [], psG⟩) Tryz.func88 (by kernel_rfl) (by kernel_rfl) (by kernel_rfl : vc88 a_0 n_1 v Q = _) h

def vc89 (x_0 : Sl) (x_1 : Sl) (v : World) (Q : Value → World → Prop) : Prop :=
 ((!decide ((x_0.n : Int) = (x_1.n : Int))) = true →
 Q (.bool false) v) ∧
 ((!decide ((x_0.n : Int) = (x_1.n : Int))) = false →
 ∃ I1 : Int → World → Prop, ∃ m2 : Int → World → Nat, I1 0 v ∧
 ∀ n3 : Int, ∀ w4 : World, I1 n3 w4 →
 ((decide (n3 < (x_0.n : Int))) = true →
 IxOk x_0 n3 ∧
 ∃ x5 : Sl, w4.cell? ((elA x_0 n3 1).add 0) = some (x5.val) ∧
 IxOk x_1 n3 ∧
 ∃ x6 : Sl, w4.cell? ((elA x_1 n3 1).add 0) = some (x6.val) ∧
 ∃ q7 : Bool, (Trip Tryz.prog 122 #[.agg #[x5.val], .agg #[x6.val]] w4 fun r8 w9 => r8 = .bool q7 ∧ Sub w4 w9) ∧
 ((!q7) = true →
 Q (.bool false) w4) ∧
 ((!q7) = false →
 ∃ n10 : Int, Wr .i64 (n3 + 1) n10 ∧
 I1 n10 w4 ∧
 m2 n10 w4 < m2 n3 w4)) ∧
 ((decide (n3 < (x_0.n : Int))) = false →
 Q (.bool true) w4))
theorem of89 (x_0 : Sl) (x_1 : Sl) (v : World) (Q : Value → World → Prop) (h : vc89 x_0 x_1 v Q) : Trip Tryz.prog 89 #[x_0.val, x_1.val] v Q :=
 trip_of_eq (args := [.sl x_0, .sl x_1]) (A := ⟨[(4, [(5, .int .i64)], [])], [], [], [], psG⟩) Tryz.func89 (by kernel_rfl) (by kernel_rfl) (by kernel_rfl : vc89 x_0 x_1 v Q = _) h

def vc90 (x0_0 : Sl) (n0_1 : Int) (x1_0 : Sl) (n1_1 : Int) (v : World) (Q : Value → World → Prop) : Prop :=
 ∃ q1 : Bool, (Trip Tryz.prog 123 #[x0_0.val, x1_0.val] v fun r2 w3 => r2 = .bool q1 ∧ Sub v w3) ∧
 ((!q1) = true →
 Q (.bool false) v) ∧
 ((!q1) = false →
 ((!decide (n0_1 = n1_1)) = true →
 Q (.bool false) v) ∧
 ((!decide (n0_1 = n1_1)) = false →
 Q (.bool true) v))
theorem of90 (x0_0 : Sl) (n0_1 : Int) (x1_0 : Sl) (n1_1 : Int) (v : World) (Q : Value → World → Prop) (h : vc90 x0_0 n0_1 x1_0 n1_1 v Q) : Trip Tryz.prog 90 #[.agg #[x0_0.val, .int .i64 n0_1], .agg #[x1_0.val, .int .i64 n1_1]] v Q :=
 trip_of_eq (args := [.ag [.sl x0_0, .num .i64 n0_1], .ag [.sl x1_0, .num .i64 n1_1]]) (A := ⟨[], [], [], [], psG⟩) Tryz.func90 (by kernel_rfl) (by kernel_rfl) (by kernel_rfl : vc90 x0_0 n0_1 x1_0 n1_1 v Q = _) h

def vc91 (a_0 : Addr) (x1_0 : Sl) (x1_1 : Sl) (n2_0 : Int) (n2_1 : Int) (n2_2 : Int) (x2_3 : Sl) (x2_4 : Sl) (v : World) (Q : Value → World → Prop) : Prop :=
 IxOk x2_3 0 ∧
 ∃ n1 : Int, v.cell? ((elA x2_3 0 1).add 0) = some (.int .i64 n1) ∧
 ∃ x2 : Sl, v.cell? (a_0.add 3) = some (x2.val) ∧
 IxOk x2 n1 ∧
 ∃ n3 : Int, v.cell? ((elA x2 n1 1).add 0) = some (.int .i64 n3) ∧
 ∃ x4 : Sl, ((decide (n2_0 = 17)) = true →
 (decide (n3 < 0)) = false →
 v.cell? (a_0.add 5) = some (x4.val)) ∧
 ((decide (n2_0 = 17)) = true →
 (decide (n3 < 0)) = false →
 IxOk x4 n1) ∧
 ∃ n5 : Int, ((decide (n2_0 = 17)) = true →
 (decide (n3 < 0)) = false →
 v.cell? ((elA x4 n1 1).add 0) = some (.int .i64 n5)) ∧
 (((decide (n3 < 0)) || ((decide (n2_0 = 17)) && (decide (n5 ≥ 0)))) = false →
 Trip Tryz.prog 77 #[.pointer (some (a_0.add 0)), .int .i64 n1] v fun r6 w7 =>
 ∃ q8 : Bool, r6 = .bool q8 ∧
 ((!q8) = true →
 Q (.bool false) w7) ∧
 ((!q8) = false →
 ∃ x9 : Sl, w7.cell? (a_0.add 3) = some (x9.val) ∧
 IxOk x9 n1 ∧
 ∃ n10 : Int, w7.cell? ((elA x9 n1 1).add 0) = some (.int .i64 n10) ∧
 Trip Tryz.prog 104 #[x1_0.val, .int .i64 n10] w7 fun r11 w12 =>
 ∃ x13 : Sl, r11 = x13.val ∧
 ∃ I14 : Int → World → Prop, ∃ m15 : Int → World → Nat, I14 0 w12 ∧
 ∀ n16 : Int, ∀ w17 : World, I14 n16 w17 →
 ((decide (n16 < (x13.n : Int))) = true →
 IxOk x13 n16 ∧
 ∃ n18 : Int, w17.cell? ((elA x13 n16 1).add 0) = some (.int .i64 n18) ∧
 ((!decide (n18 = 0)) = true →
 ∃ x19 : Sl, w17.cell? (a_0.add 1) = some (x19.val) ∧
 ∃ x20 : Sl, w17.cell? (a_0.add 4) = some (x20.val) ∧
 IxOk x20 n1 ∧
 ∃ n21 : Int, w17.cell? ((elA x20 n1 1).add 0) = some (.int .i64 n21) ∧
 ∃ n22 : Int, Wr .i64 (n21 + n16) n22 ∧
 ∃ x23 : Sl, w17.cell? (a_0.add 1) = some (x23.val) ∧
 ∃ x24 : Sl, w17.cell? (a_0.add 4) = some (x24.val) ∧
 IxOk x24 n1 ∧
 ∃ n25 : Int, w17.cell? ((elA x24 n1 1).add 0) = some (.int .i64 n25) ∧
 ∃ n26 : Int, Wr .i64 (n25 + n16) n26 ∧
 IxOk x23 n26 ∧
 ∃ n27 : Int, w17.cell? ((elA x23 n26 1).add 0) = some (.int .i64 n27) ∧
 ∃ n28 : Int, Wr .i64 (n27 + 1) n28 ∧
 IxOk x19 n22 ∧
 StoreAt w17 (elA x19 n22 1) 0 [.int .i64 n28] fun w29 =>
 ∃ n30 : Int, Wr .i64 (n16 + 1) n30 ∧
 ((.sl x1_0 : SV) = .sl x1_0) ∧
 ((.sl x1_1 : SV) = .sl x1_1) ∧
 ((.num .i64 n2_0 : SV) = .num .i64 n2_0) ∧
 ((.num .i64 n2_1 : SV) = .num .i64 n2_1) ∧
 ((.num .i64 n2_2 : SV) = .num .i64 n2_2) ∧
 ((.sl x2_3 : SV) = .sl x2_3) ∧
 ((.sl x2_4 : SV) = .sl x2_4) ∧
 I14 n30 w29 ∧
 m15 n30 w29 < m15 n16 w17) ∧
 ((!decide (n18 = 0)) = false →
 ∃ n31 : Int, Wr .i64 (n16 + 1) n31 ∧
 ((.sl x1_0 : SV) = .sl x1_0) ∧
 ((.sl x1_1 : SV) = .sl x1_1) ∧
 ((.num .i64 n2_0 : SV) = .num .i64 n2_0) ∧
 ((.num .i64 n2_1 : SV) = .num .i64 n2_1) ∧
 ((.num .i64 n2_2 : SV) = .num .i64 n2_2) ∧
 ((.sl x2_3 : SV) = .sl x2_3) ∧
 ((.sl x2_4 : SV) = .sl x2_4) ∧
 I14 n31 w17 ∧
 m15 n31 w17 < m15 n16 w17)) ∧
 ((decide (n16 < (x13.n : Int))) = false →
 ((decide (n2_0 = 17)) = true →
 ∃ x32 : Sl, w17.cell? (a_0.add 5) = some (x32.val) ∧
 IxOk x32 n1 ∧
 StoreAt w17 (elA x32 n1 1) 0 [.int .i64 (x13.n : Int)] fun w33 =>
 Q (.bool true) w33) ∧
 ((decide (n2_0 = 17)) = false →
 Q (.bool true) w17)))) ∧
 (((decide (n3 < 0)) || ((decide (n2_0 = 17)) && (decide (n5 ≥ 0)))) = true →
 Q (.bool false) v)
theorem of91 (a_0 : Addr) (x1_0 : Sl) (x1_1 : Sl) (n2_0 : Int) (n2_1 : Int) (n2_2 : Int) (x2_3 : Sl) (x2_4 : Sl) (v : World) (Q : Value → World → Prop) (h : vc91 a_0 x1_0 x1_1 n2_0 n2_1 n2_2 x2_3 x2_4 v Q) : Trip Tryz.prog 91 #[.pointer (some (a_0.add 0)), .agg #[x1_0.val, x1_1.val], .agg #[.int .i64 n2_0, .int .i64 n2_1, .int .i64 n2_2, x2_3.val, x2_4.val]] v Q :=
 trip_of_eq (args := [.pt a_0 0, .ag [.sl x1_0, .sl x1_1], .ag [.num .i64 n2_0, .num .i64 n2_1, .num .i64 n2_2, .sl x2_3, .sl x2_4]]) (A := ⟨[(6, [(9, .int .i64)], [])], [], [(4, []), (9, [])], [], psG⟩) Tryz.func91 (by kernel_rfl) (by kernel_rfl) (by kernel_rfl : vc91 a_0 x1_0 x1_1 n2_0 n2_1 n2_2 x2_3 x2_4 v Q = _) h

def vc92 (a_0 : Addr) (x1_0 : Sl) (x1_1 : Sl) (n2_0 : Int) (n2_1 : Int) (n2_2 : Int) (x2_3 : Sl) (x2_4 : Sl) (v : World) (Q : Value → World → Prop) : Prop :=
 ((decide (n2_0 = 8)) = true →
 IxOk x2_3 0) ∧
 ∃ n1 : Int, ((decide (n2_0 = 8)) = true →
 v.cell? ((elA x2_3 0 1).add 0) = some (.int .i64 n1)) ∧
 ∃ q2 : Bool, ((decide (n2_0 = 8)) = true →
 (Trip Tryz.prog 42 #[.pointer (some (a_0.add 0)), .int .i64 n1] v fun r3 w4 => r3 = .bool q2 ∧ Sub v w4)) ∧
 (((decide (n2_0 = 8)) && (!q2)) = true →
 Q (.bool false) v) ∧
 (((decide (n2_0 = 8)) && (!q2)) = false →
 Trip Tryz.prog 124 #[.pointer (some (a_0.add 0)), .agg #[x1_0.val, x1_1.val], .agg #[.int .i64 n2_0, .int .i64 n2_1, .int .i64 n2_2, x2_3.val, x2_4.val], .int .i64 0] v fun r5 w6 =>
 ∃ a7 : Addr, ∃ q8 : Bool, r5 = .tuple #[.pointer (some (a7.add 0)), .bool q8] ∧
 ((!q8) = true →
 Q (.bool false) w6) ∧
 ((!q8) = false →
 ∃ I9 : Int → World → Prop, ∃ m10 : Int → World → Nat, I9 1 w6 ∧
 ∀ n11 : Int, ∀ w12 : World, I9 n11 w12 →
 ((decide (n11 < (x2_4.n : Int))) = true →
 Trip Tryz.prog 124 #[.pointer (some (a_0.add 0)), .agg #[x1_0.val, x1_1.val], .agg #[.int .i64 n2_0, .int .i64 n2_1, .int .i64 n2_2, x2_3.val, x2_4.val], .int .i64 n11] w12 fun r13 w14 =>
 ∃ a15 : Addr, ∃ q16 : Bool, r13 = .tuple #[.pointer (some (a15.add 0)), .bool q16] ∧
 ∃ x17 : Sl, ((!q16) = false →
 w14.cell? (a7.add 1) = some (x17.val)) ∧
 ∃ x18 : Sl, ((!q16) = false →
 w14.cell? (a15.add 1) = some (x18.val)) ∧
 ∃ q19 : Bool, ((!q16) = false →
 (Trip Tryz.prog 125 #[x17.val, x18.val] w14 fun r20 w21 => r20 = .bool q19 ∧ Sub w14 w21)) ∧
 ∃ x22 : Sl, (((!q16) || (!q19)) = false →
 w14.cell? (a7.add 5) = some (x22.val)) ∧
 ∃ x23 : Sl, (((!q16) || (!q19)) = false →
 w14.cell? (a15.add 5) = some (x23.val)) ∧
 ∃ q24 : Bool, (((!q16) || (!q19)) = false →
 (Trip Tryz.prog 125 #[x22.val, x23.val] w14 fun r25 w26 => r25 = .bool q24 ∧ Sub w14 w26)) ∧
 ((((!q16) || (!q19)) || (!q24)) = true →
 Q (.bool false) w14) ∧
 ((((!q16) || (!q19)) || (!q24)) = false →
 ∃ n27 : Int, Wr .i64 (n11 + 1) n27 ∧
 ((.sl x1_0 : SV) = .sl x1_0) ∧
 ((.sl x1_1 : SV) = .sl x1_1) ∧
 ((.num .i64 n2_0 : SV) = .num .i64 n2_0) ∧
 ((.num .i64 n2_1 : SV) = .num .i64 n2_1) ∧
 ((.num .i64 n2_2 : SV) = .num .i64 n2_2) ∧
 ((.sl x2_3 : SV) = .sl x2_3) ∧
 ((.sl x2_4 : SV) = .sl x2_4) ∧
 I9 n27 w14 ∧
 m10 n27 w14 < m10 n11 w12)) ∧
 ((decide (n11 < (x2_4.n : Int))) = false →
 ∃ x28 : Sl, w12.cell? (a7.add 1) = some (x28.val) ∧
 StoreAt w12 a_0 1 [x28.val] fun w29 =>
 ∃ x30 : Sl, w29.cell? (a7.add 5) = some (x30.val) ∧
 StoreAt w29 a_0 5 [x30.val] fun w31 =>
 Q (.bool true) w31)))
theorem of92 (a_0 : Addr) (x1_0 : Sl) (x1_1 : Sl) (n2_0 : Int) (n2_1 : Int) (n2_2 : Int) (x2_3 : Sl) (x2_4 : Sl) (v : World) (Q : Value → World → Prop) (h : vc92 a_0 x1_0 x1_1 n2_0 n2_1 n2_2 x2_3 x2_4 v Q) : Trip Tryz.prog 92 #[.pointer (some (a_0.add 0)), .agg #[x1_0.val, x1_1.val], .agg #[.int .i64 n2_0, .int .i64 n2_1, .int .i64 n2_2, x2_3.val, x2_4.val]] v Q :=
 trip_of_eq (args := [.pt a_0 0, .ag [.sl x1_0, .sl x1_1], .ag [.num .i64 n2_0, .num .i64 n2_1, .num .i64 n2_2, .sl x2_3, .sl x2_4]]) (A := ⟨[(7, [(9, .int .i64)], [])], [], [], [999999], psG⟩) Tryz.func92 (by kernel_rfl) (by kernel_rfl) (by kernel_rfl : vc92 a_0 x1_0 x1_1 n2_0 n2_1 n2_2 x2_3 x2_4 v Q = _) h

def vc93 (a_0 : Addr) (x1_0 : Sl) (x1_1 : Sl) (n2_0 : Int) (n2_1 : Int) (n2_2 : Int) (x2_3 : Sl) (x2_4 : Sl) (v : World) (Q : Value → World → Prop) : Prop :=
 ∃ I1 : Int → World → Prop, ∃ m2 : Int → World → Nat, I1 0 v ∧
 ∀ n3 : Int, ∀ w4 : World, I1 n3 w4 →
 ((decide (n3 < (x2_3.n : Int))) = true →
 ∃ x5 : Sl, w4.cell? (a_0.add 0) = some (x5.val) ∧
 ∃ q6 : Bool, (Trip Tryz.prog 126 #[.agg #[x1_0.val, x1_1.val], x5.val, .agg #[.int .i64 n2_0, .int .i64 n2_1, .int .i64 n2_2, x2_3.val, x2_4.val], .int .i64 n3] w4 fun r7 w8 => r7 = .bool q6 ∧ Sub w4 w8) ∧
 (q6 = true →
 IxOk x2_3 n3) ∧
 ∃ n9 : Int, (q6 = true →
 w4.cell? ((elA x2_3 n3 1).add 0) = some (.int .i64 n9)) ∧
 (q6 = true →
 Trip Tryz.prog 77 #[.pointer (some (a_0.add 0)), .int .i64 n9] w4 fun r10 w11 =>
 ∃ q12 : Bool, r10 = .bool q12 ∧
 ((!q12) = true →
 Q (.bool false) w11) ∧
 ((!q12) = false →
 ∃ n13 : Int, Wr .i64 (n3 + 1) n13 ∧
 ((.sl x1_0 : SV) = .sl x1_0) ∧
 ((.sl x1_1 : SV) = .sl x1_1) ∧
 ((.num .i64 n2_0 : SV) = .num .i64 n2_0) ∧
 ((.num .i64 n2_1 : SV) = .num .i64 n2_1) ∧
 ((.num .i64 n2_2 : SV) = .num .i64 n2_2) ∧
 ((.sl x2_3 : SV) = .sl x2_3) ∧
 ((.sl x2_4 : SV) = .sl x2_4) ∧
 I1 n13 w11 ∧
 m2 n13 w11 < m2 n3 w4)) ∧
 (q6 = false →
 ∃ n14 : Int, Wr .i64 (n3 + 1) n14 ∧
 ((.sl x1_0 : SV) = .sl x1_0) ∧
 ((.sl x1_1 : SV) = .sl x1_1) ∧
 ((.num .i64 n2_0 : SV) = .num .i64 n2_0) ∧
 ((.num .i64 n2_1 : SV) = .num .i64 n2_1) ∧
 ((.num .i64 n2_2 : SV) = .num .i64 n2_2) ∧
 ((.sl x2_3 : SV) = .sl x2_3) ∧
 ((.sl x2_4 : SV) = .sl x2_4) ∧
 I1 n14 w4 ∧
 m2 n14 w4 < m2 n3 w4)) ∧
 ((decide (n3 < (x2_3.n : Int))) = false →
 ∃ I15 : Int → World → Prop, ∃ m16 : Int → World → Nat, I15 0 w4 ∧
 ∀ n17 : Int, ∀ w18 : World, I15 n17 w18 →
 ((decide (n17 < (x2_3.n : Int))) = true →
 ∃ q19 : Bool, (Trip Tryz.prog 127 #[.agg #[x1_0.val, x1_1.val], .agg #[.int .i64 n2_0, .int .i64 n2_1, .int .i64 n2_2, x2_3.val, x2_4.val], .int .i64 n17] w18 fun r20 w21 => r20 = .bool q19 ∧ Sub w18 w21) ∧
 (q19 = true →
 IxOk x2_3 n17) ∧
 ∃ n22 : Int, (q19 = true →
 w18.cell? ((elA x2_3 n17 1).add 0) = some (.int .i64 n22)) ∧
 ∃ q23 : Bool, (q19 = true →
 (Trip Tryz.prog 42 #[.pointer (some (a_0.add 0)), .int .i64 n22] w18 fun r24 w25 => r24 = .bool q23 ∧ Sub w18 w25)) ∧
 ((q19 && (!q23)) = true →
 Q (.bool false) w18) ∧
 ((q19 && (!q23)) = false →
 ∃ n26 : Int, Wr .i64 (n17 + 1) n26 ∧
 ((.sl x1_0 : SV) = .sl x1_0) ∧
 ((.sl x1_1 : SV) = .sl x1_1) ∧
 ((.num .i64 n2_0 : SV) = .num .i64 n2_0) ∧
 ((.num .i64 n2_1 : SV) = .num .i64 n2_1) ∧
 ((.num .i64 n2_2 : SV) = .num .i64 n2_2) ∧
 ((.sl x2_3 : SV) = .sl x2_3) ∧
 ((.sl x2_4 : SV) = .sl x2_4) ∧
 I15 n26 w18 ∧
 m16 n26 w18 < m16 n17 w18)) ∧
 ((decide (n17 < (x2_3.n : Int))) = false →
 ((decide (n2_2 > 0)) = true →
 ∃ x27 : Sl, w18.cell? (a_0.add 5) = some (x27.val) ∧
 ∃ n28 : Int, Wr .i64 (n2_2 - 1) n28 ∧
 IxOk x27 n28 ∧
 ∃ n29 : Int, w18.cell? ((elA x27 n28 1).add 0) = some (.int .i64 n29) ∧
 ((!decide (n29 = (x2_3.n : Int))) = true →
 Q (.bool false) w18) ∧
 ((!decide (n29 = (x2_3.n : Int))) = false →
 ∃ x30 : Sl, w18.cell? (a_0.add 5) = some (x30.val) ∧
 ∃ n31 : Int, Wr .i64 (n2_2 - 1) n31 ∧
 IxOk x30 n31 ∧
 StoreAt w18 (elA x30 n31 1) 0 [.int .i64 (-1)] fun w32 =>
 Q (.bool true) w32)) ∧
 ((decide (n2_2 > 0)) = false →
 Q (.bool true) w18)))
theorem of93 (a_0 : Addr) (x1_0 : Sl) (x1_1 : Sl) (n2_0 : Int) (n2_1 : Int) (n2_2 : Int) (x2_3 : Sl) (x2_4 : Sl) (v : World) (Q : Value → World → Prop) (h : vc93 a_0 x1_0 x1_1 n2_0 n2_1 n2_2 x2_3 x2_4 v Q) : Trip Tryz.prog 93 #[.pointer (some (a_0.add 0)), .agg #[x1_0.val, x1_1.val], .agg #[.int .i64 n2_0, .int .i64 n2_1, .int .i64 n2_2, x2_3.val, x2_4.val]] v Q :=
 trip_of_eq (args := [.pt a_0 0, .ag [.sl x1_0, .sl x1_1], .ag [.num .i64 n2_0, .num .i64 n2_1, .num .i64 n2_2, .sl x2_3, .sl x2_4]]) (A := ⟨[(2, [(7, .int .i64)], []), (7, [(8, .int .i64)], [])], [], [(4, []), (14, [])], [], psG⟩) Tryz.func93 (by kernel_rfl) (by kernel_rfl) (by kernel_rfl : vc93 a_0 x1_0 x1_1 n2_0 n2_1 n2_2 x2_3 x2_4 v Q = _) h

def vc94 (x_0 : Sl) (n_1 : Int) (v : World) (Q : Value → World → Prop) : Prop :=
 ∃ I1 : Int → Int → World → Prop, ∃ m2 : Int → Int → World → Nat, I1 n_1 0 v ∧
 ∀ n3 : Int, ∀ n4 : Int, ∀ w5 : World, I1 n3 n4 w5 →
 ((decide (n4 < (x_0.n : Int))) = true →
 IxOk x_0 n4 ∧
 ∃ x6 : Sl, w5.cell? ((elA x_0 n4 2).add 0) = some (x6.val) ∧
 Trip Tryz.prog 64 #[x6.val, .int .i64 n3] w5 fun r7 w8 =>
 ∃ n9 : Int, r7 = .int .i64 n9 ∧
 IxOk x_0 n4 ∧
 StoreAt w8 (elA x_0 n4 2) 1 [.int .i64 n9] fun w10 =>
 ∃ n11 : Int, Wr .i64 (n9 + 1) n11 ∧
 ∃ n12 : Int, Wr .i64 (n4 + 1) n12 ∧
 I1 n11 n12 w10 ∧
 m2 n11 n12 w10 < m2 n3 n4 w5) ∧
 ((decide (n4 < (x_0.n : Int))) = false →
 Q (.int .i64 n3) w5)
theorem of94 (x_0 : Sl) (n_1 : Int) (v : World) (Q : Value → World → Prop) (h : vc94 x_0 n_1 v Q) : Trip Tryz.prog 94 #[x_0.val, .int .i64 n_1] v Q :=
 trip_of_eq (args := [.sl x_0, .num .i64 n_1]) (A := ⟨[(2, [(1, .int .i64), (5, .int .i64)], [])], [], [], [], psG⟩) Tryz.func94 (by kernel_rfl) (by kernel_rfl) (by kernel_rfl : vc94 x_0 n_1 v Q = _) h

def vc95 (x_0 : Sl) (n_1 : Int) (v : World) (Q : Value → World → Prop) : Prop :=
 ∃ I1 : Int → World → Prop, ∃ m2 : Int → World → Nat, I1 0 v ∧
 ∀ n3 : Int, ∀ w4 : World, I1 n3 w4 →
 ((decide (n3 < (x_0.n : Int))) = true →
 IxOk x_0 n3 ∧
 ∃ n5 : Int, w4.cell? ((elA x_0 n3 1).add 0) = some (.int .i64 n5) ∧
 ((decide (n_1 = n5)) = true →
 Q (.int .i64 n3) w4) ∧
 ((decide (n_1 = n5)) = false →
 ∃ n6 : Int, Wr .i64 (n3 + 1) n6 ∧
 I1 n6 w4 ∧
 m2 n6 w4 < m2 n3 w4)) ∧
 ((decide (n3 < (x_0.n : Int))) = false →
 Q (.int .i64 (-1)) w4)
theorem of95 (x_0 : Sl) (n_1 : Int) (v : World) (Q : Value → World → Prop) (h : vc95 x_0 n_1 v Q) : Trip Tryz.prog 95 #[x_0.val, .int .i64 n_1] v Q :=
 trip_of_eq (args := [.sl x_0, .num .i64 n_1]) (A := ⟨[(2, [(8, .int .i64)], [])], [], [], [], psG⟩) Tryz.func95 (by kernel_rfl) (by kernel_rfl) (by kernel_rfl : vc95 x_0 n_1 v Q = _) h

def vc96 (x0_0 : Sl) (n_1 : Int) (v : World) (Q : Value → World → Prop) : Prop :=
 ∃ n1 : Int, (Trip Tryz.prog 68 #[x0_0.val, .int .i64 n_1] v fun r2 w3 => r2 = .int .i64 n1 ∧ Sub v w3) ∧
 ((decide (n1 < 0)) = true →
 Q (.int .i64 (-1)) v) ∧
 ((decide (n1 < 0)) = false →
 Q (.int .i64 n1) v)
theorem of96 (x0_0 : Sl) (n_1 : Int) (v : World) (Q : Value → World → Prop) (h : vc96 x0_0 n_1 v Q) : Trip Tryz.prog 96 #[.agg #[x0_0.val], .int .i64 n_1] v Q :=
 trip_of_eq (args := [.ag [.sl x0_0], .num .i64 n_1]) (A := ⟨[], [], [], [], psG⟩) Tryz.func96 (by kernel_rfl) (by kernel_rfl) (by kernel_rfl : vc96 x0_0 n_1 v Q = _) h

def vc97 (x_0 : Sl) (n_1 : Int) (v : World) (Q : Value → World → Prop) : Prop :=
 ∃ n1 : Int, Wr .i64 (n_1 - (x_0.n : Int)) n1 ∧
 ((decide (n1 < 0)) = true →
 Q (.int .i64 (-1)) v) ∧
 ((decide (n1 < 0)) = false →
 ∃ I2 : Int → Int → World → Prop, ∃ m3 : Int → Int → World → Nat, I2 n1 0 v ∧
 ∀ n4 : Int, ∀ n5 : Int, ∀ w6 : World, I2 n4 n5 w6 →
 ((decide (n5 < (x_0.n : Int))) = true →
 IxOk x_0 n5 ∧
 ∃ n7 : Int, ∃ n8 : Int, ∃ n9 : Int, ∃ x10 : Sl, ∃ x11 : Sl, (w6.cell? ((elA x_0 n5 5).add 0) = some (.int .i64 n7) ∧
 w6.cell? ((elA x_0 n5 5).add 1) = some (.int .i64 n8) ∧
 w6.cell? ((elA x_0 n5 5).add 2) = some (.int .i64 n9) ∧
 w6.cell? ((elA x_0 n5 5).add 3) = some (x10.val) ∧
 w6.cell? ((elA x_0 n5 5).add 4) = some (x11.val)) ∧
 ∃ n12 : Int, (Trip Tryz.prog 128 #[.agg #[.int .i64 n7, .int .i64 n8, .int .i64 n9, x10.val, x11.val], .int .i64 n4] w6 fun r13 w14 => r13 = .int .i64 n12 ∧ Sub w6 w14) ∧
 ((decide (n12 < 0)) = true →
 Q (.int .i64 (-1)) w6) ∧
 ((decide (n12 < 0)) = false →
 ∃ n15 : Int, Wr .i64 (n5 + 1) n15 ∧
 I2 n12 n15 w6 ∧
 m3 n12 n15 w6 < m3 n4 n5 w6)) ∧
 ((decide (n5 < (x_0.n : Int))) = false →
 Q (.int .i64 n4) w6))
theorem of97 (x_0 : Sl) (n_1 : Int) (v : World) (Q : Value → World → Prop) (h : vc97 x_0 n_1 v Q) : Trip Tryz.prog 97 #[x_0.val, .int .i64 n_1] v Q :=
 trip_of_eq (args := [.sl x_0, .num .i64 n_1]) (A := ⟨[(5, [(1, .int .i64), (5, .int .i64)], [])], [], [], [], psG⟩) Tryz.func97 (by kernel_rfl) (by kernel_rfl) (by kernel_rfl : vc97 x_0 n_1 v Q = _) h

def vc98 (x_0 : Sl) (v : World) (Q : Value → World → Prop) : Prop :=
 ((decide ((x_0.n : Int) > 4)) = true →
 Q (.bool false) v) ∧
 ((decide ((x_0.n : Int) > 4)) = false →
 ∃ I1 : Int → World → Prop, ∃ m2 : Int → World → Nat, I1 0 v ∧
 ∀ n3 : Int, ∀ w4 : World, I1 n3 w4 →
 ((decide (n3 < (x_0.n : Int))) = true →
 ∃ q5 : Bool, (Trip Tryz.prog 129 #[x_0.val, .int .i64 n3] w4 fun r6 w7 => r6 = .bool q5 ∧ Sub w4 w7) ∧
 ((!q5) = true →
 Q (.bool false) w4) ∧
 ((!q5) = false →
 ∃ n8 : Int, Wr .i64 (n3 + 1) n8 ∧
 I1 n8 w4 ∧
 m2 n8 w4 < m2 n3 w4)) ∧
 ((decide (n3 < (x_0.n : Int))) = false →
 Q (.bool true) w4))
theorem of98 (x_0 : Sl) (v : World) (Q : Value → World → Prop) (h : vc98 x_0 v Q) : Trip Tryz.prog 98 #[x_0.val] v Q :=
 trip_of_eq (args := [.sl x_0]) (A := ⟨[(4, [(3, .int .i64)], [])], [], [], [], psG⟩) Tryz.func98 (by kernel_rfl) (by kernel_rfl) (by kernel_rfl : vc98 x_0 v Q = _) h

def vc99 (x_0 : Sl) (x_1 : Sl) (v : World) (Q : Value → World → Prop) : Prop :=
 ∃ I1 : Int → World → Prop, ∃ m2 : Int → World → Nat, I1 0 v ∧
 ∀ n3 : Int, ∀ w4 : World, I1 n3 w4 →
 ((decide (n3 < (x_1.n : Int))) = true →
 IxOk x_1 n3 ∧
 ∃ n5 : Int, w4.cell? ((elA x_1 n3 1).add 0) = some (.int .i64 n5) ∧
 ∃ q6 : Bool, (Trip Tryz.prog 28 #[.int .i64 n5, .int .i64 0, .int .i64 (x_0.n : Int)] w4 fun r7 w8 => r7 = .bool q6 ∧ Sub w4 w8) ∧
 ((!q6) = true →
 Q (.bool false) w4) ∧
 ((!q6) = false →
 ∃ n9 : Int, Wr .i64 (n3 + 1) n9 ∧
 I1 n9 w4 ∧
 m2 n9 w4 < m2 n3 w4)) ∧
 ((decide (n3 < (x_1.n : Int))) = false →
 Q (.bool true) w4)
theorem of99 (x_0 : Sl) (x_1 : Sl) (v : World) (Q : Value → World → Prop) (h : vc99 x_0 x_1 v Q) : Trip Tryz.prog 99 #[x_0.val, x_1.val] v Q :=
 trip_of_eq (args := [.sl x_0, .sl x_1]) (A := ⟨[(2, [(5, .int .i64)], [])], [], [], [], psG⟩) Tryz.func99 (by kernel_rfl) (by kernel_rfl) (by kernel_rfl : vc99 x_0 x_1 v Q = _) h

def vc100 (n_0 : Int) (v : World) (Q : Value → World → Prop) : Prop :=
 Q (.bool (((((decide (n_0 = 0)) || (decide (n_0 = 6))) || (decide (n_0 = 8))) || (decide (n_0 = 9))) || (decide (n_0 = 10)))) v
theorem of100 (n_0 : Int) (v : World) (Q : Value → World → Prop) (h : vc100 n_0 v Q) : Trip Tryz.prog 100 #[.int .i64 n_0] v Q :=
 trip_of_eq (args := [.num .i64 n_0]) (A := ⟨[], [], [], [], psG⟩) Tryz.func100 (by kernel_rfl) (by kernel_rfl) (by kernel_rfl : vc100 n_0 v Q = _) h

def vc101 (x_0 : Sl) (n1_0 : Int) (n1_1 : Int) (n1_2 : Int) (x1_3 : Sl) (x1_4 : Sl) (v : World) (Q : Value → World → Prop) : Prop :=
 ((decide (n1_2 = 0)) = true →
 Q (.bool true) v) ∧
 ((decide (n1_2 = 0)) = false →
 ∃ q1 : Bool, ((decide (n1_0 = 6)) = true →
 (Trip Tryz.prog 28 #[.int .i64 n1_2, .int .i64 1, .int .i64 (x_0.n : Int)] v fun r2 w3 => r2 = .bool q1 ∧ Sub v w3)) ∧
 ∃ n4 : Int, (((decide (n1_0 = 6)) && q1) = true →
 Wr .i64 (n1_2 - 1) n4) ∧
 (((decide (n1_0 = 6)) && q1) = true →
 IxOk x_0 n4) ∧
 ∃ n5 : Int, (((decide (n1_0 = 6)) && q1) = true →
 v.cell? ((elA x_0 n4 1).add 0) = some (.int .i64 n5)) ∧
 Q (.bool (((decide (n1_0 = 6)) && q1) && (decide (n5 > 0)))) v)
theorem of101 (x_0 : Sl) (n1_0 : Int) (n1_1 : Int) (n1_2 : Int) (x1_3 : Sl) (x1_4 : Sl) (v : World) (Q : Value → World → Prop) (h : vc101 x_0 n1_0 n1_1 n1_2 x1_3 x1_4 v Q) : Trip Tryz.prog 101 #[x_0.val, .agg #[.int .i64 n1_0, .int .i64 n1_1, .int .i64 n1_2, x1_3.val, x1_4.val]] v Q :=
 trip_of_eq (args := [.sl x_0, .ag [.num .i64 n1_0, .num .i64 n1_1, .num .i64 n1_2, .sl x1_3, .sl x1_4]]) (A := ⟨[], [], [], [], psG⟩) Tryz.func101 (by kernel_rfl) (by kernel_rfl) (by kernel_rfl : vc101 x_0 n1_0 n1_1 n1_2 x1_3 x1_4 v Q = _) h

def vc102 (x_0 : Sl) (x_1 : Sl) (x_2 : Sl) (v : World) (Q : Value → World → Prop) : Prop :=
 ((!decide ((x_1.n : Int) = (x_2.n : Int))) = true →
 Q (.bool false) v) ∧
 ((!decide ((x_1.n : Int) = (x_2.n : Int))) = false →
 ∃ I1 : Int → World → Prop, ∃ m2 : Int → World → Nat, I1 0 v ∧
 ∀ n3 : Int, ∀ w4 : World, I1 n3 w4 →
 ((decide (n3 < (x_1.n : Int))) = true →
 IxOk x_1 n3 ∧
 ∃ n5 : Int, w4.cell? ((elA x_1 n3 1).add 0) = some (.int .i64 n5) ∧
 ∃ n6 : Int, Wr .i64 ((x_0.n : Int) - 1) n6 ∧
 ∃ q7 : Bool, (Trip Tryz.prog 28 #[.int .i64 n5, .int .i64 0, .int .i64 n6] w4 fun r8 w9 => r8 = .bool q7 ∧ Sub w4 w9) ∧
 ((!q7) = false →
 IxOk x_1 n3) ∧
 ∃ n10 : Int, ((!q7) = false →
 w4.cell? ((elA x_1 n3 1).add 0) = some (.int .i64 n10)) ∧
 ((!q7) = false →
 IxOk x_0 n10) ∧
 ∃ n11 : Int, ((!q7) = false →
 w4.cell? ((elA x_0 n10 1).add 0) = some (.int .i64 n11)) ∧
 ((!q7) = false →
 IxOk x_2 n3) ∧
 ∃ n12 : Int, ((!q7) = false →
 w4.cell? ((elA x_2 n3 1).add 0) = some (.int .i64 n12)) ∧
 (((!q7) || (!decide (n11 = n12))) = true →
 Q (.bool false) w4) ∧
 (((!q7) || (!decide (n11 = n12))) = false →
 ∃ n13 : Int, Wr .i64 (n3 + 1) n13 ∧
 I1 n13 w4 ∧
 m2 n13 w4 < m2 n3 w4)) ∧
 ((decide (n3 < (x_1.n : Int))) = false →
 Q (.bool true) w4))
theorem of102 (x_0 : Sl) (x_1 : Sl) (x_2 : Sl) (v : World) (Q : Value → World → Prop) (h : vc102 x_0 x_1 x_2 v Q) : Trip Tryz.prog 102 #[x_0.val, x_1.val, x_2.val] v Q :=
 trip_of_eq (args := [.sl x_0, .sl x_1, .sl x_2]) (A := ⟨[(4, [(7, .int .i64)], [])], [], [], [], psG⟩) Tryz.func102 (by kernel_rfl) (by kernel_rfl) (by kernel_rfl : vc102 x_0 x_1 x_2 v Q = _) h

def vc103 (x_0 : Sl) (n_1 : Int) (v : World) (Q : Value → World → Prop) : Prop :=
 ∃ I1 : Int → World → Prop, ∃ m2 : Int → World → Nat, I1 0 v ∧
 ∀ n3 : Int, ∀ w4 : World, I1 n3 w4 →
 ((decide (n3 < (x_0.n : Int))) = true →
 ∃ n5 : Int, (Trip Tryz.prog 130 #[x_0.val, .int .i64 n3] w4 fun r6 w7 => r6 = .int .i64 n5 ∧ Sub w4 w7) ∧
 IxOk x_0 n3 ∧
 ∃ x8 : Sl, w4.cell? ((elA x_0 n3 3).add 2) = some (x8.val) ∧
 ∃ n9 : Int, Wr .i64 (n5 + (x8.n : Int)) n9 ∧
 ∃ n10 : Int, Wr .i64 (n9 - 1) n10 ∧
 ∃ q11 : Bool, (Trip Tryz.prog 28 #[.int .i64 n_1, .int .i64 n5, .int .i64 n10] w4 fun r12 w13 => r12 = .bool q11 ∧ Sub w4 w13) ∧
 (q11 = true →
 ∃ n14 : Int, Wr .i64 (n3 + 1) n14 ∧
 Q (.int .i64 n14) w4) ∧
 (q11 = false →
 ∃ n15 : Int, Wr .i64 (n3 + 1) n15 ∧
 I1 n15 w4 ∧
 m2 n15 w4 < m2 n3 w4)) ∧
 ((decide (n3 < (x_0.n : Int))) = false →
 Q (.int .i64 (-1)) w4)
theorem of103 (x_0 : Sl) (n_1 : Int) (v : World) (Q : Value → World → Prop) (h : vc103 x_0 n_1 v Q) : Trip Tryz.prog 103 #[x_0.val, .int .i64 n_1] v Q :=
 trip_of_eq (args := [.sl x_0, .num .i64 n_1]) (A := ⟨[(2, [(5, .int .i64)], [])], [], [], [], psG⟩) Tryz.func103 (by kernel_rfl) (by kernel_rfl) (by kernel_rfl : vc103 x_0 n_1 v Q = _) h

def vc104 (x_0 : Sl) (n_1 : Int) (v : World) (Q : Value → World → Prop) : Prop :=
 ∃ n1 : Int, (Trip Tryz.prog 103 #[x_0.val, .int .i64 n_1] v fun r2 w3 => r2 = .int .i64 n1 ∧ Sub v w3) ∧
 ((decide (n1 < 1)) = true →
 StepT Tryz.prog (Instr.buildSlice 37 0 #[]) v fun r4 w5 =>
 ∃ x6 : Sl, r4 = x6.val ∧
 Q (x6.val) w5) ∧
 ((decide (n1 < 1)) = false →
 ∃ n7 : Int, Wr .i64 (n1 - 1) n7 ∧
 IxOk x_0 n7 ∧
 ∃ x8 : Sl, v.cell? ((elA x_0 n7 3).add 2) = some (x8.val) ∧
 ∃ n9 : Int, Wr .i64 (n1 - 1) n9 ∧
 ∃ n10 : Int, (Trip Tryz.prog 130 #[x_0.val, .int .i64 n9] v fun r11 w12 => r11 = .int .i64 n10 ∧ Sub v w12) ∧
 ∃ n13 : Int, Wr .i64 (n_1 - n10) n13 ∧
 IxOk x8 n13 ∧
 ∃ x14 : Sl, v.cell? ((elA x8 n13 1).add 0) = some (x14.val) ∧
 Q (x14.val) v)
theorem of104 (x_0 : Sl) (n_1 : Int) (v : World) (Q : Value → World → Prop) (h : vc104 x_0 n_1 v Q) : Trip Tryz.prog 104 #[x_0.val, .int .i64 n_1] v Q :=
 trip_of_eq (args := [.sl x_0, .num .i64 n_1]) (A := ⟨[], [], [], [], psG⟩) Tryz.func104 (by kernel_rfl) (by kernel_rfl) (by kernel_rfl : vc104 x_0 n_1 v Q = _) h

def vc105 (x0_0 : Sl) (x0_1 : Sl) (x_1 : Sl) (n2_0 : Int) (n2_1 : Int) (n2_2 : Int) (x2_3 : Sl) (x2_4 : Sl) (v : World) (Q : Value → World → Prop) : Prop :=
 Trip Tryz.prog 131 #[x0_0.val, .int .i64 n2_1] v fun r1 w2 =>
 ∃ x3 : Sl, r1 = x3.val ∧
 ((decide (n2_0 = 7)) = true →
 (((decide ((2 : Int) = 0)) || (!decide ((x2_4.n : Int) = 2))) = true →
 Q (.int .i64 (-1)) w2) ∧
 (((decide ((2 : Int) = 0)) || (!decide ((x2_4.n : Int) = 2))) = false →
 ∃ I4 : Int → Int → World → Prop, ∃ m5 : Int → Int → World → Nat, I4 0 0 w2 ∧
 ∀ n6 : Int, ∀ n7 : Int, ∀ w8 : World, I4 n6 n7 w8 →
 ((decide (n7 < 2)) = true →
 ((decide (n2_0 = 8)) = true →
 IxOk x3 n7 ∧
 ∃ n9 : Int, w8.cell? ((elA x3 n7 1).add 0) = some (.int .i64 n9) ∧
 Trip Tryz.prog 104 #[x0_0.val, .int .i64 n9] w8 fun r10 w11 =>
 ∃ x12 : Sl, r10 = x12.val ∧
 Trip Tryz.prog 132 #[x_1.val, x12.val] w11 fun r13 w14 =>
 ∃ x15 : Sl, r13 = x15.val ∧
 IxOk x2_4 n7 ∧
 ∃ x16 : Sl, ∃ n17 : Int, (w14.cell? ((elA x2_4 n7 2).add 0) = some (x16.val) ∧
 w14.cell? ((elA x2_4 n7 2).add 1) = some (.int .i64 n17)) ∧
 ∃ n18 : Int, (Trip Tryz.prog 48 #[.agg #[x0_0.val, x0_1.val], x15.val, .agg #[x16.val, .int .i64 n17]] w14 fun r19 w20 => r19 = .int .i64 n18 ∧ Sub w14 w20) ∧
 (((decide (n18 < 0)) || ((decide (n7 > 0)) && (!decide (n18 = n6)))) = true →
 Q (.int .i64 (-1)) w14) ∧
 (((decide (n18 < 0)) || ((decide (n7 > 0)) && (!decide (n18 = n6)))) = false →
 ∃ n21 : Int, Wr .i64 (n7 + 1) n21 ∧
 ((.sl x0_0 : SV) = .sl x0_0) ∧
 ((.sl x0_1 : SV) = .sl x0_1) ∧
 ((.num .i64 n2_0 : SV) = .num .i64 n2_0) ∧
 ((.num .i64 n2_1 : SV) = .num .i64 n2_1) ∧
 ((.num .i64 n2_2 : SV) = .num .i64 n2_2) ∧
 ((.sl x2_3 : SV) = .sl x2_3) ∧
 ((.sl x2_4 : SV) = .sl x2_4) ∧
 I4 n18 n21 w14 ∧
 m5 n18 n21 w14 < m5 n6 n7 w8)) ∧
 ((decide (n2_0 = 8)) = false →
 IxOk x2_4 n7 ∧
 ∃ x22 : Sl, ∃ n23 : Int, (w8.cell? ((elA x2_4 n7 2).add 0) = some (x22.val) ∧
 w8.cell? ((elA x2_4 n7 2).add 1) = some (.int .i64 n23)) ∧
 ∃ n24 : Int, (Trip Tryz.prog 48 #[.agg #[x0_0.val, x0_1.val], x_1.val, .agg #[x22.val, .int .i64 n23]] w8 fun r25 w26 => r25 = .int .i64 n24 ∧ Sub w8 w26) ∧
 (((decide (n24 < 0)) || ((decide (n7 > 0)) && (!decide (n24 = n6)))) = true →
 Q (.int .i64 (-1)) w8) ∧
 (((decide (n24 < 0)) || ((decide (n7 > 0)) && (!decide (n24 = n6)))) = false →
 ∃ n27 : Int, Wr .i64 (n7 + 1) n27 ∧
 ((.sl x0_0 : SV) = .sl x0_0) ∧
 ((.sl x0_1 : SV) = .sl x0_1) ∧
 ((.num .i64 n2_0 : SV) = .num .i64 n2_0) ∧
 ((.num .i64 n2_1 : SV) = .num .i64 n2_1) ∧
 ((.num .i64 n2_2 : SV) = .num .i64 n2_2) ∧
 ((.sl x2_3 : SV) = .sl x2_3) ∧
 ((.sl x2_4 : SV) = .sl x2_4) ∧
 I4 n24 n27 w8 ∧
 m5 n24 n27 w8 < m5 n6 n7 w8))) ∧
 ((decide (n7 < 2)) = false →
 Q (.int .i64 n6) w8))) ∧
 ((decide (n2_0 = 7)) = false →
 (((decide ((x3.n : Int) = 0)) || (!decide ((x2_4.n : Int) = (x3.n : Int)))) = true →
 Q (.int .i64 (-1)) w2) ∧
 (((decide ((x3.n : Int) = 0)) || (!decide ((x2_4.n : Int) = (x3.n : Int)))) = false →
 ∃ I28 : Int → Int → World → Prop, ∃ m29 : Int → Int → World → Nat, I28 0 0 w2 ∧
 ∀ n30 : Int, ∀ n31 : Int, ∀ w32 : World, I28 n30 n31 w32 →
 ((decide (n31 < (x3.n : Int))) = true →
 ((decide (n2_0 = 8)) = true →
 IxOk x3 n31 ∧
 ∃ n33 : Int, w32.cell? ((elA x3 n31 1).add 0) = some (.int .i64 n33) ∧
 Trip Tryz.prog 104 #[x0_0.val, .int .i64 n33] w32 fun r34 w35 =>
 ∃ x36 : Sl, r34 = x36.val ∧
 Trip Tryz.prog 132 #[x_1.val, x36.val] w35 fun r37 w38 =>
 ∃ x39 : Sl, r37 = x39.val ∧
 IxOk x2_4 n31 ∧
 ∃ x40 : Sl, ∃ n41 : Int, (w38.cell? ((elA x2_4 n31 2).add 0) = some (x40.val) ∧
 w38.cell? ((elA x2_4 n31 2).add 1) = some (.int .i64 n41)) ∧
 ∃ n42 : Int, (Trip Tryz.prog 48 #[.agg #[x0_0.val, x0_1.val], x39.val, .agg #[x40.val, .int .i64 n41]] w38 fun r43 w44 => r43 = .int .i64 n42 ∧ Sub w38 w44) ∧
 (((decide (n42 < 0)) || ((decide (n31 > 0)) && (!decide (n42 = n30)))) = true →
 Q (.int .i64 (-1)) w38) ∧
 (((decide (n42 < 0)) || ((decide (n31 > 0)) && (!decide (n42 = n30)))) = false →
 ∃ n45 : Int, Wr .i64 (n31 + 1) n45 ∧
 ((.sl x0_0 : SV) = .sl x0_0) ∧
 ((.sl x0_1 : SV) = .sl x0_1) ∧
 ((.num .i64 n2_0 : SV) = .num .i64 n2_0) ∧
 ((.num .i64 n2_1 : SV) = .num .i64 n2_1) ∧
 ((.num .i64 n2_2 : SV) = .num .i64 n2_2) ∧
 ((.sl x2_3 : SV) = .sl x2_3) ∧
 ((.sl x2_4 : SV) = .sl x2_4) ∧
 I28 n42 n45 w38 ∧
 m29 n42 n45 w38 < m29 n30 n31 w32)) ∧
 ((decide (n2_0 = 8)) = false →
 IxOk x2_4 n31 ∧
 ∃ x46 : Sl, ∃ n47 : Int, (w32.cell? ((elA x2_4 n31 2).add 0) = some (x46.val) ∧
 w32.cell? ((elA x2_4 n31 2).add 1) = some (.int .i64 n47)) ∧
 ∃ n48 : Int, (Trip Tryz.prog 48 #[.agg #[x0_0.val, x0_1.val], x_1.val, .agg #[x46.val, .int .i64 n47]] w32 fun r49 w50 => r49 = .int .i64 n48 ∧ Sub w32 w50) ∧
 (((decide (n48 < 0)) || ((decide (n31 > 0)) && (!decide (n48 = n30)))) = true →
 Q (.int .i64 (-1)) w32) ∧
 (((decide (n48 < 0)) || ((decide (n31 > 0)) && (!decide (n48 = n30)))) = false →
 ∃ n51 : Int, Wr .i64 (n31 + 1) n51 ∧
 ((.sl x0_0 : SV) = .sl x0_0) ∧
 ((.sl x0_1 : SV) = .sl x0_1) ∧
 ((.num .i64 n2_0 : SV) = .num .i64 n2_0) ∧
 ((.num .i64 n2_1 : SV) = .num .i64 n2_1) ∧
 ((.num .i64 n2_2 : SV) = .num .i64 n2_2) ∧
 ((.sl x2_3 : SV) = .sl x2_3) ∧
 ((.sl x2_4 : SV) = .sl x2_4) ∧
 I28 n48 n51 w32 ∧
 m29 n48 n51 w32 < m29 n30 n31 w32))) ∧
 ((decide (n31 < (x3.n : Int))) = false →
 Q (.int .i64 n30) w32)))
theorem of105 (x0_0 : Sl) (x0_1 : Sl) (x_1 : Sl) (n2_0 : Int) (n2_1 : Int) (n2_2 : Int) (x2_3 : Sl) (x2_4 : Sl) (v : World) (Q : Value → World → Prop) (h : vc105 x0_0 x0_1 x_1 n2_0 n2_1 n2_2 x2_3 x2_4 v Q) : Trip Tryz.prog 105 #[.agg #[x0_0.val, x0_1.val], x_1.val, .agg #[.int .i64 n2_0, .int .i64 n2_1, .int .i64 n2_2, x2_3.val, x2_4.val]] v Q :=
 trip_of_eq (args := [.ag [.sl x0_0, .sl x0_1], .sl x_1, .ag [.num .i64 n2_0, .num .i64 n2_1, .num .i64 n2_2, .sl x2_3, .sl x2_4]]) (A := ⟨[(9, [(9, .int .i64), (10, .int .i64)], [])], [], [(13, [])], [999999], psG⟩) Tryz.func105 (by kernel_rfl) (by kernel_rfl) (by kernel_rfl : vc105 x0_0 x0_1 x_1 n2_0 n2_1 n2_2 x2_3 x2_4 v Q = _) h

def vc106 (x0_0 : Sl) (x0_1 : Sl) (x_1 : Sl) (n2_0 : Int) (n2_1 : Int) (n2_2 : Int) (x2_3 : Sl) (x2_4 : Sl) (v : World) (Q : Value → World → Prop) : Prop :=
 ∃ n1 : Int, Wr .i64 ((x0_1.n : Int) - 1) n1 ∧
 ∃ q2 : Bool, (Trip Tryz.prog 28 #[.int .i64 n2_1, .int .i64 0, .int .i64 n1] v fun r3 w4 => r3 = .bool q2 ∧ Sub v w4) ∧
 ((!q2) = true →
 Q (.int .i64 (-1)) v) ∧
 ((!q2) = false →
 IxOk x0_1 n2_1 ∧
 ∃ x5 : Sl, ∃ x6 : Sl, ∃ n7 : Int, ∃ x8 : Sl, ∃ n9 : Int, (v.cell? ((elA x0_1 n2_1 5).add 0) = some (x5.val) ∧
 v.cell? ((elA x0_1 n2_1 5).add 1) = some (x6.val) ∧
 v.cell? ((elA x0_1 n2_1 5).add 2) = some (.int .i64 n7) ∧
 v.cell? ((elA x0_1 n2_1 5).add 3) = some (x8.val) ∧
 v.cell? ((elA x0_1 n2_1 5).add 4) = some (.int .i64 n9)) ∧
 ((decide (n2_0 = 9)) = true →
 ∃ q10 : Bool, (Trip Tryz.prog 102 #[x_1.val, x2_3.val, x5.val] v fun r11 w12 => r11 = .bool q10 ∧ Sub v w12) ∧
 ((!q10) = true →
 Q (.int .i64 (-1)) v) ∧
 ((!q10) = false →
 Q (.int .i64 n7) v)) ∧
 ((decide (n2_0 = 9)) = false →
 ∃ n13 : Int, (((decide ((x5.n : Int) = 0)) || (decide ((x6.n : Int) > 0))) = false →
 Wr .i64 ((x5.n : Int) - 1) n13) ∧
 (((decide ((x5.n : Int) = 0)) || (decide ((x6.n : Int) > 0))) = false →
 CutOk x5 0 n13) ∧
 ∃ q14 : Bool, (((decide ((x5.n : Int) = 0)) || (decide ((x6.n : Int) > 0))) = false →
 (Trip Tryz.prog 102 #[x_1.val, x2_3.val, (x5.cut 0 n13 1).val] v fun r15 w16 => r15 = .bool q14 ∧ Sub v w16)) ∧
 ((((decide ((x5.n : Int) = 0)) || (decide ((x6.n : Int) > 0))) || (!q14)) = true →
 Q (.int .i64 (-1)) v) ∧
 ((((decide ((x5.n : Int) = 0)) || (decide ((x6.n : Int) > 0))) || (!q14)) = false →
 ∃ n17 : Int, Wr .i64 ((x5.n : Int) - 1) n17 ∧
 IxOk x5 n17 ∧
 ∃ n18 : Int, v.cell? ((elA x5 n17 1).add 0) = some (.int .i64 n18) ∧
 ∃ n19 : Int, (Trip Tryz.prog 133 #[x0_0.val, .int .i64 n18, .int .i64 n7] v fun r20 w21 => r20 = .int .i64 n19 ∧ Sub v w21) ∧
 Q (.int .i64 n19) v)))
theorem of106 (x0_0 : Sl) (x0_1 : Sl) (x_1 : Sl) (n2_0 : Int) (n2_1 : Int) (n2_2 : Int) (x2_3 : Sl) (x2_4 : Sl) (v : World) (Q : Value → World → Prop) (h : vc106 x0_0 x0_1 x_1 n2_0 n2_1 n2_2 x2_3 x2_4 v Q) : Trip Tryz.prog 106 #[.agg #[x0_0.val, x0_1.val], x_1.val, .agg #[.int .i64 n2_0, .int .i64 n2_1, .int .i64 n2_2, x2_3.val, x2_4.val]] v Q :=
 trip_of_eq (args := [.ag [.sl x0_0, .sl x0_1], .sl x_1, .ag [.num .i64 n2_0, .num .i64 n2_1, .num .i64 n2_2, .sl x2_3, .sl x2_4]]) (A := ⟨[], [], [], [999999], psG⟩) Tryz.func106 (by kernel_rfl) (by kernel_rfl) (by kernel_rfl : vc106 x0_0 x0_1 x_1 n2_0 n2_1 n2_2 x2_3 x2_4 v Q = _) h

def vc107 (x_0 : Sl) (n_1 : Int) (v : World) (Q : Value → World → Prop) : Prop :=
 ∃ q1 : Bool, (Trip Tryz.prog 28 #[.int .i64 n_1, .int .i64 1, .int .i64 (x_0.n : Int)] v fun r2 w3 => r2 = .bool q1 ∧ Sub v w3) ∧
 ∃ n4 : Int, (q1 = true →
 Wr .i64 (n_1 - 1) n4) ∧
 (q1 = true →
 IxOk x_0 n4) ∧
 ∃ x5 : Sl, (q1 = true →
 v.cell? ((elA x_0 n4 3).add 2) = some (x5.val)) ∧
 Q (.bool (q1 && (decide ((x5.n : Int) = 0)))) v
theorem of107 (x_0 : Sl) (n_1 : Int) (v : World) (Q : Value → World → Prop) (h : vc107 x_0 n_1 v Q) : Trip Tryz.prog 107 #[x_0.val, .int .i64 n_1] v Q :=
 trip_of_eq (args := [.sl x_0, .num .i64 n_1]) (A := ⟨[], [], [], [], psG⟩) Tryz.func107 (by kernel_rfl) (by kernel_rfl) (by kernel_rfl : vc107 x_0 n_1 v Q = _) h

def vc108 (x0_0 : Sl) (x0_1 : Sl) (x_1 : Sl) (n2_0 : Int) (n2_1 : Int) (n2_2 : Int) (x2_3 : Sl) (x2_4 : Sl) (v : World) (Q : Value → World → Prop) : Prop :=
 ((!decide ((x2_3.n : Int) = 1)) = false →
 IxOk x2_3 0) ∧
 ∃ n1 : Int, ((!decide ((x2_3.n : Int) = 1)) = false →
 v.cell? ((elA x2_3 0 1).add 0) = some (.int .i64 n1)) ∧
 ∃ n2 : Int, ((!decide ((x2_3.n : Int) = 1)) = false →
 Wr .i64 ((x_1.n : Int) - 1) n2) ∧
 ∃ q3 : Bool, ((!decide ((x2_3.n : Int) = 1)) = false →
 (Trip Tryz.prog 28 #[.int .i64 n1, .int .i64 0, .int .i64 n2] v fun r4 w5 => r4 = .bool q3 ∧ Sub v w5)) ∧
 (((!decide ((x2_3.n : Int) = 1)) || (!q3)) = false →
 IxOk x2_3 0) ∧
 ∃ n6 : Int, (((!decide ((x2_3.n : Int) = 1)) || (!q3)) = false →
 v.cell? ((elA x2_3 0 1).add 0) = some (.int .i64 n6)) ∧
 (((!decide ((x2_3.n : Int) = 1)) || (!q3)) = false →
 IxOk x_1 n6) ∧
 ∃ n7 : Int, (((!decide ((x2_3.n : Int) = 1)) || (!q3)) = false →
 v.cell? ((elA x_1 n6 1).add 0) = some (.int .i64 n7)) ∧
 ((((!decide ((x2_3.n : Int) = 1)) || (!q3)) || (decide (n7 = 0))) = true →
 Q (.int .i64 (-1)) v) ∧
 ((((!decide ((x2_3.n : Int) = 1)) || (!q3)) || (decide (n7 = 0))) = false →
 (((!decide (n2_0 = 14)) && (!decide (n2_0 = 15))) = true →
 IxOk x2_3 0) ∧
 ∃ n8 : Int, (((!decide (n2_0 = 14)) && (!decide (n2_0 = 15))) = true →
 v.cell? ((elA x2_3 0 1).add 0) = some (.int .i64 n8)) ∧
 (((!decide (n2_0 = 14)) && (!decide (n2_0 = 15))) = true →
 IxOk x_1 n8) ∧
 ∃ n9 : Int, (((!decide (n2_0 = 14)) && (!decide (n2_0 = 15))) = true →
 v.cell? ((elA x_1 n8 1).add 0) = some (.int .i64 n9)) ∧
 ∃ q10 : Bool, (((!decide (n2_0 = 14)) && (!decide (n2_0 = 15))) = true →
 (Trip Tryz.prog 107 #[x0_0.val, .int .i64 n9] v fun r11 w12 => r11 = .bool q10 ∧ Sub v w12)) ∧
 ((((!decide (n2_0 = 14)) && (!decide (n2_0 = 15))) && q10) = true →
 Q (.int .i64 (-1)) v) ∧
 ((((!decide (n2_0 = 14)) && (!decide (n2_0 = 15))) && q10) = false →
 Q (.int .i64 0) v))
theorem of108 (x0_0 : Sl) (x0_1 : Sl) (x_1 : Sl) (n2_0 : Int) (n2_1 : Int) (n2_2 : Int) (x2_3 : Sl) (x2_4 : Sl) (v : World) (Q : Value → World → Prop) (h : vc108 x0_0 x0_1 x_1 n2_0 n2_1 n2_2 x2_3 x2_4 v Q) : Trip Tryz.prog 108 #[.agg #[x0_0.val, x0_1.val], x_1.val, .agg #[.int .i64 n2_0, .int .i64 n2_1, .int .i64 n2_2, x2_3.val, x2_4.val]] v Q :=
 trip_of_eq (args := [.ag [.sl x0_0, .sl x0_1], .sl x_1, .ag [.num .i64 n2_0, .num .i64 n2_1, .num .i64 n2_2, .sl x2_3, .sl x2_4]]) (A := ⟨[], [], [], [999999], psG⟩) Tryz.func108 (by kernel_rfl) (by kernel_rfl) (by kernel_rfl : vc108 x0_0 x0_1 x_1 n2_0 n2_1 n2_2 x2_3 x2_4 v Q = _) h

def vc109 (x0_0 : Sl) (v : World) (Q : Value → World → Prop) : Prop :=
 Trip Tryz.prog 79 #[x0_0.val] v fun r1 w2 =>
 ∃ x3 : Sl, r1 = x3.val ∧
 Q (.agg #[x3.val]) w2
theorem of109 (x0_0 : Sl) (v : World) (Q : Value → World → Prop) (h : vc109 x0_0 v Q) : Trip Tryz.prog 109 #[.agg #[x0_0.val]] v Q :=
 trip_of_eq (args := [.ag [.sl x0_0]]) (A := ⟨[], [], [], [], psG⟩) Tryz.func109 (by kernel_rfl) (by kernel_rfl) (by kernel_rfl : vc109 x0_0 v Q = _) h

def vc110 (x_0 : Sl) (v : World) (Q : Value → World → Prop) : Prop :=
 StepT Tryz.prog (Instr.makeSlice 78 (.int .i64 (x_0.n : Int)) (.int .i64 (x_0.n : Int))) v fun r1 w2 =>
 ∃ x3 : Sl, r1 = x3.val ∧
 ∃ I4 : Int → World → Prop, ∃ m5 : Int → World → Nat, I4 0 w2 ∧
 ∀ n6 : Int, ∀ w7 : World, I4 n6 w7 →
 ((decide (n6 < (x_0.n : Int))) = true →
 IxOk x_0 n6 ∧
 ∃ n8 : Int, ∃ n9 : Int, ∃ n10 : Int, ∃ x11 : Sl, ∃ x12 : Sl, (w7.cell? ((elA x_0 n6 5).add 0) = some (.int .i64 n8) ∧
 w7.cell? ((elA x_0 n6 5).add 1) = some (.int .i64 n9) ∧
 w7.cell? ((elA x_0 n6 5).add 2) = some (.int .i64 n10) ∧
 w7.cell? ((elA x_0 n6 5).add 3) = some (x11.val) ∧
 w7.cell? ((elA x_0 n6 5).add 4) = some (x12.val)) ∧
 Trip Tryz.prog 134 #[.agg #[.int .i64 n8, .int .i64 n9, .int .i64 n10, x11.val, x12.val]] w7 fun r13 w14 =>
 ∃ n15 : Int, ∃ n16 : Int, ∃ n17 : Int, ∃ x18 : Sl, ∃ x19 : Sl, r13 = .agg #[.int .i64 n15, .int .i64 n16, .int .i64 n17, x18.val, x19.val] ∧
 IxOk x3 n6 ∧
 StoreAt w14 (elA x3 n6 5) 0 [.int .i64 n15, .int .i64 n16, .int .i64 n17, x18.val, x19.val] fun w20 =>
 ∃ n21 : Int, Wr .i64 (n6 + 1) n21 ∧
 I4 n21 w20 ∧
 m5 n21 w20 < m5 n6 w7) ∧
 ((decide (n6 < (x_0.n : Int))) = false →
 Q (x3.val) w7)
theorem of110 (x_0 : Sl) (v : World) (Q : Value → World → Prop) (h : vc110 x_0 v Q) : Trip Tryz.prog 110 #[x_0.val] v Q :=
 trip_of_eq (args := [.sl x_0]) (A := ⟨[(3, [(4, .int .i64)], [])], [], [], [], psG⟩) Tryz.func110 (by kernel_rfl) (by kernel_rfl) (by kernel_rfl : vc110 x_0 v Q = _) h

def vc111 (x_0 : Sl) (v : World) (Q : Value → World → Prop) : Prop :=
 ((decide ((x_0.n : Int) > 4)) = true →
 Q (.bool false) v) ∧
 ((decide ((x_0.n : Int) > 4)) = false →
 ∃ I1 : Int → World → Prop, ∃ m2 : Int → World → Nat, I1 0 v ∧
 ∀ n3 : Int, ∀ w4 : World, I1 n3 w4 →
 ((decide (n3 < (x_0.n : Int))) = true →
 IxOk x_0 n3 ∧
 ∃ n5 : Int, ∃ n6 : Int, ∃ x7 : Sl, (w4.cell? ((elA x_0 n3 3).add 0) = some (.int .i64 n5) ∧
 w4.cell? ((elA x_0 n3 3).add 1) = some (.int .i64 n6) ∧
 w4.cell? ((elA x_0 n3 3).add 2) = some (x7.val)) ∧
 ∃ q8 : Bool, (Trip Tryz.prog 113 #[x_0.val, .int .i64 n5] w4 fun r9 w10 => r9 = .bool q8 ∧ Sub w4 w10) ∧
 ∃ q11 : Bool, ((!q8) = false →
 (Trip Tryz.prog 113 #[x_0.val, .int .i64 n6] w4 fun r12 w13 => r12 = .bool q11 ∧ Sub w4 w13)) ∧
 (((((!q8) || (!q11)) || (decide ((x7.n : Int) > 3))) || ((decide ((x7.n : Int) > 0)) && ((!decide (n5 = 0)) || (!decide (n6 = 0))))) = true →
 Q (.bool false) w4) ∧
 (((((!q8) || (!q11)) || (decide ((x7.n : Int) > 3))) || ((decide ((x7.n : Int) > 0)) && ((!decide (n5 = 0)) || (!decide (n6 = 0))))) = false →
 ∃ I14 : Int → World → Prop, ∃ m15 : Int → World → Nat, I14 0 w4 ∧
 ∀ n16 : Int, ∀ w17 : World, I14 n16 w17 →
 ((decide (n16 < (x7.n : Int))) = true →
 IxOk x7 n16 ∧
 ∃ x18 : Sl, w17.cell? ((elA x7 n16 1).add 0) = some (x18.val) ∧
 ∃ q19 : Bool, ((decide ((x18.n : Int) > 3)) = false →
 (Trip Tryz.prog 112 #[x_0.val, x18.val] w17 fun r20 w21 => r20 = .bool q19 ∧ Sub w17 w21)) ∧
 (((decide ((x18.n : Int) > 3)) || (!q19)) = true →
 Q (.bool false) w17) ∧
 (((decide ((x18.n : Int) > 3)) || (!q19)) = false →
 ∃ n22 : Int, Wr .i64 (n16 + 1) n22 ∧
 ((.num .i64 n5 : SV) = .num .i64 n5) ∧
 ((.num .i64 n6 : SV) = .num .i64 n6) ∧
 ((.sl x7 : SV) = .sl x7) ∧
 I14 n22 w17 ∧
 m15 n22 w17 < m15 n16 w17)) ∧
 ((decide (n16 < (x7.n : Int))) = false →
 CutOk x_0 0 n3 ∧
 ∃ I23 : Int → World → Prop, ∃ m24 : Int → World → Nat, I23 0 w17 ∧
 ∀ n25 : Int, ∀ w26 : World, I23 n25 w26 →
 ((decide (n25 < ((x_0.cut 0 n3 3).n : Int))) = true →
 IxOk (x_0.cut 0 n3 3) n25 ∧
 ∃ n27 : Int, ∃ n28 : Int, ∃ x29 : Sl, (w26.cell? ((elA (x_0.cut 0 n3 3) n25 3).add 0) = some (.int .i64 n27) ∧
 w26.cell? ((elA (x_0.cut 0 n3 3) n25 3).add 1) = some (.int .i64 n28) ∧
 w26.cell? ((elA (x_0.cut 0 n3 3) n25 3).add 2) = some (x29.val)) ∧
 (((((decide ((x7.n : Int) = 0)) && (decide ((x29.n : Int) = 0))) && (decide (n27 = n5))) && (decide (n28 = n6))) = true →
 Q (.bool false) w26) ∧
 (((((decide ((x7.n : Int) = 0)) && (decide ((x29.n : Int) = 0))) && (decide (n27 = n5))) && (decide (n28 = n6))) = false →
 ∃ n30 : Int, Wr .i64 (n25 + 1) n30 ∧
 ((.num .i64 n5 : SV) = .num .i64 n5) ∧
 ((.num .i64 n6 : SV) = .num .i64 n6) ∧
 ((.sl x7 : SV) = .sl x7) ∧
 I23 n30 w26 ∧
 m24 n30 w26 < m24 n25 w26)) ∧
 ((decide (n25 < ((x_0.cut 0 n3 3).n : Int))) = false →
 ∃ n31 : Int, Wr .i64 (n3 + 1) n31 ∧
 I1 n31 w26 ∧
 m2 n31 w26 < m2 n3 w4)))) ∧
 ((decide (n3 < (x_0.n : Int))) = false →
 Q (.bool true) w4))
theorem of111 (x_0 : Sl) (v : World) (Q : Value → World → Prop) (h : vc111 x_0 v Q) : Trip Tryz.prog 111 #[x_0.val] v Q :=
 trip_of_eq (args := [.sl x_0]) (A := ⟨[(4, [(14, .int .i64)], []), (9, [(56, .int .i64)], []), (15, [(76, .int .i64)], [])], [], [], [], psG⟩) Tryz.func111 (by kernel_rfl) (by kernel_rfl) (by kernel_rfl : vc111 x_0 v Q = _) h

def vc112 (x_0 : Sl) (x_1 : Sl) (v : World) (Q : Value → World → Prop) : Prop :=
 ∃ I1 : Int → World → Prop, ∃ m2 : Int → World → Nat, I1 0 v ∧
 ∀ n3 : Int, ∀ w4 : World, I1 n3 w4 →
 ((decide (n3 < (x_1.n : Int))) = true →
 IxOk x_1 n3 ∧
 ∃ n5 : Int, w4.cell? ((elA x_1 n3 1).add 0) = some (.int .i64 n5) ∧
 ∃ q6 : Bool, (Trip Tryz.prog 113 #[x_0.val, .int .i64 n5] w4 fun r7 w8 => r7 = .bool q6 ∧ Sub w4 w8) ∧
 ((!q6) = true →
 Q (.bool false) w4) ∧
 ((!q6) = false →
 ∃ n9 : Int, Wr .i64 (n3 + 1) n9 ∧
 I1 n9 w4 ∧
 m2 n9 w4 < m2 n3 w4)) ∧
 ((decide (n3 < (x_1.n : Int))) = false →
 Q (.bool true) w4)
theorem of112 (x_0 : Sl) (x_1 : Sl) (v : World) (Q : Value → World → Prop) (h : vc112 x_0 x_1 v Q) : Trip Tryz.prog 112 #[x_0.val, x_1.val] v Q :=
 trip_of_eq (args := [.sl x_0, .sl x_1]) (A := ⟨[(2, [(9, .int .i64)], [])], [], [], [], psG⟩) Tryz.func112 (by kernel_rfl) (by kernel_rfl) (by kernel_rfl : vc112 x_0 x_1 v Q = _) h

def vc113 (x_0 : Sl) (n_1 : Int) (v : World) (Q : Value → World → Prop) : Prop :=
 Q (.bool ((decide (n_1 ≥ 0)) && (decide (n_1 ≤ (x_0.n : Int))))) v
theorem of113 (x_0 : Sl) (n_1 : Int) (v : World) (Q : Value → World → Prop) (h : vc113 x_0 n_1 v Q) : Trip Tryz.prog 113 #[x_0.val, .int .i64 n_1] v Q :=
 trip_of_eq (args := [.sl x_0, .num .i64 n_1]) (A := ⟨[], [], [], [], psG⟩) Tryz.func113 (by kernel_rfl) (by kernel_rfl) (by kernel_rfl : vc113 x_0 n_1 v Q = _) h

def vc114 (x_0 : Sl) (n_1 : Int) (v : World) (Q : Value → World → Prop) : Prop :=
 ∃ n1 : Int, (((decide (n_1 < 1)) || (decide (n_1 > (x_0.n : Int)))) = false →
 Wr .i64 (n_1 - 1) n1) ∧
 (((decide (n_1 < 1)) || (decide (n_1 > (x_0.n : Int)))) = false →
 IxOk x_0 n1) ∧
 ∃ x2 : Sl, (((decide (n_1 < 1)) || (decide (n_1 > (x_0.n : Int)))) = false →
 v.cell? ((elA x_0 n1 3).add 2) = some (x2.val)) ∧
 ((((decide (n_1 < 1)) || (decide (n_1 > (x_0.n : Int)))) || (decide ((x2.n : Int) > 0))) = true →
 Q (.tuple #[.agg #[.int .i64 0, .int .i64 0, .slice none 0 0], .bool false]) v) ∧
 ((((decide (n_1 < 1)) || (decide (n_1 > (x_0.n : Int)))) || (decide ((x2.n : Int) > 0))) = false →
 ∃ n3 : Int, Wr .i64 (n_1 - 1) n3 ∧
 IxOk x_0 n3 ∧
 ∃ n4 : Int, ∃ n5 : Int, ∃ x6 : Sl, (v.cell? ((elA x_0 n3 3).add 0) = some (.int .i64 n4) ∧
 v.cell? ((elA x_0 n3 3).add 1) = some (.int .i64 n5) ∧
 v.cell? ((elA x_0 n3 3).add 2) = some (x6.val)) ∧
 Q (.tuple #[.agg #[.int .i64 n4, .int .i64 n5, x6.val], .bool true]) v)
theorem of114 (x_0 : Sl) (n_1 : Int) (v : World) (Q : Value → World → Prop) (h : vc114 x_0 n_1 v Q) : Trip Tryz.prog 114 #[x_0.val, .int .i64 n_1] v Q :=
 trip_of_eq (args := [.sl x_0, .num .i64 n_1]) (A := ⟨[], [], [], [], psG⟩) Tryz.func114 (by kernel_rfl) (by kernel_rfl) (by kernel_rfl : vc114 x_0 n_1 v Q = _) h

def vc115 (x0_0 : Sl) (x0_1 : Sl) (x_1 : Sl) (x_2 : Sl) (x_3 : Sl) (v : World) (Q : Value → World → Prop) : Prop :=
 ∃ I1 : Int → Int → World → Prop, ∃ m2 : Int → Int → World → Nat, I1 (-1) 0 v ∧
 ∀ n3 : Int, ∀ n4 : Int, ∀ w5 : World, I1 n3 n4 w5 →
 ((decide (n4 < (x_2.n : Int))) = true →
 IxOk x_2 n4 ∧
 ∃ x6 : Sl, ∃ n7 : Int, (w5.cell? ((elA x_2 n4 2).add 0) = some (x6.val) ∧
 w5.cell? ((elA x_2 n4 2).add 1) = some (.int .i64 n7)) ∧
 IxOk x_3 n4 ∧
 ∃ x8 : Sl, w5.cell? ((elA x_3 n4 1).add 0) = some (x8.val) ∧
 StepT Tryz.prog (Instr.buildSlice 154 2 #[(0, (x_1.val)), (1, (x8.val))]) w5 fun r9 w10 =>
 ∃ x11 : Sl, r9 = x11.val ∧
 Sub w5 w10 ∧
 Trip Tryz.prog 135 #[x11.val] w10 fun r12 w13 =>
 ∃ x14 : Sl, r12 = x14.val ∧
 Sub w10 w13 ∧
 Trip Tryz.prog 56 #[.agg #[x0_0.val, x0_1.val], x14.val, .agg #[x6.val, .int .i64 n7]] w13 fun r15 w16 =>
 ∃ n17 : Int, r15 = .int .i64 n17 ∧
 (((decide (n17 < 0)) || ((decide (n4 > 0)) && (!decide (n17 = n3)))) = true →
 Q (.tuple #[.int .i64 (-1), .bool false]) w16) ∧
 (((decide (n17 < 0)) || ((decide (n4 > 0)) && (!decide (n17 = n3)))) = false →
 ∃ n18 : Int, Wr .i64 (n4 + 1) n18 ∧
 ((.sl x0_0 : SV) = .sl x0_0) ∧
 ((.sl x0_1 : SV) = .sl x0_1) ∧
 I1 n17 n18 w16 ∧
 m2 n17 n18 w16 < m2 n3 n4 w5)) ∧
 ((decide (n4 < (x_2.n : Int))) = false →
 Q (.tuple #[.int .i64 n3, .bool true]) w5)
theorem of115 (x0_0 : Sl) (x0_1 : Sl) (x_1 : Sl) (x_2 : Sl) (x_3 : Sl) (v : World) (Q : Value → World → Prop) (h : vc115 x0_0 x0_1 x_1 x_2 x_3 v Q) : Trip Tryz.prog 115 #[.agg #[x0_0.val, x0_1.val], x_1.val, x_2.val, x_3.val] v Q :=
 trip_of_eq (args := [.ag [.sl x0_0, .sl x0_1], .sl x_1, .sl x_2, .sl x_3]) (A := ⟨[(3, [(10, .int .i64), (16, .int .i64)], [])], [], [(5, [6, 7])], [], psG⟩) Tryz.func115 (by kernel_rfl) (by kernel_rfl) (by kernel_rfl : vc115 x0_0 x0_1 x_1 x_2 x_3 v Q = _) h

def vc116 (x0_0 : Sl) (x0_1 : Sl) (n_1 : Int) (v : World) (Q : Value → World → Prop) : Prop :=
 Trip Tryz.prog 136 #[x0_0.val, .int .i64 n_1] v fun r1 w2 =>
 ∃ x3 : Sl, r1 = x3.val ∧
 ∃ I4 : Sl → Int → World → Prop, ∃ m5 : Sl → Int → World → Nat, I4 (Sl.mk none 0 0) 0 w2 ∧
 ∀ x6 : Sl, ∀ n7 : Int, ∀ w8 : World, I4 x6 n7 w8 →
 ((decide (n7 < (x3.n : Int))) = true →
 IxOk x3 n7 ∧
 ∃ n9 : Int, w8.cell? ((elA x3 n7 1).add 0) = some (.int .i64 n9) ∧
 ∃ x10 : Sl, (Trip Tryz.prog 137 #[x0_0.val, .int .i64 n9] w8 fun r11 w12 => r11 = x10.val ∧ Sub w8 w12) ∧
 StepT Tryz.prog (Instr.buildSlice 154 1 #[(0, (x10.val))]) w8 fun r13 w14 =>
 ∃ x15 : Sl, r13 = x15.val ∧
 StepT Tryz.prog (Builtin.append_ #[154, 154] 154 #[(x6.val), (x15.val)]) w14 fun r16 w17 =>
 ∃ x18 : Sl, r16 = x18.val ∧
 ∃ n19 : Int, Wr .i64 (n7 + 1) n19 ∧
 ((.sl x0_0 : SV) = .sl x0_0) ∧
 ((.sl x0_1 : SV) = .sl x0_1) ∧
 I4 x18 n19 w17 ∧
 m5 x18 n19 w17 < m5 x6 n7 w8) ∧
 ((decide (n7 < (x3.n : Int))) = false →
 Q (x6.val) w8)
theorem of116 (x0_0 : Sl) (x0_1 : Sl) (n_1 : Int) (v : World) (Q : Value → World → Prop) (h : vc116 x0_0 x0_1 n_1 v Q) : Trip Tryz.prog 116 #[.agg #[x0_0.val, x0_1.val], .int .i64 n_1] v Q :=
 trip_of_eq (args := [.ag [.sl x0_0, .sl x0_1], .num .i64 n_1]) (A := ⟨[(3, [(5, .sl), (13, .int .i64)], [])], [], [], [], psG⟩) Tryz.func116 (by kernel_rfl) (by kernel_rfl) (by kernel_rfl : vc116 x0_0 x0_1 n_1 v Q = _) h

def vc117 (x0_0 : Sl) (x0_1 : Sl) (n_1 : Int) (n_2 : Int) (x_3 : Sl) (v : World) (Q : Value → World → Prop) : Prop :=
 ((decide (n_1 = 0)) = true →
 Q (.tuple #[.int .i64 0, .bool (((decide (n_2 ≥ (-999))) && (decide (n_2 ≤ 999))) && (decide ((x_3.n : Int) = 0)))]) v) ∧
 ((decide (n_1 = 0)) = false →
 ((decide (n_1 = 1)) = true →
 StepT Tryz.prog (Instr.buildSlice 37 2 #[(0, (.int .i64 0)), (1, (.int .i64 0))]) v fun r1 w2 =>
 ∃ x3 : Sl, r1 = x3.val ∧
 ∃ q4 : Bool, ((decide (n_2 = 0)) = true →
 (Trip Tryz.prog 139 #[x_3.val, x3.val] w2 fun r5 w6 => r5 = .bool q4 ∧ Sub w2 w6)) ∧
 Q (.tuple #[.int .i64 0, .bool ((decide (n_2 = 0)) && q4)]) w2) ∧
 ((decide (n_1 = 1)) = false →
 ((decide (n_1 = 2)) = true →
 StepT Tryz.prog (Instr.buildSlice 37 2 #[(0, (.int .i64 0)), (1, (.int .i64 0))]) v fun r7 w8 =>
 ∃ x9 : Sl, r7 = x9.val ∧
 ∃ q10 : Bool, ((decide (n_2 = 0)) = true →
 (Trip Tryz.prog 139 #[x_3.val, x9.val] w8 fun r11 w12 => r11 = .bool q10 ∧ Sub w8 w12)) ∧
 Q (.tuple #[.int .i64 0, .bool ((decide (n_2 = 0)) && q10)]) w8) ∧
 ((decide (n_1 = 2)) = false →
 ((decide (n_1 = 3)) = true →
 StepT Tryz.prog (Instr.buildSlice 37 2 #[(0, (.int .i64 0)), (1, (.int .i64 0))]) v fun r13 w14 =>
 ∃ x15 : Sl, r13 = x15.val ∧
 ∃ q16 : Bool, ((decide (n_2 = 0)) = true →
 (Trip Tryz.prog 139 #[x_3.val, x15.val] w14 fun r17 w18 => r17 = .bool q16 ∧ Sub w14 w18)) ∧
 Q (.tuple #[.int .i64 0, .bool ((decide (n_2 = 0)) && q16)]) w14) ∧
 ((decide (n_1 = 3)) = false →
 ((decide (n_1 = 4)) = true →
 StepT Tryz.prog (Instr.buildSlice 37 2 #[(0, (.int .i64 0)), (1, (.int .i64 0))]) v fun r19 w20 =>
 ∃ x21 : Sl, r19 = x21.val ∧
 ∃ q22 : Bool, ((decide (n_2 = 0)) = true →
 (Trip Tryz.prog 139 #[x_3.val, x21.val] w20 fun r23 w24 => r23 = .bool q22 ∧ Sub w20 w24)) ∧
 Q (.tuple #[.int .i64 0, .bool ((decide (n_2 = 0)) && q22)]) w20) ∧
 ((decide (n_1 = 4)) = false →
 ((decide (n_1 = 5)) = true →
 StepT Tryz.prog (Instr.buildSlice 37 1 #[(0, (.int .i64 0))]) v fun r25 w26 =>
 ∃ x27 : Sl, r25 = x27.val ∧
 ∃ q28 : Bool, ((decide (n_2 = 0)) = true →
 (Trip Tryz.prog 139 #[x_3.val, x27.val] w26 fun r29 w30 => r29 = .bool q28 ∧ Sub w26 w30)) ∧
 Q (.tuple #[.int .i64 0, .bool ((decide (n_2 = 0)) && q28)]) w26) ∧
 ((decide (n_1 = 5)) = false →
 ((decide (n_1 = 11)) = true →
 ((!decide ((x_3.n : Int) = 2)) = true →
 Q (.tuple #[.int .i64 (-1), .bool false]) v) ∧
 ((!decide ((x_3.n : Int) = 2)) = false →
 IxOk x_3 0 ∧
 ∃ n31 : Int, v.cell? ((elA x_3 0 1).add 0) = some (.int .i64 n31) ∧
 ∃ n32 : Int, ∃ n33 : Int, ∃ x34 : Sl, ∃ q35 : Bool, (Trip Tryz.prog 114 #[x0_0.val, .int .i64 n31] v fun r36 w37 => r36 = .tuple #[.agg #[.int .i64 n32, .int .i64 n33, x34.val], .bool q35] ∧ Sub v w37) ∧
 Sub v v ∧
 (q35 = true →
 IxOk x_3 1) ∧
 ∃ n38 : Int, (q35 = true →
 v.cell? ((elA x_3 1 1).add 0) = some (.int .i64 n38)) ∧
 Q (.tuple #[.int .i64 n33, .bool ((q35 && (decide (n38 = n32))) && (decide (n_2 = 0)))]) v)) ∧
 ((decide (n_1 = 11)) = false →
 ((decide (n_1 = 6)) = true →
 ∃ n39 : Int, ∃ x40 : Sl, (Trip Tryz.prog 138 #[x0_0.val, .int .i64 n_2] v fun r41 w42 => r41 = .tuple #[.int .i64 n39, .agg #[x40.val]] ∧ Sub v w42) ∧
 ∃ q43 : Bool, ((decide (n39 ≥ 0)) = true →
 (Trip Tryz.prog 139 #[x_3.val, x40.val] v fun r44 w45 => r44 = .bool q43 ∧ Sub v w45)) ∧
 Q (.tuple #[.int .i64 n39, .bool ((decide (n39 ≥ 0)) && q43)]) v) ∧
 ((decide (n_1 = 6)) = false →
 ((decide (n_1 = 9)) = true →
 (((decide (n_2 < 0)) || (decide (n_2 ≥ (x0_1.n : Int)))) = true →
 Q (.tuple #[.int .i64 (-1), .bool false]) v) ∧
 (((decide (n_2 < 0)) || (decide (n_2 ≥ (x0_1.n : Int)))) = false →
 IxOk x0_1 n_2 ∧
 ∃ x46 : Sl, v.cell? ((elA x0_1 n_2 3).add 0) = some (x46.val) ∧
 IxOk x0_1 n_2 ∧
 ∃ n47 : Int, v.cell? ((elA x0_1 n_2 3).add 2) = some (.int .i64 n47) ∧
 ((decide (n_1 = 9)) = true →
 ∃ q48 : Bool, (Trip Tryz.prog 139 #[x_3.val, x46.val] v fun r49 w50 => r49 = .bool q48 ∧ Sub v w50) ∧
 Q (.tuple #[.int .i64 n47, .bool q48]) v) ∧
 ((decide (n_1 = 9)) = false →
 ∃ n51 : Int, Wr .i64 ((x46.n : Int) - 1) n51 ∧
 ((decide (n51 < 0)) = true →
 Q (.tuple #[.int .i64 (-1), .bool false]) v) ∧
 ((decide (n51 < 0)) = false →
 IxOk x46 n51 ∧
 ∃ n52 : Int, v.cell? ((elA x46 n51 1).add 0) = some (.int .i64 n52) ∧
 ∃ n53 : Int, (Trip Tryz.prog 140 #[x0_0.val, .int .i64 n52, .int .i64 n47] v fun r54 w55 => r54 = .int .i64 n53 ∧ Sub v w55) ∧
 ((decide (n53 ≥ 0)) = true →
 CutOk x46 0 n51) ∧
 ∃ q56 : Bool, ((decide (n53 ≥ 0)) = true →
 (Trip Tryz.prog 139 #[x_3.val, (x46.cut 0 n51 1).val] v fun r57 w58 => r57 = .bool q56 ∧ Sub v w58)) ∧
 Q (.tuple #[.int .i64 n53, .bool ((decide (n53 ≥ 0)) && q56)]) v)))) ∧
 ((decide (n_1 = 9)) = false →
 ((decide (n_1 = 10)) = true →
 (((decide (n_2 < 0)) || (decide (n_2 ≥ (x0_1.n : Int)))) = true →
 Q (.tuple #[.int .i64 (-1), .bool false]) v) ∧
 (((decide (n_2 < 0)) || (decide (n_2 ≥ (x0_1.n : Int)))) = false →
 IxOk x0_1 n_2 ∧
 ∃ x59 : Sl, v.cell? ((elA x0_1 n_2 3).add 0) = some (x59.val) ∧
 IxOk x0_1 n_2 ∧
 ∃ n60 : Int, v.cell? ((elA x0_1 n_2 3).add 2) = some (.int .i64 n60) ∧
 ((decide (n_1 = 9)) = true →
 ∃ q61 : Bool, (Trip Tryz.prog 139 #[x_3.val, x59.val] v fun r62 w63 => r62 = .bool q61 ∧ Sub v w63) ∧
 Q (.tuple #[.int .i64 n60, .bool q61]) v) ∧
 ((decide (n_1 = 9)) = false →
 ∃ n64 : Int, Wr .i64 ((x59.n : Int) - 1) n64 ∧
 ((decide (n64 < 0)) = true →
 Q (.tuple #[.int .i64 (-1), .bool false]) v) ∧
 ((decide (n64 < 0)) = false →
 IxOk x59 n64 ∧
 ∃ n65 : Int, v.cell? ((elA x59 n64 1).add 0) = some (.int .i64 n65) ∧
 ∃ n66 : Int, (Trip Tryz.prog 140 #[x0_0.val, .int .i64 n65, .int .i64 n60] v fun r67 w68 => r67 = .int .i64 n66 ∧ Sub v w68) ∧
 ((decide (n66 ≥ 0)) = true →
 CutOk x59 0 n64) ∧
 ∃ q69 : Bool, ((decide (n66 ≥ 0)) = true →
 (Trip Tryz.prog 139 #[x_3.val, (x59.cut 0 n64 1).val] v fun r70 w71 => r70 = .bool q69 ∧ Sub v w71)) ∧
 Q (.tuple #[.int .i64 n66, .bool ((decide (n66 ≥ 0)) && q69)]) v)))) ∧
 ((decide (n_1 = 10)) = false →
 Q (.tuple #[.int .i64 (-1), .bool false]) v))))))))))
theorem of117 (x0_0 : Sl) (x0_1 : Sl) (n_1 : Int) (n_2 : Int) (x_3 : Sl) (v : World) (Q : Value → World → Prop) (h : vc117 x0_0 x0_1 n_1 n_2 x_3 v Q) : Trip Tryz.prog 117 #[.agg #[x0_0.val, x0_1.val], .int .i64 n_1, .int .i64 n_2, x_3.val] v Q :=
 trip_of_eq (args := [.ag [.sl x0_0, .sl x0_1], .num .i64 n_1, .num .i64 n_2, .sl x_3]) (A := ⟨[], [], [(16, [9])], [999999], psG⟩) Tryz.func117 (by kernel_rfl) (by kernel_rfl) (by kernel_rfl : vc117 x0_0 x0_1 n_1 n_2 x_3 v Q = _) h

def vc118 (a_0 : Addr) (n_1 : Int) (n_2 : Int) (v : World) (Q : Value → World → Prop) : Prop :=
 ((decide (n_1 = 14)) = true →
 ∃ q1 : Bool, (Trip Tryz.prog 43 #[.pointer (some (a_0.add 0)), .int .i64 n_2] v fun r2 w3 => r2 = .bool q1 ∧ Sub v w3) ∧
 ((!q1) = true →
 Q (.bool false) v) ∧
 ((!q1) = false →
 ∃ x4 : Sl, v.cell? (a_0.add 5) = some (x4.val) ∧
 IxOk x4 n_2 ∧
 ∃ n5 : Int, v.cell? ((elA x4 n_2 1).add 0) = some (.int .i64 n5) ∧
 ∃ n6 : Int, Wr .i64 (n5 + 1) n6 ∧
 IxOk x4 n_2 ∧
 StoreAt v (elA x4 n_2 1) 0 [.int .i64 n6] fun w7 =>
 Q (.bool true) w7)) ∧
 ((decide (n_1 = 14)) = false →
 ((decide (n_1 = 15)) = true →
 Trip Tryz.prog 88 #[.pointer (some (a_0.add 0)), .int .i64 n_2] v fun r8 w9 =>
 ∃ q10 : Bool, r8 = .bool q10 ∧
 Q (.bool q10) w9) ∧
 ((decide (n_1 = 15)) = false →
 ∃ x11 : Sl, v.cell? (a_0.add 3) = some (x11.val) ∧
 Trip Tryz.prog 141 #[x11.val, .int .i64 n_2] v fun r12 w13 =>
 ∃ n14 : Int, ∃ n15 : Int, ∃ x16 : Sl, ∃ q17 : Bool, ∃ q18 : Bool, r12 = .tuple #[.agg #[.int .i64 n14, .int .i64 n15, x16.val, .bool q17], .bool q18] ∧
 ((!q18) = false →
 Trip Tryz.prog 88 #[.pointer (some (a_0.add 0)), .int .i64 n_2] w13 fun r19 w20 =>
 ∃ q21 : Bool, r19 = .bool q21 ∧
 ∃ x22 : Sl, ((decide (n_1 = 17)) = true →
 (!q21) = false →
 w20.cell? (a_0.add 6) = some (x22.val)) ∧
 ((decide (n_1 = 17)) = true →
 (!q21) = false →
 IxOk x22 n_2) ∧
 ∃ n23 : Int, ((decide (n_1 = 17)) = true →
 (!q21) = false →
 w20.cell? ((elA x22 n_2 1).add 0) = some (.int .i64 n23)) ∧
 (((!q21) || ((decide (n_1 = 17)) && (decide (n23 ≥ 0)))) = true →
 Q (.bool false) w20) ∧
 (((!q21) || ((decide (n_1 = 17)) && (decide (n23 ≥ 0)))) = false →
 Trip Tryz.prog 142 #[.agg #[.int .i64 n14, .int .i64 n15, x16.val, .bool q17]] w20 fun r24 w25 =>
 ∃ x26 : Sl, r24 = x26.val ∧
 ∃ I27 : Int → World → Prop, ∃ m28 : Int → World → Nat, I27 0 w25 ∧
 ∀ n29 : Int, ∀ w30 : World, I27 n29 w30 →
 ((decide (n29 < (x26.n : Int))) = true →
 IxOk x26 n29 ∧
 ∃ n31 : Int, w30.cell? ((elA x26 n29 1).add 0) = some (.int .i64 n31) ∧
 ∃ x32 : Sl, w30.cell? (a_0.add 5) = some (x32.val) ∧
 IxOk x32 n31 ∧
 ∃ n33 : Int, w30.cell? ((elA x32 n31 1).add 0) = some (.int .i64 n33) ∧
 ∃ n34 : Int, Wr .i64 (n33 + 1) n34 ∧
 IxOk x32 n31 ∧
 StoreAt w30 (elA x32 n31 1) 0 [.int .i64 n34] fun w35 =>
 ∃ n36 : Int, Wr .i64 (n29 + 1) n36 ∧
 ((.num .i64 n14 : SV) = .num .i64 n14) ∧
 ((.num .i64 n15 : SV) = .num .i64 n15) ∧
 ((.sl x16 : SV) = .sl x16) ∧
 ((.b q17 : SV) = .b q17) ∧
 I27 n36 w35 ∧
 m28 n36 w35 < m28 n29 w30) ∧
 ((decide (n29 < (x26.n : Int))) = false →
 ((decide (n_1 = 17)) = true →
 ∃ x37 : Sl, w30.cell? (a_0.add 6) = some (x37.val) ∧
 IxOk x37 n_2 ∧
 StoreAt w30 (elA x37 n_2 1) 0 [.int .i64 (x16.n : Int)] fun w38 =>
 Q (.bool true) w38) ∧
 ((decide (n_1 = 17)) = false →
 Q (.bool true) w30)))) ∧
 ((!q18) = true →
 Q (.bool false) w13)))
theorem of118 (a_0 : Addr) (n_1 : Int) (n_2 : Int) (v : World) (Q : Value → World → Prop) (h : vc118 a_0 n_1 n_2 v Q) : Trip Tryz.prog 118 #[.pointer (some (a_0.add 0)), .int .i64 n_1, .int .i64 n_2] v Q :=
 trip_of_eq (args := [.pt a_0 0, .num .i64 n_1, .num .i64 n_2]) (A := ⟨[(13, [(66, .int .i64)], [])], [], [(18, [])], [999999], psG⟩) Tryz.func118 (by kernel_rfl) (by kernel_rfl) (by kernel_rfl : vc118 a_0 n_1 n_2 v Q = _) h

def vc120 (n_0 : Int) (v : World) (Q : Value → World → Prop) : Prop :=
 Q (.bool ((((decide (n_0 = 6)) || (decide (n_0 = 9))) || (decide (n_0 = 10))) || (decide (n_0 = 11)))) v
theorem of120 (n_0 : Int) (v : World) (Q : Value → World → Prop) (h : vc120 n_0 v Q) : Trip Tryz.prog 120 #[.int .i64 n_0] v Q :=
 trip_of_eq (args := [.num .i64 n_0]) (A := ⟨[], [], [], [], psG⟩) Tryz.func120 (by kernel_rfl) (by kernel_rfl) (by kernel_rfl : vc120 n_0 v Q = _) h

def vc121 (a_0 : Addr) (n1_0 : Int) (n1_1 : Int) (n1_2 : Int) (x1_3 : Sl) (x1_4 : Sl) (v : World) (Q : Value → World → Prop) : Prop :=
 ∃ x1 : Sl, ∃ x2 : Sl, (v.cell? (a_0.add 0) = some (x1.val) ∧
 v.cell? (a_0.add 1) = some (x2.val)) ∧
 ∃ x3 : Sl, v.cell? (a_0.add 4) = some (x3.val) ∧
 Trip Tryz.prog 145 #[.agg #[x1.val, x2.val], x3.val, .agg #[.int .i64 n1_0, .int .i64 n1_1, .int .i64 n1_2, x1_3.val, x1_4.val]] v fun r4 w5 =>
 ∃ x6 : Sl, ∃ x7 : Sl, r4 = .tuple #[x6.val, x7.val] ∧
 ∃ I8 : Int → World → Prop, ∃ m9 : Int → World → Nat, I8 0 w5 ∧
 ∀ n10 : Int, ∀ w11 : World, I8 n10 w11 →
 ((decide (n10 < (x6.n : Int))) = true →
 IxOk x6 n10 ∧
 ∃ n12 : Int, w11.cell? ((elA x6 n10 1).add 0) = some (.int .i64 n12) ∧
 IxOk x1_3 n12 ∧
 ∃ n13 : Int, w11.cell? ((elA x1_3 n12 1).add 0) = some (.int .i64 n13) ∧
 Trip Tryz.prog 88 #[.pointer (some (a_0.add 0)), .int .i64 n13] w11 fun r14 w15 =>
 ∃ q16 : Bool, r14 = .bool q16 ∧
 ((!q16) = true →
 Q (.bool false) w15) ∧
 ((!q16) = false →
 ∃ n17 : Int, Wr .i64 (n10 + 1) n17 ∧
 ((.num .i64 n1_0 : SV) = .num .i64 n1_0) ∧
 ((.num .i64 n1_1 : SV) = .num .i64 n1_1) ∧
 ((.num .i64 n1_2 : SV) = .num .i64 n1_2) ∧
 ((.sl x1_3 : SV) = .sl x1_3) ∧
 ((.sl x1_4 : SV) = .sl x1_4) ∧
 I8 n17 w15 ∧
 m9 n17 w15 < m9 n10 w11)) ∧
 ((decide (n10 < (x6.n : Int))) = false →
 ∃ I18 : Int → World → Prop, ∃ m19 : Int → World → Nat, I18 0 w11 ∧
 ∀ n20 : Int, ∀ w21 : World, I18 n20 w21 →
 ((decide (n20 < (x7.n : Int))) = true →
 IxOk x7 n20 ∧
 ∃ n22 : Int, w21.cell? ((elA x7 n20 1).add 0) = some (.int .i64 n22) ∧
 ∃ q23 : Bool, (Trip Tryz.prog 43 #[.pointer (some (a_0.add 0)), .int .i64 n22] w21 fun r24 w25 => r24 = .bool q23 ∧ Sub w21 w25) ∧
 ((!q23) = true →
 Q (.bool false) w21) ∧
 ((!q23) = false →
 ∃ n26 : Int, Wr .i64 (n20 + 1) n26 ∧
 ((.num .i64 n1_0 : SV) = .num .i64 n1_0) ∧
 ((.num .i64 n1_1 : SV) = .num .i64 n1_1) ∧
 ((.num .i64 n1_2 : SV) = .num .i64 n1_2) ∧
 ((.sl x1_3 : SV) = .sl x1_3) ∧
 ((.sl x1_4 : SV) = .sl x1_4) ∧
 I18 n26 w21 ∧
 m19 n26 w21 < m19 n20 w21)) ∧
 ((decide (n20 < (x7.n : Int))) = false →
 ((!decide (n1_2 = 0)) = true →
 ∃ x27 : Sl, w21.cell? (a_0.add 6) = some (x27.val) ∧
 ∃ n28 : Int, Wr .i64 (n1_2 - 1) n28 ∧
 IxOk x27 n28 ∧
 ∃ n29 : Int, w21.cell? ((elA x27 n28 1).add 0) = some (.int .i64 n29) ∧
 ((!decide (n29 = (x1_3.n : Int))) = true →
 Q (.bool false) w21) ∧
 ((!decide (n29 = (x1_3.n : Int))) = false →
 ∃ x30 : Sl, w21.cell? (a_0.add 6) = some (x30.val) ∧
 ∃ n31 : Int, Wr .i64 (n1_2 - 1) n31 ∧
 IxOk x30 n31 ∧
 StoreAt w21 (elA x30 n31 1) 0 [.int .i64 (-1)] fun w32 =>
 Q (.bool true) w32)) ∧
 ((!decide (n1_2 = 0)) = false →
 Q (.bool true) w21)))
theorem of121 (a_0 : Addr) (n1_0 : Int) (n1_1 : Int) (n1_2 : Int) (x1_3 : Sl) (x1_4 : Sl) (v : World) (Q : Value → World → Prop) (h : vc121 a_0 n1_0 n1_1 n1_2 x1_3 x1_4 v Q) : Trip Tryz.prog 121 #[.pointer (some (a_0.add 0)), .agg #[.int .i64 n1_0, .int .i64 n1_1, .int .i64 n1_2, x1_3.val, x1_4.val]] v Q :=
 trip_of_eq (args := [.pt a_0 0, .ag [.num .i64 n1_0, .num .i64 n1_1, .num .i64 n1_2, .sl x1_3, .sl x1_4]]) (A := ⟨[(3, [(26, .int .i64)], []), (9, [(41, .int .i64)], [])], [], [(1, []), (17, [])], [], psG⟩) Tryz.func121 (by kernel_rfl) (by kernel_rfl) (by kernel_rfl : vc121 a_0 n1_0 n1_1 n1_2 x1_3 x1_4 v Q = _) h

def vc122 (x0_0 : Sl) (x1_0 : Sl) (v : World) (Q : Value → World → Prop) : Prop :=
 ∃ q1 : Bool, (Trip Tryz.prog 17 #[x0_0.val, x1_0.val] v fun r2 w3 => r2 = .bool q1 ∧ Sub v w3) ∧
 ((!q1) = true →
 Q (.bool false) v) ∧
 ((!q1) = false →
 Q (.bool true) v)
theorem of122 (x0_0 : Sl) (x1_0 : Sl) (v : World) (Q : Value → World → Prop) (h : vc122 x0_0 x1_0 v Q) : Trip Tryz.prog 122 #[.agg #[x0_0.val], .agg #[x1_0.val]] v Q :=
 trip_of_eq (args := [.ag [.sl x0_0], .ag [.sl x1_0]]) (A := ⟨[], [], [], [], psG⟩) Tryz.func122 (by kernel_rfl) (by kernel_rfl) (by kernel_rfl : vc122 x0_0 x1_0 v Q = _) h

def vc123 (x_0 : Sl) (x_1 : Sl) (v : World) (Q : Value → World → Prop) : Prop :=
 ((!decide ((x_0.n : Int) = (x_1.n : Int))) = true →
 Q (.bool false) v) ∧
 ((!decide ((x_0.n : Int) = (x_1.n : Int))) = false →
 ∃ I1 : Int → World → Prop, ∃ m2 : Int → World → Nat, I1 0 v ∧
 ∀ n3 : Int, ∀ w4 : World, I1 n3 w4 →
 ((decide (n3 < (x_0.n : Int))) = true →
 IxOk x_0 n3 ∧
 ∃ n5 : Int, ∃ n6 : Int, ∃ n7 : Int, ∃ x8 : Sl, ∃ x9 : Sl, (w4.cell? ((elA x_0 n3 5).add 0) = some (.int .i64 n5) ∧
 w4.cell? ((elA x_0 n3 5).add 1) = some (.int .i64 n6) ∧
 w4.cell? ((elA x_0 n3 5).add 2) = some (.int .i64 n7) ∧
 w4.cell? ((elA x_0 n3 5).add 3) = some (x8.val) ∧
 w4.cell? ((elA x_0 n3 5).add 4) = some (x9.val)) ∧
 IxOk x_1 n3 ∧
 ∃ n10 : Int, ∃ n11 : Int, ∃ n12 : Int, ∃ x13 : Sl, ∃ x14 : Sl, (w4.cell? ((elA x_1 n3 5).add 0) = some (.int .i64 n10) ∧
 w4.cell? ((elA x_1 n3 5).add 1) = some (.int .i64 n11) ∧
 w4.cell? ((elA x_1 n3 5).add 2) = some (.int .i64 n12) ∧
 w4.cell? ((elA x_1 n3 5).add 3) = some (x13.val) ∧
 w4.cell? ((elA x_1 n3 5).add 4) = some (x14.val)) ∧
 ∃ q15 : Bool, (Trip Tryz.prog 146 #[.agg #[.int .i64 n5, .int .i64 n6, .int .i64 n7, x8.val, x9.val], .agg #[.int .i64 n10, .int .i64 n11, .int .i64 n12, x13.val, x14.val]] w4 fun r16 w17 => r16 = .bool q15 ∧ Sub w4 w17) ∧
 ((!q15) = true →
 Q (.bool false) w4) ∧
 ((!q15) = false →
 ∃ n18 : Int, Wr .i64 (n3 + 1) n18 ∧
 I1 n18 w4 ∧
 m2 n18 w4 < m2 n3 w4)) ∧
 ((decide (n3 < (x_0.n : Int))) = false →
 Q (.bool true) w4))
theorem of123 (x_0 : Sl) (x_1 : Sl) (v : World) (Q : Value → World → Prop) (h : vc123 x_0 x_1 v Q) : Trip Tryz.prog 123 #[x_0.val, x_1.val] v Q :=
 trip_of_eq (args := [.sl x_0, .sl x_1]) (A := ⟨[(4, [(5, .int .i64)], [])], [], [], [], psG⟩) Tryz.func123 (by kernel_rfl) (by kernel_rfl) (by kernel_rfl : vc123 x_0 x_1 v Q = _) h

def vc124 (a_0 : Addr) (x1_0 : Sl) (x1_1 : Sl) (n2_0 : Int) (n2_1 : Int) (n2_2 : Int) (x2_3 : Sl) (x2_4 : Sl) (n_3 : Int) (v : World) (Q : Value → World → Prop) : Prop :=
 ∃ x1 : Sl, v.cell? (a_0.add 0) = some (x1.val) ∧
 Trip Tryz.prog 147 #[.pointer (some (a_0.add 0))] v fun r2 w3 =>
 ∃ a4 : Addr, r2 = .pointer (some (a4.add 0)) ∧
 ((decide (n2_0 = 8)) = true →
 Trip Tryz.prog 131 #[x1_0.val, .int .i64 n2_1] w3 fun r5 w6 =>
 ∃ x7 : Sl, r5 = x7.val ∧
 IxOk x7 n_3 ∧
 ∃ n8 : Int, w6.cell? ((elA x7 n_3 1).add 0) = some (.int .i64 n8) ∧
 Trip Tryz.prog 104 #[x1_0.val, .int .i64 n8] w6 fun r9 w10 =>
 ∃ x11 : Sl, r9 = x11.val ∧
 ∃ x12 : Sl, w10.cell? (a4.add 3) = some (x12.val) ∧
 IxOk x2_3 0 ∧
 ∃ n13 : Int, w10.cell? ((elA x2_3 0 1).add 0) = some (.int .i64 n13) ∧
 IxOk x12 n13 ∧
 StoreAt w10 (elA x12 n13 1) 0 [.int .i64 n8] fun w14 =>
 ∃ x15 : Sl, w14.cell? (a4.add 4) = some (x15.val) ∧
 IxOk x2_3 0 ∧
 ∃ n16 : Int, w14.cell? ((elA x2_3 0 1).add 0) = some (.int .i64 n16) ∧
 IxOk x15 n16 ∧
 StoreAt w14 (elA x15 n16 1) 0 [.int .i64 (x1.n : Int)] fun w17 =>
 ∃ I18 : Int → World → Prop, ∃ m19 : Int → World → Nat, I18 0 w17 ∧
 ∀ n20 : Int, ∀ w21 : World, I18 n20 w21 →
 ((decide (n20 < (x11.n : Int))) = true →
 IxOk x11 n20 ∧
 ∃ n22 : Int, w21.cell? ((elA x11 n20 1).add 0) = some (.int .i64 n22) ∧
 IxOk x2_3 0 ∧
 ∃ n23 : Int, w21.cell? ((elA x2_3 0 1).add 0) = some (.int .i64 n23) ∧
 Trip Tryz.prog 76 #[.pointer (some (a4.add 0)), .int .i64 n22, .int .i64 0, .int .i64 n23] w21 fun r24 w25 =>
 r24 = .tuple #[] ∧
 ∃ n26 : Int, Wr .i64 (n20 + 1) n26 ∧
 ((.sl x1_0 : SV) = .sl x1_0) ∧
 ((.sl x1_1 : SV) = .sl x1_1) ∧
 ((.num .i64 n2_0 : SV) = .num .i64 n2_0) ∧
 ((.num .i64 n2_1 : SV) = .num .i64 n2_1) ∧
 ((.num .i64 n2_2 : SV) = .num .i64 n2_2) ∧
 ((.sl x2_3 : SV) = .sl x2_3) ∧
 ((.sl x2_4 : SV) = .sl x2_4) ∧
 I18 n26 w25 ∧
 m19 n26 w25 < m19 n20 w21) ∧
 ((decide (n20 < (x11.n : Int))) = false →
 IxOk x2_4 n_3 ∧
 ∃ x27 : Sl, ∃ n28 : Int, (w21.cell? ((elA x2_4 n_3 2).add 0) = some (x27.val) ∧
 w21.cell? ((elA x2_4 n_3 2).add 1) = some (.int .i64 n28)) ∧
 Trip Tryz.prog 50 #[.pointer (some (a4.add 0)), .agg #[x1_0.val, x1_1.val], .agg #[x27.val, .int .i64 n28], .int .i64 (x1.n : Int)] w21 fun r29 w30 =>
 ∃ q31 : Bool, r29 = .bool q31 ∧
 Q (.tuple #[.pointer (some (a4.add 0)), .bool q31]) w30)) ∧
 ((decide (n2_0 = 8)) = false →
 IxOk x2_4 n_3 ∧
 ∃ x32 : Sl, ∃ n33 : Int, (w3.cell? ((elA x2_4 n_3 2).add 0) = some (x32.val) ∧
 w3.cell? ((elA x2_4 n_3 2).add 1) = some (.int .i64 n33)) ∧
 Trip Tryz.prog 50 #[.pointer (some (a4.add 0)), .agg #[x1_0.val, x1_1.val], .agg #[x32.val, .int .i64 n33], .int .i64 (x1.n : Int)] w3 fun r34 w35 =>
 ∃ q36 : Bool, r34 = .bool q36 ∧
 Q (.tuple #[.pointer (some (a4.add 0)), .bool q36]) w35)
theorem of124 (a_0 : Addr) (x1_0 : Sl) (x1_1 : Sl) (n2_0 : Int) (n2_1 : Int) (n2_2 : Int) (x2_3 : Sl) (x2_4 : Sl) (n_3 : Int) (v : World) (Q : Value → World → Prop) (h : vc124 a_0 x1_0 x1_1 n2_0 n2_1 n2_2 x2_3 x2_4 n_3 v Q) : Trip Tryz.prog 124 #[.pointer (some (a_0.add 0)), .agg #[x1_0.val, x1_1.val], .agg #[.int .i64 n2_0, .int .i64 n2_1, .int .i64 n2_2, x2_3.val, x2_4.val], .int .i64 n_3] v Q :=
 trip_of_eq (args := [.pt a_0 0, .ag [.sl x1_0, .sl x1_1], .ag [.num .i64 n2_0, .num .i64 n2_1, .num .i64 n2_2, .sl x2_3, .sl x2_4], .num .i64 n_3]) (A := ⟨[(9, [(14, .int .i64)], [])], [], [(6, []), (7, []), (11, []), (12, [])], [], psG⟩) Tryz.func124 (by kernel_rfl) (by kernel_rfl) (by kernel_rfl : vc124 a_0 x1_0 x1_1 n2_0 n2_1 n2_2 x2_3 x2_4 n_3 v Q = _) h

def vc125 (x_0 : Sl) (x_1 : Sl) (v : World) (Q : Value → World → Prop) : Prop :=
 ((!decide ((x_0.n : Int) = (x_1.n : Int))) = true →
 Q (.bool false) v) ∧
 ((!decide ((x_0.n : Int) = (x_1.n : Int))) = false →
 ∃ I1 : Int → World → Prop, ∃ m2 : Int → World → Nat, I1 0 v ∧
 ∀ n3 : Int, ∀ w4 : World, I1 n3 w4 →
 ((decide (n3 < (x_0.n : Int))) = true →
 IxOk x_0 n3 ∧
 ∃ n5 : Int, w4.cell? ((elA x_0 n3 1).add 0) = some (.int .i64 n5) ∧
 IxOk x_1 n3 ∧
 ∃ n6 : Int, w4.cell? ((elA x_1 n3 1).add 0) = some (.int .i64 n6) ∧
 ((!decide (n5 = n6)) = true →
 Q (.bool false) w4) ∧
 ((!decide (n5 = n6)) = false →
 ∃ n7 : Int, Wr .i64 (n3 + 1) n7 ∧
 I1 n7 w4 ∧
 m2 n7 w4 < m2 n3 w4)) ∧
 ((decide (n3 < (x_0.n : Int))) = false →
 Q (.bool true) w4))
theorem of125 (x_0 : Sl) (x_1 : Sl) (v : World) (Q : Value → World → Prop) (h : vc125 x_0 x_1 v Q) : Trip Tryz.prog 125 #[x_0.val, x_1.val] v Q :=
 trip_of_eq (args := [.sl x_0, .sl x_1]) (A := ⟨[(4, [(5, .int .i64)], [])], [], [], [], psG⟩) Tryz.func125 (by kernel_rfl) (by kernel_rfl) (by kernel_rfl : vc125 x_0 x_1 v Q = _) h

def vc126 (x0_0 : Sl) (x0_1 : Sl) (x_1 : Sl) (n2_0 : Int) (n2_1 : Int) (n2_2 : Int) (x2_3 : Sl) (x2_4 : Sl) (n_3 : Int) (v : World) (Q : Value → World → Prop) : Prop :=
 ∃ q1 : Bool, (Trip Tryz.prog 148 #[.int .i64 n2_0] v fun r2 w3 => r2 = .bool q1 ∧ Sub v w3) ∧
 (q1 = true →
 IxOk x2_3 n_3) ∧
 ∃ n4 : Int, (q1 = true →
 v.cell? ((elA x2_3 n_3 1).add 0) = some (.int .i64 n4)) ∧
 (q1 = true →
 IxOk x_1 n4) ∧
 ∃ n5 : Int, (q1 = true →
 v.cell? ((elA x_1 n4 1).add 0) = some (.int .i64 n5)) ∧
 ∃ q6 : Bool, ((q1 && (!decide (n5 = 0))) = true →
 (Trip Tryz.prog 127 #[.agg #[x0_0.val, x0_1.val], .agg #[.int .i64 n2_0, .int .i64 n2_1, .int .i64 n2_2, x2_3.val, x2_4.val], .int .i64 n_3] v fun r7 w8 => r7 = .bool q6 ∧ Sub v w8)) ∧
 Q (.bool ((q1 && (!decide (n5 = 0))) && (!q6))) v
theorem of126 (x0_0 : Sl) (x0_1 : Sl) (x_1 : Sl) (n2_0 : Int) (n2_1 : Int) (n2_2 : Int) (x2_3 : Sl) (x2_4 : Sl) (n_3 : Int) (v : World) (Q : Value → World → Prop) (h : vc126 x0_0 x0_1 x_1 n2_0 n2_1 n2_2 x2_3 x2_4 n_3 v Q) : Trip Tryz.prog 126 #[.agg #[x0_0.val, x0_1.val], x_1.val, .agg #[.int .i64 n2_0, .int .i64 n2_1, .int .i64 n2_2, x2_3.val, x2_4.val], .int .i64 n_3] v Q :=
 trip_of_eq (args := [.ag [.sl x0_0, .sl x0_1], .sl x_1, .ag [.num .i64 n2_0, .num .i64 n2_1, .num .i64 n2_2, .sl x2_3, .sl x2_4], .num .i64 n_3]) (A := ⟨[], [], [], [], psG⟩) Tryz.func126 (by kernel_rfl) (by kernel_rfl) (by kernel_rfl : vc126 x0_0 x0_1 x_1 n2_0 n2_1 n2_2 x2_3 x2_4 n_3 v Q = _) h

def vc127 (x0_0 : Sl) (x0_1 : Sl) (n1_0 : Int) (n1_1 : Int) (n1_2 : Int) (x1_3 : Sl) (x1_4 : Sl) (n_2 : Int) (v : World) (Q : Value → World → Prop) : Prop :=
 ((decide (n1_0 = 9)) = true →
 IxOk x0_1 n1_1) ∧
 ∃ x1 : Sl, ((decide (n1_0 = 9)) = true →
 v.cell? ((elA x0_1 n1_1 5).add 1) = some (x1.val)) ∧
 ∃ q2 : Bool, ((decide (n1_0 = 9)) = true →
 (Trip Tryz.prog 65 #[x1.val, .int .i64 n_2] v fun r3 w4 => r3 = .bool q2 ∧ Sub v w4)) ∧
 Q (.bool ((decide (n1_0 = 9)) && q2)) v
theorem of127 (x0_0 : Sl) (x0_1 : Sl) (n1_0 : Int) (n1_1 : Int) (n1_2 : Int) (x1_3 : Sl) (x1_4 : Sl) (n_2 : Int) (v : World) (Q : Value → World → Prop) (h : vc127 x0_0 x0_1 n1_0 n1_1 n1_2 x1_3 x1_4 n_2 v Q) : Trip Tryz.prog 127 #[.agg #[x0_0.val, x0_1.val], .agg #[.int .i64 n1_0, .int .i64 n1_1, .int .i64 n1_2, x1_3.val, x1_4.val], .int .i64 n_2] v Q :=
 trip_of_eq (args := [.ag [.sl x0_0, .sl x0_1], .ag [.num .i64 n1_0, .num .i64 n1_1, .num .i64 n1_2, .sl x1_3, .sl x1_4], .num .i64 n_2]) (A := ⟨[], [], [], [], psG⟩) Tryz.func127 (by kernel_rfl) (by kernel_rfl) (by kernel_rfl : vc127 x0_0 x0_1 n1_0 n1_1 n1_2 x1_3 x1_4 n_2 v Q = _) h

def vc128 (n0_0 : Int) (n0_1 : Int) (n0_2 : Int) (x0_3 : Sl) (x0_4 : Sl) (n_1 : Int) (v : World) (Q : Value → World → Prop) : Prop :=
 ∃ n1 : Int, (Trip Tryz.prog 68 #[x0_3.val, .int .i64 n_1] v fun r2 w3 => r2 = .int .i64 n1 ∧ Sub v w3) ∧
 ((decide (n1 < 0)) = true →
 Q (.int .i64 (-1)) v) ∧
 ((decide (n1 < 0)) = false →
 ∃ n4 : Int, (Trip Tryz.prog 149 #[x0_4.val, .int .i64 n1] v fun r5 w6 => r5 = .int .i64 n4 ∧ Sub v w6) ∧
 ((decide (n4 < 0)) = true →
 Q (.int .i64 (-1)) v) ∧
 ((decide (n4 < 0)) = false →
 Q (.int .i64 n4) v))
theorem of128 (n0_0 : Int) (n0_1 : Int) (n0_2 : Int) (x0_3 : Sl) (x0_4 : Sl) (n_1 : Int) (v : World) (Q : Value → World → Prop) (h : vc128 n0_0 n0_1 n0_2 x0_3 x0_4 n_1 v Q) : Trip Tryz.prog 128 #[.agg #[.int .i64 n0_0, .int .i64 n0_1, .int .i64 n0_2, x0_3.val, x0_4.val], .int .i64 n_1] v Q :=
 trip_of_eq (args := [.ag [.num .i64 n0_0, .num .i64 n0_1, .num .i64 n0_2, .sl x0_3, .sl x0_4], .num .i64 n_1]) (A := ⟨[], [], [], [], psG⟩) Tryz.func128 (by kernel_rfl) (by kernel_rfl) (by kernel_rfl : vc128 n0_0 n0_1 n0_2 x0_3 x0_4 n_1 v Q = _) h

def vc129 (x_0 : Sl) (n_1 : Int) (v : World) (Q : Value → World → Prop) : Prop :=
 IxOk x_0 n_1 ∧
 ∃ n1 : Int, ∃ n2 : Int, ∃ x3 : Sl, (v.cell? ((elA x_0 n_1 3).add 0) = some (.int .i64 n1) ∧
 v.cell? ((elA x_0 n_1 3).add 1) = some (.int .i64 n2) ∧
 v.cell? ((elA x_0 n_1 3).add 2) = some (x3.val)) ∧
 ((decide ((x3.n : Int) > 0)) = true →
 ((((decide ((x3.n : Int) > 3)) || (!decide (n1 = 0))) || (!decide (n2 = 0))) = true →
 Q (.bool false) v) ∧
 ((((decide ((x3.n : Int) > 3)) || (!decide (n1 = 0))) || (!decide (n2 = 0))) = false →
 ∃ I4 : Int → World → Prop, ∃ m5 : Int → World → Nat, I4 0 v ∧
 ∀ n6 : Int, ∀ w7 : World, I4 n6 w7 →
 ((decide (n6 < (x3.n : Int))) = true →
 IxOk x3 n6 ∧
 ∃ x8 : Sl, w7.cell? ((elA x3 n6 1).add 0) = some (x8.val) ∧
 ((decide ((x8.n : Int) > 3)) = false →
 IxOk x3 n6) ∧
 ∃ x9 : Sl, ((decide ((x8.n : Int) > 3)) = false →
 w7.cell? ((elA x3 n6 1).add 0) = some (x9.val)) ∧
 ∃ q10 : Bool, ((decide ((x8.n : Int) > 3)) = false →
 (Trip Tryz.prog 99 #[x_0.val, x9.val] w7 fun r11 w12 => r11 = .bool q10 ∧ Sub w7 w12)) ∧
 (((decide ((x8.n : Int) > 3)) || (!q10)) = true →
 Q (.bool false) w7) ∧
 (((decide ((x8.n : Int) > 3)) || (!q10)) = false →
 ∃ n13 : Int, Wr .i64 (n6 + 1) n13 ∧
 ((.num .i64 n1 : SV) = .num .i64 n1) ∧
 ((.num .i64 n2 : SV) = .num .i64 n2) ∧
 ((.sl x3 : SV) = .sl x3) ∧
 I4 n13 w7 ∧
 m5 n13 w7 < m5 n6 w7)) ∧
 ((decide (n6 < (x3.n : Int))) = false →
 Q (.bool true) w7))) ∧
 ((decide ((x3.n : Int) > 0)) = false →
 ∃ I14 : Int → World → Prop, ∃ m15 : Int → World → Nat, I14 0 v ∧
 ∀ n16 : Int, ∀ w17 : World, I14 n16 w17 →
 ((decide (n16 < n_1)) = true →
 IxOk x_0 n16 ∧
 ∃ x18 : Sl, w17.cell? ((elA x_0 n16 3).add 2) = some (x18.val) ∧
 ((decide ((x18.n : Int) = 0)) = true →
 IxOk x_0 n16) ∧
 ∃ n19 : Int, ((decide ((x18.n : Int) = 0)) = true →
 w17.cell? ((elA x_0 n16 3).add 0) = some (.int .i64 n19)) ∧
 (((decide ((x18.n : Int) = 0)) && (decide (n19 = n1))) = true →
 IxOk x_0 n16) ∧
 ∃ n20 : Int, (((decide ((x18.n : Int) = 0)) && (decide (n19 = n1))) = true →
 w17.cell? ((elA x_0 n16 3).add 1) = some (.int .i64 n20)) ∧
 ((((decide ((x18.n : Int) = 0)) && (decide (n19 = n1))) && (decide (n20 = n2))) = true →
 Q (.bool false) w17) ∧
 ((((decide ((x18.n : Int) = 0)) && (decide (n19 = n1))) && (decide (n20 = n2))) = false →
 ∃ n21 : Int, Wr .i64 (n16 + 1) n21 ∧
 ((.num .i64 n1 : SV) = .num .i64 n1) ∧
 ((.num .i64 n2 : SV) = .num .i64 n2) ∧
 ((.sl x3 : SV) = .sl x3) ∧
 I14 n21 w17 ∧
 m15 n21 w17 < m15 n16 w17)) ∧
 ((decide (n16 < n_1)) = false →
 ∃ q22 : Bool, (Trip Tryz.prog 28 #[.int .i64 n1, .int .i64 0, .int .i64 (x_0.n : Int)] w17 fun r23 w24 => r23 = .bool q22 ∧ Sub w17 w24) ∧
 ∃ q25 : Bool, (q22 = true →
 (Trip Tryz.prog 28 #[.int .i64 n2, .int .i64 0, .int .i64 (x_0.n : Int)] w17 fun r26 w27 => r26 = .bool q25 ∧ Sub w17 w27)) ∧
 Q (.bool (q22 && q25)) w17))
theorem of129 (x_0 : Sl) (n_1 : Int) (v : World) (Q : Value → World → Prop) (h : vc129 x_0 n_1 v Q) : Trip Tryz.prog 129 #[x_0.val, .int .i64 n_1] v Q :=
 trip_of_eq (args := [.sl x_0, .num .i64 n_1]) (A := ⟨[(6, [(6, .int .i64)], []), (12, [(7, .int .i64)], [])], [], [], [], psG⟩) Tryz.func129 (by kernel_rfl) (by kernel_rfl) (by kernel_rfl : vc129 x_0 n_1 v Q = _) h

def vc130 (x_0 : Sl) (n_1 : Int) (v : World) (Q : Value → World → Prop) : Prop :=
 ∃ I1 : Int → Int → World → Prop, ∃ m2 : Int → Int → World → Nat, I1 0 0 v ∧
 ∀ n3 : Int, ∀ n4 : Int, ∀ w5 : World, I1 n3 n4 w5 →
 ((decide (n4 < n_1)) = true →
 IxOk x_0 n4 ∧
 ∃ x6 : Sl, w5.cell? ((elA x_0 n4 3).add 2) = some (x6.val) ∧
 ∃ n7 : Int, Wr .i64 (n3 + (x6.n : Int)) n7 ∧
 ∃ n8 : Int, Wr .i64 (n4 + 1) n8 ∧
 I1 n7 n8 w5 ∧
 m2 n7 n8 w5 < m2 n3 n4 w5) ∧
 ((decide (n4 < n_1)) = false →
 Q (.int .i64 n3) w5)
theorem of130 (x_0 : Sl) (n_1 : Int) (v : World) (Q : Value → World → Prop) (h : vc130 x_0 n_1 v Q) : Trip Tryz.prog 130 #[x_0.val, .int .i64 n_1] v Q :=
 trip_of_eq (args := [.sl x_0, .num .i64 n_1]) (A := ⟨[(3, [(5, .int .i64), (6, .int .i64)], [])], [], [], [], psG⟩) Tryz.func130 (by kernel_rfl) (by kernel_rfl) (by kernel_rfl : vc130 x_0 n_1 v Q = _) h

def vc131 (x_0 : Sl) (n_1 : Int) (v : World) (Q : Value → World → Prop) : Prop :=
 StepT Tryz.prog (Instr.buildSlice 37 0 #[]) v fun r1 w2 =>
 ∃ x3 : Sl, r1 = x3.val ∧
 ∃ q4 : Bool, (Trip Tryz.prog 28 #[.int .i64 n_1, .int .i64 1, .int .i64 (x_0.n : Int)] w2 fun r5 w6 => r5 = .bool q4 ∧ Sub w2 w6) ∧
 ((!q4) = true →
 Q (x3.val) w2) ∧
 ((!q4) = false →
 ∃ I7 : Sl → Int → World → Prop, ∃ m8 : Sl → Int → World → Nat, I7 x3 0 w2 ∧
 ∀ x9 : Sl, ∀ n10 : Int, ∀ w11 : World, I7 x9 n10 w11 →
 ∃ n12 : Int, Wr .i64 (n_1 - 1) n12 ∧
 IxOk x_0 n12 ∧
 ∃ x13 : Sl, w11.cell? ((elA x_0 n12 3).add 2) = some (x13.val) ∧
 ((decide (n10 < (x13.n : Int))) = true →
 ∃ n14 : Int, Wr .i64 (n_1 - 1) n14 ∧
 ∃ n15 : Int, (Trip Tryz.prog 130 #[x_0.val, .int .i64 n14] w11 fun r16 w17 => r16 = .int .i64 n15 ∧ Sub w11 w17) ∧
 ∃ n18 : Int, Wr .i64 (n15 + n10) n18 ∧
 StepT Tryz.prog (Instr.buildSlice 37 1 #[(0, (.int .i64 n18))]) w11 fun r19 w20 =>
 ∃ x21 : Sl, r19 = x21.val ∧
 StepT Tryz.prog (Builtin.append_ #[37, 37] 37 #[(x9.val), (x21.val)]) w20 fun r22 w23 =>
 ∃ x24 : Sl, r22 = x24.val ∧
 ∃ n25 : Int, Wr .i64 (n10 + 1) n25 ∧
 I7 x24 n25 w23 ∧
 m8 x24 n25 w23 < m8 x9 n10 w11) ∧
 ((decide (n10 < (x13.n : Int))) = false →
 Q (x9.val) w11))
theorem of131 (x_0 : Sl) (n_1 : Int) (v : World) (Q : Value → World → Prop) (h : vc131 x_0 n_1 v Q) : Trip Tryz.prog 131 #[x_0.val, .int .i64 n_1] v Q :=
 trip_of_eq (args := [.sl x_0, .num .i64 n_1]) (A := ⟨[(5, [(5, .sl), (6, .int .i64)], [])], [], [], [], psG⟩) Tryz.func131 (by kernel_rfl) (by kernel_rfl) (by kernel_rfl : vc131 x_0 n_1 v Q = _) h

def vc132 (x_0 : Sl) (x_1 : Sl) (v : World) (Q : Value → World → Prop) : Prop :=
 Trip Tryz.prog 38 #[x_0.val] v fun r1 w2 =>
 ∃ x3 : Sl, r1 = x3.val ∧
 StepT Tryz.prog (Builtin.append_ #[37, 37] 37 #[(x3.val), (x_1.val)]) w2 fun r4 w5 =>
 ∃ x6 : Sl, r4 = x6.val ∧
 Q (x6.val) w5
theorem of132 (x_0 : Sl) (x_1 : Sl) (v : World) (Q : Value → World → Prop) (h : vc132 x_0 x_1 v Q) : Trip Tryz.prog 132 #[x_0.val, x_1.val] v Q :=
 trip_of_eq (args := [.sl x_0, .sl x_1]) (A := ⟨[], [], [], [], psG⟩) Tryz.func132 (by kernel_rfl) (by kernel_rfl) (by kernel_rfl : vc132 x_0 x_1 v Q = _) h

def vc133 (x_0 : Sl) (n_1 : Int) (n_2 : Int) (v : World) (Q : Value → World → Prop) : Prop :=
 ∃ I1 : Int → World → Prop, ∃ m2 : Int → World → Nat, I1 0 v ∧
 ∀ n3 : Int, ∀ w4 : World, I1 n3 w4 →
 ((decide (n3 < (x_0.n : Int))) = true →
 IxOk x_0 n3 ∧
 ∃ x5 : Sl, w4.cell? ((elA x_0 n3 3).add 2) = some (x5.val) ∧
 ((decide ((x5.n : Int) = 0)) = true →
 IxOk x_0 n3) ∧
 ∃ n6 : Int, ((decide ((x5.n : Int) = 0)) = true →
 w4.cell? ((elA x_0 n3 3).add 0) = some (.int .i64 n6)) ∧
 (((decide ((x5.n : Int) = 0)) && (decide (n6 = n_1))) = true →
 IxOk x_0 n3) ∧
 ∃ n7 : Int, (((decide ((x5.n : Int) = 0)) && (decide (n6 = n_1))) = true →
 w4.cell? ((elA x_0 n3 3).add 1) = some (.int .i64 n7)) ∧
 ((((decide ((x5.n : Int) = 0)) && (decide (n6 = n_1))) && (decide (n7 = n_2))) = true →
 ∃ n8 : Int, Wr .i64 (n3 + 1) n8 ∧
 Q (.int .i64 n8) w4) ∧
 ((((decide ((x5.n : Int) = 0)) && (decide (n6 = n_1))) && (decide (n7 = n_2))) = false →
 ∃ n9 : Int, Wr .i64 (n3 + 1) n9 ∧
 I1 n9 w4 ∧
 m2 n9 w4 < m2 n3 w4)) ∧
 ((decide (n3 < (x_0.n : Int))) = false →
 Q (.int .i64 (-1)) w4)
theorem of133 (x_0 : Sl) (n_1 : Int) (n_2 : Int) (v : World) (Q : Value → World → Prop) (h : vc133 x_0 n_1 n_2 v Q) : Trip Tryz.prog 133 #[x_0.val, .int .i64 n_1, .int .i64 n_2] v Q :=
 trip_of_eq (args := [.sl x_0, .num .i64 n_1, .num .i64 n_2]) (A := ⟨[(2, [(7, .int .i64)], [])], [], [], [], psG⟩) Tryz.func133 (by kernel_rfl) (by kernel_rfl) (by kernel_rfl : vc133 x_0 n_1 n_2 v Q = _) h

def vc134 (n0_0 : Int) (n0_1 : Int) (n0_2 : Int) (x0_3 : Sl) (x0_4 : Sl) (v : World) (Q : Value → World → Prop) : Prop :=
 Trip Tryz.prog 79 #[x0_3.val] v fun r1 w2 =>
 ∃ x3 : Sl, r1 = x3.val ∧
 Trip Tryz.prog 150 #[x0_4.val] w2 fun r4 w5 =>
 ∃ x6 : Sl, r4 = x6.val ∧
 Q (.agg #[.int .i64 n0_0, .int .i64 n0_1, .int .i64 n0_2, x3.val, x6.val]) w5
theorem of134 (n0_0 : Int) (n0_1 : Int) (n0_2 : Int) (x0_3 : Sl) (x0_4 : Sl) (v : World) (Q : Value → World → Prop) (h : vc134 n0_0 n0_1 n0_2 x0_3 x0_4 v Q) : Trip Tryz.prog 134 #[.agg #[.int .i64 n0_0, .int .i64 n0_1, .int .i64 n0_2, x0_3.val, x0_4.val]] v Q :=
 trip_of_eq (args := [.ag [.num .i64 n0_0, .num .i64 n0_1, .num .i64 n0_2, .sl x0_3, .sl x0_4]]) (A := ⟨[], [], [], [], psG⟩) Tryz.func134 (by kernel_rfl) (by kernel_rfl) (by kernel_rfl : vc134 n0_0 n0_1 n0_2 x0_3 x0_4 v Q = _) h

def vc135 (x_0 : Sl) (v : World) (Q : Value → World → Prop) : Prop :=
 ∃ I1 : Int → Int → World → Prop, ∃ m2 : Int → Int → World → Nat, I1 0 0 v ∧
 ∀ n3 : Int, ∀ n4 : Int, ∀ w5 : World, I1 n3 n4 w5 →
 ((decide (n4 < (x_0.n : Int))) = true →
 IxOk x_0 n4 ∧
 ∃ x6 : Sl, w5.cell? ((elA x_0 n4 1).add 0) = some (x6.val) ∧
 ∃ n7 : Int, Wr .i64 (n3 + (x6.n : Int)) n7 ∧
 ((decide (n7 < 0)) = true →
 False) ∧
 ((decide (n7 < 0)) = false →
 ∃ n8 : Int, Wr .i64 (n4 + 1) n8 ∧
 I1 n7 n8 w5 ∧
 m2 n7 n8 w5 < m2 n3 n4 w5)) ∧
 ((decide (n4 < (x_0.n : Int))) = false →
 Trip Tryz.prog 151 #[.slice none 0 0, .int .i64 n3] w5 fun r9 w10 =>
 ∃ x11 : Sl, r9 = x11.val ∧
 ∃ I12 : Sl → Int → World → Prop, ∃ m13 : Sl → Int → World → Nat, I12 x11 0 w10 ∧
 ∀ x14 : Sl, ∀ n15 : Int, ∀ w16 : World, I12 x14 n15 w16 →
 ((decide (n15 < (x_0.n : Int))) = true →
 IxOk x_0 n15 ∧
 ∃ x17 : Sl, w16.cell? ((elA x_0 n15 1).add 0) = some (x17.val) ∧
 StepT Tryz.prog (Builtin.append_ #[37, 37] 37 #[(x14.val), (x17.val)]) w16 fun r18 w19 =>
 ∃ x20 : Sl, r18 = x20.val ∧
 ∃ n21 : Int, Wr .i64 (n15 + 1) n21 ∧
 I12 x20 n21 w19 ∧
 m13 x20 n21 w19 < m13 x14 n15 w16) ∧
 ((decide (n15 < (x_0.n : Int))) = false →
 Q (x14.val) w16))
theorem of135 (x_0 : Sl) (v : World) (Q : Value → World → Prop) (h : vc135 x_0 v Q) : Trip Tryz.prog 135 #[x_0.val] v Q :=
 trip_of_eq (args := [.sl x_0]) (A := ⟨[(3, [(3, .int .i64), (11, .int .i64)], []), (11, [(6, .sl), (27, .int .i64)], [])], [], [], [], psG⟩) Tryz.func135 (by kernel_rfl) (by kernel_rfl) (by kernel_rfl : vc135 x_0 v Q = _) h

def vc136 (x_0 : Sl) (n_1 : Int) (v : World) (Q : Value → World → Prop) : Prop :=
 (((decide (n_1 < 1)) || (decide (n_1 > (x_0.n : Int)))) = true →
 Q (.slice none 0 0) v) ∧
 (((decide (n_1 < 1)) || (decide (n_1 > (x_0.n : Int)))) = false →
 ∃ n1 : Int, Wr .i64 (n_1 - 1) n1 ∧
 CutOk x_0 0 n1 ∧
 ∃ n2 : Int, (Trip Tryz.prog 152 #[(x_0.cut 0 n1 3).val] v fun r3 w4 => r3 = .int .i64 n2 ∧ Sub v w4) ∧
 ∃ n5 : Int, Wr .i64 (n_1 - 1) n5 ∧
 IxOk x_0 n5 ∧
 ∃ x6 : Sl, v.cell? ((elA x_0 n5 3).add 2) = some (x6.val) ∧
 ∃ I7 : Sl → Int → World → Prop, ∃ m8 : Sl → Int → World → Nat, I7 (Sl.mk none 0 0) 0 v ∧
 ∀ x9 : Sl, ∀ n10 : Int, ∀ w11 : World, I7 x9 n10 w11 →
 ((decide (n10 < (x6.n : Int))) = true →
 ∃ n12 : Int, Wr .i64 (n2 + n10) n12 ∧
 StepT Tryz.prog (Instr.buildSlice 37 1 #[(0, (.int .i64 n12))]) w11 fun r13 w14 =>
 ∃ x15 : Sl, r13 = x15.val ∧
 StepT Tryz.prog (Builtin.append_ #[37, 37] 37 #[(x9.val), (x15.val)]) w14 fun r16 w17 =>
 ∃ x18 : Sl, r16 = x18.val ∧
 ∃ n19 : Int, Wr .i64 (n10 + 1) n19 ∧
 I7 x18 n19 w17 ∧
 m8 x18 n19 w17 < m8 x9 n10 w11) ∧
 ((decide (n10 < (x6.n : Int))) = false →
 Q (x9.val) w11))
theorem of136 (x_0 : Sl) (n_1 : Int) (v : World) (Q : Value → World → Prop) (h : vc136 x_0 n_1 v Q) : Trip Tryz.prog 136 #[x_0.val, .int .i64 n_1] v Q :=
 trip_of_eq (args := [.sl x_0, .num .i64 n_1]) (A := ⟨[(6, [(6, .sl), (28, .int .i64)], [])], [], [], [], psG⟩) Tryz.func136 (by kernel_rfl) (by kernel_rfl) (by kernel_rfl : vc136 x_0 n_1 v Q = _) h

def vc137 (x_0 : Sl) (n_1 : Int) (v : World) (Q : Value → World → Prop) : Prop :=
 ∃ n1 : Int, ∃ x2 : Sl, (Trip Tryz.prog 138 #[x_0.val, .int .i64 n_1] v fun r3 w4 => r3 = .tuple #[.int .i64 n1, .agg #[x2.val]] ∧ Sub v w4) ∧
 Q (x2.val) v
theorem of137 (x_0 : Sl) (n_1 : Int) (v : World) (Q : Value → World → Prop) (h : vc137 x_0 n_1 v Q) : Trip Tryz.prog 137 #[x_0.val, .int .i64 n_1] v Q :=
 trip_of_eq (args := [.sl x_0, .num .i64 n_1]) (A := ⟨[], [], [], [], psG⟩) Tryz.func137 (by kernel_rfl) (by kernel_rfl) (by kernel_rfl : vc137 x_0 n_1 v Q = _) h

def vc138 (x_0 : Sl) (n_1 : Int) (v : World) (Q : Value → World → Prop) : Prop :=
 ∃ I1 : Int → Int → World → Prop, ∃ m2 : Int → Int → World → Nat, I1 n_1 0 v ∧
 ∀ n3 : Int, ∀ n4 : Int, ∀ w5 : World, I1 n3 n4 w5 →
 ((decide (n4 < (x_0.n : Int))) = true →
 IxOk x_0 n4 ∧
 ∃ n6 : Int, ∃ n7 : Int, ∃ x8 : Sl, (w5.cell? ((elA x_0 n4 3).add 0) = some (.int .i64 n6) ∧
 w5.cell? ((elA x_0 n4 3).add 1) = some (.int .i64 n7) ∧
 w5.cell? ((elA x_0 n4 3).add 2) = some (x8.val)) ∧
 (((decide (n3 ≥ 0)) && (decide (n3 < (x8.n : Int)))) = true →
 ∃ n9 : Int, Wr .i64 (n4 + 1) n9 ∧
 IxOk x8 n3 ∧
 ∃ x10 : Sl, w5.cell? ((elA x8 n3 1).add 0) = some (x10.val) ∧
 Q (.tuple #[.int .i64 n9, .agg #[x10.val]]) w5) ∧
 (((decide (n3 ≥ 0)) && (decide (n3 < (x8.n : Int)))) = false →
 ∃ n11 : Int, Wr .i64 (n3 - (x8.n : Int)) n11 ∧
 ∃ n12 : Int, Wr .i64 (n4 + 1) n12 ∧
 ((.sl (Sl.mk none 0 0) : SV) = .sl (Sl.mk none 0 0)) ∧
 I1 n11 n12 w5 ∧
 m2 n11 n12 w5 < m2 n3 n4 w5)) ∧
 ((decide (n4 < (x_0.n : Int))) = false →
 Q (.tuple #[.int .i64 (-1), .agg #[.slice none 0 0]]) w5)
theorem of138 (x_0 : Sl) (n_1 : Int) (v : World) (Q : Value → World → Prop) (h : vc138 x_0 n_1 v Q) : Trip Tryz.prog 138 #[x_0.val, .int .i64 n_1] v Q :=
 trip_of_eq (args := [.sl x_0, .num .i64 n_1]) (A := ⟨[(2, [(1, .int .i64), (10, .int .i64)], [])], [], [(5, [])], [], psG⟩) Tryz.func138 (by kernel_rfl) (by kernel_rfl) (by kernel_rfl : vc138 x_0 n_1 v Q = _) h

def vc139 (x_0 : Sl) (x_1 : Sl) (v : World) (Q : Value → World → Prop) : Prop :=
 ((!decide ((x_0.n : Int) = (x_1.n : Int))) = true →
 Q (.bool false) v) ∧
 ((!decide ((x_0.n : Int) = (x_1.n : Int))) = false →
 ∃ I1 : Int → World → Prop, ∃ m2 : Int → World → Nat, I1 0 v ∧
 ∀ n3 : Int, ∀ w4 : World, I1 n3 w4 →
 ((decide (n3 < (x_0.n : Int))) = true →
 IxOk x_0 n3 ∧
 ∃ n5 : Int, w4.cell? ((elA x_0 n3 1).add 0) = some (.int .i64 n5) ∧
 IxOk x_1 n3 ∧
 ∃ n6 : Int, w4.cell? ((elA x_1 n3 1).add 0) = some (.int .i64 n6) ∧
 ((!decide (n5 = n6)) = true →
 Q (.bool false) w4) ∧
 ((!decide (n5 = n6)) = false →
 ∃ n7 : Int, Wr .i64 (n3 + 1) n7 ∧
 I1 n7 w4 ∧
 m2 n7 w4 < m2 n3 w4)) ∧
 ((decide (n3 < (x_0.n : Int))) = false →
 Q (.bool true) w4))
theorem of139 (x_0 : Sl) (x_1 : Sl) (v : World) (Q : Value → World → Prop) (h : vc139 x_0 x_1 v Q) : Trip Tryz.prog 139 #[x_0.val, x_1.val] v Q :=
 trip_of_eq (args := [.sl x_0, .sl x_1]) (A := ⟨[(4, [(13, .int .i64)], [])], [], [], [], psG⟩) Tryz.func139 (by kernel_rfl) (by kernel_rfl) (by kernel_rfl : vc139 x_0 x_1 v Q = _) h

def vc140 (x_0 : Sl) (n_1 : Int) (n_2 : Int) (v : World) (Q : Value → World → Prop) : Prop :=
 ∃ I1 : Int → World → Prop, ∃ m2 : Int → World → Nat, I1 0 v ∧
 ∀ n3 : Int, ∀ w4 : World, I1 n3 w4 →
 ((decide (n3 < (x_0.n : Int))) = true →
 IxOk x_0 n3 ∧
 ∃ n5 : Int, ∃ n6 : Int, ∃ x7 : Sl, (w4.cell? ((elA x_0 n3 3).add 0) = some (.int .i64 n5) ∧
 w4.cell? ((elA x_0 n3 3).add 1) = some (.int .i64 n6) ∧
 w4.cell? ((elA x_0 n3 3).add 2) = some (x7.val)) ∧
 ((((decide ((x7.n : Int) = 0)) && (decide (n5 = n_1))) && (decide (n6 = n_2))) = true →
 ∃ n8 : Int, Wr .i64 (n3 + 1) n8 ∧
 Q (.int .i64 n8) w4) ∧
 ((((decide ((x7.n : Int) = 0)) && (decide (n5 = n_1))) && (decide (n6 = n_2))) = false →
 ∃ n9 : Int, Wr .i64 (n3 + 1) n9 ∧
 I1 n9 w4 ∧
 m2 n9 w4 < m2 n3 w4)) ∧
 ((decide (n3 < (x_0.n : Int))) = false →
 Q (.int .i64 (-1)) w4)
theorem of140 (x_0 : Sl) (n_1 : Int) (n_2 : Int) (v : World) (Q : Value → World → Prop) (h : vc140 x_0 n_1 n_2 v Q) : Trip Tryz.prog 140 #[x_0.val, .int .i64 n_1, .int .i64 n_2] v Q :=
 trip_of_eq (args := [.sl x_0, .num .i64 n_1, .num .i64 n_2]) (A := ⟨[(2, [(11, .int .i64)], [])], [], [], [], psG⟩) Tryz.func140 (by kernel_rfl) (by kernel_rfl) (by kernel_rfl : vc140 x_0 n_1 n_2 v Q = _) h

-- STOP 141 (impl.armsOf).of: code rangeFunc at "l8_balance.go:71"
def vc142 (n0_0 : Int) (n0_1 : Int) (x0_2 : Sl) (q0_3 : Bool) (v : World) (Q : Value → World → Prop) : Prop :=
 ∃ I1 : Sl → Int → World → Prop, ∃ m2 : Sl → Int → World → Nat, I1 (Sl.mk none 0 0) 0 v ∧
 ∀ x3 : Sl, ∀ n4 : Int, ∀ w5 : World, I1 x3 n4 w5 →
 ((decide (n4 < (x0_2.n : Int))) = true →
 IxOk x0_2 n4 ∧
 ∃ n6 : Int, w5.cell? ((elA x0_2 n4 1).add 0) = some (.int .i64 n6) ∧
 ((!decide (n6 = 0)) = true →
 ∃ n7 : Int, Wr .i64 (n0_1 + n4) n7 ∧
 StepT Tryz.prog (Instr.buildSlice 37 1 #[(0, (.int .i64 n7))]) w5 fun r8 w9 =>
 ∃ x10 : Sl, r8 = x10.val ∧
 StepT Tryz.prog (Builtin.append_ #[37, 37] 37 #[(x3.val), (x10.val)]) w9 fun r11 w12 =>
 ∃ x13 : Sl, r11 = x13.val ∧
 ∃ n14 : Int, Wr .i64 (n4 + 1) n14 ∧
 ((.num .i64 n0_0 : SV) = .num .i64 n0_0) ∧
 ((.num .i64 n0_1 : SV) = .num .i64 n0_1) ∧
 ((.sl x0_2 : SV) = .sl x0_2) ∧
 ((.b q0_3 : SV) = .b q0_3) ∧
 I1 x13 n14 w12 ∧
 m2 x13 n14 w12 < m2 x3 n4 w5) ∧
 ((!decide (n6 = 0)) = false →
 ∃ n15 : Int, Wr .i64 (n4 + 1) n15 ∧
 ((.num .i64 n0_0 : SV) = .num .i64 n0_0) ∧
 ((.num .i64 n0_1 : SV) = .num .i64 n0_1) ∧
 ((.sl x0_2 : SV) = .sl x0_2) ∧
 ((.b q0_3 : SV) = .b q0_3) ∧
 I1 x3 n15 w5 ∧
 m2 x3 n15 w5 < m2 x3 n4 w5)) ∧
 ((decide (n4 < (x0_2.n : Int))) = false →
 Q (x3.val) w5)
theorem of142 (n0_0 : Int) (n0_1 : Int) (x0_2 : Sl) (q0_3 : Bool) (v : World) (Q : Value → World → Prop) (h : vc142 n0_0 n0_1 x0_2 q0_3 v Q) : Trip Tryz.prog 142 #[.agg #[.int .i64 n0_0, .int .i64 n0_1, x0_2.val, .bool q0_3]] v Q :=
 trip_of_eq (args := [.ag [.num .i64 n0_0, .num .i64 n0_1, .sl x0_2, .b q0_3]]) (A := ⟨[(3, [(3, .sl), (9, .int .i64)], [])], [], [], [], psG⟩) Tryz.func142 (by kernel_rfl) (by kernel_rfl) (by kernel_rfl : vc142 n0_0 n0_1 x0_2 q0_3 v Q = _) h

def vc143 (a_0 : Addr) (v : World) (Q : Value → World → Prop) : Prop :=
 ∃ x1 : Sl, ∃ x2 : Sl, ∃ x3 : Sl, ∃ x4 : Sl, ∃ x5 : Sl, ∃ x6 : Sl, ∃ x7 : Sl, (v.cell? (a_0.add 0) = some (x1.val) ∧
 v.cell? (a_0.add 1) = some (x2.val) ∧
 v.cell? (a_0.add 2) = some (x3.val) ∧
 v.cell? (a_0.add 3) = some (x4.val) ∧
 v.cell? (a_0.add 4) = some (x5.val) ∧
 v.cell? (a_0.add 5) = some (x6.val) ∧
 v.cell? (a_0.add 6) = some (x7.val)) ∧
 NewAt v (.cells #[.slice none 0 0, .slice none 0 0, .slice none 0 0, .slice none 0 0, .slice none 0 0, .slice none 0 0, .slice none 0 0] 64 (0, 0)) fun a8 w9 =>
 StoreAt w9 a8 0 [x1.val, x2.val, x3.val, x4.val, x5.val, x6.val, x7.val] fun w10 =>
 ∃ x11 : Sl, w10.cell? (a_0.add 4) = some (x11.val) ∧
 ∃ x12 : Sl, w10.cell? (a_0.add 5) = some (x12.val) ∧
 ∃ x13 : Sl, w10.cell? (a_0.add 6) = some (x13.val) ∧
 Trip Tryz.prog 83 #[x11.val] w10 fun r14 w15 =>
 ∃ x16 : Sl, r14 = x16.val ∧
 Sub w10 w15 ∧
 Trip Tryz.prog 83 #[x12.val] w15 fun r17 w18 =>
 ∃ x19 : Sl, r17 = x19.val ∧
 Sub w15 w18 ∧
 Trip Tryz.prog 83 #[x13.val] w18 fun r20 w21 =>
 ∃ x22 : Sl, r20 = x22.val ∧
 StoreAt w21 a8 4 [x16.val] fun w23 =>
 StoreAt w23 a8 5 [x19.val] fun w24 =>
 StoreAt w24 a8 6 [x22.val] fun w25 =>
 Q (.pointer (some (a8.add 0))) w25
theorem of143 (a_0 : Addr) (v : World) (Q : Value → World → Prop) (h : vc143 a_0 v Q) : Trip Tryz.prog 143 #[.pointer (some (a_0.add 0))] v Q :=
 trip_of_eq (args := [.pt a_0 0]) (A := ⟨[], [], [(2, [4, 9])], [3], psG⟩) Tryz.func143 (by kernel_rfl) (by kernel_rfl) (by kernel_rfl : vc143 a_0 v Q = _) h

def vc144 (x_0 : Sl) (n1_0 : Int) (n1_1 : Int) (x1_2 : Sl) (q1_3 : Bool) (v : World) (Q : Value → World → Prop) : Prop :=
 (Trip Tryz.prog 154 #[x_0.val] v fun r1 w2 =>
 ∃ x3 : Sl, r1 = x3.val ∧
 Sub v w2 ∧
 StepT Tryz.prog (Instr.buildSlice 62 1 #[(0, (.agg #[.int .i64 n1_0, .int .i64 n1_1, x1_2.val, .bool q1_3]))]) w2 fun r4 w5 =>
 ∃ x6 : Sl, r4 = x6.val ∧
 StepT Tryz.prog (Builtin.append_ #[62, 62] 62 #[(x3.val), (x6.val)]) w5 fun r7 w8 =>
 ∃ x9 : Sl, r7 = x9.val ∧
 Q (x9.val) w8) ∧
 StepT Tryz.prog (Instr.buildSlice 62 1 #[(0, (.agg #[.int .i64 n1_0, .int .i64 n1_1, x1_2.val, .bool q1_3]))]) v fun r10 w11 =>
 ∃ x12 : Sl, r10 = x12.val ∧
 Trip Tryz.prog 154 #[x_0.val] w11 fun r13 w14 =>
 ∃ x15 : Sl, r13 = x15.val ∧
 Sub w11 w14 ∧
 StepT Tryz.prog (Builtin.append_ #[62, 62] 62 #[(x15.val), (x12.val)]) w14 fun r16 w17 =>
 ∃ x18 : Sl, r16 = x18.val ∧
 Q (x18.val) w17
theorem of144 (x_0 : Sl) (n1_0 : Int) (n1_1 : Int) (x1_2 : Sl) (q1_3 : Bool) (v : World) (Q : Value → World → Prop) (h : vc144 x_0 n1_0 n1_1 x1_2 q1_3 v Q) : Trip Tryz.prog 144 #[x_0.val, .agg #[.int .i64 n1_0, .int .i64 n1_1, x1_2.val, .bool q1_3]] v Q :=
 trip_of_eq (args := [.sl x_0, .ag [.num .i64 n1_0, .num .i64 n1_1, .sl x1_2, .b q1_3]]) (A := ⟨[], [], [(1, [1])], [], psG⟩) Tryz.func144 (by kernel_rfl) (by kernel_rfl) (by kernel_rfl : vc144 x_0 n1_0 n1_1 x1_2 q1_3 v Q = _) h

def vc145 (x0_0 : Sl) (x0_1 : Sl) (x_1 : Sl) (n2_0 : Int) (n2_1 : Int) (n2_2 : Int) (x2_3 : Sl) (x2_4 : Sl) (v : World) (Q : Value → World → Prop) : Prop :=
 ∃ q1 : Bool, (Trip Tryz.prog 120 #[.int .i64 n2_0] v fun r2 w3 => r2 = .bool q1 ∧ Sub v w3) ∧
 ((!q1) = true →
 Q (.tuple #[.slice none 0 0, .slice none 0 0]) v) ∧
 ((!q1) = false →
 ∃ I4 : Sl → Sl → Int → World → Prop, ∃ m5 : Sl → Sl → Int → World → Nat, I4 (Sl.mk none 0 0) (Sl.mk none 0 0) 0 v ∧
 ∀ x6 : Sl, ∀ x7 : Sl, ∀ n8 : Int, ∀ w9 : World, I4 x6 x7 n8 w9 →
 ((decide (n8 < (x2_3.n : Int))) = true →
 IxOk x2_3 n8 ∧
 ∃ n10 : Int, w9.cell? ((elA x2_3 n8 1).add 0) = some (.int .i64 n10) ∧
 IxOk x_1 n10 ∧
 ∃ n11 : Int, w9.cell? ((elA x_1 n10 1).add 0) = some (.int .i64 n11) ∧
 ((decide (n11 = 0)) = true →
 ∃ n12 : Int, Wr .i64 (n8 + 1) n12 ∧
 ((.sl x0_0 : SV) = .sl x0_0) ∧
 ((.sl x0_1 : SV) = .sl x0_1) ∧
 ((.num .i64 n2_0 : SV) = .num .i64 n2_0) ∧
 ((.num .i64 n2_1 : SV) = .num .i64 n2_1) ∧
 ((.num .i64 n2_2 : SV) = .num .i64 n2_2) ∧
 ((.sl x2_3 : SV) = .sl x2_3) ∧
 ((.sl x2_4 : SV) = .sl x2_4) ∧
 I4 x6 x7 n12 w9 ∧
 m5 x6 x7 n12 w9 < m5 x6 x7 n8 w9) ∧
 ((decide (n11 = 0)) = false →
 ((decide (n2_0 = 9)) = true →
 IxOk x0_1 n2_1) ∧
 ∃ x13 : Sl, ((decide (n2_0 = 9)) = true →
 w9.cell? ((elA x0_1 n2_1 3).add 1) = some (x13.val)) ∧
 ∃ q14 : Bool, ((decide (n2_0 = 9)) = true →
 (Trip Tryz.prog 66 #[x13.val, .int .i64 n8] w9 fun r15 w16 => r15 = .bool q14 ∧ Sub w9 w16)) ∧
 (((decide (n2_0 = 9)) && q14) = true →
 Trip Tryz.prog 155 #[x7.val, .int .i64 n10] w9 fun r17 w18 =>
 ∃ x19 : Sl, r17 = x19.val ∧
 ∃ n20 : Int, Wr .i64 (n8 + 1) n20 ∧
 ((.sl x0_0 : SV) = .sl x0_0) ∧
 ((.sl x0_1 : SV) = .sl x0_1) ∧
 ((.num .i64 n2_0 : SV) = .num .i64 n2_0) ∧
 ((.num .i64 n2_1 : SV) = .num .i64 n2_1) ∧
 ((.num .i64 n2_2 : SV) = .num .i64 n2_2) ∧
 ((.sl x2_3 : SV) = .sl x2_3) ∧
 ((.sl x2_4 : SV) = .sl x2_4) ∧
 I4 x6 x19 n20 w18 ∧
 m5 x6 x19 n20 w18 < m5 x6 x7 n8 w9) ∧
 (((decide (n2_0 = 9)) && q14) = false →
 StepT Tryz.prog (Instr.buildSlice 37 1 #[(0, (.int .i64 n8))]) w9 fun r21 w22 =>
 ∃ x23 : Sl, r21 = x23.val ∧
 StepT Tryz.prog (Builtin.append_ #[37, 37] 37 #[(x6.val), (x23.val)]) w22 fun r24 w25 =>
 ∃ x26 : Sl, r24 = x26.val ∧
 ∃ n27 : Int, Wr .i64 (n8 + 1) n27 ∧
 ((.sl x0_0 : SV) = .sl x0_0) ∧
 ((.sl x0_1 : SV) = .sl x0_1) ∧
 ((.num .i64 n2_0 : SV) = .num .i64 n2_0) ∧
 ((.num .i64 n2_1 : SV) = .num .i64 n2_1) ∧
 ((.num .i64 n2_2 : SV) = .num .i64 n2_2) ∧
 ((.sl x2_3 : SV) = .sl x2_3) ∧
 ((.sl x2_4 : SV) = .sl x2_4) ∧
 I4 x26 x7 n27 w25 ∧
 m5 x26 x7 n27 w25 < m5 x6 x7 n8 w9))) ∧
 ((decide (n8 < (x2_3.n : Int))) = false →
 Q (.tuple #[x6.val, x7.val]) w9))
theorem of145 (x0_0 : Sl) (x0_1 : Sl) (x_1 : Sl) (n2_0 : Int) (n2_1 : Int) (n2_2 : Int) (x2_3 : Sl) (x2_4 : Sl) (v : World) (Q : Value → World → Prop) (h : vc145 x0_0 x0_1 x_1 n2_0 n2_1 n2_2 x2_3 x2_4 v Q) : Trip Tryz.prog 145 #[.agg #[x0_0.val, x0_1.val], x_1.val, .agg #[.int .i64 n2_0, .int .i64 n2_1, .int .i64 n2_2, x2_3.val, x2_4.val]] v Q :=
 trip_of_eq (args := [.ag [.sl x0_0, .sl x0_1], .sl x_1, .ag [.num .i64 n2_0, .num .i64 n2_1, .num .i64 n2_2, .sl x2_3, .sl x2_4]]) (A := ⟨[(4, [(6, .sl), (7, .sl), (17, .int .i64)], [])], [], [], [999999], psG⟩) Tryz.func145 (by kernel_rfl) (by kernel_rfl) (by kernel_rfl : vc145 x0_0 x0_1 x_1 n2_0 n2_1 n2_2 x2_3 x2_4 v Q = _) h

def vc146 (n0_0 : Int) (n0_1 : Int) (n0_2 : Int) (x0_3 : Sl) (x0_4 : Sl) (n1_0 : Int) (n1_1 : Int) (n1_2 : Int) (x1_3 : Sl) (x1_4 : Sl) (v : World) (Q : Value → World → Prop) : Prop :=
 ((!decide (n0_0 = n1_0)) = true →
 Q (.bool false) v) ∧
 ((!decide (n0_0 = n1_0)) = false →
 ((!decide (n0_1 = n1_1)) = true →
 Q (.bool false) v) ∧
 ((!decide (n0_1 = n1_1)) = false →
 ((!decide (n0_2 = n1_2)) = true →
 Q (.bool false) v) ∧
 ((!decide (n0_2 = n1_2)) = false →
 ∃ q1 : Bool, (Trip Tryz.prog 17 #[x0_3.val, x1_3.val] v fun r2 w3 => r2 = .bool q1 ∧ Sub v w3) ∧
 ((!q1) = true →
 Q (.bool false) v) ∧
 ((!q1) = false →
 ∃ q4 : Bool, (Trip Tryz.prog 156 #[x0_4.val, x1_4.val] v fun r5 w6 => r5 = .bool q4 ∧ Sub v w6) ∧
 ((!q4) = true →
 Q (.bool false) v) ∧
 ((!q4) = false →
 Q (.bool true) v)))))
theorem of146 (n0_0 : Int) (n0_1 : Int) (n0_2 : Int) (x0_3 : Sl) (x0_4 : Sl) (n1_0 : Int) (n1_1 : Int) (n1_2 : Int) (x1_3 : Sl) (x1_4 : Sl) (v : World) (Q : Value → World → Prop) (h : vc146 n0_0 n0_1 n0_2 x0_3 x0_4 n1_0 n1_1 n1_2 x1_3 x1_4 v Q) : Trip Tryz.prog 146 #[.agg #[.int .i64 n0_0, .int .i64 n0_1, .int .i64 n0_2, x0_3.val, x0_4.val], .agg #[.int .i64 n1_0, .int .i64 n1_1, .int .i64 n1_2, x1_3.val, x1_4.val]] v Q :=
 trip_of_eq (args := [.ag [.num .i64 n0_0, .num .i64 n0_1, .num .i64 n0_2, .sl x0_3, .sl x0_4], .ag [.num .i64 n1_0, .num .i64 n1_1, .num .i64 n1_2, .sl x1_3, .sl x1_4]]) (A := ⟨[], [], [], [], psG⟩) Tryz.func146 (by kernel_rfl) (by kernel_rfl) (by kernel_rfl : vc146 n0_0 n0_1 n0_2 x0_3 x0_4 n1_0 n1_1 n1_2 x1_3 x1_4 v Q = _) h

def vc147 (a_0 : Addr) (v : World) (Q : Value → World → Prop) : Prop :=
 ∃ x1 : Sl, v.cell? (a_0.add 0) = some (x1.val) ∧
 ∃ x2 : Sl, v.cell? (a_0.add 1) = some (x2.val) ∧
 ∃ x3 : Sl, v.cell? (a_0.add 2) = some (x3.val) ∧
 ∃ x4 : Sl, v.cell? (a_0.add 3) = some (x4.val) ∧
 ∃ x5 : Sl, v.cell? (a_0.add 4) = some (x5.val) ∧
 ∃ x6 : Sl, v.cell? (a_0.add 5) = some (x6.val) ∧
 ∃ x7 : Sl, v.cell? (a_0.add 6) = some (x7.val) ∧
 Trip Tryz.prog 38 #[x1.val] v fun r8 w9 =>
 ∃ x10 : Sl, r8 = x10.val ∧
 Sub v w9 ∧
 Trip Tryz.prog 38 #[x2.val] w9 fun r11 w12 =>
 ∃ x13 : Sl, r11 = x13.val ∧
 Sub w9 w12 ∧
 Trip Tryz.prog 38 #[x3.val] w12 fun r14 w15 =>
 ∃ x16 : Sl, r14 = x16.val ∧
 Sub w12 w15 ∧
 Trip Tryz.prog 38 #[x4.val] w15 fun r17 w18 =>
 ∃ x19 : Sl, r17 = x19.val ∧
 Sub w15 w18 ∧
 Trip Tryz.prog 38 #[x5.val] w18 fun r20 w21 =>
 ∃ x22 : Sl, r20 = x22.val ∧
 Sub w18 w21 ∧
 Trip Tryz.prog 38 #[x6.val] w21 fun r23 w24 =>
 ∃ x25 : Sl, r23 = x25.val ∧
 Sub w21 w24 ∧
 Trip Tryz.prog 38 #[x7.val] w24 fun r26 w27 =>
 ∃ x28 : Sl, r26 = x28.val ∧
 NewAt w27 (.cells #[x10.val, x13.val, x16.val, x19.val, x22.val, x25.val, x28.val] 55 (0, 0)) fun a29 w30 =>
 Q (.pointer (some (a29.add 0))) w30
theorem of147 (a_0 : Addr) (v : World) (Q : Value → World → Prop) (h : vc147 a_0 v Q) : Trip Tryz.prog 147 #[.pointer (some (a_0.add 0))] v Q :=
 trip_of_eq (args := [.pt a_0 0]) (A := ⟨[], [], [(1, [4, 9, 14, 19, 24, 29])], [39], psG⟩) Tryz.func147 (by kernel_rfl) (by kernel_rfl) (by kernel_rfl : vc147 a_0 v Q = _) h

def vc148 (n_0 : Int) (v : World) (Q : Value → World → Prop) : Prop :=
 Q (.bool ((((decide (n_0 = 6)) || (decide (n_0 = 9))) || (decide (n_0 = 10))) || (decide (n_0 = 11)))) v
theorem of148 (n_0 : Int) (v : World) (Q : Value → World → Prop) (h : vc148 n_0 v Q) : Trip Tryz.prog 148 #[.int .i64 n_0] v Q :=
 trip_of_eq (args := [.num .i64 n_0]) (A := ⟨[], [], [], [], psG⟩) Tryz.func148 (by kernel_rfl) (by kernel_rfl) (by kernel_rfl : vc148 n_0 v Q = _) h

def vc149 (x_0 : Sl) (n_1 : Int) (v : World) (Q : Value → World → Prop) : Prop :=
 ∃ n1 : Int, Wr .i64 (n_1 - (x_0.n : Int)) n1 ∧
 ((decide (n1 < 0)) = true →
 Q (.int .i64 (-1)) v) ∧
 ((decide (n1 < 0)) = false →
 ∃ I2 : Int → Int → World → Prop, ∃ m3 : Int → Int → World → Nat, I2 n1 0 v ∧
 ∀ n4 : Int, ∀ n5 : Int, ∀ w6 : World, I2 n4 n5 w6 →
 ((decide (n5 < (x_0.n : Int))) = true →
 IxOk x_0 n5 ∧
 ∃ x7 : Sl, ∃ n8 : Int, (w6.cell? ((elA x_0 n5 2).add 0) = some (x7.val) ∧
 w6.cell? ((elA x_0 n5 2).add 1) = some (.int .i64 n8)) ∧
 ∃ n9 : Int, (Trip Tryz.prog 69 #[.agg #[x7.val, .int .i64 n8], .int .i64 n4] w6 fun r10 w11 => r10 = .int .i64 n9 ∧ Sub w6 w11) ∧
 ((decide (n9 < 0)) = true →
 Q (.int .i64 (-1)) w6) ∧
 ((decide (n9 < 0)) = false →
 ∃ n12 : Int, Wr .i64 (n5 + 1) n12 ∧
 I2 n9 n12 w6 ∧
 m3 n9 n12 w6 < m3 n4 n5 w6)) ∧
 ((decide (n5 < (x_0.n : Int))) = false →
 Q (.int .i64 n4) w6))
theorem of149 (x_0 : Sl) (n_1 : Int) (v : World) (Q : Value → World → Prop) (h : vc149 x_0 n_1 v Q) : Trip Tryz.prog 149 #[x_0.val, .int .i64 n_1] v Q :=
 trip_of_eq (args := [.sl x_0, .num .i64 n_1]) (A := ⟨[(5, [(1, .int .i64), (5, .int .i64)], [])], [], [], [], psG⟩) Tryz.func149 (by kernel_rfl) (by kernel_rfl) (by kernel_rfl : vc149 x_0 n_1 v Q = _) h

def vc150 (x_0 : Sl) (v : World) (Q : Value → World → Prop) : Prop :=
 StepT Tryz.prog (Instr.makeSlice 101 (.int .i64 (x_0.n : Int)) (.int .i64 (x_0.n : Int))) v fun r1 w2 =>
 ∃ x3 : Sl, r1 = x3.val ∧
 ∃ I4 : Int → World → Prop, ∃ m5 : Int → World → Nat, I4 0 w2 ∧
 ∀ n6 : Int, ∀ w7 : World, I4 n6 w7 →
 ((decide (n6 < (x_0.n : Int))) = true →
 IxOk x_0 n6 ∧
 ∃ x8 : Sl, ∃ n9 : Int, (w7.cell? ((elA x_0 n6 2).add 0) = some (x8.val) ∧
 w7.cell? ((elA x_0 n6 2).add 1) = some (.int .i64 n9)) ∧
 Trip Tryz.prog 80 #[.agg #[x8.val, .int .i64 n9]] w7 fun r10 w11 =>
 ∃ x12 : Sl, ∃ n13 : Int, r10 = .agg #[x12.val, .int .i64 n13] ∧
 IxOk x3 n6 ∧
 StoreAt w11 (elA x3 n6 2) 0 [x12.val, .int .i64 n13] fun w14 =>
 ∃ n15 : Int, Wr .i64 (n6 + 1) n15 ∧
 I4 n15 w14 ∧
 m5 n15 w14 < m5 n6 w7) ∧
 ((decide (n6 < (x_0.n : Int))) = false →
 Q (x3.val) w7)
theorem of150 (x_0 : Sl) (v : World) (Q : Value → World → Prop) (h : vc150 x_0 v Q) : Trip Tryz.prog 150 #[x_0.val] v Q :=
 trip_of_eq (args := [.sl x_0]) (A := ⟨[(3, [(4, .int .i64)], [])], [], [], [], psG⟩) Tryz.func150 (by kernel_rfl) (by kernel_rfl) (by kernel_rfl : vc150 x_0 v Q = _) h

def vc151 (x_0 : Sl) (n_1 : Int) (v : World) (Q : Value → World → Prop) : Prop :=
 ((decide (n_1 < 0)) = true →
 False) ∧
 ((decide (n_1 < 0)) = false →
 StepT Tryz.prog (Builtin.cap_ #[37] 3 #[(x_0.val)]) v fun r1 w2 =>
 ∃ n3 : Int, r1 = .int .i64 n3 ∧
 ∃ n4 : Int, Wr .i64 (n3 - (x_0.n : Int)) n4 ∧
 ∃ n5 : Int, Wr .i64 (n_1 - n4) n5 ∧
 ((decide (n5 > 0)) = true →
 StepT Tryz.prog (Builtin.cap_ #[37] 3 #[(x_0.val)]) w2 fun r6 w7 =>
 ∃ n8 : Int, r6 = .int .i64 n8 ∧
 CutOk x_0 0 n8 ∧
 StepT Tryz.prog (Builtin.append_ #[37, 3] 37 #[((x_0.cut 0 n8 1).val), (.int .i64 n5)]) w7 fun r9 w10 =>
 ∃ x11 : Sl, r9 = x11.val ∧
 CutOk x11 0 (x_0.n : Int) ∧
 Q ((x11.cut 0 (x_0.n : Int) 1).val) w10) ∧
 ((decide (n5 > 0)) = false →
 Q (x_0.val) w2))
theorem of151 (x_0 : Sl) (n_1 : Int) (v : World) (Q : Value → World → Prop) (h : vc151 x_0 n_1 v Q) : Trip Tryz.prog 151 #[x_0.val, .int .i64 n_1] v Q :=
 trip_of_eq (args := [.sl x_0, .num .i64 n_1]) (A := ⟨[], [], [], [], psG⟩) Tryz.func151 (by kernel_rfl) (by kernel_rfl) (by kernel_rfl : vc151 x_0 n_1 v Q = _) h

def vc152 (x_0 : Sl) (v : World) (Q : Value → World → Prop) : Prop :=
 ∃ I1 : Int → Int → World → Prop, ∃ m2 : Int → Int → World → Nat, I1 0 0 v ∧
 ∀ n3 : Int, ∀ n4 : Int, ∀ w5 : World, I1 n3 n4 w5 →
 ((decide (n4 < (x_0.n : Int))) = true →
 IxOk x_0 n4 ∧
 ∃ n6 : Int, ∃ n7 : Int, ∃ x8 : Sl, (w5.cell? ((elA x_0 n4 3).add 0) = some (.int .i64 n6) ∧
 w5.cell? ((elA x_0 n4 3).add 1) = some (.int .i64 n7) ∧
 w5.cell? ((elA x_0 n4 3).add 2) = some (x8.val)) ∧
 ∃ n9 : Int, Wr .i64 (n3 + (x8.n : Int)) n9 ∧
 ∃ n10 : Int, Wr .i64 (n4 + 1) n10 ∧
 I1 n9 n10 w5 ∧
 m2 n9 n10 w5 < m2 n3 n4 w5) ∧
 ((decide (n4 < (x_0.n : Int))) = false →
 Q (.int .i64 n3) w5)
theorem of152 (x_0 : Sl) (v : World) (Q : Value → World → Prop) (h : vc152 x_0 v Q) : Trip Tryz.prog 152 #[x_0.val] v Q :=
 trip_of_eq (args := [.sl x_0]) (A := ⟨[(3, [(3, .int .i64), (8, .int .i64)], [])], [], [], [], psG⟩) Tryz.func152 (by kernel_rfl) (by kernel_rfl) (by kernel_rfl : vc152 x_0 v Q = _) h

def vc154 (x_0 : Sl) (v : World) (Q : Value → World → Prop) : Prop :=
 ∃ q1 : Bool, PureT Tryz.prog (do eqGuard .eql 62 (.tmp 3) (.const (.slice none 0 0)) (x_0.val) (.slice none 0 0); binOp .eql 62 (x_0.val) (.slice none 0 0)) v (.bool q1) ∧
 (q1 = true →
 Q (.slice none 0 0) v) ∧
 (q1 = false →
 StepT Tryz.prog (Instr.buildSlice 62 0 #[]) v fun r2 w3 =>
 ∃ x4 : Sl, r2 = x4.val ∧
 StepT Tryz.prog (Builtin.append_ #[62, 62] 62 #[(x4.val), (x_0.val)]) w3 fun r5 w6 =>
 ∃ x7 : Sl, r5 = x7.val ∧
 Q (x7.val) w6)
theorem of154 (x_0 : Sl) (v : World) (Q : Value → World → Prop) (h : vc154 x_0 v Q) : Trip Tryz.prog 154 #[x_0.val] v Q :=
 trip_of_eq (args := [.sl x_0]) (A := ⟨[], [], [], [], psG⟩) Tryz.func154 (by kernel_rfl) (by kernel_rfl) (by kernel_rfl : vc154 x_0 v Q = _) h

def vc156 (x_0 : Sl) (x_1 : Sl) (v : World) (Q : Value → World → Prop) : Prop :=
 ((!decide ((x_0.n : Int) = (x_1.n : Int))) = true →
 Q (.bool false) v) ∧
 ((!decide ((x_0.n : Int) = (x_1.n : Int))) = false →
 ∃ I1 : Int → World → Prop, ∃ m2 : Int → World → Nat, I1 0 v ∧
 ∀ n3 : Int, ∀ w4 : World, I1 n3 w4 →
 ((decide (n3 < (x_0.n : Int))) = true →
 IxOk x_0 n3 ∧
 ∃ x5 : Sl, ∃ n6 : Int, (w4.cell? ((elA x_0 n3 2).add 0) = some (x5.val) ∧
 w4.cell? ((elA x_0 n3 2).add 1) = some (.int .i64 n6)) ∧
 IxOk x_1 n3 ∧
 ∃ x7 : Sl, ∃ n8 : Int, (w4.cell? ((elA x_1 n3 2).add 0) = some (x7.val) ∧
 w4.cell? ((elA x_1 n3 2).add 1) = some (.int .i64 n8)) ∧
 ∃ q9 : Bool, (Trip Tryz.prog 90 #[.agg #[x5.val, .int .i64 n6], .agg #[x7.val, .int .i64 n8]] w4 fun r10 w11 => r10 = .bool q9 ∧ Sub w4 w11) ∧
 ((!q9) = true →
 Q (.bool false) w4) ∧
 ((!q9) = false →
 ∃ n12 : Int, Wr .i64 (n3 + 1) n12 ∧
 I1 n12 w4 ∧
 m2 n12 w4 < m2 n3 w4)) ∧
 ((decide (n3 < (x_0.n : Int))) = false →
 Q (.bool true) w4))
theorem of156 (x_0 : Sl) (x_1 : Sl) (v : World) (Q : Value → World → Prop) (h : vc156 x_0 x_1 v Q) : Trip Tryz.prog 156 #[x_0.val, x_1.val] v Q :=
 trip_of_eq (args := [.sl x_0, .sl x_1]) (A := ⟨[(4, [(5, .int .i64)], [])], [], [], [], psG⟩) Tryz.func156 (by kernel_rfl) (by kernel_rfl) (by kernel_rfl : vc156 x_0 x_1 v Q = _) h

def vc158 (x_0 : Sl) (n_1 : Int) (v : World) (Q : Value → World → Prop) : Prop :=
 ∃ I1 : Int → Int → World → Prop, ∃ m2 : Int → Int → World → Nat, I1 0 (x_0.n : Int) v ∧
 ∀ n3 : Int, ∀ n4 : Int, ∀ w5 : World, I1 n3 n4 w5 →
 ((decide (n3 < n4)) = true →
 ∃ n6 : Int, Wr .i64 (n3 + n4) n6 ∧
 ∃ n7 : Int, Wr .u64 n6 n7 ∧
 ∃ n8 : Int, PureT Tryz.prog (do eqGuard .shr 197 (.tmp 19) (.const (.int .u64 (1))) (.int .u64 n7) (.int .u64 1); binOp .shr 197 (.int .u64 n7) (.int .u64 1)) w5 (.int .u64 n8) ∧
 ∃ n9 : Int, Wr .i64 n8 n9 ∧
 IxOk x_0 n9 ∧
 ∃ n10 : Int, w5.cell? ((elA x_0 n9 1).add 0) = some (.int .i64 n10) ∧
 ∃ q11 : Bool, (Trip Tryz.prog 161 #[.int .i64 n10, .int .i64 n_1] w5 fun r12 w13 => r12 = .bool q11 ∧ Sub w5 w13) ∧
 (q11 = true →
 ∃ n14 : Int, Wr .i64 (n9 + 1) n14 ∧
 I1 n14 n4 w5 ∧
 m2 n14 n4 w5 < m2 n3 n4 w5) ∧
 (q11 = false →
 I1 n3 n9 w5 ∧
 m2 n3 n9 w5 < m2 n3 n4 w5)) ∧
 ((decide (n3 < n4)) = false →
 ((decide (n3 < (x_0.n : Int))) = true →
 IxOk x_0 n3) ∧
 ∃ n15 : Int, ((decide (n3 < (x_0.n : Int))) = true →
 w5.cell? ((elA x_0 n3 1).add 0) = some (.int .i64 n15)) ∧
 ((decide (n15 = n_1)) = false →
 (decide (n3 < (x_0.n : Int))) = true →
 IxOk x_0 n3) ∧
 ∃ n16 : Int, ((decide (n15 = n_1)) = false →
 (decide (n3 < (x_0.n : Int))) = true →
 w5.cell? ((elA x_0 n3 1).add 0) = some (.int .i64 n16)) ∧
 ∃ q17 : Bool, ((decide (n15 = n_1)) = false →
 (decide (n3 < (x_0.n : Int))) = true →
 (Trip Tryz.prog 162 #[.int .i64 n16] w5 fun r18 w19 => r18 = .bool q17 ∧ Sub w5 w19)) ∧
 ∃ q20 : Bool, (q17 = true →
 (decide (n15 = n_1)) = false →
 (decide (n3 < (x_0.n : Int))) = true →
 (Trip Tryz.prog 162 #[.int .i64 n_1] w5 fun r21 w22 => r21 = .bool q20 ∧ Sub w5 w22)) ∧
 Q (.tuple #[.int .i64 n3, .bool ((decide (n3 < (x_0.n : Int))) && ((decide (n15 = n_1)) || (q17 && q20)))]) w5)
theorem of158 (x_0 : Sl) (n_1 : Int) (v : World) (Q : Value → World → Prop) (h : vc158 x_0 n_1 v Q) : Trip Tryz.prog 158 #[x_0.val, .int .i64 n_1] v Q :=
 trip_of_eq (args := [.sl x_0, .num .i64 n_1]) (A := ⟨[(3, [(7, .int .i64), (8, .int .i64)], [])], [], [], [], psG⟩) Tryz.func158 (by kernel_rfl) (by kernel_rfl) (by kernel_rfl : vc158 x_0 n_1 v Q = _) h

def vc159 (x_0 : Sl) (n_1 : Int) (x_2 : Sl) (v : World) (Q : Value → World → Prop) : Prop :=
 ((0 : Int) ≤ n_1 ∧ n_1 ≤ (x_0.n : Int)) ∧
 ((decide ((x_2.n : Int) = 0)) = true →
 Q (x_0.val) v) ∧
 ((decide ((x_2.n : Int) = 0)) = false →
 ((decide (n_1 = (x_0.n : Int))) = true →
 StepT Tryz.prog (Builtin.append_ #[178, 37] 178 #[(x_0.val), (x_2.val)]) v fun r1 w2 =>
 ∃ x3 : Sl, r1 = x3.val ∧
 Q (x3.val) w2) ∧
 ((decide (n_1 = (x_0.n : Int))) = false →
 ∃ n4 : Int, Wr .i64 ((x_0.n : Int) + (x_2.n : Int)) n4 ∧
 StepT Tryz.prog (Builtin.cap_ #[178] 3 #[(x_0.val)]) v fun r5 w6 =>
 ∃ n7 : Int, r5 = .int .i64 n7 ∧
 ((decide (n4 > n7)) = true →
 CutOk x_0 0 n_1 ∧
 ∃ n8 : Int, Wr .i64 ((x_0.n : Int) + (x_2.n : Int)) n8 ∧
 ∃ n9 : Int, Wr .i64 (n8 - n_1) n9 ∧
 StepT Tryz.prog (Builtin.append_ #[178, 3] 178 #[((x_0.cut 0 n_1 1).val), (.int .i64 n9)]) w6 fun r10 w11 =>
 ∃ x12 : Sl, r10 = x12.val ∧
 ((0 : Int) ≤ n_1 ∧ n_1 ≤ (x12.n : Int)) ∧
 StepT Tryz.prog (Builtin.copy_ #[178, 37] 3 #[((x12.cut n_1 (x12.n : Int) 1).val), (x_2.val)]) w11 fun r13 w14 =>
 ∃ n15 : Int, r13 = .int .i64 n15 ∧
 ∃ n16 : Int, Wr .i64 (n_1 + (x_2.n : Int)) n16 ∧
 ((0 : Int) ≤ n16 ∧ n16 ≤ (x12.n : Int)) ∧
 ((0 : Int) ≤ n_1 ∧ n_1 ≤ (x_0.n : Int)) ∧
 StepT Tryz.prog (Builtin.copy_ #[178, 178] 3 #[((x12.cut n16 (x12.n : Int) 1).val), ((x_0.cut n_1 (x_0.n : Int) 1).val)]) w14 fun r17 w18 =>
 ∃ n19 : Int, r17 = .int .i64 n19 ∧
 Q (x12.val) w18) ∧
 ((decide (n4 > n7)) = false →
 ∃ n20 : Int, Wr .i64 ((x_0.n : Int) + (x_2.n : Int)) n20 ∧
 CutOk x_0 0 n20 ∧
 ∃ n21 : Int, Wr .i64 (n_1 + (x_2.n : Int)) n21 ∧
 ((0 : Int) ≤ n21 ∧ n21 ≤ ((x_0.cut 0 n20 1).n : Int)) ∧
 Trip Tryz.prog 163 #[x_2.val, ((x_0.cut 0 n20 1).cut n21 ((x_0.cut 0 n20 1).n : Int) 1).val] w6 fun r22 w23 =>
 ∃ q24 : Bool, r22 = .bool q24 ∧
 ((!q24) = true →
 ∃ n25 : Int, Wr .i64 (n_1 + (x_2.n : Int)) n25 ∧
 ((0 : Int) ≤ n25 ∧ n25 ≤ ((x_0.cut 0 n20 1).n : Int)) ∧
 ((0 : Int) ≤ n_1 ∧ n_1 ≤ ((x_0.cut 0 n20 1).n : Int)) ∧
 StepT Tryz.prog (Builtin.copy_ #[178, 178] 3 #[(((x_0.cut 0 n20 1).cut n25 ((x_0.cut 0 n20 1).n : Int) 1).val), (((x_0.cut 0 n20 1).cut n_1 ((x_0.cut 0 n20 1).n : Int) 1).val)]) w23 fun r26 w27 =>
 ∃ n28 : Int, r26 = .int .i64 n28 ∧
 ((0 : Int) ≤ n_1 ∧ n_1 ≤ ((x_0.cut 0 n20 1).n : Int)) ∧
 StepT Tryz.prog (Builtin.copy_ #[178, 37] 3 #[(((x_0.cut 0 n20 1).cut n_1 ((x_0.cut 0 n20 1).n : Int) 1).val), (x_2.val)]) w27 fun r29 w30 =>
 ∃ n31 : Int, r29 = .int .i64 n31 ∧
 Q ((x_0.cut 0 n20 1).val) w30) ∧
 ((!q24) = false →
 ((0 : Int) ≤ (x_0.n : Int) ∧ (x_0.n : Int) ≤ ((x_0.cut 0 n20 1).n : Int)) ∧
 StepT Tryz.prog (Builtin.copy_ #[178, 37] 3 #[(((x_0.cut 0 n20 1).cut (x_0.n : Int) ((x_0.cut 0 n20 1).n : Int) 1).val), (x_2.val)]) w23 fun r32 w33 =>
 ∃ n34 : Int, r32 = .int .i64 n34 ∧
 ((0 : Int) ≤ n_1 ∧ n_1 ≤ ((x_0.cut 0 n20 1).n : Int)) ∧
 Trip Tryz.prog 164 #[((x_0.cut 0 n20 1).cut n_1 ((x_0.cut 0 n20 1).n : Int) 1).val, .int .i64 (x_2.n : Int)] w33 fun r35 w36 =>
 r35 = .tuple #[] ∧
 Q ((x_0.cut 0 n20 1).val) w36))))
theorem of159 (x_0 : Sl) (n_1 : Int) (x_2 : Sl) (v : World) (Q : Value → World → Prop) (h : vc159 x_0 n_1 x_2 v Q) : Trip Tryz.prog 159 #[x_0.val, .int .i64 n_1, x_2.val] v Q :=
 trip_of_eq (args := [.sl x_0, .num .i64 n_1, .sl x_2]) (A := ⟨[], [], [(11, []), (15, [])], [], psG⟩) Tryz.func159 (by kernel_rfl) (by kernel_rfl) (by kernel_rfl : vc159 x_0 n_1 x_2 v Q = _) h

def vc160 (x_0 : Sl) (v : World) (Q : Value → World → Prop) : Prop :=
 ∃ q1 : Bool, PureT Tryz.prog (do eqGuard .eql 178 (.tmp 3) (.const (.slice none 0 0)) (x_0.val) (.slice none 0 0); binOp .eql 178 (x_0.val) (.slice none 0 0)) v (.bool q1) ∧
 (q1 = true →
 Q (.slice none 0 0) v) ∧
 (q1 = false →
 StepT Tryz.prog (Instr.buildSlice 178 0 #[]) v fun r2 w3 =>
 ∃ x4 : Sl, r2 = x4.val ∧
 StepT Tryz.prog (Builtin.append_ #[178, 178] 178 #[(x4.val), (x_0.val)]) w3 fun r5 w6 =>
 ∃ x7 : Sl, r5 = x7.val ∧
 Q (x7.val) w6)
theorem of160 (x_0 : Sl) (v : World) (Q : Value → World → Prop) (h : vc160 x_0 v Q) : Trip Tryz.prog 160 #[x_0.val] v Q :=
 trip_of_eq (args := [.sl x_0]) (A := ⟨[], [], [], [], psG⟩) Tryz.func160 (by kernel_rfl) (by kernel_rfl) (by kernel_rfl : vc160 x_0 v Q = _) h

def vc161 (n_0 : Int) (n_1 : Int) (v : World) (Q : Value → World → Prop) : Prop :=
 ∃ q1 : Bool, (Trip Tryz.prog 165 #[.int .i64 n_0] v fun r2 w3 => r2 = .bool q1 ∧ Sub v w3) ∧
 ∃ q4 : Bool, (q1 = true →
 (Trip Tryz.prog 165 #[.int .i64 n_1] v fun r5 w6 => r5 = .bool q4 ∧ Sub v w6)) ∧
 Q (.bool ((q1 && (!q4)) || (decide (n_0 < n_1)))) v
theorem of161 (n_0 : Int) (n_1 : Int) (v : World) (Q : Value → World → Prop) (h : vc161 n_0 n_1 v Q) : Trip Tryz.prog 161 #[.int .i64 n_0, .int .i64 n_1] v Q :=
 trip_of_eq (args := [.num .i64 n_0, .num .i64 n_1]) (A := ⟨[], [], [], [], psG⟩) Tryz.func161 (by kernel_rfl) (by kernel_rfl) (by kernel_rfl : vc161 n_0 n_1 v Q = _) h

def vc162 (n_0 : Int) (v : World) (Q : Value → World → Prop) : Prop :=
 Q (.bool (!decide (n_0 = n_0))) v
theorem of162 (n_0 : Int) (v : World) (Q : Value → World → Prop) (h : vc162 n_0 v Q) : Trip Tryz.prog 162 #[.int .i64 n_0] v Q :=
 trip_of_eq (args := [.num .i64 n_0]) (A := ⟨[], [], [], [], psG⟩) Tryz.func162 (by kernel_rfl) (by kernel_rfl) (by kernel_rfl : vc162 n_0 v Q = _) h

-- STOP 163 slices.overlaps[int]: 'NoneType' object is not subscriptable
def vc165 (n_0 : Int) (v : World) (Q : Value → World → Prop) : Prop :=
 Q (.bool (!decide (n_0 = n_0))) v
theorem of165 (n_0 : Int) (v : World) (Q : Value → World → Prop) (h : vc165 n_0 v Q) : Trip Tryz.prog 165 #[.int .i64 n_0] v Q :=
 trip_of_eq (args := [.num .i64 n_0]) (A := ⟨[], [], [], [], psG⟩) Tryz.func165 (by kernel_rfl) (by kernel_rfl) (by kernel_rfl : vc165 n_0 v Q = _) h

end Go.Vc
