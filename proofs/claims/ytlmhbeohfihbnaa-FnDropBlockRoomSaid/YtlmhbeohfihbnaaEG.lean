/- Part of the proofs about the heaps and memories: a law is joined in the text whose name ends in W and the law. -/
import Derived.Test.YtlmhbeohfihbnaaEVcFn
import Derived.Test.YtlmhbeohfihbnaaProg
import Derived.KernelRfl
namespace Go.Vc
open Go Go.Proofs
set_option linter.all false
/-- laws.FnDropBlockRoom -/
def vc6 (x_0 : Sl) (v : World) (Q : Value → World → Prop) : Prop :=
  ((decide ((x_0.n : Int) > 1048576)) = true →
    Q (.bool true) v) ∧
  ((decide ((x_0.n : Int) > 1048576)) = false →
    Trip Try.prog 23 #[x_0.val] v fun r1 w2 =>
      ∃ x3 : Sl, ∃ x4 : Sl, ∃ n5 : Int, r1 = .tuple #[.agg #[x3.val, x4.val], .int .i64 n5] ∧
      Trip Try.prog 19 #[.agg #[x3.val, x4.val], .int .i64 n5] w2 fun r6 w7 =>
        ∃ x8 : Sl, ∃ x9 : Sl, ∃ q10 : Bool, r6 = .tuple #[.agg #[x8.val, x9.val], .bool q10] ∧
        Trip Try.prog 24 #[.agg #[x3.val, x4.val], .int .i64 n5] w7 fun r11 w12 =>
          ∃ x13 : Sl, ∃ x14 : Sl, ∃ q15 : Bool, r11 = .tuple #[.agg #[x13.val, x14.val], .bool q15] ∧
          ∃ q16 : Bool, (Trip Try.prog 12 #[.agg #[x8.val, x9.val], .agg #[x13.val, x14.val]] w12 fun r17 w18 => r17 = .bool q16 ∧ Sub w12 w18) ∧
          (((((!q16) || (!(q10 == q15))) || (!q10)) || (decide (n5 < 1000))) = false →
            Trip Try.prog 14 #[.agg #[x8.val, x9.val], .int .i64 n5] w12 fun r19 w20 =>
              ∃ n21 : Int, r19 = .int .i64 n21 ∧
              ((decide (n21 ≥ 0)) = true →
                ∃ q22 : Bool, (Trip Try.prog 12 #[.agg #[x8.val, x9.val], .agg #[x13.val, x14.val]] w20 fun r23 w24 => r23 = .bool q22 ∧ Sub w20 w24) ∧
                Q (.bool (q22 && (q10 == q15))) w20) ∧
              ((decide (n21 ≥ 0)) = false →
                Trip Try.prog 13 #[.agg #[x3.val, x4.val]] w20 fun r25 w26 =>
                  ∃ x27 : Sl, ∃ q28 : Bool, r25 = .tuple #[x27.val, .bool q28] ∧
                  Trip Try.prog 14 #[.agg #[x3.val, x4.val], .int .i64 n5] w26 fun r29 w30 =>
                    ∃ n31 : Int, r29 = .int .i64 n31 ∧
                    ((((!q28) || (decide (n31 < 0))) || (decide (n31 ≥ (x27.n : Int)))) = true →
                      Q (.bool false) w30) ∧
                    ((((!q28) || (decide (n31 < 0))) || (decide (n31 ≥ (x27.n : Int)))) = false →
                      IxOk x27 n31 ∧
                      ∃ x32 : Sl, w30.cell? ((elA x27 n31 3).add 2) = some (x32.val) ∧
                      (StepT Try.prog (Instr.makeSlice 23 (.int .i64 (x32.n : Int)) (.int .i64 (x32.n : Int))) w30 fun r33 w34 =>
                          ∃ x35 : Sl, r33 = x35.val ∧
                          Sub w30 w34 ∧
                          (Trip Try.prog 10 #[.agg #[x8.val, x9.val], .int .i64 5, x35.val] w34 fun r36 w37 =>
                              ∃ x38 : Sl, ∃ x39 : Sl, ∃ n40 : Int, r36 = .tuple #[.agg #[x38.val, x39.val], .int .i64 n40] ∧
                              Sub w37 w37 ∧
                              Q (.bool ((decide (n40 > 0)) && (decide ((x38.n : Int) = (x3.n : Int))))) w37) ∧
                          Sub w34 w34 ∧
                          Trip Try.prog 10 #[.agg #[x8.val, x9.val], .int .i64 5, x35.val] w34 fun r41 w42 =>
                            ∃ x43 : Sl, ∃ x44 : Sl, ∃ n45 : Int, r41 = .tuple #[.agg #[x43.val, x44.val], .int .i64 n45] ∧
                            Q (.bool ((decide (n45 > 0)) && (decide ((x43.n : Int) = (x3.n : Int))))) w42) ∧
                      Sub w30 w30 ∧
                      StepT Try.prog (Instr.makeSlice 23 (.int .i64 (x32.n : Int)) (.int .i64 (x32.n : Int))) w30 fun r46 w47 =>
                        ∃ x48 : Sl, r46 = x48.val ∧
                        Sub w30 w47 ∧
                        Trip Try.prog 10 #[.agg #[x8.val, x9.val], .int .i64 5, x48.val] w47 fun r49 w50 =>
                          ∃ x51 : Sl, ∃ x52 : Sl, ∃ n53 : Int, r49 = .tuple #[.agg #[x51.val, x52.val], .int .i64 n53] ∧
                          Q (.bool ((decide (n53 > 0)) && (decide ((x51.n : Int) = (x3.n : Int))))) w50))) ∧
          (((((!q16) || (!(q10 == q15))) || (!q10)) || (decide (n5 < 1000))) = true →
            ∃ q54 : Bool, (Trip Try.prog 12 #[.agg #[x8.val, x9.val], .agg #[x13.val, x14.val]] w12 fun r55 w56 => r55 = .bool q54 ∧ Sub w12 w56) ∧
            Q (.bool (q54 && (q10 == q15))) w12))
theorem of6 (x_0 : Sl) (v : World) (Q : Value → World → Prop) (h : vc6 x_0 v Q) : Trip Try.prog 6 #[x_0.val] v Q :=
  trip_of_eq (args := [.sl x_0]) (A := ⟨[], [], [(12, [7, 12])], [], [12, 20, 22, 31, 32, 34, 35, 36, 40, 42, 46, 50, 52, 53, 55, 65, 68, 70, 72, 75, 76, 77, 80, 81, 82, 84, 85, 86]⟩) Try.func6 (by kernel_rfl) (by kernel_rfl) (by kernel_rfl : vc6 x_0 v Q = _) h

/-- spec.AllocBlock -/
def vc11 (x0_0 : Sl) (x0_1 : Sl) (n_1 : Int) (x_2 : Sl) (v : World) (Q : Value → World → Prop) : Prop :=
  ∃ q1 : Bool, (Trip Try.prog 34 #[.agg #[x0_0.val, x0_1.val]] v fun r2 w3 => r2 = .bool q1 ∧ Sub v w3) ∧
  ∃ q4 : Bool, ((!q1) = false →
    (Trip Try.prog 35 #[.int .i64 n_1, .int .i64 0, .int .i64 99] v fun r5 w6 => r5 = .bool q4 ∧ Sub v w6)) ∧
  ((((!q1) || (!q4)) || (decide ((x_2.n : Int) > 3))) = true →
    Q (.tuple #[.agg #[.slice none 0 0, .slice none 0 0], .int .i64 0]) v) ∧
  ((((!q1) || (!q4)) || (decide ((x_2.n : Int) > 3))) = false →
    ∃ I7 : Int → World → Prop, ∃ m8 : Int → World → Nat, I7 0 v ∧
    ∀ n9 : Int, ∀ w10 : World, I7 n9 w10 →
    ((decide (n9 < (x_2.n : Int))) = true →
      IxOk x_2 n9 ∧
      ∃ n11 : Int, w10.cell? ((elA x_2 n9 1).add 0) = some (.int .i64 n11) ∧
      ∃ q12 : Bool, (Trip Try.prog 35 #[.int .i64 n11, .int .i64 (-999), .int .i64 999] w10 fun r13 w14 => r13 = .bool q12 ∧ Sub w10 w14) ∧
      ((!q12) = true →
        IxOk x_2 n9) ∧
      ∃ n15 : Int, ((!q12) = true →
        w10.cell? ((elA x_2 n9 1).add 0) = some (.int .i64 n15)) ∧
      ∃ q16 : Bool, ((!q12) = true →
        (Trip Try.prog 36 #[.agg #[x0_0.val, x0_1.val], .int .i64 n15] w10 fun r17 w18 => r17 = .bool q16 ∧ Sub w10 w18)) ∧
      (((!q12) && (!q16)) = true →
        Q (.tuple #[.agg #[.slice none 0 0, .slice none 0 0], .int .i64 0]) w10) ∧
      (((!q12) && (!q16)) = false →
        ∃ n19 : Int, Wr .i64 (n9 + 1) n19 ∧
        ((.sl x0_0 : SV) = .sl x0_0) ∧
        ((.sl x0_1 : SV) = .sl x0_1) ∧
        ((.sl (Sl.mk none 0 0) : SV) = .sl (Sl.mk none 0 0)) ∧
        ((.sl (Sl.mk none 0 0) : SV) = .sl (Sl.mk none 0 0)) ∧
        I7 n19 w10 ∧
        m8 n19 w10 < m8 n9 w10)) ∧
    ((decide (n9 < (x_2.n : Int))) = false →
      Trip Try.prog 37 #[.agg #[x0_0.val, x0_1.val]] w10 fun r20 w21 =>
        ∃ x22 : Sl, ∃ x23 : Sl, r20 = .agg #[x22.val, x23.val] ∧
        IxOk x0_1 (x_2.n : Int) ∧
        ∃ n24 : Int, w21.cell? ((elA x0_1 (x_2.n : Int) 1).add 0) = some (.int .i64 n24) ∧
        ((decide (n24 > 0)) = true →
          IxOk x0_1 (x_2.n : Int) ∧
          ∃ n25 : Int, w21.cell? ((elA x0_1 (x_2.n : Int) 1).add 0) = some (.int .i64 n25) ∧
          ∃ n26 : Int, Wr .i64 (n25 - 1) n26 ∧
          ∃ n27 : Int, Wr .i64 (n26 + 1) n27 ∧
          IxOk x0_0 n27 ∧
          ∃ n28 : Int, w21.cell? ((elA x0_0 n27 1).add 0) = some (.int .i64 n28) ∧
          ∃ n29 : Int, ((4 : Int) ≠ 0 ∧ Wr .i64 (Int.tdiv n28 4) n29) ∧
          IxOk x23 (x_2.n : Int) ∧
          StoreAt w21 (elA x23 (x_2.n : Int) 1) 0 [.int .i64 n29] fun w30 =>
            Trip Try.prog 39 #[.agg #[x22.val, x23.val], .int .i64 n26, .int .i64 n_1, x_2.val] w30 fun r31 w32 =>
              ∃ x33 : Sl, ∃ x34 : Sl, r31 = .agg #[x33.val, x34.val] ∧
              ∃ q35 : Bool, (Trip Try.prog 34 #[.agg #[x33.val, x34.val]] w32 fun r36 w37 => r36 = .bool q35 ∧ Sub w32 w37) ∧
              ((!q35) = true →
                Q (.tuple #[.agg #[.slice none 0 0, .slice none 0 0], .int .i64 0]) w32) ∧
              ((!q35) = false →
                ∃ n38 : Int, Wr .i64 (1000 + n26) n38 ∧
                Q (.tuple #[.agg #[x33.val, x34.val], .int .i64 n38]) w32)) ∧
        ((decide (n24 > 0)) = false →
          ∃ n39 : Int, Wr .i64 (2 + (x_2.n : Int)) n39 ∧
          Trip Try.prog 38 #[.int .i64 n39] w21 fun r40 w41 =>
            ∃ x42 : Sl, r40 = x42.val ∧
            Sub w21 w41 ∧
            StepT Try.prog (Builtin.append_ #[23, 23] 23 #[(x22.val), (x42.val)]) w41 fun r43 w44 =>
              ∃ x45 : Sl, r43 = x45.val ∧
              Trip Try.prog 39 #[.agg #[x45.val, x23.val], .int .i64 (x0_0.n : Int), .int .i64 n_1, x_2.val] w44 fun r46 w47 =>
                ∃ x48 : Sl, ∃ x49 : Sl, r46 = .agg #[x48.val, x49.val] ∧
                ∃ q50 : Bool, (Trip Try.prog 34 #[.agg #[x48.val, x49.val]] w47 fun r51 w52 => r51 = .bool q50 ∧ Sub w47 w52) ∧
                ((!q50) = true →
                  Q (.tuple #[.agg #[.slice none 0 0, .slice none 0 0], .int .i64 0]) w47) ∧
                ((!q50) = false →
                  ∃ n53 : Int, Wr .i64 (1000 + (x0_0.n : Int)) n53 ∧
                  Q (.tuple #[.agg #[x48.val, x49.val], .int .i64 n53]) w47))))
theorem of11 (x0_0 : Sl) (x0_1 : Sl) (n_1 : Int) (x_2 : Sl) (v : World) (Q : Value → World → Prop) (h : vc11 x0_0 x0_1 n_1 x_2 v Q) : Trip Try.prog 11 #[.agg #[x0_0.val, x0_1.val], .int .i64 n_1, x_2.val] v Q :=
  trip_of_eq (args := [.ag [.sl x0_0, .sl x0_1], .num .i64 n_1, .sl x_2]) (A := ⟨[(4, [(8, .int .i64)], [])], [], [(13, []), (14, [4])], [], [12, 20, 22, 31, 32, 34, 35, 36, 40, 42, 46, 50, 52, 53, 55, 65, 68, 70, 72, 75, 76, 77, 80, 81, 82, 84, 85, 86]⟩) Try.func11 (by kernel_rfl) (by kernel_rfl) (by kernel_rfl : vc11 x0_0 x0_1 n_1 x_2 v Q = _) h

/-- laws.equalMemory -/
def vc12 (x0_0 : Sl) (x0_1 : Sl) (x1_0 : Sl) (x1_1 : Sl) (v : World) (Q : Value → World → Prop) : Prop :=
  ∃ q1 : Bool, (Trip Try.prog 40 #[x0_0.val, x1_0.val] v fun r2 w3 => r2 = .bool q1 ∧ Sub v w3) ∧
  ∃ q4 : Bool, (q1 = true →
    (Trip Try.prog 40 #[x0_1.val, x1_1.val] v fun r5 w6 => r5 = .bool q4 ∧ Sub v w6)) ∧
  Q (.bool (q1 && q4)) v
theorem of12 (x0_0 : Sl) (x0_1 : Sl) (x1_0 : Sl) (x1_1 : Sl) (v : World) (Q : Value → World → Prop) (h : vc12 x0_0 x0_1 x1_0 x1_1 v Q) : Trip Try.prog 12 #[.agg #[x0_0.val, x0_1.val], .agg #[x1_0.val, x1_1.val]] v Q :=
  trip_of_eq (args := [.ag [.sl x0_0, .sl x0_1], .ag [.sl x1_0, .sl x1_1]]) (A := ⟨[], [], [], [], [12, 20, 22, 31, 32, 34, 35, 36, 40, 42, 46, 50, 52, 53, 55, 65, 68, 70, 72, 75, 76, 77, 80, 81, 82, 84, 85, 86]⟩) Try.func12 (by kernel_rfl) (by kernel_rfl) (by kernel_rfl : vc12 x0_0 x0_1 x1_0 x1_1 v Q = _) h

/-- impl.HeapOf -/
def vc13 (x0_0 : Sl) (x0_1 : Sl) (v : World) (Q : Value → World → Prop) : Prop :=
  Trip Try.prog 30 #[.agg #[x0_0.val, x0_1.val]] v fun r1 w2 =>
    ∃ x3 : Sl, ∃ y4 : Vl, ∃ q5 : Bool, r1 = .tuple #[.agg #[x3.val, y4.x], .bool q5] ∧
    ((!q5) = true →
      Q (.tuple #[.slice none 0 0, .bool false]) w2) ∧
    ((!q5) = false →
      NewAt w2 (.cells #[.slice none 0 0] 65 (0, 0)) fun a6 w7 =>
        StoreAt w7 a6 0 [x3.val] fun w8 =>
          Trip Try.prog 41 #[.pointer (some (a6.add 0))] w8 fun r9 w10 =>
            r9 = .tuple #[] ∧
            ∃ x11 : Sl, w10.cell? (a6.add 0) = some (x11.val) ∧
            Q (.tuple #[x11.val, .bool true]) w10)
theorem of13 (x0_0 : Sl) (x0_1 : Sl) (v : World) (Q : Value → World → Prop) (h : vc13 x0_0 x0_1 v Q) : Trip Try.prog 13 #[.agg #[x0_0.val, x0_1.val]] v Q :=
  trip_of_eq (args := [.ag [.sl x0_0, .sl x0_1]]) (A := ⟨[], [], [], [6], [12, 20, 22, 31, 32, 34, 35, 36, 40, 42, 46, 50, 52, 53, 55, 65, 68, 70, 72, 75, 76, 77, 80, 81, 82, 84, 85, 86]⟩) Try.func13 (by kernel_rfl) (by kernel_rfl) (by kernel_rfl : vc13 x0_0 x0_1 v Q = _) h

/-- impl.CellOf -/
def vc14 (x0_0 : Sl) (x0_1 : Sl) (n_1 : Int) (v : World) (Q : Value → World → Prop) : Prop :=
  Trip Try.prog 30 #[.agg #[x0_0.val, x0_1.val]] v fun r1 w2 =>
    ∃ x3 : Sl, ∃ y4 : Vl, ∃ q5 : Bool, r1 = .tuple #[.agg #[x3.val, y4.x], .bool q5] ∧
    ((!q5) = true →
      Q (.int .i64 (-1)) w2) ∧
    ((!q5) = false →
      ∃ n6 : Int, ∃ q7 : Bool, (Trip Try.prog 31 #[.agg #[x3.val, y4.x], .int .i64 n_1] w2 fun r8 w9 => r8 = .tuple #[.int .i64 n6, .bool q7] ∧ Sub w2 w9) ∧
      ((!q7) = true →
        Q (.int .i64 (-1)) w2) ∧
      ((!q7) = false →
        Q (.int .i64 n6) w2))
theorem of14 (x0_0 : Sl) (x0_1 : Sl) (n_1 : Int) (v : World) (Q : Value → World → Prop) (h : vc14 x0_0 x0_1 n_1 v Q) : Trip Try.prog 14 #[.agg #[x0_0.val, x0_1.val], .int .i64 n_1] v Q :=
  trip_of_eq (args := [.ag [.sl x0_0, .sl x0_1], .num .i64 n_1]) (A := ⟨[], [], [], [], [12, 20, 22, 31, 32, 34, 35, 36, 40, 42, 46, 50, 52, 53, 55, 65, 68, 70, 72, 75, 76, 77, 80, 81, 82, 84, 85, 86]⟩) Try.func14 (by kernel_rfl) (by kernel_rfl) (by kernel_rfl : vc14 x0_0 x0_1 n_1 v Q = _) h

/-- spec.DupBlock -/
def vc18 (x0_0 : Sl) (x0_1 : Sl) (n_1 : Int) (v : World) (Q : Value → World → Prop) : Prop :=
  ∃ q1 : Bool, (Trip Try.prog 34 #[.agg #[x0_0.val, x0_1.val]] v fun r2 w3 => r2 = .bool q1 ∧ Sub v w3) ∧
  ∃ q4 : Bool, ((!q1) = false →
    (Trip Try.prog 35 #[.int .i64 n_1, .int .i64 (-999), .int .i64 999] v fun r5 w6 => r5 = .bool q4 ∧ Sub v w6)) ∧
  ∃ q7 : Bool, ((!q4) = true →
    (!q1) = false →
    (Trip Try.prog 36 #[.agg #[x0_0.val, x0_1.val], .int .i64 n_1] v fun r8 w9 => r8 = .bool q7 ∧ Sub v w9)) ∧
  (((!q1) || ((!q4) && (!q7))) = true →
    Q (.tuple #[.agg #[.slice none 0 0, .slice none 0 0], .bool false]) v) ∧
  (((!q1) || ((!q4) && (!q7))) = false →
    Trip Try.prog 37 #[.agg #[x0_0.val, x0_1.val]] v fun r10 w11 =>
      ∃ x12 : Sl, ∃ x13 : Sl, r10 = .agg #[x12.val, x13.val] ∧
      ∃ q14 : Bool, (Trip Try.prog 46 #[.int .i64 n_1] w11 fun r15 w16 => r15 = .bool q14 ∧ Sub w11 w16) ∧
      (q14 = true →
        ∃ n17 : Int, Wr .i64 (n_1 - 1000) n17 ∧
        IxOk x0_0 n17 ∧
        ∃ n18 : Int, w11.cell? ((elA x0_0 n17 1).add 0) = some (.int .i64 n18) ∧
        ((decide (n18 = 999999)) = true →
          Q (.tuple #[.agg #[.slice none 0 0, .slice none 0 0], .bool false]) w11) ∧
        ((decide (n18 = 999999)) = false →
          ∃ n19 : Int, Wr .i64 (n_1 - 1000) n19 ∧
          ∃ n20 : Int, Wr .i64 (n_1 - 1000) n20 ∧
          IxOk x0_0 n20 ∧
          ∃ n21 : Int, w11.cell? ((elA x0_0 n20 1).add 0) = some (.int .i64 n21) ∧
          ∃ n22 : Int, Wr .i64 (n21 + 1) n22 ∧
          IxOk x12 n19 ∧
          StoreAt w11 (elA x12 n19 1) 0 [.int .i64 n22] fun w23 =>
            Q (.tuple #[.agg #[x12.val, x13.val], .bool true]) w23)) ∧
      (q14 = false →
        Q (.tuple #[.agg #[x12.val, x13.val], .bool true]) w11))
theorem of18 (x0_0 : Sl) (x0_1 : Sl) (n_1 : Int) (v : World) (Q : Value → World → Prop) (h : vc18 x0_0 x0_1 n_1 v Q) : Trip Try.prog 18 #[.agg #[x0_0.val, x0_1.val], .int .i64 n_1] v Q :=
  trip_of_eq (args := [.ag [.sl x0_0, .sl x0_1], .num .i64 n_1]) (A := ⟨[], [], [(7, [])], [], [12, 20, 22, 31, 32, 34, 35, 36, 40, 42, 46, 50, 52, 53, 55, 65, 68, 70, 72, 75, 76, 77, 80, 81, 82, 84, 85, 86]⟩) Try.func18 (by kernel_rfl) (by kernel_rfl) (by kernel_rfl : vc18 x0_0 x0_1 n_1 v Q = _) h

/-- impl.DropBlock -/
def vc19 (x0_0 : Sl) (x0_1 : Sl) (n_1 : Int) (v : World) (Q : Value → World → Prop) : Prop :=
  Trip Try.prog 30 #[.agg #[x0_0.val, x0_1.val]] v fun r1 w2 =>
    ∃ x3 : Sl, ∃ y4 : Vl, ∃ q5 : Bool, r1 = .tuple #[.agg #[x3.val, y4.x], .bool q5] ∧
    ((!q5) = true →
      Q (.tuple #[.agg #[.slice none 0 0, .slice none 0 0], .bool false]) w2) ∧
    ((!q5) = false →
      Trip Try.prog 33 #[.agg #[x0_0.val, x0_1.val]] w2 fun r6 w7 =>
        ∃ x8 : Sl, ∃ x9 : Sl, r6 = .agg #[x8.val, x9.val] ∧
        NewAt w7 (.cells #[.slice none 0 0, .slice none 0 0] 25 (0, 0)) fun a10 w11 =>
          StoreAt w11 a10 0 [x8.val, x9.val] fun w12 =>
            ∃ n13 : Int, ∃ q14 : Bool, (Trip Try.prog 31 #[.agg #[x3.val, y4.x], .int .i64 n_1] w12 fun r15 w16 => r15 = .tuple #[.int .i64 n13, .bool q14] ∧ Sub w12 w16) ∧
            ((!q14) = true →
              ∃ x17 : Sl, ∃ x18 : Sl, (w12.cell? (a10.add 0) = some (x17.val) ∧
                w12.cell? (a10.add 1) = some (x18.val)) ∧
              ∃ q19 : Bool, (Trip Try.prog 32 #[.int .i64 n_1] w12 fun r20 w21 => r20 = .bool q19 ∧ Sub w12 w21) ∧
              Trip Try.prog 45 #[.agg #[x17.val, x18.val], .bool q19] w12 fun r22 w23 =>
                ∃ x24 : Sl, ∃ x25 : Sl, ∃ q26 : Bool, r22 = .tuple #[.agg #[x24.val, x25.val], .bool q26] ∧
                Q (.tuple #[.agg #[x24.val, x25.val], .bool q26]) w23) ∧
            ((!q14) = false →
              IxOk x3 n13 ∧
              ∃ n27 : Int, w12.cell? ((elA x3 n13 3).add 0) = some (.int .i64 n27) ∧
              Trip Try.prog 48 #[.agg #[x3.val, y4.x]] w12 fun r28 w29 =>
                ∃ x30 : Sl, r28 = x30.val ∧
                Sub w12 w29 ∧
                Trip Try.prog 47 #[x30.val, .int .i64 n13] w29 fun r31 w32 =>
                  ∃ n33 : Int, r31 = .int .i64 n33 ∧
                  Sub w29 w32 ∧
                  ((decide (n27 = n33)) = true →
                    Q (.tuple #[.agg #[.slice none 0 0, .slice none 0 0], .bool false]) w32) ∧
                  ((decide (n27 = n33)) = false →
                    Trip Try.prog 49 #[.pointer (some (a10.add 0)), .int .i64 n_1] w32 fun r34 w35 =>
                      r34 = .tuple #[] ∧
                      ∃ x36 : Sl, ∃ x37 : Sl, (w35.cell? (a10.add 0) = some (x36.val) ∧
                        w35.cell? (a10.add 1) = some (x37.val)) ∧
                      Q (.tuple #[.agg #[x36.val, x37.val], .bool true]) w35)))
theorem of19 (x0_0 : Sl) (x0_1 : Sl) (n_1 : Int) (v : World) (Q : Value → World → Prop) (h : vc19 x0_0 x0_1 n_1 v Q) : Trip Try.prog 19 #[.agg #[x0_0.val, x0_1.val], .int .i64 n_1] v Q :=
  trip_of_eq (args := [.ag [.sl x0_0, .sl x0_1], .num .i64 n_1]) (A := ⟨[], [], [(7, []), (8, [7, 9])], [8], [12, 20, 22, 31, 32, 34, 35, 36, 40, 42, 46, 50, 52, 53, 55, 65, 68, 70, 72, 75, 76, 77, 80, 81, 82, 84, 85, 86]⟩) Try.func19 (by kernel_rfl) (by kernel_rfl) (by kernel_rfl : vc19 x0_0 x0_1 n_1 v Q = _) h

/-- impl.ValidMemory -/
def vc20 (x0_0 : Sl) (x0_1 : Sl) (v : World) (Q : Value → World → Prop) : Prop :=
  Trip Try.prog 30 #[.agg #[x0_0.val, x0_1.val]] v fun r1 w2 =>
    ∃ x3 : Sl, ∃ y4 : Vl, ∃ q5 : Bool, r1 = .tuple #[.agg #[x3.val, y4.x], .bool q5] ∧
    Q (.bool q5) w2
theorem of20 (x0_0 : Sl) (x0_1 : Sl) (v : World) (Q : Value → World → Prop) (h : vc20 x0_0 x0_1 v Q) : Trip Try.prog 20 #[.agg #[x0_0.val, x0_1.val]] v Q :=
  trip_of_eq (args := [.ag [.sl x0_0, .sl x0_1]]) (A := ⟨[], [], [], [], [12, 20, 22, 31, 32, 34, 35, 36, 40, 42, 46, 50, 52, 53, 55, 65, 68, 70, 72, 75, 76, 77, 80, 81, 82, 84, 85, 86]⟩) Try.func20 (by kernel_rfl) (by kernel_rfl) (by kernel_rfl : vc20 x0_0 x0_1 v Q = _) h

/-- spec.DrawDropBlock -/
def vc23 (x_0 : Sl) (v : World) (Q : Value → World → Prop) : Prop :=
  Trip Try.prog 44 #[x_0.val] v fun r1 w2 =>
    ∃ x3 : Sl, ∃ x4 : Sl, ∃ n5 : Int, r1 = .tuple #[.agg #[x3.val, x4.val], .int .i64 n5] ∧
    Q (.tuple #[.agg #[x3.val, x4.val], .int .i64 n5]) w2
theorem of23 (x_0 : Sl) (v : World) (Q : Value → World → Prop) (h : vc23 x_0 v Q) : Trip Try.prog 23 #[x_0.val] v Q :=
  trip_of_eq (args := [.sl x_0]) (A := ⟨[], [], [], [], [12, 20, 22, 31, 32, 34, 35, 36, 40, 42, 46, 50, 52, 53, 55, 65, 68, 70, 72, 75, 76, 77, 80, 81, 82, 84, 85, 86]⟩) Try.func23 (by kernel_rfl) (by kernel_rfl) (by kernel_rfl : vc23 x_0 v Q = _) h

/-- spec.DropBlock -/
def vc24 (x0_0 : Sl) (x0_1 : Sl) (n_1 : Int) (v : World) (Q : Value → World → Prop) : Prop :=
  ∃ q1 : Bool, (Trip Try.prog 34 #[.agg #[x0_0.val, x0_1.val]] v fun r2 w3 => r2 = .bool q1 ∧ Sub v w3) ∧
  ∃ q4 : Bool, ((!q1) = false →
    (Trip Try.prog 35 #[.int .i64 n_1, .int .i64 (-999), .int .i64 999] v fun r5 w6 => r5 = .bool q4 ∧ Sub v w6)) ∧
  ∃ q7 : Bool, ((!q4) = true →
    (!q1) = false →
    (Trip Try.prog 36 #[.agg #[x0_0.val, x0_1.val], .int .i64 n_1] v fun r8 w9 => r8 = .bool q7 ∧ Sub v w9)) ∧
  (((!q1) || ((!q4) && (!q7))) = true →
    Q (.tuple #[.agg #[.slice none 0 0, .slice none 0 0], .bool false]) v) ∧
  (((!q1) || ((!q4) && (!q7))) = false →
    ∃ q10 : Bool, (Trip Try.prog 46 #[.int .i64 n_1] v fun r11 w12 => r11 = .bool q10 ∧ Sub v w12) ∧
    (q10 = true →
      Trip Try.prog 54 #[x0_0.val] v fun r13 w14 =>
        ∃ x15 : Sl, ∃ q16 : Bool, r13 = .tuple #[x15.val, .bool q16] ∧
        ∃ n17 : Int, Wr .i64 (n_1 - 1000) n17 ∧
        ∃ n18 : Int, (Trip Try.prog 55 #[x15.val, .int .i64 n17] w14 fun r19 w20 => r19 = .int .i64 n18 ∧ Sub w14 w20) ∧
        ∃ n21 : Int, Wr .i64 (n_1 - 1000) n21 ∧
        IxOk x0_0 n21 ∧
        ∃ n22 : Int, w14.cell? ((elA x0_0 n21 1).add 0) = some (.int .i64 n22) ∧
        Trip Try.prog 57 #[.agg #[x0_0.val, x0_1.val]] w14 fun r23 w24 =>
          ∃ x25 : Sl, r23 = x25.val ∧
          Sub w14 w24 ∧
          Trip Try.prog 56 #[x25.val] w24 fun r26 w27 =>
            ∃ x28 : Sl, r26 = x28.val ∧
            Sub w24 w27 ∧
            IxOk x28 n18 ∧
            ∃ n29 : Int, w27.cell? ((elA x28 n18 1).add 0) = some (.int .i64 n29) ∧
            ((decide (n29 = n22)) = true →
              Q (.tuple #[.agg #[.slice none 0 0, .slice none 0 0], .bool false]) w27) ∧
            ((decide (n29 = n22)) = false →
              Trip Try.prog 37 #[.agg #[x0_0.val, x0_1.val]] w27 fun r30 w31 =>
                ∃ x32 : Sl, ∃ x33 : Sl, r30 = .agg #[x32.val, x33.val] ∧
                Trip Try.prog 58 #[.agg #[x32.val, x33.val], .int .i64 n_1] w31 fun r34 w35 =>
                  ∃ x36 : Sl, ∃ x37 : Sl, r34 = .agg #[x36.val, x37.val] ∧
                  Q (.tuple #[.agg #[x36.val, x37.val], .bool true]) w35)) ∧
    (q10 = false →
      Trip Try.prog 37 #[.agg #[x0_0.val, x0_1.val]] v fun r38 w39 =>
        ∃ x40 : Sl, ∃ x41 : Sl, r38 = .agg #[x40.val, x41.val] ∧
        Trip Try.prog 58 #[.agg #[x40.val, x41.val], .int .i64 n_1] w39 fun r42 w43 =>
          ∃ x44 : Sl, ∃ x45 : Sl, r42 = .agg #[x44.val, x45.val] ∧
          Q (.tuple #[.agg #[x44.val, x45.val], .bool true]) w43))
theorem of24 (x0_0 : Sl) (x0_1 : Sl) (n_1 : Int) (v : World) (Q : Value → World → Prop) (h : vc24 x0_0 x0_1 n_1 v Q) : Trip Try.prog 24 #[.agg #[x0_0.val, x0_1.val], .int .i64 n_1] v Q :=
  trip_of_eq (args := [.ag [.sl x0_0, .sl x0_1], .num .i64 n_1]) (A := ⟨[], [], [(6, [1, 2])], [], [12, 20, 22, 31, 32, 34, 35, 36, 40, 42, 46, 50, 52, 53, 55, 65, 68, 70, 72, 75, 76, 77, 80, 81, 82, 84, 85, 86]⟩) Try.func24 (by kernel_rfl) (by kernel_rfl) (by kernel_rfl : vc24 x0_0 x0_1 n_1 v Q = _) h

/-- spec.newReader -/
def vc26 (x_0 : Sl) (v : World) (Q : Value → World → Prop) : Prop :=
  ((decide ((x_0.n : Int) > 2000)) = true →
    CutOk x_0 0 2000 ∧
    NewAt v (.cells #[(x_0.cut 0 2000 1).val, .int .i64 0] 83 (0, 0)) fun a1 w2 =>
      Q (.pointer (some (a1.add 0))) w2) ∧
  ((decide ((x_0.n : Int) > 2000)) = false →
    NewAt v (.cells #[x_0.val, .int .i64 0] 83 (0, 0)) fun a3 w4 =>
      Q (.pointer (some (a3.add 0))) w4)
theorem of26 (x_0 : Sl) (v : World) (Q : Value → World → Prop) (h : vc26 x_0 v Q) : Trip Try.prog 26 #[x_0.val] v Q :=
  trip_of_eq (args := [.sl x_0]) (A := ⟨[], [], [], [10], [12, 20, 22, 31, 32, 34, 35, 36, 40, 42, 46, 50, 52, 53, 55, 65, 68, 70, 72, 75, 76, 77, 80, 81, 82, 84, 85, 86]⟩) Try.func26 (by kernel_rfl) (by kernel_rfl) (by kernel_rfl : vc26 x_0 v Q = _) h

/-- spec.anyMemory -/
def vc27 (a_0 : Addr) (v : World) (Q : Value → World → Prop) : Prop :=
  Trip Try.prog 61 #[.pointer (some (a_0.add 0))] v fun r1 w2 =>
    ∃ x3 : Sl, ∃ x4 : Sl, r1 = .agg #[x3.val, x4.val] ∧
    Trip Try.prog 62 #[.pointer (some (a_0.add 0)), .int .i64 20] w2 fun r5 w6 =>
      ∃ n7 : Int, r5 = .int .i64 n7 ∧
      ((decide (n7 = 0)) = true →
        Trip Try.prog 63 #[.pointer (some (a_0.add 0)), x3.val] w6 fun r8 w9 =>
          ∃ x10 : Sl, r8 = x10.val ∧
          Q (.agg #[x10.val, x4.val]) w9) ∧
      ((decide (n7 = 0)) = false →
        ((decide (n7 = 1)) = true →
          (Trip Try.prog 62 #[.pointer (some (a_0.add 0)), .int .i64 (x4.n : Int)] w6 fun r11 w12 =>
              ∃ n13 : Int, r11 = .int .i64 n13 ∧
              StepT Try.prog (Instr.buildSlice 23 5 #[(0, (.int .i64 0)), (1, (.int .i64 1)), (2, (.int .i64 (-1))), (3, (.int .i64 5)), (4, (.int .i64 1000))]) w12 fun r14 w15 =>
                ∃ x16 : Sl, r14 = x16.val ∧
                Sub w12 w15 ∧
                Trip Try.prog 28 #[.pointer (some (a_0.add 0)), x16.val] w15 fun r17 w18 =>
                  ∃ n19 : Int, r17 = .int .i64 n19 ∧
                  IxOk x4 n13 ∧
                  StoreAt w18 (elA x4 n13 1) 0 [.int .i64 n19] fun w20 =>
                    Q (.agg #[x3.val, x4.val]) w20) ∧
          StepT Try.prog (Instr.buildSlice 23 5 #[(0, (.int .i64 0)), (1, (.int .i64 1)), (2, (.int .i64 (-1))), (3, (.int .i64 5)), (4, (.int .i64 1000))]) w6 fun r21 w22 =>
            ∃ x23 : Sl, r21 = x23.val ∧
            Sub w6 w22 ∧
            Trip Try.prog 62 #[.pointer (some (a_0.add 0)), .int .i64 (x4.n : Int)] w22 fun r24 w25 =>
              ∃ n26 : Int, r24 = .int .i64 n26 ∧
              Trip Try.prog 28 #[.pointer (some (a_0.add 0)), x23.val] w25 fun r27 w28 =>
                ∃ n29 : Int, r27 = .int .i64 n29 ∧
                IxOk x4 n26 ∧
                StoreAt w28 (elA x4 n26 1) 0 [.int .i64 n29] fun w30 =>
                  Q (.agg #[x3.val, x4.val]) w30) ∧
        ((decide (n7 = 1)) = false →
          ((decide (n7 = 2)) = true →
            ((0 : Int) ≤ 1 ∧ 1 ≤ (x4.n : Int)) ∧
            Q (.agg #[x3.val, (x4.cut 1 (x4.n : Int) 1).val]) w6) ∧
          ((decide (n7 = 2)) = false →
            ((decide (n7 = 3)) = true →
              ((decide ((x3.n : Int) > 0)) = true →
                (Trip Try.prog 62 #[.pointer (some (a_0.add 0)), .int .i64 (x3.n : Int)] w6 fun r31 w32 =>
                    ∃ n33 : Int, r31 = .int .i64 n33 ∧
                    StepT Try.prog (Instr.buildSlice 23 6 #[(0, (.int .i64 0)), (1, (.int .i64 1)), (2, (.int .i64 2)), (3, (.int .i64 (-1))), (4, (.int .i64 4)), (5, (.int .i64 1000))]) w32 fun r34 w35 =>
                      ∃ x36 : Sl, r34 = x36.val ∧
                      Sub w32 w35 ∧
                      Trip Try.prog 28 #[.pointer (some (a_0.add 0)), x36.val] w35 fun r37 w38 =>
                        ∃ n39 : Int, r37 = .int .i64 n39 ∧
                        IxOk x3 n33 ∧
                        StoreAt w38 (elA x3 n33 1) 0 [.int .i64 n39] fun w40 =>
                          Q (.agg #[x3.val, x4.val]) w40) ∧
                StepT Try.prog (Instr.buildSlice 23 6 #[(0, (.int .i64 0)), (1, (.int .i64 1)), (2, (.int .i64 2)), (3, (.int .i64 (-1))), (4, (.int .i64 4)), (5, (.int .i64 1000))]) w6 fun r41 w42 =>
                  ∃ x43 : Sl, r41 = x43.val ∧
                  Sub w6 w42 ∧
                  Trip Try.prog 62 #[.pointer (some (a_0.add 0)), .int .i64 (x3.n : Int)] w42 fun r44 w45 =>
                    ∃ n46 : Int, r44 = .int .i64 n46 ∧
                    Trip Try.prog 28 #[.pointer (some (a_0.add 0)), x43.val] w45 fun r47 w48 =>
                      ∃ n49 : Int, r47 = .int .i64 n49 ∧
                      IxOk x3 n46 ∧
                      StoreAt w48 (elA x3 n46 1) 0 [.int .i64 n49] fun w50 =>
                        Q (.agg #[x3.val, x4.val]) w50) ∧
              ((decide ((x3.n : Int) > 0)) = false →
                Q (.agg #[x3.val, x4.val]) w6)) ∧
            ((decide (n7 = 3)) = false →
              Q (.agg #[x3.val, x4.val]) w6))))
theorem of27 (a_0 : Addr) (v : World) (Q : Value → World → Prop) (h : vc27 a_0 v Q) : Trip Try.prog 27 #[.pointer (some (a_0.add 0))] v Q :=
  trip_of_eq (args := [.pt a_0 0]) (A := ⟨[], [], [(6, [8]), (11, [8])], [], [12, 20, 22, 31, 32, 34, 35, 36, 40, 42, 46, 50, 52, 53, 55, 65, 68, 70, 72, 75, 76, 77, 80, 81, 82, 84, 85, 86]⟩) Try.func27 (by kernel_rfl) (by kernel_rfl) (by kernel_rfl : vc27 a_0 v Q = _) h

/-- (*spec.reader).one -/
def vc28 (a_0 : Addr) (x_1 : Sl) (v : World) (Q : Value → World → Prop) : Prop :=
  Trip Try.prog 62 #[.pointer (some (a_0.add 0)), .int .i64 (x_1.n : Int)] v fun r1 w2 =>
    ∃ n3 : Int, r1 = .int .i64 n3 ∧
    IxOk x_1 n3 ∧
    ∃ n4 : Int, w2.cell? ((elA x_1 n3 1).add 0) = some (.int .i64 n4) ∧
    Q (.int .i64 n4) w2
theorem of28 (a_0 : Addr) (x_1 : Sl) (v : World) (Q : Value → World → Prop) (h : vc28 a_0 x_1 v Q) : Trip Try.prog 28 #[.pointer (some (a_0.add 0)), x_1.val] v Q :=
  trip_of_eq (args := [.pt a_0 0, .sl x_1]) (A := ⟨[], [], [], [], [12, 20, 22, 31, 32, 34, 35, 36, 40, 42, 46, 50, 52, 53, 55, 65, 68, 70, 72, 75, 76, 77, 80, 81, 82, 84, 85, 86]⟩) Try.func28 (by kernel_rfl) (by kernel_rfl) (by kernel_rfl : vc28 a_0 x_1 v Q = _) h

/-- spec.blockFor -/
def vc29 (a_0 : Addr) (x1_0 : Sl) (x1_1 : Sl) (v : World) (Q : Value → World → Prop) : Prop :=
  Trip Try.prog 54 #[x1_0.val] v fun r1 w2 =>
    ∃ x3 : Sl, ∃ q4 : Bool, r1 = .tuple #[x3.val, .bool q4] ∧
    ((decide ((x3.n : Int) > 0)) = true →
      Trip Try.prog 62 #[.pointer (some (a_0.add 0)), .int .i64 4] w2 fun r5 w6 =>
        ∃ n7 : Int, r5 = .int .i64 n7 ∧
        ((decide (n7 > 0)) = true →
          Trip Try.prog 62 #[.pointer (some (a_0.add 0)), .int .i64 (x3.n : Int)] w6 fun r8 w9 =>
            ∃ n10 : Int, r8 = .int .i64 n10 ∧
            IxOk x3 n10 ∧
            ∃ n11 : Int, w9.cell? ((elA x3 n10 1).add 0) = some (.int .i64 n11) ∧
            ∃ n12 : Int, Wr .i64 (1000 + n11) n12 ∧
            Q (.int .i64 n12) w9) ∧
        ((decide (n7 > 0)) = false →
          Trip Try.prog 62 #[.pointer (some (a_0.add 0)), .int .i64 30] w6 fun r13 w14 =>
            ∃ n15 : Int, r13 = .int .i64 n15 ∧
            ∃ n16 : Int, Wr .i64 (n15 - 10) n16 ∧
            Trip Try.prog 62 #[.pointer (some (a_0.add 0)), .int .i64 9] w14 fun r17 w18 =>
              ∃ n19 : Int, r17 = .int .i64 n19 ∧
              ∃ n20 : Int, Wr .i64 (1000 + n19) n20 ∧
              StepT Try.prog (Instr.buildSlice 23 5 #[(0, (.int .i64 n16)), (1, (.int .i64 n20)), (2, (.int .i64 5)), (3, (.int .i64 1000000)), (4, (.int .i64 (-1000)))]) w18 fun r21 w22 =>
                ∃ x23 : Sl, r21 = x23.val ∧
                Trip Try.prog 28 #[.pointer (some (a_0.add 0)), x23.val] w22 fun r24 w25 =>
                  ∃ n26 : Int, r24 = .int .i64 n26 ∧
                  Q (.int .i64 n26) w25)) ∧
    ((decide ((x3.n : Int) > 0)) = false →
      Trip Try.prog 62 #[.pointer (some (a_0.add 0)), .int .i64 30] w2 fun r27 w28 =>
        ∃ n29 : Int, r27 = .int .i64 n29 ∧
        ∃ n30 : Int, Wr .i64 (n29 - 10) n30 ∧
        Trip Try.prog 62 #[.pointer (some (a_0.add 0)), .int .i64 9] w28 fun r31 w32 =>
          ∃ n33 : Int, r31 = .int .i64 n33 ∧
          ∃ n34 : Int, Wr .i64 (1000 + n33) n34 ∧
          StepT Try.prog (Instr.buildSlice 23 5 #[(0, (.int .i64 n30)), (1, (.int .i64 n34)), (2, (.int .i64 5)), (3, (.int .i64 1000000)), (4, (.int .i64 (-1000)))]) w32 fun r35 w36 =>
            ∃ x37 : Sl, r35 = x37.val ∧
            Trip Try.prog 28 #[.pointer (some (a_0.add 0)), x37.val] w36 fun r38 w39 =>
              ∃ n40 : Int, r38 = .int .i64 n40 ∧
              Q (.int .i64 n40) w39)
theorem of29 (a_0 : Addr) (x1_0 : Sl) (x1_1 : Sl) (v : World) (Q : Value → World → Prop) (h : vc29 a_0 x1_0 x1_1 v Q) : Trip Try.prog 29 #[.pointer (some (a_0.add 0)), .agg #[x1_0.val, x1_1.val]] v Q :=
  trip_of_eq (args := [.pt a_0 0, .ag [.sl x1_0, .sl x1_1]]) (A := ⟨[], [], [], [], [12, 20, 22, 31, 32, 34, 35, 36, 40, 42, 46, 50, 52, 53, 55, 65, 68, 70, 72, 75, 76, 77, 80, 81, 82, 84, 85, 86]⟩) Try.func29 (by kernel_rfl) (by kernel_rfl) (by kernel_rfl : vc29 a_0 x1_0 x1_1 v Q = _) h

/-- impl.openMemory -/
def vc30 (x0_0 : Sl) (x0_1 : Sl) (v : World) (Q : Value → World → Prop) : Prop :=
  StepT Try.prog (Instr.makeMap 50 none) v fun r1 w2 =>
    ∃ y3 : Vl, r1 = y3.x ∧
    ∃ I4 : Sl → Int → Sl → World → Prop, ∃ m5 : Sl → Int → Sl → World → Nat, I4 (Sl.mk none 0 0) 0 (Sl.mk none 0 0) w2 ∧
    ∀ x6 : Sl, ∀ n7 : Int, ∀ x8 : Sl, ∀ w9 : World, I4 x6 n7 x8 w9 →
    ((decide (n7 < (x0_0.n : Int))) = true →
      ∃ n10 : Int, Wr .i64 ((x0_0.n : Int) - n7) n10 ∧
      ((decide (n10 < 2)) = false →
        IxOk x0_0 n7) ∧
      ∃ n11 : Int, ((decide (n10 < 2)) = false →
        w9.cell? ((elA x0_0 n7 1).add 0) = some (.int .i64 n11)) ∧
      ∃ n12 : Int, (((decide (n10 < 2)) || (decide (n11 < 0))) = false →
        Wr .i64 (n7 + 1) n12) ∧
      (((decide (n10 < 2)) || (decide (n11 < 0))) = false →
        IxOk x0_0 n12) ∧
      ∃ n13 : Int, (((decide (n10 < 2)) || (decide (n11 < 0))) = false →
        w9.cell? ((elA x0_0 n12 1).add 0) = some (.int .i64 n13)) ∧
      ((((decide (n10 < 2)) || (decide (n11 < 0))) || (decide (n13 < 0))) = true →
        Q (.tuple #[.agg #[x8.val, y3.x], .bool false]) w9) ∧
      ((((decide (n10 < 2)) || (decide (n11 < 0))) || (decide (n13 < 0))) = false →
        IxOk x0_0 n7 ∧
        ∃ n14 : Int, w9.cell? ((elA x0_0 n7 1).add 0) = some (.int .i64 n14) ∧
        ∃ n15 : Int, Wr .i64 (n7 + 1) n15 ∧
        IxOk x0_0 n15 ∧
        ∃ n16 : Int, w9.cell? ((elA x0_0 n15 1).add 0) = some (.int .i64 n16) ∧
        ∃ n17 : Int, Wr .i64 (n7 + 2) n17 ∧
        (4 : Int) ≠ 0 ∧
        ∃ n18 : Int, Wr .i64 (n17 + (Int.tmod n16 4)) n18 ∧
        ((decide (n18 > (x0_0.n : Int))) = true →
          Q (.tuple #[.agg #[x8.val, y3.x], .bool false]) w9) ∧
        ((decide (n18 > (x0_0.n : Int))) = false →
          StepU Try.prog (Instr.mapUpdate 50 (y3.x) (.int .i64 n7) (.int .i64 (x8.n : Int))) w9 fun w19 =>
            StepT Try.prog (Instr.buildSlice 23 1 #[(0, (.int .i64 n7))]) w19 fun r20 w21 =>
              ∃ x22 : Sl, r20 = x22.val ∧
              StepT Try.prog (Builtin.append_ #[23, 23] 23 #[(x6.val), (x22.val)]) w21 fun r23 w24 =>
                ∃ x25 : Sl, r23 = x25.val ∧
                ((decide (n14 > 0)) = true →
                  ∃ n26 : Int, ((4 : Int) ≠ 0 ∧ Wr .i64 (Int.tdiv n16 4) n26) ∧
                  ∃ n27 : Int, Wr .i64 (n7 + 2) n27 ∧
                  CutOk x0_0 n27 n18 ∧
                  Trip Try.prog 64 #[(x0_0.cut n27 n18 1).val] w24 fun r28 w29 =>
                    ∃ x30 : Sl, r28 = x30.val ∧
                    StepT Try.prog (Instr.buildSlice 31 1 #[(0, (.agg #[.int .i64 n14, .int .i64 n26, x30.val]))]) w29 fun r31 w32 =>
                      ∃ x33 : Sl, r31 = x33.val ∧
                      StepT Try.prog (Builtin.append_ #[31, 31] 31 #[(x8.val), (x33.val)]) w32 fun r34 w35 =>
                        ∃ x36 : Sl, r34 = x36.val ∧
                        ((.sl x0_0 : SV) = .sl x0_0) ∧
                        ((.sl x0_1 : SV) = .sl x0_1) ∧
                        ((.sl (Sl.mk none 0 0) : SV) = .sl (Sl.mk none 0 0)) ∧
                        ((.v (Vl.mk (Value.map none) rfl) : SV) = .v (Vl.mk (Value.map none) rfl)) ∧
                        ((.v y3 : SV) = .v y3) ∧
                        I4 x25 n18 x36 w35 ∧
                        m5 x25 n18 x36 w35 < m5 x6 n7 x8 w9) ∧
                ((decide (n14 > 0)) = false →
                  ∃ n37 : Int, Wr .i64 (n7 + 2) n37 ∧
                  CutOk x0_0 n37 n18 ∧
                  ∃ q38 : Bool, (Trip Try.prog 65 #[(x0_0.cut n37 n18 1).val] w24 fun r39 w40 => r39 = .bool q38 ∧ Sub w24 w40) ∧
                  ((!q38) = true →
                    Q (.tuple #[.agg #[x8.val, y3.x], .bool false]) w24) ∧
                  ((!q38) = false →
                    StepT Try.prog (Instr.buildSlice 31 1 #[(0, (.agg #[.int .i64 n14, .int .i64 0, .slice none 0 0]))]) w24 fun r41 w42 =>
                      ∃ x43 : Sl, r41 = x43.val ∧
                      StepT Try.prog (Builtin.append_ #[31, 31] 31 #[(x8.val), (x43.val)]) w42 fun r44 w45 =>
                        ∃ x46 : Sl, r44 = x46.val ∧
                        ((.sl x0_0 : SV) = .sl x0_0) ∧
                        ((.sl x0_1 : SV) = .sl x0_1) ∧
                        ((.sl (Sl.mk none 0 0) : SV) = .sl (Sl.mk none 0 0)) ∧
                        ((.v (Vl.mk (Value.map none) rfl) : SV) = .v (Vl.mk (Value.map none) rfl)) ∧
                        ((.v y3 : SV) = .v y3) ∧
                        I4 x25 n18 x46 w45 ∧
                        m5 x25 n18 x46 w45 < m5 x6 n7 x8 w9))))) ∧
    ((decide (n7 < (x0_0.n : Int))) = false →
      Trip Try.prog 66 #[.agg #[x0_0.val, x0_1.val], .agg #[x8.val, y3.x], x6.val] w9 fun r47 w48 =>
        ∃ q49 : Bool, r47 = .bool q49 ∧
        ((!q49) = true →
          Q (.tuple #[.agg #[x8.val, y3.x], .bool false]) w48) ∧
        ((!q49) = false →
          ∃ I50 : Int → World → Prop, ∃ m51 : Int → World → Nat, I50 0 w48 ∧
          ∀ n52 : Int, ∀ w53 : World, I50 n52 w53 →
          ((decide (n52 < (x8.n : Int))) = true →
            IxOk x8 n52 ∧
            ∃ x54 : Sl, w53.cell? ((elA x8 n52 3).add 2) = some (x54.val) ∧
            ∃ I55 : Int → World → Prop, ∃ m56 : Int → World → Nat, I55 0 w53 ∧
            ∀ n57 : Int, ∀ w58 : World, I55 n57 w58 →
            ((decide (n57 < (x54.n : Int))) = true →
              IxOk x54 n57 ∧
              ∃ n59 : Int, w58.cell? ((elA x54 n57 1).add 0) = some (.int .i64 n59) ∧
              ∃ q60 : Bool, (Trip Try.prog 32 #[.int .i64 n59] w58 fun r61 w62 => r61 = .bool q60 ∧ Sub w58 w62) ∧
              (q60 = true →
                ∃ n63 : Int, Wr .i64 (n57 + 1) n63 ∧
                ((.sl x0_0 : SV) = .sl x0_0) ∧
                ((.sl x0_1 : SV) = .sl x0_1) ∧
                ((.sl (Sl.mk none 0 0) : SV) = .sl (Sl.mk none 0 0)) ∧
                ((.v (Vl.mk (Value.map none) rfl) : SV) = .v (Vl.mk (Value.map none) rfl)) ∧
                ((.sl x8 : SV) = .sl x8) ∧
                ((.v y3 : SV) = .v y3) ∧
                I55 n63 w58 ∧
                m56 n63 w58 < m56 n57 w58) ∧
              (q60 = false →
                ∃ n64 : Int, ∃ q65 : Bool, (Trip Try.prog 31 #[.agg #[x8.val, y3.x], .int .i64 n59] w58 fun r66 w67 => r66 = .tuple #[.int .i64 n64, .bool q65] ∧ Sub w58 w67) ∧
                ((!q65) = true →
                  Q (.tuple #[.agg #[x8.val, y3.x], .bool false]) w58) ∧
                ((!q65) = false →
                  IxOk x8 n52 ∧
                  ∃ x68 : Sl, w58.cell? ((elA x8 n52 3).add 2) = some (x68.val) ∧
                  ∃ n69 : Int, Wr .i64 (1000 + n64) n69 ∧
                  IxOk x68 n57 ∧
                  StoreAt w58 (elA x68 n57 1) 0 [.int .i64 n69] fun w70 =>
                    ∃ n71 : Int, Wr .i64 (n57 + 1) n71 ∧
                    ((.sl x0_0 : SV) = .sl x0_0) ∧
                    ((.sl x0_1 : SV) = .sl x0_1) ∧
                    ((.sl (Sl.mk none 0 0) : SV) = .sl (Sl.mk none 0 0)) ∧
                    ((.v (Vl.mk (Value.map none) rfl) : SV) = .v (Vl.mk (Value.map none) rfl)) ∧
                    ((.sl x8 : SV) = .sl x8) ∧
                    ((.v y3 : SV) = .v y3) ∧
                    I55 n71 w70 ∧
                    m56 n71 w70 < m56 n57 w58))) ∧
            ((decide (n57 < (x54.n : Int))) = false →
              ∃ n72 : Int, Wr .i64 (n52 + 1) n72 ∧
              ((.sl x0_0 : SV) = .sl x0_0) ∧
              ((.sl x0_1 : SV) = .sl x0_1) ∧
              ((.sl (Sl.mk none 0 0) : SV) = .sl (Sl.mk none 0 0)) ∧
              ((.v (Vl.mk (Value.map none) rfl) : SV) = .v (Vl.mk (Value.map none) rfl)) ∧
              ((.sl x8 : SV) = .sl x8) ∧
              ((.v y3 : SV) = .v y3) ∧
              I50 n72 w58 ∧
              m51 n72 w58 < m51 n52 w53)) ∧
          ((decide (n52 < (x8.n : Int))) = false →
            Trip Try.prog 48 #[.agg #[x8.val, y3.x]] w53 fun r73 w74 =>
              ∃ x75 : Sl, r73 = x75.val ∧
              Sub w53 w74 ∧
              ∃ q76 : Bool, (Trip Try.prog 42 #[x75.val] w74 fun r77 w78 => r77 = .bool q76 ∧ Sub w74 w78) ∧
              Q (.tuple #[.agg #[x8.val, y3.x], .bool q76]) w74)))
theorem of30 (x0_0 : Sl) (x0_1 : Sl) (v : World) (Q : Value → World → Prop) (h : vc30 x0_0 x0_1 v Q) : Trip Try.prog 30 #[.agg #[x0_0.val, x0_1.val]] v Q :=
  trip_of_eq (args := [.ag [.sl x0_0, .sl x0_1]]) (A := ⟨[(4, [(5, .sl), (6, .int .i64)], [(2, 0, .sl)]), (23, [(119, .int .i64)], []), (26, [(129, .int .i64)], [])], [], [(35, [2])], [], [12, 20, 22, 31, 32, 34, 35, 36, 40, 42, 46, 50, 52, 53, 55, 65, 68, 70, 72, 75, 76, 77, 80, 81, 82, 84, 85, 86]⟩) Try.func30 (by kernel_rfl) (by kernel_rfl) (by kernel_rfl : vc30 x0_0 x0_1 v Q = _) h

/-- (impl.openedMemory).liveBlock -/
def vc31 (x0_0 : Sl) (y0_1 : Vl) (n_1 : Int) (v : World) (Q : Value → World → Prop) : Prop :=
  ∃ n1 : Int, Wr .i64 (n_1 - 1000) n1 ∧
  StepT Try.prog (Instr.lookup 50 (y0_1.x) (.int .i64 n1) true) v fun r2 w3 =>
    ∃ n4 : Int, ∃ q5 : Bool, r2 = .tuple #[.int .i64 n4, .bool q5] ∧
    (((!q5) || (decide (n_1 < 1000))) = false →
      IxOk x0_0 n4) ∧
    ∃ n6 : Int, (((!q5) || (decide (n_1 < 1000))) = false →
      w3.cell? ((elA x0_0 n4 3).add 0) = some (.int .i64 n6)) ∧
    ((((!q5) || (decide (n_1 < 1000))) || (decide (n6 = 0))) = true →
      Q (.tuple #[.int .i64 0, .bool false]) w3) ∧
    ((((!q5) || (decide (n_1 < 1000))) || (decide (n6 = 0))) = false →
      Q (.tuple #[.int .i64 n4, .bool true]) w3)
theorem of31 (x0_0 : Sl) (y0_1 : Vl) (n_1 : Int) (v : World) (Q : Value → World → Prop) (h : vc31 x0_0 y0_1 n_1 v Q) : Trip Try.prog 31 #[.agg #[x0_0.val, y0_1.x], .int .i64 n_1] v Q :=
  trip_of_eq (args := [.ag [.sl x0_0, .v y0_1], .num .i64 n_1]) (A := ⟨[], [], [], [], [12, 20, 22, 31, 32, 34, 35, 36, 40, 42, 46, 50, 52, 53, 55, 65, 68, 70, 72, 75, 76, 77, 80, 81, 82, 84, 85, 86]⟩) Try.func31 (by kernel_rfl) (by kernel_rfl) (by kernel_rfl : vc31 x0_0 y0_1 n_1 v Q = _) h

/-- impl.isInt -/
def vc32 (n_0 : Int) (v : World) (Q : Value → World → Prop) : Prop :=
  Q (.bool ((decide (n_0 ≥ (-999))) && (decide (n_0 ≤ 999)))) v
theorem of32 (n_0 : Int) (v : World) (Q : Value → World → Prop) (h : vc32 n_0 v Q) : Trip Try.prog 32 #[.int .i64 n_0] v Q :=
  trip_of_eq (args := [.num .i64 n_0]) (A := ⟨[], [], [], [], [12, 20, 22, 31, 32, 34, 35, 36, 40, 42, 46, 50, 52, 53, 55, 65, 68, 70, 72, 75, 76, 77, 80, 81, 82, 84, 85, 86]⟩) Try.func32 (by kernel_rfl) (by kernel_rfl) (by kernel_rfl : vc32 n_0 v Q = _) h

/-- (impl.Memory).clone -/
def vc33 (x0_0 : Sl) (x0_1 : Sl) (v : World) (Q : Value → World → Prop) : Prop :=
  Trip Try.prog 64 #[x0_0.val] v fun r1 w2 =>
    ∃ x3 : Sl, r1 = x3.val ∧
    Sub v w2 ∧
    Trip Try.prog 64 #[x0_1.val] w2 fun r4 w5 =>
      ∃ x6 : Sl, r4 = x6.val ∧
      Q (.agg #[x3.val, x6.val]) w5
theorem of33 (x0_0 : Sl) (x0_1 : Sl) (v : World) (Q : Value → World → Prop) (h : vc33 x0_0 x0_1 v Q) : Trip Try.prog 33 #[.agg #[x0_0.val, x0_1.val]] v Q :=
  trip_of_eq (args := [.ag [.sl x0_0, .sl x0_1]]) (A := ⟨[], [], [(1, [2])], [], [12, 20, 22, 31, 32, 34, 35, 36, 40, 42, 46, 50, 52, 53, 55, 65, 68, 70, 72, 75, 76, 77, 80, 81, 82, 84, 85, 86]⟩) Try.func33 (by kernel_rfl) (by kernel_rfl) (by kernel_rfl : vc33 x0_0 x0_1 v Q = _) h

/-- spec.validMemory -/
def vc34 (x0_0 : Sl) (x0_1 : Sl) (v : World) (Q : Value → World → Prop) : Prop :=
  Trip Try.prog 54 #[x0_0.val] v fun r1 w2 =>
    ∃ x3 : Sl, ∃ q4 : Bool, r1 = .tuple #[x3.val, .bool q4] ∧
    (((!q4) || (!decide ((x0_1.n : Int) = 4))) = true →
      Q (.bool false) w2) ∧
    (((!q4) || (!decide ((x0_1.n : Int) = 4))) = false →
      Trip Try.prog 67 #[x0_0.val, x3.val] w2 fun r5 w6 =>
        ∃ x7 : Sl, ∃ q8 : Bool, r5 = .tuple #[x7.val, .bool q8] ∧
        ((!q8) = false →
          Trip Try.prog 69 #[x7.val] w6 fun r9 w10 =>
            ∃ x11 : Sl, r9 = x11.val ∧
            ∃ q12 : Bool, (Trip Try.prog 68 #[x11.val] w10 fun r13 w14 => r13 = .bool q12 ∧ Sub w10 w14) ∧
            ((!q12) = true →
              Q (.bool false) w10) ∧
            ((!q12) = false →
              ∃ I15 : Int → World → Prop, ∃ m16 : Int → World → Nat, I15 0 w10 ∧
              ∀ n17 : Int, ∀ w18 : World, I15 n17 w18 →
              ((decide (n17 ≤ 3)) = true →
                IxOk x0_1 n17 ∧
                ∃ n19 : Int, w18.cell? ((elA x0_1 n17 1).add 0) = some (.int .i64 n19) ∧
                Trip Try.prog 71 #[x0_0.val, x3.val, .int .i64 n17] w18 fun r20 w21 =>
                  ∃ x22 : Sl, r20 = x22.val ∧
                  Sub w18 w21 ∧
                  ∃ q23 : Bool, (Trip Try.prog 70 #[x0_0.val, .int .i64 n19, x22.val] w21 fun r24 w25 => r24 = .bool q23 ∧ Sub w21 w25) ∧
                  ((!q23) = true →
                    Q (.bool false) w21) ∧
                  ((!q23) = false →
                    ∃ n26 : Int, Wr .i64 (n17 + 1) n26 ∧
                    ((.sl x0_0 : SV) = .sl x0_0) ∧
                    ((.sl x0_1 : SV) = .sl x0_1) ∧
                    I15 n26 w21 ∧
                    m16 n26 w21 < m16 n17 w18)) ∧
              ((decide (n17 ≤ 3)) = false →
                Q (.bool true) w18))) ∧
        ((!q8) = true →
          Q (.bool false) w6))
theorem of34 (x0_0 : Sl) (x0_1 : Sl) (v : World) (Q : Value → World → Prop) (h : vc34 x0_0 x0_1 v Q) : Trip Try.prog 34 #[.agg #[x0_0.val, x0_1.val]] v Q :=
  trip_of_eq (args := [.ag [.sl x0_0, .sl x0_1]]) (A := ⟨[(8, [(7, .int .i64)], [])], [], [(10, [11])], [], [12, 20, 22, 31, 32, 34, 35, 36, 40, 42, 46, 50, 52, 53, 55, 65, 68, 70, 72, 75, 76, 77, 80, 81, 82, 84, 85, 86]⟩) Try.func34 (by kernel_rfl) (by kernel_rfl) (by kernel_rfl : vc34 x0_0 x0_1 v Q = _) h

/-- spec.inRange -/
def vc35 (n_0 : Int) (n_1 : Int) (n_2 : Int) (v : World) (Q : Value → World → Prop) : Prop :=
  Q (.bool ((decide (n_1 ≤ n_0)) && (decide (n_0 ≤ n_2)))) v
theorem of35 (n_0 : Int) (n_1 : Int) (n_2 : Int) (v : World) (Q : Value → World → Prop) (h : vc35 n_0 n_1 n_2 v Q) : Trip Try.prog 35 #[.int .i64 n_0, .int .i64 n_1, .int .i64 n_2] v Q :=
  trip_of_eq (args := [.num .i64 n_0, .num .i64 n_1, .num .i64 n_2]) (A := ⟨[], [], [], [], [12, 20, 22, 31, 32, 34, 35, 36, 40, 42, 46, 50, 52, 53, 55, 65, 68, 70, 72, 75, 76, 77, 80, 81, 82, 84, 85, 86]⟩) Try.func35 (by kernel_rfl) (by kernel_rfl) (by kernel_rfl : vc35 n_0 n_1 n_2 v Q = _) h

/-- spec.isBlock -/
def vc36 (x0_0 : Sl) (x0_1 : Sl) (n_1 : Int) (v : World) (Q : Value → World → Prop) : Prop :=
  Trip Try.prog 54 #[x0_0.val] v fun r1 w2 =>
    ∃ x3 : Sl, ∃ q4 : Bool, r1 = .tuple #[x3.val, .bool q4] ∧
    ∃ q5 : Bool, (Trip Try.prog 46 #[.int .i64 n_1] w2 fun r6 w7 => r6 = .bool q5 ∧ Sub w2 w7) ∧
    ∃ n8 : Int, (q5 = true →
      Wr .i64 (n_1 - 1000) n8) ∧
    ∃ q9 : Bool, (q5 = true →
      (Trip Try.prog 72 #[x3.val, .int .i64 n8] w2 fun r10 w11 => r10 = .bool q9 ∧ Sub w2 w11)) ∧
    ∃ n12 : Int, ((q5 && q9) = true →
      Wr .i64 (n_1 - 1000) n12) ∧
    ((q5 && q9) = true →
      IxOk x0_0 n12) ∧
    ∃ n13 : Int, ((q5 && q9) = true →
      w2.cell? ((elA x0_0 n12 1).add 0) = some (.int .i64 n13)) ∧
    Q (.bool ((q5 && q9) && (decide (n13 > 0)))) w2
theorem of36 (x0_0 : Sl) (x0_1 : Sl) (n_1 : Int) (v : World) (Q : Value → World → Prop) (h : vc36 x0_0 x0_1 n_1 v Q) : Trip Try.prog 36 #[.agg #[x0_0.val, x0_1.val], .int .i64 n_1] v Q :=
  trip_of_eq (args := [.ag [.sl x0_0, .sl x0_1], .num .i64 n_1]) (A := ⟨[], [], [], [], [12, 20, 22, 31, 32, 34, 35, 36, 40, 42, 46, 50, 52, 53, 55, 65, 68, 70, 72, 75, 76, 77, 80, 81, 82, 84, 85, 86]⟩) Try.func36 (by kernel_rfl) (by kernel_rfl) (by kernel_rfl : vc36 x0_0 x0_1 n_1 v Q = _) h

/-- spec.copyMemory -/
def vc37 (x0_0 : Sl) (x0_1 : Sl) (v : World) (Q : Value → World → Prop) : Prop :=
  Trip Try.prog 73 #[x0_0.val] v fun r1 w2 =>
    ∃ x3 : Sl, r1 = x3.val ∧
    Sub v w2 ∧
    Trip Try.prog 73 #[x0_1.val] w2 fun r4 w5 =>
      ∃ x6 : Sl, r4 = x6.val ∧
      Q (.agg #[x3.val, x6.val]) w5
theorem of37 (x0_0 : Sl) (x0_1 : Sl) (v : World) (Q : Value → World → Prop) (h : vc37 x0_0 x0_1 v Q) : Trip Try.prog 37 #[.agg #[x0_0.val, x0_1.val]] v Q :=
  trip_of_eq (args := [.ag [.sl x0_0, .sl x0_1]]) (A := ⟨[], [], [(1, [2])], [], [12, 20, 22, 31, 32, 34, 35, 36, 40, 42, 46, 50, 52, 53, 55, 65, 68, 70, 72, 75, 76, 77, 80, 81, 82, 84, 85, 86]⟩) Try.func37 (by kernel_rfl) (by kernel_rfl) (by kernel_rfl : vc37 x0_0 x0_1 v Q = _) h

/-- spec.zeros -/
def vc38 (n_0 : Int) (v : World) (Q : Value → World → Prop) : Prop :=
  StepT Try.prog (Instr.makeSlice 23 (.int .i64 n_0) (.int .i64 n_0)) v fun r1 w2 =>
    ∃ x3 : Sl, r1 = x3.val ∧
    Q (x3.val) w2
theorem of38 (n_0 : Int) (v : World) (Q : Value → World → Prop) (h : vc38 n_0 v Q) : Trip Try.prog 38 #[.int .i64 n_0] v Q :=
  trip_of_eq (args := [.num .i64 n_0]) (A := ⟨[], [], [], [], [12, 20, 22, 31, 32, 34, 35, 36, 40, 42, 46, 50, 52, 53, 55, 65, 68, 70, 72, 75, 76, 77, 80, 81, 82, 84, 85, 86]⟩) Try.func38 (by kernel_rfl) (by kernel_rfl) (by kernel_rfl : vc38 n_0 v Q = _) h

/-- spec.fill -/
def vc39 (x0_0 : Sl) (x0_1 : Sl) (n_1 : Int) (n_2 : Int) (x_3 : Sl) (v : World) (Q : Value → World → Prop) : Prop :=
  IxOk x0_0 n_1 ∧
  StoreAt v (elA x0_0 n_1 1) 0 [.int .i64 1] fun w1 =>
    ∃ n2 : Int, Wr .i64 (n_1 + 1) n2 ∧
    ∃ n3 : Int, Wr .i64 (n_2 * 4) n3 ∧
    ∃ n4 : Int, Wr .i64 (n3 + (x_3.n : Int)) n4 ∧
    IxOk x0_0 n2 ∧
    StoreAt w1 (elA x0_0 n2 1) 0 [.int .i64 n4] fun w5 =>
      ∃ I6 : Int → World → Prop, ∃ m7 : Int → World → Nat, I6 0 w5 ∧
      ∀ n8 : Int, ∀ w9 : World, I6 n8 w9 →
      ((decide (n8 < (x_3.n : Int))) = true →
        ∃ n10 : Int, Wr .i64 (n_1 + 2) n10 ∧
        ∃ n11 : Int, Wr .i64 (n10 + n8) n11 ∧
        IxOk x_3 n8 ∧
        ∃ n12 : Int, w9.cell? ((elA x_3 n8 1).add 0) = some (.int .i64 n12) ∧
        IxOk x0_0 n11 ∧
        StoreAt w9 (elA x0_0 n11 1) 0 [.int .i64 n12] fun w13 =>
          ∃ n14 : Int, Wr .i64 (n8 + 1) n14 ∧
          ((.sl x0_0 : SV) = .sl x0_0) ∧
          ((.sl x0_1 : SV) = .sl x0_1) ∧
          ((.sl (Sl.mk none 0 0) : SV) = .sl (Sl.mk none 0 0)) ∧
          ((.sl (Sl.mk none 0 0) : SV) = .sl (Sl.mk none 0 0)) ∧
          I6 n14 w13 ∧
          m7 n14 w13 < m7 n8 w9) ∧
      ((decide (n8 < (x_3.n : Int))) = false →
        Q (.agg #[x0_0.val, x0_1.val]) w9)
theorem of39 (x0_0 : Sl) (x0_1 : Sl) (n_1 : Int) (n_2 : Int) (x_3 : Sl) (v : World) (Q : Value → World → Prop) (h : vc39 x0_0 x0_1 n_1 n_2 x_3 v Q) : Trip Try.prog 39 #[.agg #[x0_0.val, x0_1.val], .int .i64 n_1, .int .i64 n_2, x_3.val] v Q :=
  trip_of_eq (args := [.ag [.sl x0_0, .sl x0_1], .num .i64 n_1, .num .i64 n_2, .sl x_3]) (A := ⟨[(4, [(9, .int .i64)], [])], [], [(6, [])], [], [12, 20, 22, 31, 32, 34, 35, 36, 40, 42, 46, 50, 52, 53, 55, 65, 68, 70, 72, 75, 76, 77, 80, 81, 82, 84, 85, 86]⟩) Try.func39 (by kernel_rfl) (by kernel_rfl) (by kernel_rfl : vc39 x0_0 x0_1 n_1 n_2 x_3 v Q = _) h

/-- laws.equalInts -/
def vc40 (x_0 : Sl) (x_1 : Sl) (v : World) (Q : Value → World → Prop) : Prop :=
  ((!decide ((x_0.n : Int) = (x_1.n : Int))) = true →
    Q (.bool false) v) ∧
  ((!decide ((x_0.n : Int) = (x_1.n : Int))) = false →
    ∃ I1 : Int → World → Prop, ∃ m2 : Int → World → Nat, I1 0 v ∧
    ∀ n3 : Int, ∀ w4 : World, I1 n3 w4 →
    ((decide (n3 < (x_0.n : Int))) = true →
      IxOk x_0 n3 ∧
      ∃ n5 : Int, w4.cell? ((elA x_0 n3 1).add 0) = some (.int .i64 n5) ∧
      IxOk x_1 n3 ∧
      ∃ n6 : Int, w4.cell? ((elA x_1 n3 1).add 0) = some (.int .i64 n6) ∧
      ((!decide (n5 = n6)) = true →
        Q (.bool false) w4) ∧
      ((!decide (n5 = n6)) = false →
        ∃ n7 : Int, Wr .i64 (n3 + 1) n7 ∧
        I1 n7 w4 ∧
        m2 n7 w4 < m2 n3 w4)) ∧
    ((decide (n3 < (x_0.n : Int))) = false →
      Q (.bool true) w4))
theorem of40 (x_0 : Sl) (x_1 : Sl) (v : World) (Q : Value → World → Prop) (h : vc40 x_0 x_1 v Q) : Trip Try.prog 40 #[x_0.val, x_1.val] v Q :=
  trip_of_eq (args := [.sl x_0, .sl x_1]) (A := ⟨[(4, [(5, .int .i64)], [])], [], [], [], [12, 20, 22, 31, 32, 34, 35, 36, 40, 42, 46, 50, 52, 53, 55, 65, 68, 70, 72, 75, 76, 77, 80, 81, 82, 84, 85, 86]⟩) Try.func40 (by kernel_rfl) (by kernel_rfl) (by kernel_rfl : vc40 x_0 x_1 v Q = _) h

/-- (*impl.heap).trim -/
def vc41 (a_0 : Addr) (v : World) (Q : Value → World → Prop) : Prop :=
  ∃ x1 : Sl, v.cell? (a_0.add 0) = some (x1.val) ∧
  ∃ I2 : Int → World → Prop, ∃ m3 : Int → World → Nat, I2 (x1.n : Int) v ∧
  ∀ n4 : Int, ∀ w5 : World, I2 n4 w5 →
  ∃ x6 : Sl, ((decide (n4 > 0)) = true →
    w5.cell? (a_0.add 0) = some (x6.val)) ∧
  ∃ n7 : Int, ((decide (n4 > 0)) = true →
    Wr .i64 (n4 - 1) n7) ∧
  ((decide (n4 > 0)) = true →
    IxOk x6 n7) ∧
  ∃ n8 : Int, ((decide (n4 > 0)) = true →
    w5.cell? ((elA x6 n7 3).add 0) = some (.int .i64 n8)) ∧
  (((decide (n4 > 0)) && (decide (n8 = 0))) = true →
    ∃ n9 : Int, Wr .i64 (n4 - 1) n9 ∧
    I2 n9 w5 ∧
    m3 n9 w5 < m3 n4 w5) ∧
  (((decide (n4 > 0)) && (decide (n8 = 0))) = false →
    ∃ x10 : Sl, w5.cell? (a_0.add 0) = some (x10.val) ∧
    CutOk x10 0 n4 ∧
    StoreAt w5 a_0 0 [(x10.cut 0 n4 3).val] fun w11 =>
      Q (.tuple #[]) w11)
theorem of41 (a_0 : Addr) (v : World) (Q : Value → World → Prop) (h : vc41 a_0 v Q) : Trip Try.prog 41 #[.pointer (some (a_0.add 0))] v Q :=
  trip_of_eq (args := [.pt a_0 0]) (A := ⟨[(1, [(2, .int .i64)], [])], [], [], [], [12, 20, 22, 31, 32, 34, 35, 36, 40, 42, 46, 50, 52, 53, 55, 65, 68, 70, 72, 75, 76, 77, 80, 81, 82, 84, 85, 86]⟩) Try.func41 (by kernel_rfl) (by kernel_rfl) (by kernel_rfl : vc41 a_0 v Q = _) h

/-- impl.ValidHeap -/
def vc42 (x_0 : Sl) (v : World) (Q : Value → World → Prop) : Prop :=
  Trip Try.prog 59 #[x_0.val] v fun r1 w2 =>
    ∃ x3 : Sl, ∃ q4 : Bool, r1 = .tuple #[x3.val, .bool q4] ∧
    Q (.bool q4) w2
theorem of42 (x_0 : Sl) (v : World) (Q : Value → World → Prop) (h : vc42 x_0 v Q) : Trip Try.prog 42 #[x_0.val] v Q :=
  trip_of_eq (args := [.sl x_0]) (A := ⟨[], [], [], [], [12, 20, 22, 31, 32, 34, 35, 36, 40, 42, 46, 50, 52, 53, 55, 65, 68, 70, 72, 75, 76, 77, 80, 81, 82, 84, 85, 86]⟩) Try.func42 (by kernel_rfl) (by kernel_rfl) (by kernel_rfl : vc42 x_0 v Q = _) h

/-- spec.DrawCellOf -/
def vc44 (x_0 : Sl) (v : World) (Q : Value → World → Prop) : Prop :=
  Trip Try.prog 26 #[x_0.val] v fun r1 w2 =>
    ∃ a3 : Addr, r1 = .pointer (some (a3.add 0)) ∧
    Trip Try.prog 27 #[.pointer (some (a3.add 0))] w2 fun r4 w5 =>
      ∃ x6 : Sl, ∃ x7 : Sl, r4 = .agg #[x6.val, x7.val] ∧
      Trip Try.prog 29 #[.pointer (some (a3.add 0)), .agg #[x6.val, x7.val]] w5 fun r8 w9 =>
        ∃ n10 : Int, r8 = .int .i64 n10 ∧
        Q (.tuple #[.agg #[x6.val, x7.val], .int .i64 n10]) w9
theorem of44 (x_0 : Sl) (v : World) (Q : Value → World → Prop) (h : vc44 x_0 v Q) : Trip Try.prog 44 #[x_0.val] v Q :=
  trip_of_eq (args := [.sl x_0]) (A := ⟨[], [], [(3, [])], [], [12, 20, 22, 31, 32, 34, 35, 36, 40, 42, 46, 50, 52, 53, 55, 65, 68, 70, 72, 75, 76, 77, 80, 81, 82, 84, 85, 86]⟩) Try.func44 (by kernel_rfl) (by kernel_rfl) (by kernel_rfl : vc44 x_0 v Q = _) h

/-- (impl.Memory).orNothing -/
def vc45 (x0_0 : Sl) (x0_1 : Sl) (q_1 : Bool) (v : World) (Q : Value → World → Prop) : Prop :=
  ((!q_1) = true →
    Q (.tuple #[.agg #[.slice none 0 0, .slice none 0 0], .bool false]) v) ∧
  ((!q_1) = false →
    Q (.tuple #[.agg #[x0_0.val, x0_1.val], .bool true]) v)
theorem of45 (x0_0 : Sl) (x0_1 : Sl) (q_1 : Bool) (v : World) (Q : Value → World → Prop) (h : vc45 x0_0 x0_1 q_1 v Q) : Trip Try.prog 45 #[.agg #[x0_0.val, x0_1.val], .bool q_1] v Q :=
  trip_of_eq (args := [.ag [.sl x0_0, .sl x0_1], .b q_1]) (A := ⟨[], [], [], [], [12, 20, 22, 31, 32, 34, 35, 36, 40, 42, 46, 50, 52, 53, 55, 65, 68, 70, 72, 75, 76, 77, 80, 81, 82, 84, 85, 86]⟩) Try.func45 (by kernel_rfl) (by kernel_rfl) (by kernel_rfl : vc45 x0_0 x0_1 q_1 v Q = _) h

/-- spec.isPointer -/
def vc46 (n_0 : Int) (v : World) (Q : Value → World → Prop) : Prop :=
  Q (.bool (decide (n_0 ≥ 1000))) v
theorem of46 (n_0 : Int) (v : World) (Q : Value → World → Prop) (h : vc46 n_0 v Q) : Trip Try.prog 46 #[.int .i64 n_0] v Q :=
  trip_of_eq (args := [.num .i64 n_0]) (A := ⟨[], [], [], [], [12, 20, 22, 31, 32, 34, 35, 36, 40, 42, 46, 50, 52, 53, 55, 65, 68, 70, 72, 75, 76, 77, 80, 81, 82, 84, 85, 86]⟩) Try.func46 (by kernel_rfl) (by kernel_rfl) (by kernel_rfl : vc46 n_0 v Q = _) h

/-- impl.RefsOf -/
def vc47 (x_0 : Sl) (n_1 : Int) (v : World) (Q : Value → World → Prop) : Prop :=
  Trip Try.prog 59 #[x_0.val] v fun r1 w2 =>
    ∃ x3 : Sl, ∃ q4 : Bool, r1 = .tuple #[x3.val, .bool q4] ∧
    ((((!q4) || (decide (n_1 < 0))) || (decide (n_1 ≥ (x_0.n : Int)))) = false →
      IxOk x_0 n_1) ∧
    ∃ n5 : Int, ((((!q4) || (decide (n_1 < 0))) || (decide (n_1 ≥ (x_0.n : Int)))) = false →
      w2.cell? ((elA x_0 n_1 3).add 0) = some (.int .i64 n5)) ∧
    (((((!q4) || (decide (n_1 < 0))) || (decide (n_1 ≥ (x_0.n : Int)))) || (decide (n5 < 1))) = true →
      Q (.int .i64 (-1)) w2) ∧
    (((((!q4) || (decide (n_1 < 0))) || (decide (n_1 ≥ (x_0.n : Int)))) || (decide (n5 < 1))) = false →
      IxOk x3 n_1 ∧
      ∃ n6 : Int, w2.cell? ((elA x3 n_1 1).add 0) = some (.int .i64 n6) ∧
      Q (.int .i64 n6) w2)
theorem of47 (x_0 : Sl) (n_1 : Int) (v : World) (Q : Value → World → Prop) (h : vc47 x_0 n_1 v Q) : Trip Try.prog 47 #[x_0.val, .int .i64 n_1] v Q :=
  trip_of_eq (args := [.sl x_0, .num .i64 n_1]) (A := ⟨[], [], [], [], [12, 20, 22, 31, 32, 34, 35, 36, 40, 42, 46, 50, 52, 53, 55, 65, 68, 70, 72, 75, 76, 77, 80, 81, 82, 84, 85, 86]⟩) Try.func47 (by kernel_rfl) (by kernel_rfl) (by kernel_rfl : vc47 x_0 n_1 v Q = _) h

/-- (impl.openedMemory).trimmed -/
def vc48 (x0_0 : Sl) (y0_1 : Vl) (v : World) (Q : Value → World → Prop) : Prop :=
  NewAt v (.cells #[.slice none 0 0] 65 (0, 0)) fun a1 w2 =>
    StoreAt w2 a1 0 [x0_0.val] fun w3 =>
      Trip Try.prog 41 #[.pointer (some (a1.add 0))] w3 fun r4 w5 =>
        r4 = .tuple #[] ∧
        ∃ x6 : Sl, w5.cell? (a1.add 0) = some (x6.val) ∧
        Q (x6.val) w5
theorem of48 (x0_0 : Sl) (y0_1 : Vl) (v : World) (Q : Value → World → Prop) (h : vc48 x0_0 y0_1 v Q) : Trip Try.prog 48 #[.agg #[x0_0.val, y0_1.x]] v Q :=
  trip_of_eq (args := [.ag [.sl x0_0, .v y0_1]]) (A := ⟨[], [], [], [3], [12, 20, 22, 31, 32, 34, 35, 36, 40, 42, 46, 50, 52, 53, 55, 65, 68, 70, 72, 75, 76, 77, 80, 81, 82, 84, 85, 86]⟩) Try.func48 (by kernel_rfl) (by kernel_rfl) (by kernel_rfl : vc48 x0_0 y0_1 v Q = _) h

/-- (*impl.Memory).drop -/
def vc49 (a_0 : Addr) (n_1 : Int) (v : World) (Q : Value → World → Prop) : Prop :=
  ((decide (n_1 < 1000)) = true →
    Q (.tuple #[]) v) ∧
  ((decide (n_1 < 1000)) = false →
    ∃ n1 : Int, Wr .i64 (n_1 - 1000) n1 ∧
    ∃ x2 : Sl, v.cell? (a_0.add 0) = some (x2.val) ∧
    IxOk x2 n1 ∧
    ∃ n3 : Int, v.cell? ((elA x2 n1 1).add 0) = some (.int .i64 n3) ∧
    ∃ n4 : Int, Wr .i64 (n3 - 1) n4 ∧
    IxOk x2 n1 ∧
    StoreAt v (elA x2 n1 1) 0 [.int .i64 n4] fun w5 =>
      ∃ x6 : Sl, w5.cell? (a_0.add 0) = some (x6.val) ∧
      IxOk x6 n1 ∧
      ∃ n7 : Int, w5.cell? ((elA x6 n1 1).add 0) = some (.int .i64 n7) ∧
      ((decide (n7 > 0)) = true →
        Q (.tuple #[]) w5) ∧
      ((decide (n7 > 0)) = false →
        ∃ x8 : Sl, w5.cell? (a_0.add 0) = some (x8.val) ∧
        ∃ n9 : Int, Wr .i64 (n1 + 1) n9 ∧
        IxOk x8 n9 ∧
        ∃ n10 : Int, w5.cell? ((elA x8 n9 1).add 0) = some (.int .i64 n10) ∧
        (4 : Int) ≠ 0 ∧
        ∃ x11 : Sl, w5.cell? (a_0.add 0) = some (x11.val) ∧
        ∃ n12 : Int, Wr .i64 (n1 + 2) n12 ∧
        ∃ n13 : Int, Wr .i64 (n1 + 2) n13 ∧
        ∃ n14 : Int, Wr .i64 (n13 + (Int.tmod n10 4)) n14 ∧
        CutOk x11 n12 n14 ∧
        Trip Try.prog 64 #[(x11.cut n12 n14 1).val] w5 fun r15 w16 =>
          ∃ x17 : Sl, r15 = x17.val ∧
          ∃ x18 : Sl, w16.cell? (a_0.add 0) = some (x18.val) ∧
          ∃ n19 : Int, Wr .i64 (n1 + 2) n19 ∧
          ∃ n20 : Int, Wr .i64 (n1 + 2) n20 ∧
          ∃ n21 : Int, Wr .i64 (n20 + (Int.tmod n10 4)) n21 ∧
          CutOk x18 n19 n21 ∧
          StepT Try.prog (Builtin.clear_ #[23] 0 #[((x18.cut n19 n21 1).val)]) w16 fun r22 w23 =>
            r22 = .tuple #[] ∧
            ∃ x24 : Sl, w23.cell? (a_0.add 0) = some (x24.val) ∧
            ∃ n25 : Int, Wr .i64 (n1 + 1) n25 ∧
            ∃ x26 : Sl, w23.cell? (a_0.add 1) = some (x26.val) ∧
            IxOk x26 (Int.tmod n10 4) ∧
            ∃ n27 : Int, w23.cell? ((elA x26 (Int.tmod n10 4) 1).add 0) = some (.int .i64 n27) ∧
            ∃ n28 : Int, Wr .i64 (4 * n27) n28 ∧
            ∃ n29 : Int, Wr .i64 (n28 + (Int.tmod n10 4)) n29 ∧
            IxOk x24 n25 ∧
            StoreAt w23 (elA x24 n25 1) 0 [.int .i64 n29] fun w30 =>
              ∃ x31 : Sl, w30.cell? (a_0.add 1) = some (x31.val) ∧
              ∃ n32 : Int, Wr .i64 (n1 + 1) n32 ∧
              IxOk x31 (Int.tmod n10 4) ∧
              StoreAt w30 (elA x31 (Int.tmod n10 4) 1) 0 [.int .i64 n32] fun w33 =>
                ∃ I34 : Int → World → Prop, ∃ m35 : Int → World → Nat, I34 0 w33 ∧
                ∀ n36 : Int, ∀ w37 : World, I34 n36 w37 →
                ((decide (n36 < (x17.n : Int))) = true →
                  IxOk x17 n36 ∧
                  ∃ n38 : Int, w37.cell? ((elA x17 n36 1).add 0) = some (.int .i64 n38) ∧
                  Trip Try.prog 49 #[.pointer (some (a_0.add 0)), .int .i64 n38] w37 fun r39 w40 =>
                    r39 = .tuple #[] ∧
                    ∃ n41 : Int, Wr .i64 (n36 + 1) n41 ∧
                    I34 n41 w40 ∧
                    m35 n41 w40 < m35 n36 w37) ∧
                ((decide (n36 < (x17.n : Int))) = false →
                  Q (.tuple #[]) w37)))
theorem of49 (a_0 : Addr) (n_1 : Int) (v : World) (Q : Value → World → Prop) (h : vc49 a_0 n_1 v Q) : Trip Try.prog 49 #[.pointer (some (a_0.add 0)), .int .i64 n_1] v Q :=
  trip_of_eq (args := [.pt a_0 0, .num .i64 n_1]) (A := ⟨[(10, [(89, .int .i64)], [])], [], [(7, [])], [], [12, 20, 22, 31, 32, 34, 35, 36, 40, 42, 46, 50, 52, 53, 55, 65, 68, 70, 72, 75, 76, 77, 80, 81, 82, 84, 85, 86]⟩) Try.func49 (by kernel_rfl) (by kernel_rfl) (by kernel_rfl : vc49 a_0 n_1 v Q = _) h

/-- impl.wordValid -/
def vc50 (x_0 : Sl) (n_1 : Int) (v : World) (Q : Value → World → Prop) : Prop :=
  ∃ n1 : Int, ∃ q2 : Bool, (Trip Try.prog 52 #[x_0.val, .int .i64 n_1] v fun r3 w4 => r3 = .tuple #[.int .i64 n1, .bool q2] ∧ Sub v w4) ∧
  ∃ q5 : Bool, (q2 = false →
    (Trip Try.prog 32 #[.int .i64 n_1] v fun r6 w7 => r6 = .bool q5 ∧ Sub v w7)) ∧
  Q (.bool (q2 || q5)) v
theorem of50 (x_0 : Sl) (n_1 : Int) (v : World) (Q : Value → World → Prop) (h : vc50 x_0 n_1 v Q) : Trip Try.prog 50 #[x_0.val, .int .i64 n_1] v Q :=
  trip_of_eq (args := [.sl x_0, .num .i64 n_1]) (A := ⟨[], [], [], [], [12, 20, 22, 31, 32, 34, 35, 36, 40, 42, 46, 50, 52, 53, 55, 65, 68, 70, 72, 75, 76, 77, 80, 81, 82, 84, 85, 86]⟩) Try.func50 (by kernel_rfl) (by kernel_rfl) (by kernel_rfl : vc50 x_0 n_1 v Q = _) h

/-- impl.liveAt -/
def vc52 (x_0 : Sl) (n_1 : Int) (v : World) (Q : Value → World → Prop) : Prop :=
  ∃ n1 : Int, Wr .i64 (n_1 - 1000) n1 ∧
  (((decide (n_1 ≥ 1000)) && (decide (n1 < (x_0.n : Int)))) = true →
    IxOk x_0 n1) ∧
  ∃ n2 : Int, (((decide (n_1 ≥ 1000)) && (decide (n1 < (x_0.n : Int)))) = true →
    v.cell? ((elA x_0 n1 3).add 0) = some (.int .i64 n2)) ∧
  Q (.tuple #[.int .i64 n1, .bool (((decide (n_1 ≥ 1000)) && (decide (n1 < (x_0.n : Int)))) && (decide (n2 > 0)))]) v
theorem of52 (x_0 : Sl) (n_1 : Int) (v : World) (Q : Value → World → Prop) (h : vc52 x_0 n_1 v Q) : Trip Try.prog 52 #[x_0.val, .int .i64 n_1] v Q :=
  trip_of_eq (args := [.sl x_0, .num .i64 n_1]) (A := ⟨[], [], [], [], [12, 20, 22, 31, 32, 34, 35, 36, 40, 42, 46, 50, 52, 53, 55, 65, 68, 70, 72, 75, 76, 77, 80, 81, 82, 84, 85, 86]⟩) Try.func52 (by kernel_rfl) (by kernel_rfl) (by kernel_rfl : vc52 x_0 n_1 v Q = _) h

/-- spec.addressesOf -/
def vc54 (x_0 : Sl) (v : World) (Q : Value → World → Prop) : Prop :=
  StepT Try.prog (Instr.buildSlice 23 0 #[]) v fun r1 w2 =>
    ∃ x3 : Sl, r1 = x3.val ∧
    ∃ I4 : Sl → Int → World → Prop, ∃ m5 : Sl → Int → World → Nat, I4 x3 0 w2 ∧
    ∀ x6 : Sl, ∀ n7 : Int, ∀ w8 : World, I4 x6 n7 w8 →
    ((decide (n7 < (x_0.n : Int))) = true →
      ∃ n9 : Int, Wr .i64 (n7 + 2) n9 ∧
      ((decide (n9 > (x_0.n : Int))) = false →
        IxOk x_0 n7) ∧
      ∃ n10 : Int, ((decide (n9 > (x_0.n : Int))) = false →
        w8.cell? ((elA x_0 n7 1).add 0) = some (.int .i64 n10)) ∧
      ∃ n11 : Int, (((decide (n9 > (x_0.n : Int))) || (decide (n10 < 0))) = false →
        Wr .i64 (n7 + 1) n11) ∧
      (((decide (n9 > (x_0.n : Int))) || (decide (n10 < 0))) = false →
        IxOk x_0 n11) ∧
      ∃ n12 : Int, (((decide (n9 > (x_0.n : Int))) || (decide (n10 < 0))) = false →
        w8.cell? ((elA x_0 n11 1).add 0) = some (.int .i64 n12)) ∧
      ∃ n13 : Int, ((((decide (n9 > (x_0.n : Int))) || (decide (n10 < 0))) || (decide (n12 < 0))) = false →
        Wr .i64 (n7 + 2) n13) ∧
      ∃ n14 : Int, ((((decide (n9 > (x_0.n : Int))) || (decide (n10 < 0))) || (decide (n12 < 0))) = false →
        (Trip Try.prog 75 #[x_0.val, .int .i64 n7] w8 fun r15 w16 => r15 = .int .i64 n14 ∧ Sub w8 w16)) ∧
      ∃ n17 : Int, ((((decide (n9 > (x_0.n : Int))) || (decide (n10 < 0))) || (decide (n12 < 0))) = false →
        Wr .i64 (n13 + n14) n17) ∧
      (((((decide (n9 > (x_0.n : Int))) || (decide (n10 < 0))) || (decide (n12 < 0))) || (decide (n17 > (x_0.n : Int)))) = true →
        Q (.tuple #[.slice none 0 0, .bool false]) w8) ∧
      (((((decide (n9 > (x_0.n : Int))) || (decide (n10 < 0))) || (decide (n12 < 0))) || (decide (n17 > (x_0.n : Int)))) = false →
        StepT Try.prog (Instr.buildSlice 23 1 #[(0, (.int .i64 n7))]) w8 fun r18 w19 =>
          ∃ x20 : Sl, r18 = x20.val ∧
          StepT Try.prog (Builtin.append_ #[23, 23] 23 #[(x6.val), (x20.val)]) w19 fun r21 w22 =>
            ∃ x23 : Sl, r21 = x23.val ∧
            ∃ n24 : Int, Wr .i64 (n7 + 2) n24 ∧
            ∃ n25 : Int, (Trip Try.prog 75 #[x_0.val, .int .i64 n7] w22 fun r26 w27 => r26 = .int .i64 n25 ∧ Sub w22 w27) ∧
            ∃ n28 : Int, Wr .i64 (n24 + n25) n28 ∧
            I4 x23 n28 w22 ∧
            m5 x23 n28 w22 < m5 x6 n7 w8)) ∧
    ((decide (n7 < (x_0.n : Int))) = false →
      Q (.tuple #[x6.val, .bool true]) w8)
theorem of54 (x_0 : Sl) (v : World) (Q : Value → World → Prop) (h : vc54 x_0 v Q) : Trip Try.prog 54 #[x_0.val] v Q :=
  trip_of_eq (args := [.sl x_0]) (A := ⟨[(3, [(4, .sl), (5, .int .i64)], [])], [], [], [], [12, 20, 22, 31, 32, 34, 35, 36, 40, 42, 46, 50, 52, 53, 55, 65, 68, 70, 72, 75, 76, 77, 80, 81, 82, 84, 85, 86]⟩) Try.func54 (by kernel_rfl) (by kernel_rfl) (by kernel_rfl : vc54 x_0 v Q = _) h

/-- spec.placeIn -/
def vc55 (x_0 : Sl) (n_1 : Int) (v : World) (Q : Value → World → Prop) : Prop :=
  ∃ I1 : Int → World → Prop, ∃ m2 : Int → World → Nat, I1 0 v ∧
  ∀ n3 : Int, ∀ w4 : World, I1 n3 w4 →
  ((decide (n3 < (x_0.n : Int))) = true →
    IxOk x_0 n3 ∧
    ∃ n5 : Int, w4.cell? ((elA x_0 n3 1).add 0) = some (.int .i64 n5) ∧
    ((decide (n5 = n_1)) = true →
      Q (.int .i64 n3) w4) ∧
    ((decide (n5 = n_1)) = false →
      ∃ n6 : Int, Wr .i64 (n3 + 1) n6 ∧
      I1 n6 w4 ∧
      m2 n6 w4 < m2 n3 w4)) ∧
  ((decide (n3 < (x_0.n : Int))) = false →
    Q (.int .i64 (-1)) w4)
theorem of55 (x_0 : Sl) (n_1 : Int) (v : World) (Q : Value → World → Prop) (h : vc55 x_0 n_1 v Q) : Trip Try.prog 55 #[x_0.val, .int .i64 n_1] v Q :=
  trip_of_eq (args := [.sl x_0, .num .i64 n_1]) (A := ⟨[(2, [(5, .int .i64)], [])], [], [], [], [12, 20, 22, 31, 32, 34, 35, 36, 40, 42, 46, 50, 52, 53, 55, 65, 68, 70, 72, 75, 76, 77, 80, 81, 82, 84, 85, 86]⟩) Try.func55 (by kernel_rfl) (by kernel_rfl) (by kernel_rfl : vc55 x_0 n_1 v Q = _) h

/-- spec.refsOf -/
def vc56 (x_0 : Sl) (v : World) (Q : Value → World → Prop) : Prop :=
  StepT Try.prog (Instr.makeSlice 23 (.int .i64 (x_0.n : Int)) (.int .i64 (x_0.n : Int))) v fun r1 w2 =>
    ∃ x3 : Sl, r1 = x3.val ∧
    ∃ I4 : Int → World → Prop, ∃ m5 : Int → World → Nat, I4 0 w2 ∧
    ∀ n6 : Int, ∀ w7 : World, I4 n6 w7 →
    ((decide (n6 < (x_0.n : Int))) = true →
      ∃ I8 : Int → World → Prop, ∃ m9 : Int → World → Nat, I8 0 w7 ∧
      ∀ n10 : Int, ∀ w11 : World, I8 n10 w11 →
      IxOk x_0 n6 ∧
      ∃ x12 : Sl, w11.cell? ((elA x_0 n6 3).add 2) = some (x12.val) ∧
      ((decide (n10 < (x12.n : Int))) = true →
        IxOk x_0 n6 ∧
        ∃ x13 : Sl, w11.cell? ((elA x_0 n6 3).add 2) = some (x13.val) ∧
        IxOk x13 n10 ∧
        ∃ n14 : Int, w11.cell? ((elA x13 n10 1).add 0) = some (.int .i64 n14) ∧
        ∃ q15 : Bool, (Trip Try.prog 76 #[x_0.val, .int .i64 n14] w11 fun r16 w17 => r16 = .bool q15 ∧ Sub w11 w17) ∧
        (q15 = true →
          IxOk x_0 n6 ∧
          ∃ x18 : Sl, w11.cell? ((elA x_0 n6 3).add 2) = some (x18.val) ∧
          IxOk x18 n10 ∧
          ∃ n19 : Int, w11.cell? ((elA x18 n10 1).add 0) = some (.int .i64 n19) ∧
          ∃ n20 : Int, Wr .i64 (n19 - 1000) n20 ∧
          IxOk x3 n20 ∧
          ∃ n21 : Int, w11.cell? ((elA x3 n20 1).add 0) = some (.int .i64 n21) ∧
          ∃ n22 : Int, Wr .i64 (n21 + 1) n22 ∧
          IxOk x3 n20 ∧
          StoreAt w11 (elA x3 n20 1) 0 [.int .i64 n22] fun w23 =>
            ∃ n24 : Int, Wr .i64 (n10 + 1) n24 ∧
            I8 n24 w23 ∧
            m9 n24 w23 < m9 n10 w11) ∧
        (q15 = false →
          ∃ n25 : Int, Wr .i64 (n10 + 1) n25 ∧
          I8 n25 w11 ∧
          m9 n25 w11 < m9 n10 w11)) ∧
      ((decide (n10 < (x12.n : Int))) = false →
        ∃ n26 : Int, Wr .i64 (n6 + 1) n26 ∧
        I4 n26 w11 ∧
        m5 n26 w11 < m5 n6 w7)) ∧
    ((decide (n6 < (x_0.n : Int))) = false →
      Q (x3.val) w7)
theorem of56 (x_0 : Sl) (v : World) (Q : Value → World → Prop) (h : vc56 x_0 v Q) : Trip Try.prog 56 #[x_0.val] v Q :=
  trip_of_eq (args := [.sl x_0]) (A := ⟨[(3, [(4, .int .i64)], []), (6, [(5, .int .i64)], [])], [], [], [], [12, 20, 22, 31, 32, 34, 35, 36, 40, 42, 46, 50, 52, 53, 55, 65, 68, 70, 72, 75, 76, 77, 80, 81, 82, 84, 85, 86]⟩) Try.func56 (by kernel_rfl) (by kernel_rfl) (by kernel_rfl : vc56 x_0 v Q = _) h

/-- spec.heapOf -/
def vc57 (x0_0 : Sl) (x0_1 : Sl) (v : World) (Q : Value → World → Prop) : Prop :=
  Trip Try.prog 54 #[x0_0.val] v fun r1 w2 =>
    ∃ x3 : Sl, ∃ q4 : Bool, r1 = .tuple #[x3.val, .bool q4] ∧
    Trip Try.prog 67 #[x0_0.val, x3.val] w2 fun r5 w6 =>
      ∃ x7 : Sl, ∃ q8 : Bool, r5 = .tuple #[x7.val, .bool q8] ∧
      Trip Try.prog 69 #[x7.val] w6 fun r9 w10 =>
        ∃ x11 : Sl, r9 = x11.val ∧
        Q (x11.val) w10
theorem of57 (x0_0 : Sl) (x0_1 : Sl) (v : World) (Q : Value → World → Prop) (h : vc57 x0_0 x0_1 v Q) : Trip Try.prog 57 #[.agg #[x0_0.val, x0_1.val]] v Q :=
  trip_of_eq (args := [.ag [.sl x0_0, .sl x0_1]]) (A := ⟨[], [], [], [], [12, 20, 22, 31, 32, 34, 35, 36, 40, 42, 46, 50, 52, 53, 55, 65, 68, 70, 72, 75, 76, 77, 80, 81, 82, 84, 85, 86]⟩) Try.func57 (by kernel_rfl) (by kernel_rfl) (by kernel_rfl : vc57 x0_0 x0_1 v Q = _) h

/-- spec.dropBlock -/
def vc58 (x0_0 : Sl) (x0_1 : Sl) (n_1 : Int) (v : World) (Q : Value → World → Prop) : Prop :=
  ∃ q1 : Bool, (Trip Try.prog 46 #[.int .i64 n_1] v fun r2 w3 => r2 = .bool q1 ∧ Sub v w3) ∧
  ((!q1) = true →
    Q (.agg #[x0_0.val, x0_1.val]) v) ∧
  ((!q1) = false →
    ∃ n4 : Int, Wr .i64 (n_1 - 1000) n4 ∧
    IxOk x0_0 n4 ∧
    ∃ n5 : Int, v.cell? ((elA x0_0 n4 1).add 0) = some (.int .i64 n5) ∧
    ∃ n6 : Int, Wr .i64 (n5 - 1) n6 ∧
    IxOk x0_0 n4 ∧
    StoreAt v (elA x0_0 n4 1) 0 [.int .i64 n6] fun w7 =>
      IxOk x0_0 n4 ∧
      ∃ n8 : Int, w7.cell? ((elA x0_0 n4 1).add 0) = some (.int .i64 n8) ∧
      ((decide (n8 > 0)) = true →
        Q (.agg #[x0_0.val, x0_1.val]) w7) ∧
      ((decide (n8 > 0)) = false →
        ∃ n9 : Int, (Trip Try.prog 75 #[x0_0.val, .int .i64 n4] w7 fun r10 w11 => r10 = .int .i64 n9 ∧ Sub w7 w11) ∧
        ∃ n12 : Int, Wr .i64 (n4 + 2) n12 ∧
        ∃ n13 : Int, Wr .i64 (n4 + 2) n13 ∧
        ∃ n14 : Int, Wr .i64 (n13 + n9) n14 ∧
        CutOk x0_0 n12 n14 ∧
        Trip Try.prog 73 #[(x0_0.cut n12 n14 1).val] w7 fun r15 w16 =>
          ∃ x17 : Sl, r15 = x17.val ∧
          ∃ n18 : Int, Wr .i64 (n4 + 1) n18 ∧
          IxOk x0_1 n9 ∧
          ∃ n19 : Int, w16.cell? ((elA x0_1 n9 1).add 0) = some (.int .i64 n19) ∧
          ∃ n20 : Int, Wr .i64 (n19 * 4) n20 ∧
          ∃ n21 : Int, Wr .i64 (n20 + n9) n21 ∧
          IxOk x0_0 n18 ∧
          StoreAt w16 (elA x0_0 n18 1) 0 [.int .i64 n21] fun w22 =>
            ∃ n23 : Int, Wr .i64 (n4 + 1) n23 ∧
            IxOk x0_1 n9 ∧
            StoreAt w22 (elA x0_1 n9 1) 0 [.int .i64 n23] fun w24 =>
              ∃ I25 : Int → World → Prop, ∃ m26 : Int → World → Nat, I25 0 w24 ∧
              ∀ n27 : Int, ∀ w28 : World, I25 n27 w28 →
              ((decide (n27 < n9)) = true →
                ∃ n29 : Int, Wr .i64 (n4 + 2) n29 ∧
                ∃ n30 : Int, Wr .i64 (n29 + n27) n30 ∧
                IxOk x0_0 n30 ∧
                StoreAt w28 (elA x0_0 n30 1) 0 [.int .i64 0] fun w31 =>
                  ∃ n32 : Int, Wr .i64 (n27 + 1) n32 ∧
                  ((.sl x0_0 : SV) = .sl x0_0) ∧
                  ((.sl x0_1 : SV) = .sl x0_1) ∧
                  ((.sl (Sl.mk none 0 0) : SV) = .sl (Sl.mk none 0 0)) ∧
                  ((.sl (Sl.mk none 0 0) : SV) = .sl (Sl.mk none 0 0)) ∧
                  I25 n32 w31 ∧
                  m26 n32 w31 < m26 n27 w28) ∧
              ((decide (n27 < n9)) = false →
                ∃ I33 : Int → Sl → Sl → World → Prop, ∃ m34 : Int → Sl → Sl → World → Nat, I33 0 x0_0 x0_1 w28 ∧
                ∀ n35 : Int, ∀ x36 : Sl, ∀ x37 : Sl, ∀ w38 : World, I33 n35 x36 x37 w38 →
                ((decide (n35 < n9)) = true →
                  IxOk x17 n35 ∧
                  ∃ n39 : Int, w38.cell? ((elA x17 n35 1).add 0) = some (.int .i64 n39) ∧
                  Trip Try.prog 58 #[.agg #[x36.val, x37.val], .int .i64 n39] w38 fun r40 w41 =>
                    ∃ x42 : Sl, ∃ x43 : Sl, r40 = .agg #[x42.val, x43.val] ∧
                    ∃ n44 : Int, Wr .i64 (n35 + 1) n44 ∧
                    ((.sl (Sl.mk none 0 0) : SV) = .sl (Sl.mk none 0 0)) ∧
                    ((.sl (Sl.mk none 0 0) : SV) = .sl (Sl.mk none 0 0)) ∧
                    I33 n44 x42 x43 w41 ∧
                    m34 n44 x42 x43 w41 < m34 n35 x36 x37 w38) ∧
                ((decide (n35 < n9)) = false →
                  Q (.agg #[x36.val, x37.val]) w38))))
theorem of58 (x0_0 : Sl) (x0_1 : Sl) (n_1 : Int) (v : World) (Q : Value → World → Prop) (h : vc58 x0_0 x0_1 n_1 v Q) : Trip Try.prog 58 #[.agg #[x0_0.val, x0_1.val], .int .i64 n_1] v Q :=
  trip_of_eq (args := [.ag [.sl x0_0, .sl x0_1], .num .i64 n_1]) (A := ⟨[(12, [(8, .int .i64)], []), (16, [(9, .int .i64)], [(0, 0, .sl), (0, 1, .sl)])], [], [(4, []), (9, []), (18, [])], [], [12, 20, 22, 31, 32, 34, 35, 36, 40, 42, 46, 50, 52, 53, 55, 65, 68, 70, 72, 75, 76, 77, 80, 81, 82, 84, 85, 86]⟩) Try.func58 (by kernel_rfl) (by kernel_rfl) (by kernel_rfl : vc58 x0_0 x0_1 n_1 v Q = _) h

/-- impl.checkedHeap -/
def vc59 (x_0 : Sl) (v : World) (Q : Value → World → Prop) : Prop :=
  StepT Try.prog (Instr.makeSlice 23 (.int .i64 (x_0.n : Int)) (.int .i64 (x_0.n : Int))) v fun r1 w2 =>
    ∃ x3 : Sl, r1 = x3.val ∧
    ∃ I4 : Int → World → Prop, ∃ m5 : Int → World → Nat, I4 0 w2 ∧
    ∀ n6 : Int, ∀ w7 : World, I4 n6 w7 →
    ((decide (n6 < (x_0.n : Int))) = true →
      IxOk x_0 n6 ∧
      ∃ n8 : Int, ∃ n9 : Int, ∃ x10 : Sl, (w7.cell? ((elA x_0 n6 3).add 0) = some (.int .i64 n8) ∧
        w7.cell? ((elA x_0 n6 3).add 1) = some (.int .i64 n9) ∧
        w7.cell? ((elA x_0 n6 3).add 2) = some (x10.val)) ∧
      ∃ q11 : Bool, (Trip Try.prog 77 #[x_0.val, .agg #[.int .i64 n8, .int .i64 n9, x10.val]] w7 fun r12 w13 => r12 = .bool q11 ∧ Sub w7 w13) ∧
      ((!q11) = true →
        Q (.tuple #[.slice none 0 0, .bool false]) w7) ∧
      ((!q11) = false →
        ∃ I14 : Int → World → Prop, ∃ m15 : Int → World → Nat, I14 0 w7 ∧
        ∀ n16 : Int, ∀ w17 : World, I14 n16 w17 →
        ((decide (n16 < (x10.n : Int))) = true →
          IxOk x10 n16 ∧
          ∃ n18 : Int, w17.cell? ((elA x10 n16 1).add 0) = some (.int .i64 n18) ∧
          ∃ n19 : Int, ∃ q20 : Bool, (Trip Try.prog 52 #[x_0.val, .int .i64 n18] w17 fun r21 w22 => r21 = .tuple #[.int .i64 n19, .bool q20] ∧ Sub w17 w22) ∧
          (q20 = true →
            IxOk x3 n19 ∧
            ∃ n23 : Int, w17.cell? ((elA x3 n19 1).add 0) = some (.int .i64 n23) ∧
            ∃ n24 : Int, Wr .i64 (n23 + 1) n24 ∧
            IxOk x3 n19 ∧
            StoreAt w17 (elA x3 n19 1) 0 [.int .i64 n24] fun w25 =>
              ∃ n26 : Int, Wr .i64 (n16 + 1) n26 ∧
              ((.num .i64 n8 : SV) = .num .i64 n8) ∧
              ((.num .i64 n9 : SV) = .num .i64 n9) ∧
              ((.sl x10 : SV) = .sl x10) ∧
              I14 n26 w25 ∧
              m15 n26 w25 < m15 n16 w17) ∧
          (q20 = false →
            ∃ n27 : Int, Wr .i64 (n16 + 1) n27 ∧
            ((.num .i64 n8 : SV) = .num .i64 n8) ∧
            ((.num .i64 n9 : SV) = .num .i64 n9) ∧
            ((.sl x10 : SV) = .sl x10) ∧
            I14 n27 w17 ∧
            m15 n27 w17 < m15 n16 w17)) ∧
        ((decide (n16 < (x10.n : Int))) = false →
          ∃ n28 : Int, Wr .i64 (n6 + 1) n28 ∧
          I4 n28 w17 ∧
          m5 n28 w17 < m5 n6 w7))) ∧
    ((decide (n6 < (x_0.n : Int))) = false →
      ∃ n29 : Int, ((decide ((x_0.n : Int) > 0)) = true →
        Wr .i64 ((x_0.n : Int) - 1) n29) ∧
      ((decide ((x_0.n : Int) > 0)) = true →
        IxOk x_0 n29) ∧
      ∃ n30 : Int, ((decide ((x_0.n : Int) > 0)) = true →
        w7.cell? ((elA x_0 n29 3).add 0) = some (.int .i64 n30)) ∧
      (((decide ((x_0.n : Int) > 0)) && (decide (n30 = 0))) = true →
        Q (.tuple #[.slice none 0 0, .bool false]) w7) ∧
      (((decide ((x_0.n : Int) > 0)) && (decide (n30 = 0))) = false →
        Trip Try.prog 64 #[x3.val] w7 fun r31 w32 =>
          ∃ x33 : Sl, r31 = x33.val ∧
          ∃ I34 : Sl → Int → World → Prop, ∃ m35 : Sl → Int → World → Nat, I34 (Sl.mk none 0 0) 0 w32 ∧
          ∀ x36 : Sl, ∀ n37 : Int, ∀ w38 : World, I34 x36 n37 w38 →
          ((decide (n37 < (x_0.n : Int))) = true →
            IxOk x_0 n37 ∧
            ∃ n39 : Int, ∃ n40 : Int, ∃ x41 : Sl, (w38.cell? ((elA x_0 n37 3).add 0) = some (.int .i64 n39) ∧
              w38.cell? ((elA x_0 n37 3).add 1) = some (.int .i64 n40) ∧
              w38.cell? ((elA x_0 n37 3).add 2) = some (x41.val)) ∧
            ((decide (n39 > 0)) = true →
              IxOk x3 n37) ∧
            ∃ n42 : Int, ((decide (n39 > 0)) = true →
              w38.cell? ((elA x3 n37 1).add 0) = some (.int .i64 n42)) ∧
            (((decide (n39 > 0)) && ((decide (n39 < n42)) || (decide (n39 > 999999)))) = true →
              Q (.tuple #[.slice none 0 0, .bool false]) w38) ∧
            (((decide (n39 > 0)) && ((decide (n39 < n42)) || (decide (n39 > 999999)))) = false →
              IxOk x3 n37 ∧
              ∃ n43 : Int, w38.cell? ((elA x3 n37 1).add 0) = some (.int .i64 n43) ∧
              ((decide (n43 = 0)) = true →
                StepT Try.prog (Instr.buildSlice 23 1 #[(0, (.int .i64 n37))]) w38 fun r44 w45 =>
                  ∃ x46 : Sl, r44 = x46.val ∧
                  StepT Try.prog (Builtin.append_ #[23, 23] 23 #[(x36.val), (x46.val)]) w45 fun r47 w48 =>
                    ∃ x49 : Sl, r47 = x49.val ∧
                    ∃ n50 : Int, Wr .i64 (n37 + 1) n50 ∧
                    I34 x49 n50 w48 ∧
                    m35 x49 n50 w48 < m35 x36 n37 w38) ∧
              ((decide (n43 = 0)) = false →
                ∃ n51 : Int, Wr .i64 (n37 + 1) n51 ∧
                I34 x36 n51 w38 ∧
                m35 x36 n51 w38 < m35 x36 n37 w38))) ∧
          ((decide (n37 < (x_0.n : Int))) = false →
            ∃ I52 : Sl → Int → World → Prop, ∃ m53 : Sl → Int → World → Nat, I52 x36 0 w38 ∧
            ∀ x54 : Sl, ∀ n55 : Int, ∀ w56 : World, I52 x54 n55 w56 →
            ((decide ((x54.n : Int) > 0)) = true →
              ∃ n57 : Int, Wr .i64 ((x54.n : Int) - 1) n57 ∧
              IxOk x54 n57 ∧
              ∃ n58 : Int, w56.cell? ((elA x54 n57 1).add 0) = some (.int .i64 n58) ∧
              IxOk x_0 n58 ∧
              ∃ n59 : Int, ∃ n60 : Int, ∃ x61 : Sl, (w56.cell? ((elA x_0 n58 3).add 0) = some (.int .i64 n59) ∧
                w56.cell? ((elA x_0 n58 3).add 1) = some (.int .i64 n60) ∧
                w56.cell? ((elA x_0 n58 3).add 2) = some (x61.val)) ∧
              ∃ n62 : Int, Wr .i64 ((x54.n : Int) - 1) n62 ∧
              CutOk x54 0 n62 ∧
              ∃ I63 : Sl → Int → World → Prop, ∃ m64 : Sl → Int → World → Nat, I63 (x54.cut 0 n62 1) 0 w56 ∧
              ∀ x65 : Sl, ∀ n66 : Int, ∀ w67 : World, I63 x65 n66 w67 →
              ((decide (n66 < (x61.n : Int))) = true →
                IxOk x61 n66 ∧
                ∃ n68 : Int, w67.cell? ((elA x61 n66 1).add 0) = some (.int .i64 n68) ∧
                ∃ n69 : Int, ∃ q70 : Bool, (Trip Try.prog 52 #[x_0.val, .int .i64 n68] w67 fun r71 w72 => r71 = .tuple #[.int .i64 n69, .bool q70] ∧ Sub w67 w72) ∧
                (q70 = true →
                  IxOk x33 n69 ∧
                  ∃ n73 : Int, w67.cell? ((elA x33 n69 1).add 0) = some (.int .i64 n73) ∧
                  ∃ n74 : Int, Wr .i64 (n73 - 1) n74 ∧
                  IxOk x33 n69 ∧
                  StoreAt w67 (elA x33 n69 1) 0 [.int .i64 n74] fun w75 =>
                    IxOk x33 n69 ∧
                    ∃ n76 : Int, w75.cell? ((elA x33 n69 1).add 0) = some (.int .i64 n76) ∧
                    ((decide (n76 = 0)) = true →
                      StepT Try.prog (Instr.buildSlice 23 1 #[(0, (.int .i64 n69))]) w75 fun r77 w78 =>
                        ∃ x79 : Sl, r77 = x79.val ∧
                        StepT Try.prog (Builtin.append_ #[23, 23] 23 #[(x65.val), (x79.val)]) w78 fun r80 w81 =>
                          ∃ x82 : Sl, r80 = x82.val ∧
                          ∃ n83 : Int, Wr .i64 (n66 + 1) n83 ∧
                          ((.num .i64 n59 : SV) = .num .i64 n59) ∧
                          ((.num .i64 n60 : SV) = .num .i64 n60) ∧
                          ((.sl x61 : SV) = .sl x61) ∧
                          I63 x82 n83 w81 ∧
                          m64 x82 n83 w81 < m64 x65 n66 w67) ∧
                    ((decide (n76 = 0)) = false →
                      ∃ n84 : Int, Wr .i64 (n66 + 1) n84 ∧
                      ((.num .i64 n59 : SV) = .num .i64 n59) ∧
                      ((.num .i64 n60 : SV) = .num .i64 n60) ∧
                      ((.sl x61 : SV) = .sl x61) ∧
                      I63 x65 n84 w75 ∧
                      m64 x65 n84 w75 < m64 x65 n66 w67)) ∧
                (q70 = false →
                  ∃ n85 : Int, Wr .i64 (n66 + 1) n85 ∧
                  ((.num .i64 n59 : SV) = .num .i64 n59) ∧
                  ((.num .i64 n60 : SV) = .num .i64 n60) ∧
                  ((.sl x61 : SV) = .sl x61) ∧
                  I63 x65 n85 w67 ∧
                  m64 x65 n85 w67 < m64 x65 n66 w67)) ∧
              ((decide (n66 < (x61.n : Int))) = false →
                ∃ n86 : Int, Wr .i64 (n55 + 1) n86 ∧
                I52 x65 n86 w67 ∧
                m53 x65 n86 w67 < m53 x54 n55 w56)) ∧
            ((decide ((x54.n : Int) > 0)) = false →
              Q (.tuple #[x3.val, .bool (decide (n55 = (x_0.n : Int)))]) w56))))
theorem of59 (x_0 : Sl) (v : World) (Q : Value → World → Prop) (h : vc59 x_0 v Q) : Trip Try.prog 59 #[x_0.val] v Q :=
  trip_of_eq (args := [.sl x_0]) (A := ⟨[(3, [(26, .int .i64)], []), (8, [(37, .int .i64)], []), (21, [(12, .sl), (73, .int .i64)], []), (28, [(12, .sl), (13, .int .i64)], []), (33, [(12, .sl), (127, .int .i64)], [])], [], [], [], [12, 20, 22, 31, 32, 34, 35, 36, 40, 42, 46, 50, 52, 53, 55, 65, 68, 70, 72, 75, 76, 77, 80, 81, 82, 84, 85, 86]⟩) Try.func59 (by kernel_rfl) (by kernel_rfl) (by kernel_rfl : vc59 x_0 v Q = _) h

/-- (*spec.reader).pick -/
def vc62 (a_0 : Addr) (n_1 : Int) (v : World) (Q : Value → World → Prop) : Prop :=
  ∃ n1 : Int, v.cell? (a_0.add 1) = some (.int .i64 n1) ∧
  ∃ n2 : Int, Wr .i64 (n1 + 1) n2 ∧
  StoreAt v a_0 1 [.int .i64 n2] fun w3 =>
    ∃ x4 : Sl, ((decide (n_1 < 1)) = false →
      w3.cell? (a_0.add 0) = some (x4.val)) ∧
    (((decide (n_1 < 1)) || (decide ((x4.n : Int) = 0))) = true →
      Q (.int .i64 0) w3) ∧
    (((decide (n_1 < 1)) || (decide ((x4.n : Int) = 0))) = false →
      ∃ n5 : Int, w3.cell? (a_0.add 1) = some (.int .i64 n5) ∧
      ∃ n6 : Int, Wr .i64 (n5 - 1) n6 ∧
      ∃ x7 : Sl, w3.cell? (a_0.add 0) = some (x7.val) ∧
      ((decide (n6 < (x7.n : Int))) = true →
        ∃ x8 : Sl, w3.cell? (a_0.add 0) = some (x8.val) ∧
        IxOk x8 n6 ∧
        ∃ n9 : Int, w3.cell? ((elA x8 n6 1).add 0) = some (.int .u8 n9) ∧
        ∃ n10 : Int, Wr .i64 n9 n10 ∧
        (n_1 : Int) ≠ 0 ∧
        Q (.int .i64 (Int.tmod n10 n_1)) w3) ∧
      ((decide (n6 < (x7.n : Int))) = false →
        ∃ x11 : Sl, w3.cell? (a_0.add 0) = some (x11.val) ∧
        ∃ x12 : Sl, w3.cell? (a_0.add 0) = some (x12.val) ∧
        ((x12.n : Int) : Int) ≠ 0 ∧
        IxOk x11 (Int.tmod n6 (x12.n : Int)) ∧
        ∃ n13 : Int, w3.cell? ((elA x11 (Int.tmod n6 (x12.n : Int)) 1).add 0) = some (.int .u8 n13) ∧
        ∃ n14 : Int, Wr .i64 n13 n14 ∧
        ∃ n15 : Int, Wr .i64 (n14 * 131) n15 ∧
        ∃ x16 : Sl, w3.cell? (a_0.add 0) = some (x16.val) ∧
        ∃ n17 : Int, Wr .i64 (n6 * 7) n17 ∧
        ∃ n18 : Int, Wr .i64 (n17 + 3) n18 ∧
        ∃ x19 : Sl, w3.cell? (a_0.add 0) = some (x19.val) ∧
        ((x19.n : Int) : Int) ≠ 0 ∧
        IxOk x16 (Int.tmod n18 (x19.n : Int)) ∧
        ∃ n20 : Int, w3.cell? ((elA x16 (Int.tmod n18 (x19.n : Int)) 1).add 0) = some (.int .u8 n20) ∧
        ∃ n21 : Int, Wr .i64 n20 n21 ∧
        ∃ n22 : Int, Wr .i64 (n21 * 1117) n22 ∧
        ∃ n23 : Int, Wr .i64 (n15 + n22) n23 ∧
        ∃ n24 : Int, Wr .i64 (n6 * 29) n24 ∧
        ∃ n25 : Int, Wr .i64 (n23 + n24) n25 ∧
        ∃ x26 : Sl, w3.cell? (a_0.add 0) = some (x26.val) ∧
        ∃ n27 : Int, (((x26.n : Int) : Int) ≠ 0 ∧ Wr .i64 (Int.tdiv n6 (x26.n : Int)) n27) ∧
        ∃ n28 : Int, Wr .i64 (n27 * 53) n28 ∧
        ∃ n29 : Int, Wr .i64 (n25 + n28) n29 ∧
        ∃ n30 : Int, ((64 : Int) ≠ 0 ∧ Wr .i64 (Int.tdiv n29 64) n30) ∧
        ∃ n31 : Int, PureT Try.prog (do eqGuard .xor 3 (.tmp 92) (.tmp 94) (.int .i64 n29) (.int .i64 n30); binOp .xor 3 (.int .i64 n29) (.int .i64 n30)) w3 (.int .i64 n31) ∧
        (n_1 : Int) ≠ 0 ∧
        Q (.int .i64 (Int.tmod n31 n_1)) w3))
theorem of62 (a_0 : Addr) (n_1 : Int) (v : World) (Q : Value → World → Prop) (h : vc62 a_0 n_1 v Q) : Trip Try.prog 62 #[.pointer (some (a_0.add 0)), .int .i64 n_1] v Q :=
  trip_of_eq (args := [.pt a_0 0, .num .i64 n_1]) (A := ⟨[], [], [], [], [12, 20, 22, 31, 32, 34, 35, 36, 40, 42, 46, 50, 52, 53, 55, 65, 68, 70, 72, 75, 76, 77, 80, 81, 82, 84, 85, 86]⟩) Try.func62 (by kernel_rfl) (by kernel_rfl) (by kernel_rfl : vc62 a_0 n_1 v Q = _) h

/-- (*spec.reader).spoilInts -/
def vc63 (a_0 : Addr) (x_1 : Sl) (v : World) (Q : Value → World → Prop) : Prop :=
  Trip Try.prog 73 #[x_1.val] v fun r1 w2 =>
    ∃ x3 : Sl, r1 = x3.val ∧
    ((decide ((x3.n : Int) > 0)) = true →
      Trip Try.prog 62 #[.pointer (some (a_0.add 0)), .int .i64 2] w2 fun r4 w5 =>
        ∃ n6 : Int, r4 = .int .i64 n6 ∧
        ((decide (n6 = 0)) = true →
          Trip Try.prog 62 #[.pointer (some (a_0.add 0)), .int .i64 (x3.n : Int)] w5 fun r7 w8 =>
            ∃ n9 : Int, r7 = .int .i64 n9 ∧
            StepT Try.prog (Instr.buildSlice 23 6 #[(0, (.int .i64 0)), (1, (.int .i64 1)), (2, (.int .i64 (-1))), (3, (.int .i64 7)), (4, (.int .i64 1000)), (5, (.int .i64 1001))]) w8 fun r10 w11 =>
              ∃ x12 : Sl, r10 = x12.val ∧
              Trip Try.prog 28 #[.pointer (some (a_0.add 0)), x12.val] w11 fun r13 w14 =>
                ∃ n15 : Int, r13 = .int .i64 n15 ∧
                IxOk x3 n9 ∧
                StoreAt w14 (elA x3 n9 1) 0 [.int .i64 n15] fun w16 =>
                  Q (x3.val) w16) ∧
        ((decide (n6 = 0)) = false →
          StepT Try.prog (Instr.buildSlice 23 5 #[(0, (.int .i64 0)), (1, (.int .i64 1)), (2, (.int .i64 2)), (3, (.int .i64 (-1))), (4, (.int .i64 1000))]) w5 fun r17 w18 =>
            ∃ x19 : Sl, r17 = x19.val ∧
            Trip Try.prog 28 #[.pointer (some (a_0.add 0)), x19.val] w18 fun r20 w21 =>
              ∃ n22 : Int, r20 = .int .i64 n22 ∧
              StepT Try.prog (Instr.buildSlice 23 1 #[(0, (.int .i64 n22))]) w21 fun r23 w24 =>
                ∃ x25 : Sl, r23 = x25.val ∧
                StepT Try.prog (Builtin.append_ #[23, 23] 23 #[(x3.val), (x25.val)]) w24 fun r26 w27 =>
                  ∃ x28 : Sl, r26 = x28.val ∧
                  Q (x28.val) w27)) ∧
    ((decide ((x3.n : Int) > 0)) = false →
      StepT Try.prog (Instr.buildSlice 23 5 #[(0, (.int .i64 0)), (1, (.int .i64 1)), (2, (.int .i64 2)), (3, (.int .i64 (-1))), (4, (.int .i64 1000))]) w2 fun r29 w30 =>
        ∃ x31 : Sl, r29 = x31.val ∧
        Trip Try.prog 28 #[.pointer (some (a_0.add 0)), x31.val] w30 fun r32 w33 =>
          ∃ n34 : Int, r32 = .int .i64 n34 ∧
          StepT Try.prog (Instr.buildSlice 23 1 #[(0, (.int .i64 n34))]) w33 fun r35 w36 =>
            ∃ x37 : Sl, r35 = x37.val ∧
            StepT Try.prog (Builtin.append_ #[23, 23] 23 #[(x3.val), (x37.val)]) w36 fun r38 w39 =>
              ∃ x40 : Sl, r38 = x40.val ∧
              Q (x40.val) w39)
theorem of63 (a_0 : Addr) (x_1 : Sl) (v : World) (Q : Value → World → Prop) (h : vc63 a_0 x_1 v Q) : Trip Try.prog 63 #[.pointer (some (a_0.add 0)), x_1.val] v Q :=
  trip_of_eq (args := [.pt a_0 0, .sl x_1]) (A := ⟨[], [], [], [], [12, 20, 22, 31, 32, 34, 35, 36, 40, 42, 46, 50, 52, 53, 55, 65, 68, 70, 72, 75, 76, 77, 80, 81, 82, 84, 85, 86]⟩) Try.func63 (by kernel_rfl) (by kernel_rfl) (by kernel_rfl : vc63 a_0 x_1 v Q = _) h

/-- slices.Clone[[]int,int] -/
def vc64 (x_0 : Sl) (v : World) (Q : Value → World → Prop) : Prop :=
  ∃ q1 : Bool, PureT Try.prog (do eqGuard .eql 23 (.tmp 3) (.const (.slice none 0 0)) (x_0.val) (.slice none 0 0); binOp .eql 23 (x_0.val) (.slice none 0 0)) v (.bool q1) ∧
  (q1 = true →
    Q (.slice none 0 0) v) ∧
  (q1 = false →
    StepT Try.prog (Instr.buildSlice 23 0 #[]) v fun r2 w3 =>
      ∃ x4 : Sl, r2 = x4.val ∧
      StepT Try.prog (Builtin.append_ #[23, 23] 23 #[(x4.val), (x_0.val)]) w3 fun r5 w6 =>
        ∃ x7 : Sl, r5 = x7.val ∧
        Q (x7.val) w6)
theorem of64 (x_0 : Sl) (v : World) (Q : Value → World → Prop) (h : vc64 x_0 v Q) : Trip Try.prog 64 #[x_0.val] v Q :=
  trip_of_eq (args := [.sl x_0]) (A := ⟨[], [], [], [], [12, 20, 22, 31, 32, 34, 35, 36, 40, 42, 46, 50, 52, 53, 55, 65, 68, 70, 72, 75, 76, 77, 80, 81, 82, 84, 85, 86]⟩) Try.func64 (by kernel_rfl) (by kernel_rfl) (by kernel_rfl : vc64 x_0 v Q = _) h

/-- impl.allZero -/
def vc65 (x_0 : Sl) (v : World) (Q : Value → World → Prop) : Prop :=
  Trip Try.prog 78 #[x_0.val, .func (.func 79) #[] #[]] v fun r1 w2 =>
    ∃ q3 : Bool, r1 = .bool q3 ∧
    Q (.bool (!q3)) w2
theorem of65 (x_0 : Sl) (v : World) (Q : Value → World → Prop) (h : vc65 x_0 v Q) : Trip Try.prog 65 #[x_0.val] v Q :=
  trip_of_eq (args := [.sl x_0]) (A := ⟨[], [], [], [], [12, 20, 22, 31, 32, 34, 35, 36, 40, 42, 46, 50, 52, 53, 55, 65, 68, 70, 72, 75, 76, 77, 80, 81, 82, 84, 85, 86]⟩) Try.func65 (by kernel_rfl) (by kernel_rfl) (by kernel_rfl : vc65 x_0 v Q = _) h

/-- (impl.Memory).freeValid -/
def vc66 (x0_0 : Sl) (x0_1 : Sl) (x1_0 : Sl) (y1_1 : Vl) (x_2 : Sl) (v : World) (Q : Value → World → Prop) : Prop :=
  ((!decide ((x0_1.n : Int) = 4)) = true →
    Q (.bool false) v) ∧
  ((!decide ((x0_1.n : Int) = 4)) = false →
    StepT Try.prog (Instr.makeMap 96 none) v fun r1 w2 =>
      ∃ y3 : Vl, r1 = y3.x ∧
      ∃ I4 : Int → World → Prop, ∃ m5 : Int → World → Nat, I4 0 w2 ∧
      ∀ n6 : Int, ∀ w7 : World, I4 n6 w7 →
      ((decide (n6 < (x0_1.n : Int))) = true →
        IxOk x0_1 n6 ∧
        ∃ n8 : Int, w7.cell? ((elA x0_1 n6 1).add 0) = some (.int .i64 n8) ∧
        ∃ I9 : Int → World → Prop, ∃ m10 : Int → World → Nat, I9 n8 w7 ∧
        ∀ n11 : Int, ∀ w12 : World, I9 n11 w12 →
        ((!decide (n11 = 0)) = true →
          ∃ n13 : Int, Wr .i64 (n11 - 1) n13 ∧
          StepT Try.prog (Instr.lookup 50 (y1_1.x) (.int .i64 n13) true) w12 fun r14 w15 =>
            ∃ n16 : Int, ∃ q17 : Bool, r14 = .tuple #[.int .i64 n16, .bool q17] ∧
            ((!q17) = false →
              IxOk x1_0 n16) ∧
            ∃ n18 : Int, ((!q17) = false →
              w15.cell? ((elA x1_0 n16 3).add 0) = some (.int .i64 n18)) ∧
            ∃ n19 : Int, (((!q17) || (!decide (n18 = 0))) = false →
              Wr .i64 (n13 + 1) n19) ∧
            (((!q17) || (!decide (n18 = 0))) = false →
              IxOk x0_0 n19) ∧
            ∃ n20 : Int, (((!q17) || (!decide (n18 = 0))) = false →
              w15.cell? ((elA x0_0 n19 1).add 0) = some (.int .i64 n20)) ∧
            (((!q17) || (!decide (n18 = 0))) = false →
              (4 : Int) ≠ 0) ∧
            ((((!q17) || (!decide (n18 = 0))) || (!decide (Int.tmod n20 4 = n6))) = false →
              StepT Try.prog (Instr.lookup 96 (y3.x) (.int .i64 n13) false) w15 fun r21 w22 =>
                ∃ q23 : Bool, r21 = .bool q23 ∧
                (q23 = true →
                  Q (.bool false) w22) ∧
                (q23 = false →
                  StepU Try.prog (Instr.mapUpdate 96 (y3.x) (.int .i64 n13) (.bool true)) w22 fun w24 =>
                    ∃ n25 : Int, Wr .i64 (n13 + 1) n25 ∧
                    IxOk x0_0 n25 ∧
                    ∃ n26 : Int, w24.cell? ((elA x0_0 n25 1).add 0) = some (.int .i64 n26) ∧
                    ∃ n27 : Int, ((4 : Int) ≠ 0 ∧ Wr .i64 (Int.tdiv n26 4) n27) ∧
                    ((.sl x0_0 : SV) = .sl x0_0) ∧
                    ((.sl x0_1 : SV) = .sl x0_1) ∧
                    ((.sl x1_0 : SV) = .sl x1_0) ∧
                    ((.v y1_1 : SV) = .v y1_1) ∧
                    I9 n27 w24 ∧
                    m10 n27 w24 < m10 n11 w12)) ∧
            ((((!q17) || (!decide (n18 = 0))) || (!decide (Int.tmod n20 4 = n6))) = true →
              Q (.bool false) w15)) ∧
        ((!decide (n11 = 0)) = false →
          ∃ n28 : Int, Wr .i64 (n6 + 1) n28 ∧
          ((.sl x0_0 : SV) = .sl x0_0) ∧
          ((.sl x0_1 : SV) = .sl x0_1) ∧
          ((.sl x1_0 : SV) = .sl x1_0) ∧
          ((.v y1_1 : SV) = .v y1_1) ∧
          I4 n28 w12 ∧
          m5 n28 w12 < m5 n6 w7)) ∧
      ((decide (n6 < (x0_1.n : Int))) = false →
        ∃ I29 : Int → World → Prop, ∃ m30 : Int → World → Nat, I29 0 w7 ∧
        ∀ n31 : Int, ∀ w32 : World, I29 n31 w32 →
        ((decide (n31 < (x_2.n : Int))) = true →
          IxOk x_2 n31 ∧
          ∃ n33 : Int, w32.cell? ((elA x_2 n31 1).add 0) = some (.int .i64 n33) ∧
          IxOk x0_0 n33 ∧
          ∃ n34 : Int, w32.cell? ((elA x0_0 n33 1).add 0) = some (.int .i64 n34) ∧
          ((decide (n34 = 0)) = true →
            StepT Try.prog (Instr.lookup 96 (y3.x) (.int .i64 n33) false) w32 fun r35 w36 =>
              ∃ q37 : Bool, r35 = .bool q37 ∧
              ((!q37) = true →
                Q (.bool false) w36) ∧
              ((!q37) = false →
                ∃ n38 : Int, Wr .i64 (n31 + 1) n38 ∧
                ((.sl x0_0 : SV) = .sl x0_0) ∧
                ((.sl x0_1 : SV) = .sl x0_1) ∧
                ((.sl x1_0 : SV) = .sl x1_0) ∧
                ((.v y1_1 : SV) = .v y1_1) ∧
                I29 n38 w36 ∧
                m30 n38 w36 < m30 n31 w32)) ∧
          ((decide (n34 = 0)) = false →
            ∃ n39 : Int, Wr .i64 (n31 + 1) n39 ∧
            ((.sl x0_0 : SV) = .sl x0_0) ∧
            ((.sl x0_1 : SV) = .sl x0_1) ∧
            ((.sl x1_0 : SV) = .sl x1_0) ∧
            ((.v y1_1 : SV) = .v y1_1) ∧
            I29 n39 w32 ∧
            m30 n39 w32 < m30 n31 w32)) ∧
        ((decide (n31 < (x_2.n : Int))) = false →
          Q (.bool true) w32)))
theorem of66 (x0_0 : Sl) (x0_1 : Sl) (x1_0 : Sl) (y1_1 : Vl) (x_2 : Sl) (v : World) (Q : Value → World → Prop) (h : vc66 x0_0 x0_1 x1_0 y1_1 x_2 v Q) : Trip Try.prog 66 #[.agg #[x0_0.val, x0_1.val], .agg #[x1_0.val, y1_1.x], x_2.val] v Q :=
  trip_of_eq (args := [.ag [.sl x0_0, .sl x0_1], .ag [.sl x1_0, .v y1_1], .sl x_2]) (A := ⟨[(5, [(23, .int .i64)], []), (7, [(9, .int .i64)], []), (16, [(78, .int .i64)], [])], [], [], [], [12, 20, 22, 31, 32, 34, 35, 36, 40, 42, 46, 50, 52, 53, 55, 65, 68, 70, 72, 75, 76, 77, 80, 81, 82, 84, 85, 86]⟩) Try.func66 (by kernel_rfl) (by kernel_rfl) (by kernel_rfl : vc66 x0_0 x0_1 x1_0 y1_1 x_2 v Q = _) h

/-- spec.cellsOf -/
def vc67 (x_0 : Sl) (x_1 : Sl) (v : World) (Q : Value → World → Prop) : Prop :=
  StepT Try.prog (Instr.buildSlice 31 0 #[]) v fun r1 w2 =>
    ∃ x3 : Sl, r1 = x3.val ∧
    ∃ I4 : Sl → Int → World → Prop, ∃ m5 : Sl → Int → World → Nat, I4 x3 0 w2 ∧
    ∀ x6 : Sl, ∀ n7 : Int, ∀ w8 : World, I4 x6 n7 w8 →
    ((decide (n7 < (x_1.n : Int))) = true →
      IxOk x_1 n7 ∧
      ∃ n9 : Int, w8.cell? ((elA x_1 n7 1).add 0) = some (.int .i64 n9) ∧
      StepT Try.prog (Instr.buildSlice 23 0 #[]) w8 fun r10 w11 =>
        ∃ x12 : Sl, r10 = x12.val ∧
        ∃ I13 : Sl → Int → World → Prop, ∃ m14 : Sl → Int → World → Nat, I13 x12 0 w11 ∧
        ∀ x15 : Sl, ∀ n16 : Int, ∀ w17 : World, I13 x15 n16 w17 →
        ∃ n18 : Int, (Trip Try.prog 75 #[x_0.val, .int .i64 n9] w17 fun r19 w20 => r19 = .int .i64 n18 ∧ Sub w17 w20) ∧
        ((decide (n16 < n18)) = true →
          ∃ n21 : Int, Wr .i64 (n9 + 2) n21 ∧
          ∃ n22 : Int, Wr .i64 (n21 + n16) n22 ∧
          IxOk x_0 n22 ∧
          ∃ n23 : Int, w17.cell? ((elA x_0 n22 1).add 0) = some (.int .i64 n23) ∧
          ∃ n24 : Int, ∃ q25 : Bool, (Trip Try.prog 80 #[x_1.val, .int .i64 n23] w17 fun r26 w27 => r26 = .tuple #[.int .i64 n24, .bool q25] ∧ Sub w17 w27) ∧
          ((!q25) = false →
            IxOk x_0 n9) ∧
          ∃ n28 : Int, ((!q25) = false →
            w17.cell? ((elA x_0 n9 1).add 0) = some (.int .i64 n28)) ∧
          (((!q25) || ((decide (n28 = 0)) && (!decide (n24 = 0)))) = true →
            Q (.tuple #[.slice none 0 0, .bool false]) w17) ∧
          (((!q25) || ((decide (n28 = 0)) && (!decide (n24 = 0)))) = false →
            StepT Try.prog (Instr.buildSlice 23 1 #[(0, (.int .i64 n24))]) w17 fun r29 w30 =>
              ∃ x31 : Sl, r29 = x31.val ∧
              StepT Try.prog (Builtin.append_ #[23, 23] 23 #[(x15.val), (x31.val)]) w30 fun r32 w33 =>
                ∃ x34 : Sl, r32 = x34.val ∧
                ∃ n35 : Int, Wr .i64 (n16 + 1) n35 ∧
                I13 x34 n35 w33 ∧
                m14 x34 n35 w33 < m14 x15 n16 w17)) ∧
        ((decide (n16 < n18)) = false →
          IxOk x_0 n9 ∧
          ∃ n36 : Int, w17.cell? ((elA x_0 n9 1).add 0) = some (.int .i64 n36) ∧
          ((decide (n36 = 0)) = true →
            StepT Try.prog (Instr.buildSlice 23 0 #[]) w17 fun r37 w38 =>
              ∃ x39 : Sl, r37 = x39.val ∧
              StepT Try.prog (Instr.buildSlice 31 1 #[(0, (.agg #[.int .i64 0, .int .i64 0, x39.val]))]) w38 fun r40 w41 =>
                ∃ x42 : Sl, r40 = x42.val ∧
                StepT Try.prog (Builtin.append_ #[31, 31] 31 #[(x6.val), (x42.val)]) w41 fun r43 w44 =>
                  ∃ x45 : Sl, r43 = x45.val ∧
                  ∃ n46 : Int, Wr .i64 (n7 + 1) n46 ∧
                  I4 x45 n46 w44 ∧
                  m5 x45 n46 w44 < m5 x6 n7 w8) ∧
          ((decide (n36 = 0)) = false →
            IxOk x_0 n9 ∧
            ∃ n47 : Int, w17.cell? ((elA x_0 n9 1).add 0) = some (.int .i64 n47) ∧
            ∃ n48 : Int, Wr .i64 (n9 + 1) n48 ∧
            IxOk x_0 n48 ∧
            ∃ n49 : Int, w17.cell? ((elA x_0 n48 1).add 0) = some (.int .i64 n49) ∧
            ∃ n50 : Int, ((4 : Int) ≠ 0 ∧ Wr .i64 (Int.tdiv n49 4) n50) ∧
            StepT Try.prog (Instr.buildSlice 31 1 #[(0, (.agg #[.int .i64 n47, .int .i64 n50, x15.val]))]) w17 fun r51 w52 =>
              ∃ x53 : Sl, r51 = x53.val ∧
              StepT Try.prog (Builtin.append_ #[31, 31] 31 #[(x6.val), (x53.val)]) w52 fun r54 w55 =>
                ∃ x56 : Sl, r54 = x56.val ∧
                ∃ n57 : Int, Wr .i64 (n7 + 1) n57 ∧
                I4 x56 n57 w55 ∧
                m5 x56 n57 w55 < m5 x6 n7 w8))) ∧
    ((decide (n7 < (x_1.n : Int))) = false →
      Q (.tuple #[x6.val, .bool true]) w8)
theorem of67 (x_0 : Sl) (x_1 : Sl) (v : World) (Q : Value → World → Prop) (h : vc67 x_0 x_1 v Q) : Trip Try.prog 67 #[x_0.val, x_1.val] v Q :=
  trip_of_eq (args := [.sl x_0, .sl x_1]) (A := ⟨[(3, [(6, .sl), (7, .int .i64)], []), (8, [(9, .sl), (10, .int .i64)], [])], [], [(16, [])], [], [12, 20, 22, 31, 32, 34, 35, 36, 40, 42, 46, 50, 52, 53, 55, 65, 68, 70, 72, 75, 76, 77, 80, 81, 82, 84, 85, 86]⟩) Try.func67 (by kernel_rfl) (by kernel_rfl) (by kernel_rfl : vc67 x_0 x_1 v Q = _) h

/-- spec.validHeap -/
def vc68 (x_0 : Sl) (v : World) (Q : Value → World → Prop) : Prop :=
  ∃ n1 : Int, ((decide ((x_0.n : Int) > 0)) = true →
    Wr .i64 ((x_0.n : Int) - 1) n1) ∧
  ((decide ((x_0.n : Int) > 0)) = true →
    IxOk x_0 n1) ∧
  ∃ n2 : Int, ((decide ((x_0.n : Int) > 0)) = true →
    v.cell? ((elA x_0 n1 3).add 0) = some (.int .i64 n2)) ∧
  (((decide ((x_0.n : Int) > 0)) && (decide (n2 = 0))) = true →
    Q (.bool false) v) ∧
  (((decide ((x_0.n : Int) > 0)) && (decide (n2 = 0))) = false →
    ∃ I3 : Int → World → Prop, ∃ m4 : Int → World → Nat, I3 0 v ∧
    ∀ n5 : Int, ∀ w6 : World, I3 n5 w6 →
    ((decide (n5 < (x_0.n : Int))) = true →
      IxOk x_0 n5 ∧
      ∃ n7 : Int, ∃ n8 : Int, ∃ x9 : Sl, (w6.cell? ((elA x_0 n5 3).add 0) = some (.int .i64 n7) ∧
        w6.cell? ((elA x_0 n5 3).add 1) = some (.int .i64 n8) ∧
        w6.cell? ((elA x_0 n5 3).add 2) = some (x9.val)) ∧
      ∃ q10 : Bool, (Trip Try.prog 81 #[x_0.val, .agg #[.int .i64 n7, .int .i64 n8, x9.val]] w6 fun r11 w12 => r11 = .bool q10 ∧ Sub w6 w12) ∧
      ((!q10) = true →
        Q (.bool false) w6) ∧
      ((!q10) = false →
        ∃ n13 : Int, Wr .i64 (n5 + 1) n13 ∧
        I3 n13 w6 ∧
        m4 n13 w6 < m4 n5 w6)) ∧
    ((decide (n5 < (x_0.n : Int))) = false →
      Trip Try.prog 56 #[x_0.val] w6 fun r14 w15 =>
        ∃ x16 : Sl, r14 = x16.val ∧
        ∃ I17 : Int → World → Prop, ∃ m18 : Int → World → Nat, I17 0 w15 ∧
        ∀ n19 : Int, ∀ w20 : World, I17 n19 w20 →
        ((decide (n19 < (x_0.n : Int))) = true →
          IxOk x_0 n19 ∧
          ∃ n21 : Int, w20.cell? ((elA x_0 n19 3).add 0) = some (.int .i64 n21) ∧
          ((decide (n21 > 0)) = true →
            IxOk x_0 n19) ∧
          ∃ n22 : Int, ((decide (n21 > 0)) = true →
            w20.cell? ((elA x_0 n19 3).add 0) = some (.int .i64 n22)) ∧
          ((decide (n21 > 0)) = true →
            IxOk x16 n19) ∧
          ∃ n23 : Int, ((decide (n21 > 0)) = true →
            w20.cell? ((elA x16 n19 1).add 0) = some (.int .i64 n23)) ∧
          (((decide (n21 > 0)) && (decide (n22 < n23))) = true →
            Q (.bool false) w20) ∧
          (((decide (n21 > 0)) && (decide (n22 < n23))) = false →
            ∃ n24 : Int, Wr .i64 (n19 + 1) n24 ∧
            I17 n24 w20 ∧
            m18 n24 w20 < m18 n19 w20)) ∧
        ((decide (n19 < (x_0.n : Int))) = false →
          ∃ q25 : Bool, (Trip Try.prog 82 #[x_0.val] w20 fun r26 w27 => r26 = .bool q25 ∧ Sub w20 w27) ∧
          Q (.bool q25) w20)))
theorem of68 (x_0 : Sl) (v : World) (Q : Value → World → Prop) (h : vc68 x_0 v Q) : Trip Try.prog 68 #[x_0.val] v Q :=
  trip_of_eq (args := [.sl x_0]) (A := ⟨[(4, [(3, .int .i64)], []), (10, [(5, .int .i64)], [])], [], [], [], [12, 20, 22, 31, 32, 34, 35, 36, 40, 42, 46, 50, 52, 53, 55, 65, 68, 70, 72, 75, 76, 77, 80, 81, 82, 84, 85, 86]⟩) Try.func68 (by kernel_rfl) (by kernel_rfl) (by kernel_rfl : vc68 x_0 v Q = _) h

/-- spec.trim -/
def vc69 (x_0 : Sl) (v : World) (Q : Value → World → Prop) : Prop :=
  ∃ I1 : Int → World → Prop, ∃ m2 : Int → World → Nat, I1 (x_0.n : Int) v ∧
  ∀ n3 : Int, ∀ w4 : World, I1 n3 w4 →
  ∃ n5 : Int, ((decide (n3 > 0)) = true →
    Wr .i64 (n3 - 1) n5) ∧
  ((decide (n3 > 0)) = true →
    IxOk x_0 n5) ∧
  ∃ n6 : Int, ((decide (n3 > 0)) = true →
    w4.cell? ((elA x_0 n5 3).add 0) = some (.int .i64 n6)) ∧
  (((decide (n3 > 0)) && (decide (n6 = 0))) = true →
    ∃ n7 : Int, Wr .i64 (n3 - 1) n7 ∧
    I1 n7 w4 ∧
    m2 n7 w4 < m2 n3 w4) ∧
  (((decide (n3 > 0)) && (decide (n6 = 0))) = false →
    CutOk x_0 0 n3 ∧
    Q ((x_0.cut 0 n3 3).val) w4)
theorem of69 (x_0 : Sl) (v : World) (Q : Value → World → Prop) (h : vc69 x_0 v Q) : Trip Try.prog 69 #[x_0.val] v Q :=
  trip_of_eq (args := [.sl x_0]) (A := ⟨[(2, [(3, .int .i64)], [])], [], [], [], [12, 20, 22, 31, 32, 34, 35, 36, 40, 42, 46, 50, 52, 53, 55, 65, 68, 70, 72, 75, 76, 77, 80, 81, 82, 84, 85, 86]⟩) Try.func69 (by kernel_rfl) (by kernel_rfl) (by kernel_rfl : vc69 x_0 v Q = _) h

/-- spec.chainOf -/
def vc70 (x_0 : Sl) (n_1 : Int) (x_2 : Sl) (v : World) (Q : Value → World → Prop) : Prop :=
  StepT Try.prog (Instr.buildSlice 23 0 #[]) v fun r1 w2 =>
    ∃ x3 : Sl, r1 = x3.val ∧
    ∃ I4 : Int → Sl → World → Prop, ∃ m5 : Int → Sl → World → Nat, I4 n_1 x3 w2 ∧
    ∀ n6 : Int, ∀ x7 : Sl, ∀ w8 : World, I4 n6 x7 w8 →
    ((!decide (n6 = 0)) = true →
      ∃ n9 : Int, Wr .i64 (n6 - 1) n9 ∧
      ∃ q10 : Bool, (Trip Try.prog 72 #[x_2.val, .int .i64 n9] w8 fun r11 w12 => r11 = .bool q10 ∧ Sub w8 w12) ∧
      ∃ n13 : Int, ((!q10) = false →
        Wr .i64 (n6 - 1) n13) ∧
      ∃ q14 : Bool, ((!q10) = false →
        (Trip Try.prog 72 #[x7.val, .int .i64 n13] w8 fun r15 w16 => r15 = .bool q14 ∧ Sub w8 w16)) ∧
      (((!q10) || q14) = true →
        Q (.bool false) w8) ∧
      (((!q10) || q14) = false →
        ∃ n17 : Int, Wr .i64 (n6 - 1) n17 ∧
        StepT Try.prog (Instr.buildSlice 23 1 #[(0, (.int .i64 n17))]) w8 fun r18 w19 =>
          ∃ x20 : Sl, r18 = x20.val ∧
          StepT Try.prog (Builtin.append_ #[23, 23] 23 #[(x7.val), (x20.val)]) w19 fun r21 w22 =>
            ∃ x23 : Sl, r21 = x23.val ∧
            IxOk x_0 n6 ∧
            ∃ n24 : Int, w22.cell? ((elA x_0 n6 1).add 0) = some (.int .i64 n24) ∧
            ∃ n25 : Int, ((4 : Int) ≠ 0 ∧ Wr .i64 (Int.tdiv n24 4) n25) ∧
            I4 n25 x23 w22 ∧
            m5 n25 x23 w22 < m5 n6 x7 w8)) ∧
    ((!decide (n6 = 0)) = false →
      Q (.bool (decide ((x7.n : Int) = (x_2.n : Int)))) w8)
theorem of70 (x_0 : Sl) (n_1 : Int) (x_2 : Sl) (v : World) (Q : Value → World → Prop) (h : vc70 x_0 n_1 x_2 v Q) : Trip Try.prog 70 #[x_0.val, .int .i64 n_1, x_2.val] v Q :=
  trip_of_eq (args := [.sl x_0, .num .i64 n_1, .sl x_2]) (A := ⟨[(2, [(1, .int .i64), (7, .sl)], [])], [], [], [], [12, 20, 22, 31, 32, 34, 35, 36, 40, 42, 46, 50, 52, 53, 55, 65, 68, 70, 72, 75, 76, 77, 80, 81, 82, 84, 85, 86]⟩) Try.func70 (by kernel_rfl) (by kernel_rfl) (by kernel_rfl : vc70 x_0 n_1 x_2 v Q = _) h

/-- spec.freeOf -/
def vc71 (x_0 : Sl) (x_1 : Sl) (n_2 : Int) (v : World) (Q : Value → World → Prop) : Prop :=
  StepT Try.prog (Instr.buildSlice 23 0 #[]) v fun r1 w2 =>
    ∃ x3 : Sl, r1 = x3.val ∧
    ∃ I4 : Sl → Int → World → Prop, ∃ m5 : Sl → Int → World → Nat, I4 x3 0 w2 ∧
    ∀ x6 : Sl, ∀ n7 : Int, ∀ w8 : World, I4 x6 n7 w8 →
    ((decide (n7 < (x_1.n : Int))) = true →
      IxOk x_1 n7 ∧
      ∃ n9 : Int, w8.cell? ((elA x_1 n7 1).add 0) = some (.int .i64 n9) ∧
      IxOk x_0 n9 ∧
      ∃ n10 : Int, w8.cell? ((elA x_0 n9 1).add 0) = some (.int .i64 n10) ∧
      ((decide (n10 = 0)) = true →
        IxOk x_1 n7) ∧
      ∃ n11 : Int, ((decide (n10 = 0)) = true →
        w8.cell? ((elA x_1 n7 1).add 0) = some (.int .i64 n11)) ∧
      ∃ n12 : Int, ((decide (n10 = 0)) = true →
        (Trip Try.prog 75 #[x_0.val, .int .i64 n11] w8 fun r13 w14 => r13 = .int .i64 n12 ∧ Sub w8 w14)) ∧
      (((decide (n10 = 0)) && (decide (n12 = n_2))) = true →
        IxOk x_1 n7 ∧
        ∃ n15 : Int, w8.cell? ((elA x_1 n7 1).add 0) = some (.int .i64 n15) ∧
        StepT Try.prog (Instr.buildSlice 23 1 #[(0, (.int .i64 n15))]) w8 fun r16 w17 =>
          ∃ x18 : Sl, r16 = x18.val ∧
          StepT Try.prog (Builtin.append_ #[23, 23] 23 #[(x6.val), (x18.val)]) w17 fun r19 w20 =>
            ∃ x21 : Sl, r19 = x21.val ∧
            ∃ n22 : Int, Wr .i64 (n7 + 1) n22 ∧
            I4 x21 n22 w20 ∧
            m5 x21 n22 w20 < m5 x6 n7 w8) ∧
      (((decide (n10 = 0)) && (decide (n12 = n_2))) = false →
        ∃ n23 : Int, Wr .i64 (n7 + 1) n23 ∧
        I4 x6 n23 w8 ∧
        m5 x6 n23 w8 < m5 x6 n7 w8)) ∧
    ((decide (n7 < (x_1.n : Int))) = false →
      Q (x6.val) w8)
theorem of71 (x_0 : Sl) (x_1 : Sl) (n_2 : Int) (v : World) (Q : Value → World → Prop) (h : vc71 x_0 x_1 n_2 v Q) : Trip Try.prog 71 #[x_0.val, x_1.val, .int .i64 n_2] v Q :=
  trip_of_eq (args := [.sl x_0, .sl x_1, .num .i64 n_2]) (A := ⟨[(3, [(7, .sl), (8, .int .i64)], [])], [], [], [], [12, 20, 22, 31, 32, 34, 35, 36, 40, 42, 46, 50, 52, 53, 55, 65, 68, 70, 72, 75, 76, 77, 80, 81, 82, 84, 85, 86]⟩) Try.func71 (by kernel_rfl) (by kernel_rfl) (by kernel_rfl : vc71 x_0 x_1 n_2 v Q = _) h

/-- spec.isIn -/
def vc72 (x_0 : Sl) (n_1 : Int) (v : World) (Q : Value → World → Prop) : Prop :=
  ∃ I1 : Int → World → Prop, ∃ m2 : Int → World → Nat, I1 0 v ∧
  ∀ n3 : Int, ∀ w4 : World, I1 n3 w4 →
  ((decide (n3 < (x_0.n : Int))) = true →
    IxOk x_0 n3 ∧
    ∃ n5 : Int, w4.cell? ((elA x_0 n3 1).add 0) = some (.int .i64 n5) ∧
    ((decide (n5 = n_1)) = true →
      Q (.bool true) w4) ∧
    ((decide (n5 = n_1)) = false →
      ∃ n6 : Int, Wr .i64 (n3 + 1) n6 ∧
      I1 n6 w4 ∧
      m2 n6 w4 < m2 n3 w4)) ∧
  ((decide (n3 < (x_0.n : Int))) = false →
    Q (.bool false) w4)
theorem of72 (x_0 : Sl) (n_1 : Int) (v : World) (Q : Value → World → Prop) (h : vc72 x_0 n_1 v Q) : Trip Try.prog 72 #[x_0.val, .int .i64 n_1] v Q :=
  trip_of_eq (args := [.sl x_0, .num .i64 n_1]) (A := ⟨[(2, [(5, .int .i64)], [])], [], [], [], [12, 20, 22, 31, 32, 34, 35, 36, 40, 42, 46, 50, 52, 53, 55, 65, 68, 70, 72, 75, 76, 77, 80, 81, 82, 84, 85, 86]⟩) Try.func72 (by kernel_rfl) (by kernel_rfl) (by kernel_rfl : vc72 x_0 n_1 v Q = _) h

/-- spec.copyInts -/
def vc73 (x_0 : Sl) (v : World) (Q : Value → World → Prop) : Prop :=
  StepT Try.prog (Instr.buildSlice 23 0 #[]) v fun r1 w2 =>
    ∃ x3 : Sl, r1 = x3.val ∧
    StepT Try.prog (Builtin.append_ #[23, 23] 23 #[(x3.val), (x_0.val)]) w2 fun r4 w5 =>
      ∃ x6 : Sl, r4 = x6.val ∧
      Q (x6.val) w5
theorem of73 (x_0 : Sl) (v : World) (Q : Value → World → Prop) (h : vc73 x_0 v Q) : Trip Try.prog 73 #[x_0.val] v Q :=
  trip_of_eq (args := [.sl x_0]) (A := ⟨[], [], [], [], [12, 20, 22, 31, 32, 34, 35, 36, 40, 42, 46, 50, 52, 53, 55, 65, 68, 70, 72, 75, 76, 77, 80, 81, 82, 84, 85, 86]⟩) Try.func73 (by kernel_rfl) (by kernel_rfl) (by kernel_rfl : vc73 x_0 v Q = _) h

/-- spec.sizeAt -/
def vc75 (x_0 : Sl) (n_1 : Int) (v : World) (Q : Value → World → Prop) : Prop :=
  ∃ n1 : Int, Wr .i64 (n_1 + 1) n1 ∧
  IxOk x_0 n1 ∧
  ∃ n2 : Int, v.cell? ((elA x_0 n1 1).add 0) = some (.int .i64 n2) ∧
  (4 : Int) ≠ 0 ∧
  Q (.int .i64 (Int.tmod n2 4)) v
theorem of75 (x_0 : Sl) (n_1 : Int) (v : World) (Q : Value → World → Prop) (h : vc75 x_0 n_1 v Q) : Trip Try.prog 75 #[x_0.val, .int .i64 n_1] v Q :=
  trip_of_eq (args := [.sl x_0, .num .i64 n_1]) (A := ⟨[], [], [], [], [12, 20, 22, 31, 32, 34, 35, 36, 40, 42, 46, 50, 52, 53, 55, 65, 68, 70, 72, 75, 76, 77, 80, 81, 82, 84, 85, 86]⟩) Try.func75 (by kernel_rfl) (by kernel_rfl) (by kernel_rfl : vc75 x_0 n_1 v Q = _) h

/-- spec.isLive -/
def vc76 (x_0 : Sl) (n_1 : Int) (v : World) (Q : Value → World → Prop) : Prop :=
  ∃ n1 : Int, Wr .i64 (n_1 - 1000) n1 ∧
  ∃ n2 : Int, Wr .i64 ((x_0.n : Int) - 1) n2 ∧
  ∃ q3 : Bool, (Trip Try.prog 35 #[.int .i64 n1, .int .i64 0, .int .i64 n2] v fun r4 w5 => r4 = .bool q3 ∧ Sub v w5) ∧
  ∃ q6 : Bool, (q3 = true →
    (Trip Try.prog 46 #[.int .i64 n_1] v fun r7 w8 => r7 = .bool q6 ∧ Sub v w8)) ∧
  ∃ n9 : Int, ((q3 && q6) = true →
    Wr .i64 (n_1 - 1000) n9) ∧
  ((q3 && q6) = true →
    IxOk x_0 n9) ∧
  ∃ n10 : Int, ((q3 && q6) = true →
    v.cell? ((elA x_0 n9 3).add 0) = some (.int .i64 n10)) ∧
  Q (.bool ((q3 && q6) && (decide (n10 > 0)))) v
theorem of76 (x_0 : Sl) (n_1 : Int) (v : World) (Q : Value → World → Prop) (h : vc76 x_0 n_1 v Q) : Trip Try.prog 76 #[x_0.val, .int .i64 n_1] v Q :=
  trip_of_eq (args := [.sl x_0, .num .i64 n_1]) (A := ⟨[], [], [], [], [12, 20, 22, 31, 32, 34, 35, 36, 40, 42, 46, 50, 52, 53, 55, 65, 68, 70, 72, 75, 76, 77, 80, 81, 82, 84, 85, 86]⟩) Try.func76 (by kernel_rfl) (by kernel_rfl) (by kernel_rfl : vc76 x_0 n_1 v Q = _) h

/-- impl.cellValid -/
def vc77 (x_0 : Sl) (n1_0 : Int) (n1_1 : Int) (x1_2 : Sl) (v : World) (Q : Value → World → Prop) : Prop :=
  (((((decide (n1_0 < (-1))) || (decide (n1_1 < 0))) || (decide (n1_1 > 99))) || (decide ((x1_2.n : Int) > 3))) = true →
    Q (.bool false) v) ∧
  (((((decide (n1_0 < (-1))) || (decide (n1_1 < 0))) || (decide (n1_1 > 99))) || (decide ((x1_2.n : Int) > 3))) = false →
    ((((decide (n1_0 < 1)) && (!decide (n1_1 = 0))) || ((decide (n1_0 = 0)) && (decide ((x1_2.n : Int) > 0)))) = true →
      Q (.bool false) v) ∧
    ((((decide (n1_0 < 1)) && (!decide (n1_1 = 0))) || ((decide (n1_0 = 0)) && (decide ((x1_2.n : Int) > 0)))) = false →
      ∃ I1 : Int → World → Prop, ∃ m2 : Int → World → Nat, I1 0 v ∧
      ∀ n3 : Int, ∀ w4 : World, I1 n3 w4 →
      ((decide (n3 < (x1_2.n : Int))) = true →
        IxOk x1_2 n3 ∧
        ∃ n5 : Int, w4.cell? ((elA x1_2 n3 1).add 0) = some (.int .i64 n5) ∧
        ∃ q6 : Bool, (Trip Try.prog 50 #[x_0.val, .int .i64 n5] w4 fun r7 w8 => r7 = .bool q6 ∧ Sub w4 w8) ∧
        (((!q6) || ((decide (n1_0 < 0)) && (!decide (n5 = 0)))) = true →
          Q (.bool false) w4) ∧
        (((!q6) || ((decide (n1_0 < 0)) && (!decide (n5 = 0)))) = false →
          ∃ n9 : Int, Wr .i64 (n3 + 1) n9 ∧
          ((.num .i64 n1_0 : SV) = .num .i64 n1_0) ∧
          ((.num .i64 n1_1 : SV) = .num .i64 n1_1) ∧
          ((.sl x1_2 : SV) = .sl x1_2) ∧
          I1 n9 w4 ∧
          m2 n9 w4 < m2 n3 w4)) ∧
      ((decide (n3 < (x1_2.n : Int))) = false →
        Q (.bool true) w4)))
theorem of77 (x_0 : Sl) (n1_0 : Int) (n1_1 : Int) (x1_2 : Sl) (v : World) (Q : Value → World → Prop) (h : vc77 x_0 n1_0 n1_1 x1_2 v Q) : Trip Try.prog 77 #[x_0.val, .agg #[.int .i64 n1_0, .int .i64 n1_1, x1_2.val]] v Q :=
  trip_of_eq (args := [.sl x_0, .ag [.num .i64 n1_0, .num .i64 n1_1, .sl x1_2]]) (A := ⟨[(6, [(48, .int .i64)], [])], [], [], [], [12, 20, 22, 31, 32, 34, 35, 36, 40, 42, 46, 50, 52, 53, 55, 65, 68, 70, 72, 75, 76, 77, 80, 81, 82, 84, 85, 86]⟩) Try.func77 (by kernel_rfl) (by kernel_rfl) (by kernel_rfl : vc77 x_0 n1_0 n1_1 x1_2 v Q = _) h

/-- impl.allZero$1 -/
def vc79 (n_0 : Int) (v : World) (Q : Value → World → Prop) : Prop :=
  Q (.bool (!decide (n_0 = 0))) v
theorem of79 (n_0 : Int) (v : World) (Q : Value → World → Prop) (h : vc79 n_0 v Q) : Trip Try.prog 79 #[.int .i64 n_0] v Q :=
  trip_of_eq (args := [.num .i64 n_0]) (A := ⟨[], [], [], [], [12, 20, 22, 31, 32, 34, 35, 36, 40, 42, 46, 50, 52, 53, 55, 65, 68, 70, 72, 75, 76, 77, 80, 81, 82, 84, 85, 86]⟩) Try.func79 (by kernel_rfl) (by kernel_rfl) (by kernel_rfl : vc79 n_0 v Q = _) h

/-- spec.mapped -/
def vc80 (x_0 : Sl) (n_1 : Int) (v : World) (Q : Value → World → Prop) : Prop :=
  ∃ q1 : Bool, (Trip Try.prog 46 #[.int .i64 n_1] v fun r2 w3 => r2 = .bool q1 ∧ Sub v w3) ∧
  ((!q1) = true →
    Q (.tuple #[.int .i64 n_1, .bool true]) v) ∧
  ((!q1) = false →
    ∃ n4 : Int, Wr .i64 (n_1 - 1000) n4 ∧
    ∃ n5 : Int, (Trip Try.prog 55 #[x_0.val, .int .i64 n4] v fun r6 w7 => r6 = .int .i64 n5 ∧ Sub v w7) ∧
    ∃ n8 : Int, Wr .i64 (1000 + n5) n8 ∧
    Q (.tuple #[.int .i64 n8, .bool (decide (n5 ≥ 0))]) v)
theorem of80 (x_0 : Sl) (n_1 : Int) (v : World) (Q : Value → World → Prop) (h : vc80 x_0 n_1 v Q) : Trip Try.prog 80 #[x_0.val, .int .i64 n_1] v Q :=
  trip_of_eq (args := [.sl x_0, .num .i64 n_1]) (A := ⟨[], [], [], [], [12, 20, 22, 31, 32, 34, 35, 36, 40, 42, 46, 50, 52, 53, 55, 65, 68, 70, 72, 75, 76, 77, 80, 81, 82, 84, 85, 86]⟩) Try.func80 (by kernel_rfl) (by kernel_rfl) (by kernel_rfl : vc80 x_0 n_1 v Q = _) h

/-- spec.validCell -/
def vc81 (x_0 : Sl) (n1_0 : Int) (n1_1 : Int) (x1_2 : Sl) (v : World) (Q : Value → World → Prop) : Prop :=
  ∃ q1 : Bool, ((decide ((x1_2.n : Int) > 3)) = false →
    (Trip Try.prog 35 #[.int .i64 n1_0, .int .i64 (-1), .int .i64 999999] v fun r2 w3 => r2 = .bool q1 ∧ Sub v w3)) ∧
  (((decide ((x1_2.n : Int) > 3)) || (!q1)) = true →
    Q (.bool false) v) ∧
  (((decide ((x1_2.n : Int) > 3)) || (!q1)) = false →
    ((decide (n1_0 < 1)) = true →
      ∃ q4 : Bool, ((decide (n1_1 = 0)) = true →
        (Trip Try.prog 84 #[x1_2.val] v fun r5 w6 => r5 = .bool q4 ∧ Sub v w6)) ∧
      Q (.bool (((decide (n1_1 = 0)) && q4) && ((decide (n1_0 < 0)) || (decide ((x1_2.n : Int) = 0))))) v) ∧
    ((decide (n1_0 < 1)) = false →
      ∃ I7 : Int → World → Prop, ∃ m8 : Int → World → Nat, I7 0 v ∧
      ∀ n9 : Int, ∀ w10 : World, I7 n9 w10 →
      ((decide (n9 < (x1_2.n : Int))) = true →
        IxOk x1_2 n9 ∧
        ∃ n11 : Int, w10.cell? ((elA x1_2 n9 1).add 0) = some (.int .i64 n11) ∧
        ∃ q12 : Bool, (Trip Try.prog 85 #[x_0.val, .int .i64 n11] w10 fun r13 w14 => r13 = .bool q12 ∧ Sub w10 w14) ∧
        ((!q12) = true →
          Q (.bool false) w10) ∧
        ((!q12) = false →
          ∃ n15 : Int, Wr .i64 (n9 + 1) n15 ∧
          ((.num .i64 n1_0 : SV) = .num .i64 n1_0) ∧
          ((.num .i64 n1_1 : SV) = .num .i64 n1_1) ∧
          ((.sl x1_2 : SV) = .sl x1_2) ∧
          I7 n15 w10 ∧
          m8 n15 w10 < m8 n9 w10)) ∧
      ((decide (n9 < (x1_2.n : Int))) = false →
        ∃ q16 : Bool, (Trip Try.prog 35 #[.int .i64 n1_1, .int .i64 0, .int .i64 99] w10 fun r17 w18 => r17 = .bool q16 ∧ Sub w10 w18) ∧
        Q (.bool q16) w10)))
theorem of81 (x_0 : Sl) (n1_0 : Int) (n1_1 : Int) (x1_2 : Sl) (v : World) (Q : Value → World → Prop) (h : vc81 x_0 n1_0 n1_1 x1_2 v Q) : Trip Try.prog 81 #[x_0.val, .agg #[.int .i64 n1_0, .int .i64 n1_1, x1_2.val]] v Q :=
  trip_of_eq (args := [.sl x_0, .ag [.num .i64 n1_0, .num .i64 n1_1, .sl x1_2]]) (A := ⟨[(6, [(5, .int .i64)], [])], [], [], [], [12, 20, 22, 31, 32, 34, 35, 36, 40, 42, 46, 50, 52, 53, 55, 65, 68, 70, 72, 75, 76, 77, 80, 81, 82, 84, 85, 86]⟩) Try.func81 (by kernel_rfl) (by kernel_rfl) (by kernel_rfl : vc81 x_0 n1_0 n1_1 x1_2 v Q = _) h

/-- spec.isAcyclic -/
def vc82 (x_0 : Sl) (v : World) (Q : Value → World → Prop) : Prop :=
  StepT Try.prog (Instr.makeSlice 99 (.int .i64 (x_0.n : Int)) (.int .i64 (x_0.n : Int))) v fun r1 w2 =>
    ∃ x3 : Sl, r1 = x3.val ∧
    ∃ I4 : Int → Bool → World → Prop, ∃ m5 : Int → Bool → World → Nat, I4 0 true w2 ∧
    ∀ n6 : Int, ∀ q7 : Bool, ∀ w8 : World, I4 n6 q7 w8 →
    (q7 = true →
      ∃ I9 : Int → Bool → Int → World → Prop, ∃ m10 : Int → Bool → Int → World → Nat, I9 n6 false 0 w8 ∧
      ∀ n11 : Int, ∀ q12 : Bool, ∀ n13 : Int, ∀ w14 : World, I9 n11 q12 n13 w14 →
      ((decide (n13 < (x_0.n : Int))) = true →
        IxOk x3 n13 ∧
        ∃ q15 : Bool, w14.cell? ((elA x3 n13 1).add 0) = some (.bool q15) ∧
        ((!q15) = true →
          IxOk x_0 n13) ∧
        ∃ x16 : Sl, ((!q15) = true →
          w14.cell? ((elA x_0 n13 3).add 2) = some (x16.val)) ∧
        ∃ q17 : Bool, ((!q15) = true →
          (Trip Try.prog 86 #[x3.val, x16.val] w14 fun r18 w19 => r18 = .bool q17 ∧ Sub w14 w19)) ∧
        (((!q15) && q17) = true →
          IxOk x3 n13 ∧
          StoreAt w14 (elA x3 n13 1) 0 [.bool true] fun w20 =>
            ∃ n21 : Int, Wr .i64 (n11 + 1) n21 ∧
            ∃ n22 : Int, Wr .i64 (n13 + 1) n22 ∧
            I9 n21 true n22 w20 ∧
            m10 n21 true n22 w20 < m10 n11 q12 n13 w14) ∧
        (((!q15) && q17) = false →
          ∃ n23 : Int, Wr .i64 (n13 + 1) n23 ∧
          I9 n11 q12 n23 w14 ∧
          m10 n11 q12 n23 w14 < m10 n11 q12 n13 w14)) ∧
      ((decide (n13 < (x_0.n : Int))) = false →
        I4 n11 q12 w14 ∧
        m5 n11 q12 w14 < m5 n6 q7 w8)) ∧
    (q7 = false →
      Q (.bool (decide (n6 = (x_0.n : Int)))) w8)
theorem of82 (x_0 : Sl) (v : World) (Q : Value → World → Prop) (h : vc82 x_0 v Q) : Trip Try.prog 82 #[x_0.val] v Q :=
  trip_of_eq (args := [.sl x_0]) (A := ⟨[(4, [(4, .int .i64), (5, .bool)], []), (7, [(4, .int .i64), (5, .bool), (6, .int .i64)], [])], [], [], [], [12, 20, 22, 31, 32, 34, 35, 36, 40, 42, 46, 50, 52, 53, 55, 65, 68, 70, 72, 75, 76, 77, 80, 81, 82, 84, 85, 86]⟩) Try.func82 (by kernel_rfl) (by kernel_rfl) (by kernel_rfl : vc82 x_0 v Q = _) h

/-- spec.allZero -/
def vc84 (x_0 : Sl) (v : World) (Q : Value → World → Prop) : Prop :=
  ∃ I1 : Int → World → Prop, ∃ m2 : Int → World → Nat, I1 0 v ∧
  ∀ n3 : Int, ∀ w4 : World, I1 n3 w4 →
  ((decide (n3 < (x_0.n : Int))) = true →
    IxOk x_0 n3 ∧
    ∃ n5 : Int, w4.cell? ((elA x_0 n3 1).add 0) = some (.int .i64 n5) ∧
    ((!decide (n5 = 0)) = true →
      Q (.bool false) w4) ∧
    ((!decide (n5 = 0)) = false →
      ∃ n6 : Int, Wr .i64 (n3 + 1) n6 ∧
      I1 n6 w4 ∧
      m2 n6 w4 < m2 n3 w4)) ∧
  ((decide (n3 < (x_0.n : Int))) = false →
    Q (.bool true) w4)
theorem of84 (x_0 : Sl) (v : World) (Q : Value → World → Prop) (h : vc84 x_0 v Q) : Trip Try.prog 84 #[x_0.val] v Q :=
  trip_of_eq (args := [.sl x_0]) (A := ⟨[(2, [(3, .int .i64)], [])], [], [], [], [12, 20, 22, 31, 32, 34, 35, 36, 40, 42, 46, 50, 52, 53, 55, 65, 68, 70, 72, 75, 76, 77, 80, 81, 82, 84, 85, 86]⟩) Try.func84 (by kernel_rfl) (by kernel_rfl) (by kernel_rfl : vc84 x_0 v Q = _) h

/-- spec.isWord -/
def vc85 (x_0 : Sl) (n_1 : Int) (v : World) (Q : Value → World → Prop) : Prop :=
  ∃ q1 : Bool, (Trip Try.prog 35 #[.int .i64 n_1, .int .i64 (-999), .int .i64 999] v fun r2 w3 => r2 = .bool q1 ∧ Sub v w3) ∧
  ∃ q4 : Bool, (q1 = false →
    (Trip Try.prog 76 #[x_0.val, .int .i64 n_1] v fun r5 w6 => r5 = .bool q4 ∧ Sub v w6)) ∧
  Q (.bool (q1 || q4)) v
theorem of85 (x_0 : Sl) (n_1 : Int) (v : World) (Q : Value → World → Prop) (h : vc85 x_0 n_1 v Q) : Trip Try.prog 85 #[x_0.val, .int .i64 n_1] v Q :=
  trip_of_eq (args := [.sl x_0, .num .i64 n_1]) (A := ⟨[], [], [], [], [12, 20, 22, 31, 32, 34, 35, 36, 40, 42, 46, 50, 52, 53, 55, 65, 68, 70, 72, 75, 76, 77, 80, 81, 82, 84, 85, 86]⟩) Try.func85 (by kernel_rfl) (by kernel_rfl) (by kernel_rfl : vc85 x_0 n_1 v Q = _) h

/-- spec.allMarked -/
def vc86 (x_0 : Sl) (x_1 : Sl) (v : World) (Q : Value → World → Prop) : Prop :=
  ∃ I1 : Int → World → Prop, ∃ m2 : Int → World → Nat, I1 0 v ∧
  ∀ n3 : Int, ∀ w4 : World, I1 n3 w4 →
  ((decide (n3 < (x_1.n : Int))) = true →
    IxOk x_1 n3 ∧
    ∃ n5 : Int, w4.cell? ((elA x_1 n3 1).add 0) = some (.int .i64 n5) ∧
    ∃ q6 : Bool, (Trip Try.prog 46 #[.int .i64 n5] w4 fun r7 w8 => r7 = .bool q6 ∧ Sub w4 w8) ∧
    (q6 = true →
      IxOk x_1 n3) ∧
    ∃ n9 : Int, (q6 = true →
      w4.cell? ((elA x_1 n3 1).add 0) = some (.int .i64 n9)) ∧
    ∃ n10 : Int, (q6 = true →
      Wr .i64 (n9 - 1000) n10) ∧
    (q6 = true →
      IxOk x_0 n10) ∧
    ∃ q11 : Bool, (q6 = true →
      w4.cell? ((elA x_0 n10 1).add 0) = some (.bool q11)) ∧
    ((q6 && (!q11)) = true →
      Q (.bool false) w4) ∧
    ((q6 && (!q11)) = false →
      ∃ n12 : Int, Wr .i64 (n3 + 1) n12 ∧
      I1 n12 w4 ∧
      m2 n12 w4 < m2 n3 w4)) ∧
  ((decide (n3 < (x_1.n : Int))) = false →
    Q (.bool true) w4)
theorem of86 (x_0 : Sl) (x_1 : Sl) (v : World) (Q : Value → World → Prop) (h : vc86 x_0 x_1 v Q) : Trip Try.prog 86 #[x_0.val, x_1.val] v Q :=
  trip_of_eq (args := [.sl x_0, .sl x_1]) (A := ⟨[(2, [(5, .int .i64)], [])], [], [], [], [12, 20, 22, 31, 32, 34, 35, 36, 40, 42, 46, 50, 52, 53, 55, 65, 68, 70, 72, 75, 76, 77, 80, 81, 82, 84, 85, 86]⟩) Try.func86 (by kernel_rfl) (by kernel_rfl) (by kernel_rfl : vc86 x_0 x_1 v Q = _) h

end Go.Vc
