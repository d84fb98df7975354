/- Part of the proofs about the heaps and memories: a law is joined in the text whose name ends in W and the law. -/
import Derived.Test.YtmjainglhgefoaaEVcFn
import Derived.Test.YtmjainglhgefoaaProg
import Derived.KernelRfl
namespace Go.Vc
open Go Go.Proofs
set_option linter.all false
/-- laws.FnLazyAllocRoom -/
def vc3 (x_0 : Sl) (v : World) (Q : Value → World → Prop) : Prop :=
  ((decide ((x_0.n : Int) > 1048576)) = true →
    Q (.bool true) v) ∧
  ((decide ((x_0.n : Int) > 1048576)) = false →
    Trip Try.prog 15 #[x_0.val] v fun r1 w2 =>
      ∃ x3 : Sl, ∃ x4 : Sl, ∃ n5 : Int, ∃ x6 : Sl, r1 = .tuple #[.agg #[x3.val, x4.val], .int .i64 n5, x6.val] ∧
      Trip Try.prog 16 #[.agg #[x3.val, x4.val], .int .i64 n5, x6.val] w2 fun r7 w8 =>
        ∃ x9 : Sl, ∃ x10 : Sl, ∃ n11 : Int, r7 = .tuple #[.agg #[x9.val, x10.val], .int .i64 n11] ∧
        Trip Try.prog 17 #[.agg #[x3.val, x4.val], .int .i64 n5, x6.val] w8 fun r12 w13 =>
          ∃ x14 : Sl, ∃ x15 : Sl, ∃ n16 : Int, r12 = .tuple #[.agg #[x14.val, x15.val], .int .i64 n16] ∧
          ∃ q17 : Bool, (Trip Try.prog 18 #[.agg #[x9.val, x10.val], .agg #[x14.val, x15.val]] w13 fun r18 w19 => r18 = .bool q17 ∧ Sub w13 w19) ∧
          ((((!q17) || (!decide (n11 = n16))) || (decide (n11 = 0))) = true →
            ∃ q20 : Bool, (Trip Try.prog 18 #[.agg #[x9.val, x10.val], .agg #[x14.val, x15.val]] w13 fun r21 w22 => r21 = .bool q20 ∧ Sub w13 w22) ∧
            Q (.bool (q20 && (decide (n11 = n16)))) w13) ∧
          ((((!q17) || (!decide (n11 = n16))) || (decide (n11 = 0))) = false →
            ((decide ((x4.n : Int) = 0)) = true →
              ∃ n23 : Int, Wr .i64 ((x3.n : Int) + 1) n23 ∧
              Q (.bool ((decide ((x9.n : Int) ≤ n23)) && (decide ((x10.n : Int) = 0)))) w13) ∧
            ((decide ((x4.n : Int) = 0)) = false →
              ∃ n24 : Int, ((decide ((x9.n : Int) ≤ (x3.n : Int))) = true →
                Wr .i64 ((x4.n : Int) - 1) n24) ∧
              ∃ n25 : Int, ((decide ((x9.n : Int) ≤ (x3.n : Int))) = true →
                Wr .i64 (n24 + 3) n25) ∧
              Q (.bool ((decide ((x9.n : Int) ≤ (x3.n : Int))) && (decide ((x10.n : Int) ≤ n25)))) w13)))
theorem of3 (x_0 : Sl) (v : World) (Q : Value → World → Prop) (h : vc3 x_0 v Q) : Trip Try.prog 3 #[x_0.val] v Q :=
  trip_of_eq (args := [.sl x_0]) (A := ⟨[], [], [], [], [18, 24, 25, 26, 28, 32, 34, 37, 39, 43, 48, 49, 50, 55, 56, 59, 66, 68, 69, 72, 73, 76, 78, 86, 87, 88, 89, 93, 95, 96, 99, 103, 112, 113, 114, 118, 119, 123, 126, 128, 130, 134, 135, 137, 141, 142, 143]⟩) Try.func3 (by kernel_rfl) (by kernel_rfl) (by kernel_rfl : vc3 x_0 v Q = _) h

/-- laws.FnLazyDrop -/
def vc4 (x_0 : Sl) (v : World) (Q : Value → World → Prop) : Prop :=
  ((decide ((x_0.n : Int) > 1048576)) = true →
    Q (.bool true) v) ∧
  ((decide ((x_0.n : Int) > 1048576)) = false →
    Trip Try.prog 19 #[x_0.val] v fun r1 w2 =>
      ∃ x3 : Sl, ∃ x4 : Sl, ∃ n5 : Int, r1 = .tuple #[.agg #[x3.val, x4.val], .int .i64 n5] ∧
      Trip Try.prog 20 #[.agg #[x3.val, x4.val], .int .i64 n5] w2 fun r6 w7 =>
        ∃ x8 : Sl, ∃ x9 : Sl, ∃ q10 : Bool, r6 = .tuple #[.agg #[x8.val, x9.val], .bool q10] ∧
        Trip Try.prog 21 #[.agg #[x3.val, x4.val], .int .i64 n5] w7 fun r11 w12 =>
          ∃ x13 : Sl, ∃ x14 : Sl, ∃ q15 : Bool, r11 = .tuple #[.agg #[x13.val, x14.val], .bool q15] ∧
          ∃ q16 : Bool, (Trip Try.prog 18 #[.agg #[x8.val, x9.val], .agg #[x13.val, x14.val]] w12 fun r17 w18 => r17 = .bool q16 ∧ Sub w12 w18) ∧
          ((((!q16) || (!(q10 == q15))) || (!q10)) = true →
            ∃ q19 : Bool, (Trip Try.prog 18 #[.agg #[x8.val, x9.val], .agg #[x13.val, x14.val]] w12 fun r20 w21 => r20 = .bool q19 ∧ Sub w12 w21) ∧
            Q (.bool (q19 && (q10 == q15))) w12) ∧
          ((((!q16) || (!(q10 == q15))) || (!q10)) = false →
            Trip Try.prog 22 #[.agg #[x8.val, x9.val]] w12 fun r22 w23 =>
              ∃ x24 : Sl, ∃ q25 : Bool, r22 = .tuple #[x24.val, .bool q25] ∧
              Trip Try.prog 22 #[.agg #[x3.val, x4.val]] w23 fun r26 w27 =>
                ∃ x28 : Sl, ∃ q29 : Bool, r26 = .tuple #[x28.val, .bool q29] ∧
                Trip Try.prog 23 #[x28.val, .int .i64 n5] w27 fun r30 w31 =>
                  ∃ x32 : Sl, ∃ q33 : Bool, r30 = .tuple #[x32.val, .bool q33] ∧
                  ∃ q34 : Bool, (Trip Try.prog 24 #[.agg #[x8.val, x9.val]] w31 fun r35 w36 => r35 = .bool q34 ∧ Sub w31 w36) ∧
                  ∃ q37 : Bool, ((((q34 && q25) && q29) && q33) = true →
                    (Trip Try.prog 25 #[x24.val, x32.val] w31 fun r38 w39 => r38 = .bool q37 ∧ Sub w31 w39)) ∧
                  Q (.bool ((((q34 && q25) && q29) && q33) && q37)) w31))
theorem of4 (x_0 : Sl) (v : World) (Q : Value → World → Prop) (h : vc4 x_0 v Q) : Trip Try.prog 4 #[x_0.val] v Q :=
  trip_of_eq (args := [.sl x_0]) (A := ⟨[], [], [], [], [18, 24, 25, 26, 28, 32, 34, 37, 39, 43, 48, 49, 50, 55, 56, 59, 66, 68, 69, 72, 73, 76, 78, 86, 87, 88, 89, 93, 95, 96, 99, 103, 112, 113, 114, 118, 119, 123, 126, 128, 130, 134, 135, 137, 141, 142, 143]⟩) Try.func4 (by kernel_rfl) (by kernel_rfl) (by kernel_rfl : vc4 x_0 v Q = _) h

/-- laws.FnLazyAlloc -/
def vc5 (x_0 : Sl) (v : World) (Q : Value → World → Prop) : Prop :=
  ((decide ((x_0.n : Int) > 1048576)) = true →
    Q (.bool true) v) ∧
  ((decide ((x_0.n : Int) > 1048576)) = false →
    Trip Try.prog 15 #[x_0.val] v fun r1 w2 =>
      ∃ x3 : Sl, ∃ x4 : Sl, ∃ n5 : Int, ∃ x6 : Sl, r1 = .tuple #[.agg #[x3.val, x4.val], .int .i64 n5, x6.val] ∧
      Trip Try.prog 16 #[.agg #[x3.val, x4.val], .int .i64 n5, x6.val] w2 fun r7 w8 =>
        ∃ x9 : Sl, ∃ x10 : Sl, ∃ n11 : Int, r7 = .tuple #[.agg #[x9.val, x10.val], .int .i64 n11] ∧
        Trip Try.prog 17 #[.agg #[x3.val, x4.val], .int .i64 n5, x6.val] w8 fun r12 w13 =>
          ∃ x14 : Sl, ∃ x15 : Sl, ∃ n16 : Int, r12 = .tuple #[.agg #[x14.val, x15.val], .int .i64 n16] ∧
          ∃ q17 : Bool, (Trip Try.prog 18 #[.agg #[x9.val, x10.val], .agg #[x14.val, x15.val]] w13 fun r18 w19 => r18 = .bool q17 ∧ Sub w13 w19) ∧
          ((((!q17) || (!decide (n11 = n16))) || (decide (n11 = 0))) = true →
            ∃ q20 : Bool, (Trip Try.prog 18 #[.agg #[x9.val, x10.val], .agg #[x14.val, x15.val]] w13 fun r21 w22 => r21 = .bool q20 ∧ Sub w13 w22) ∧
            Q (.bool (q20 && (decide (n11 = n16)))) w13) ∧
          ((((!q17) || (!decide (n11 = n16))) || (decide (n11 = 0))) = false →
            Trip Try.prog 22 #[.agg #[x9.val, x10.val]] w13 fun r23 w24 =>
              ∃ x25 : Sl, ∃ q26 : Bool, r23 = .tuple #[x25.val, .bool q26] ∧
              Trip Try.prog 22 #[.agg #[x3.val, x4.val]] w24 fun r27 w28 =>
                ∃ x29 : Sl, ∃ q30 : Bool, r27 = .tuple #[x29.val, .bool q30] ∧
                ∃ n31 : Int, Wr .i64 (n11 - 1000) n31 ∧
                ∃ q32 : Bool, (Trip Try.prog 24 #[.agg #[x9.val, x10.val]] w28 fun r33 w34 => r33 = .bool q32 ∧ Sub w28 w34) ∧
                ((((q32 && q26) && q30) && (decide (n31 < (x25.n : Int)))) = true →
                  IxOk x25 n31) ∧
                ∃ n35 : Int, ∃ n36 : Int, ∃ x37 : Sl, ((((q32 && q26) && q30) && (decide (n31 < (x25.n : Int)))) = true →
                  w28.cell? ((elA x25 n31 3).add 0) = some (.int .i64 n35) ∧
                  w28.cell? ((elA x25 n31 3).add 1) = some (.int .i64 n36) ∧
                  w28.cell? ((elA x25 n31 3).add 2) = some (x37.val)) ∧
                ∃ q38 : Bool, ((((q32 && q26) && q30) && (decide (n31 < (x25.n : Int)))) = true →
                  (Trip Try.prog 26 #[.agg #[.int .i64 n35, .int .i64 n36, x37.val], .agg #[.int .i64 1, .int .i64 n5, x6.val]] w28 fun r39 w40 => r39 = .bool q38 ∧ Sub w28 w40)) ∧
                (((((q32 && q26) && q30) && (decide (n31 < (x25.n : Int)))) && q38) = true →
                  Trip Try.prog 27 #[x25.val] w28 fun r41 w42 =>
                    ∃ n43 : Int, r41 = .int .i64 n43 ∧
                    Trip Try.prog 27 #[x29.val] w42 fun r44 w45 =>
                      ∃ n46 : Int, r44 = .int .i64 n46 ∧
                      ∃ n47 : Int, Wr .i64 (n46 + 1) n47 ∧
                      Q (.bool (decide (n43 = n47))) w45) ∧
                (((((q32 && q26) && q30) && (decide (n31 < (x25.n : Int)))) && q38) = false →
                  Q (.bool false) w28)))
theorem of5 (x_0 : Sl) (v : World) (Q : Value → World → Prop) (h : vc5 x_0 v Q) : Trip Try.prog 5 #[x_0.val] v Q :=
  trip_of_eq (args := [.sl x_0]) (A := ⟨[], [], [], [], [18, 24, 25, 26, 28, 32, 34, 37, 39, 43, 48, 49, 50, 55, 56, 59, 66, 68, 69, 72, 73, 76, 78, 86, 87, 88, 89, 93, 95, 96, 99, 103, 112, 113, 114, 118, 119, 123, 126, 128, 130, 134, 135, 137, 141, 142, 143]⟩) Try.func5 (by kernel_rfl) (by kernel_rfl) (by kernel_rfl : vc5 x_0 v Q = _) h

/-- laws.FnExactDupBlock -/
def vc15 (x_0 : Sl) (v : World) (Q : Value → World → Prop) : Prop :=
  Trip Try.prog 60 #[x_0.val] v fun r1 w2 =>
    ∃ a3 : Addr, r1 = .pointer (some (a3.add 0)) ∧
    Trip Try.prog 61 #[.pointer (some (a3.add 0))] w2 fun r4 w5 =>
      ∃ x6 : Sl, ∃ x7 : Sl, r4 = .agg #[x6.val, x7.val] ∧
      StepT Try.prog (Instr.buildSlice 24 0 #[]) w5 fun r8 w9 =>
        ∃ x10 : Sl, r8 = x10.val ∧
        StepT Try.prog (Instr.buildSlice 24 6 #[(0, (.int .i64 2)), (1, (.int .i64 1)), (2, (.int .i64 3)), (3, (.int .i64 0)), (4, (.int .i64 2)), (5, (.int .i64 4))]) w9 fun r11 w12 =>
          ∃ x13 : Sl, r11 = x13.val ∧
          Trip Try.prog 62 #[.pointer (some (a3.add 0)), x13.val] w12 fun r14 w15 =>
            ∃ n16 : Int, r14 = .int .i64 n16 ∧
            ∃ I17 : Sl → Int → World → Prop, ∃ m18 : Sl → Int → World → Nat, I17 x10 n16 w15 ∧
            ∀ x19 : Sl, ∀ n20 : Int, ∀ w21 : World, I17 x19 n20 w21 →
            ((decide (n20 > 0)) = true →
              Trip Try.prog 63 #[.pointer (some (a3.add 0)), .int .i64 (x6.n : Int)] w21 fun r22 w23 =>
                ∃ n24 : Int, r22 = .int .i64 n24 ∧
                StepT Try.prog (Instr.buildSlice 24 1 #[(0, (.int .i64 n24))]) w23 fun r25 w26 =>
                  ∃ x27 : Sl, r25 = x27.val ∧
                  StepT Try.prog (Builtin.append_ #[24, 24] 24 #[(x19.val), (x27.val)]) w26 fun r28 w29 =>
                    ∃ x30 : Sl, r28 = x30.val ∧
                    ∃ n31 : Int, Wr .i64 (n20 - 1) n31 ∧
                    ((.sl (Sl.mk none 0 0) : SV) = .sl (Sl.mk none 0 0)) ∧
                    ((.sl (Sl.mk none 0 0) : SV) = .sl (Sl.mk none 0 0)) ∧
                    ((.sl x6 : SV) = .sl x6) ∧
                    ((.sl x7 : SV) = .sl x7) ∧
                    I17 x30 n31 w29 ∧
                    m18 x30 n31 w29 < m18 x19 n20 w21) ∧
            ((decide (n20 > 0)) = false →
              StepT Try.prog (Instr.buildSlice 24 7 #[(0, (.int .i64 1)), (1, (.int .i64 3)), (2, (.int .i64 0)), (3, (.int .i64 99)), (4, (.int .i64 2)), (5, (.int .i64 100)), (6, (.int .i64 (-1)))]) w21 fun r32 w33 =>
                ∃ x34 : Sl, r32 = x34.val ∧
                Trip Try.prog 62 #[.pointer (some (a3.add 0)), x34.val] w33 fun r35 w36 =>
                  ∃ n37 : Int, r35 = .int .i64 n37 ∧
                  Q (.tuple #[.agg #[x6.val, x7.val], .int .i64 n37, x19.val]) w36)
theorem of15 (x_0 : Sl) (v : World) (Q : Value → World → Prop) (h : vc15 x_0 v Q) : Trip Try.prog 15 #[x_0.val] v Q :=
  trip_of_eq (args := [.sl x_0]) (A := ⟨[(5, [(7, .sl), (8, .int .i64)], [])], [], [(8, [])], [], [18, 24, 25, 26, 28, 32, 34, 37, 39, 43, 48, 49, 50, 55, 56, 59, 66, 68, 69, 72, 73, 76, 78, 86, 87, 88, 89, 93, 95, 96, 99, 103, 112, 113, 114, 118, 119, 123, 126, 128, 130, 134, 135, 137, 141, 142, 143]⟩) Try.func15 (by kernel_rfl) (by kernel_rfl) (by kernel_rfl : vc15 x_0 v Q = _) h

/-- impl.LazyAlloc -/
def vc16 (x0_0 : Sl) (x0_1 : Sl) (n_1 : Int) (x_2 : Sl) (v : World) (Q : Value → World → Prop) : Prop :=
  ∃ q1 : Bool, (Trip Try.prog 24 #[.agg #[x0_0.val, x0_1.val]] v fun r2 w3 => r2 = .bool q1 ∧ Sub v w3) ∧
  ((!q1) = true →
    Q (.tuple #[.agg #[.slice none 0 0, .slice none 0 0], .int .i64 0]) v) ∧
  ((!q1) = false →
    Trip Try.prog 64 #[.agg #[x0_0.val, x0_1.val]] v fun r4 w5 =>
      ∃ x6 : Sl, ∃ x7 : Sl, r4 = .agg #[x6.val, x7.val] ∧
      NewAt w5 (.cells #[.slice none 0 0, .slice none 0 0] 26 (0, 0)) fun a8 w9 =>
        StoreAt w9 a8 0 [x6.val, x7.val] fun w10 =>
          Trip Try.prog 65 #[.pointer (some (a8.add 0)), .int .i64 1] w10 fun r11 w12 =>
            r11 = .tuple #[] ∧
            ∃ I13 : Int → World → Prop, ∃ m14 : Int → World → Nat, I13 0 w12 ∧
            ∀ n15 : Int, ∀ w16 : World, I13 n15 w16 →
            ((decide (n15 < (x_2.n : Int))) = true →
              IxOk x_2 n15 ∧
              ∃ n17 : Int, w16.cell? ((elA x_2 n15 1).add 0) = some (.int .i64 n17) ∧
              ∃ x18 : Sl, w16.cell? (a8.add 0) = some (x18.val) ∧
              ∃ q19 : Bool, (Trip Try.prog 66 #[x18.val, .int .i64 n17] w16 fun r20 w21 => r20 = .bool q19 ∧ Sub w16 w21) ∧
              ((!q19) = true →
                Q (.tuple #[.agg #[.slice none 0 0, .slice none 0 0], .int .i64 0]) w16) ∧
              ((!q19) = false →
                ∃ n22 : Int, Wr .i64 (n15 + 1) n22 ∧
                ((.sl x0_0 : SV) = .sl x0_0) ∧
                ((.sl x0_1 : SV) = .sl x0_1) ∧
                ((.sl (Sl.mk none 0 0) : SV) = .sl (Sl.mk none 0 0)) ∧
                ((.sl (Sl.mk none 0 0) : SV) = .sl (Sl.mk none 0 0)) ∧
                I13 n22 w16 ∧
                m14 n22 w16 < m14 n15 w16)) ∧
            ((decide (n15 < (x_2.n : Int))) = false →
              Trip Try.prog 67 #[x_2.val] w16 fun r23 w24 =>
                ∃ x25 : Sl, r23 = x25.val ∧
                ∃ I26 : Int → World → Prop, ∃ m27 : Int → World → Nat, I26 0 w24 ∧
                ∀ n28 : Int, ∀ w29 : World, I26 n28 w29 →
                ∃ x30 : Sl, w29.cell? (a8.add 0) = some (x30.val) ∧
                ∃ x31 : Sl, ((decide (n28 < (x30.n : Int))) = true →
                  w29.cell? (a8.add 0) = some (x31.val)) ∧
                ((decide (n28 < (x30.n : Int))) = true →
                  IxOk x31 n28) ∧
                ∃ n32 : Int, ((decide (n28 < (x30.n : Int))) = true →
                  w29.cell? ((elA x31 n28 3).add 0) = some (.int .i64 n32)) ∧
                ∃ x33 : Sl, ((!decide (n32 = 0)) = false →
                  (decide (n28 < (x30.n : Int))) = true →
                  w29.cell? (a8.add 1) = some (x33.val)) ∧
                ∃ q34 : Bool, ((!decide (n32 = 0)) = false →
                  (decide (n28 < (x30.n : Int))) = true →
                  (Trip Try.prog 68 #[x33.val, .int .i64 n28] w29 fun r35 w36 => r35 = .bool q34 ∧ Sub w29 w36)) ∧
                (((decide (n28 < (x30.n : Int))) && ((!decide (n32 = 0)) || q34)) = true →
                  ∃ n37 : Int, Wr .i64 (n28 + 1) n37 ∧
                  ((.sl x0_0 : SV) = .sl x0_0) ∧
                  ((.sl x0_1 : SV) = .sl x0_1) ∧
                  ((.sl (Sl.mk none 0 0) : SV) = .sl (Sl.mk none 0 0)) ∧
                  ((.sl (Sl.mk none 0 0) : SV) = .sl (Sl.mk none 0 0)) ∧
                  ((.num .i64 1 : SV) = .num .i64 1) ∧
                  ((.num .i64 n_1 : SV) = .num .i64 n_1) ∧
                  ((.sl x25 : SV) = .sl x25) ∧
                  I26 n37 w29 ∧
                  m27 n37 w29 < m27 n28 w29) ∧
                (((decide (n28 < (x30.n : Int))) && ((!decide (n32 = 0)) || q34)) = false →
                  ∃ x38 : Sl, w29.cell? (a8.add 0) = some (x38.val) ∧
                  ((decide (n28 = (x38.n : Int))) = true →
                    ∃ x39 : Sl, w29.cell? (a8.add 0) = some (x39.val) ∧
                    StepT Try.prog (Instr.buildSlice 23 1 #[(0, (.agg #[.int .i64 1, .int .i64 n_1, x25.val]))]) w29 fun r40 w41 =>
                      ∃ x42 : Sl, r40 = x42.val ∧
                      StepT Try.prog (Builtin.append_ #[23, 23] 23 #[(x39.val), (x42.val)]) w41 fun r43 w44 =>
                        ∃ x45 : Sl, r43 = x45.val ∧
                        StoreAt w44 a8 0 [x45.val] fun w46 =>
                          ∃ x47 : Sl, ∃ x48 : Sl, (w46.cell? (a8.add 0) = some (x47.val) ∧
                            w46.cell? (a8.add 1) = some (x48.val)) ∧
                          ∃ q49 : Bool, (Trip Try.prog 24 #[.agg #[x47.val, x48.val]] w46 fun r50 w51 => r50 = .bool q49 ∧ Sub w46 w51) ∧
                          ((!q49) = true →
                            Q (.tuple #[.agg #[.slice none 0 0, .slice none 0 0], .int .i64 0]) w46) ∧
                          ((!q49) = false →
                            ∃ x52 : Sl, ∃ x53 : Sl, (w46.cell? (a8.add 0) = some (x52.val) ∧
                              w46.cell? (a8.add 1) = some (x53.val)) ∧
                            ∃ n54 : Int, Wr .i64 (1000 + n28) n54 ∧
                            Q (.tuple #[.agg #[x52.val, x53.val], .int .i64 n54]) w46)) ∧
                  ((decide (n28 = (x38.n : Int))) = false →
                    ∃ x55 : Sl, w29.cell? (a8.add 0) = some (x55.val) ∧
                    IxOk x55 n28 ∧
                    StoreAt w29 (elA x55 n28 3) 0 [.int .i64 1, .int .i64 n_1, x25.val] fun w56 =>
                      ∃ x57 : Sl, ∃ x58 : Sl, (w56.cell? (a8.add 0) = some (x57.val) ∧
                        w56.cell? (a8.add 1) = some (x58.val)) ∧
                      ∃ q59 : Bool, (Trip Try.prog 24 #[.agg #[x57.val, x58.val]] w56 fun r60 w61 => r60 = .bool q59 ∧ Sub w56 w61) ∧
                      ((!q59) = true →
                        Q (.tuple #[.agg #[.slice none 0 0, .slice none 0 0], .int .i64 0]) w56) ∧
                      ((!q59) = false →
                        ∃ x62 : Sl, ∃ x63 : Sl, (w56.cell? (a8.add 0) = some (x62.val) ∧
                          w56.cell? (a8.add 1) = some (x63.val)) ∧
                        ∃ n64 : Int, Wr .i64 (1000 + n28) n64 ∧
                        Q (.tuple #[.agg #[x62.val, x63.val], .int .i64 n64]) w56)))))
theorem of16 (x0_0 : Sl) (x0_1 : Sl) (n_1 : Int) (x_2 : Sl) (v : World) (Q : Value → World → Prop) (h : vc16 x0_0 x0_1 n_1 x_2 v Q) : Trip Try.prog 16 #[.agg #[x0_0.val, x0_1.val], .int .i64 n_1, x_2.val] v Q :=
  trip_of_eq (args := [.ag [.sl x0_0, .sl x0_1], .num .i64 n_1, .sl x_2]) (A := ⟨[(6, [(22, .int .i64)], []), (13, [(12, .int .i64)], [])], [], [], [8], [18, 24, 25, 26, 28, 32, 34, 37, 39, 43, 48, 49, 50, 55, 56, 59, 66, 68, 69, 72, 73, 76, 78, 86, 87, 88, 89, 93, 95, 96, 99, 103, 112, 113, 114, 118, 119, 123, 126, 128, 130, 134, 135, 137, 141, 142, 143]⟩) Try.func16 (by kernel_rfl) (by kernel_rfl) (by kernel_rfl : vc16 x0_0 x0_1 n_1 x_2 v Q = _) h

/-- spec.LazyAlloc -/
def vc17 (x0_0 : Sl) (x0_1 : Sl) (n_1 : Int) (x_2 : Sl) (v : World) (Q : Value → World → Prop) : Prop :=
  ∃ q1 : Bool, (Trip Try.prog 69 #[.agg #[x0_0.val, x0_1.val]] v fun r2 w3 => r2 = .bool q1 ∧ Sub v w3) ∧
  ((!q1) = true →
    Q (.tuple #[.agg #[.slice none 0 0, .slice none 0 0], .int .i64 0]) v) ∧
  ((!q1) = false →
    Trip Try.prog 71 #[.agg #[x0_0.val, x0_1.val]] v fun r4 w5 =>
      ∃ x6 : Sl, ∃ x7 : Sl, r4 = .agg #[x6.val, x7.val] ∧
      Trip Try.prog 70 #[.agg #[x6.val, x7.val], .int .i64 1] w5 fun r8 w9 =>
        ∃ x10 : Sl, ∃ x11 : Sl, r8 = .agg #[x10.val, x11.val] ∧
        ∃ I12 : Int → World → Prop, ∃ m13 : Int → World → Nat, I12 0 w9 ∧
        ∀ n14 : Int, ∀ w15 : World, I12 n14 w15 →
        ((decide (n14 < (x_2.n : Int))) = true →
          IxOk x_2 n14 ∧
          ∃ n16 : Int, w15.cell? ((elA x_2 n14 1).add 0) = some (.int .i64 n16) ∧
          ∃ q17 : Bool, (Trip Try.prog 72 #[x10.val, .int .i64 n16] w15 fun r18 w19 => r18 = .bool q17 ∧ Sub w15 w19) ∧
          ((!q17) = true →
            Q (.tuple #[.agg #[.slice none 0 0, .slice none 0 0], .int .i64 0]) w15) ∧
          ((!q17) = false →
            ∃ n20 : Int, Wr .i64 (n14 + 1) n20 ∧
            ((.sl x0_0 : SV) = .sl x0_0) ∧
            ((.sl x0_1 : SV) = .sl x0_1) ∧
            ((.sl (Sl.mk none 0 0) : SV) = .sl (Sl.mk none 0 0)) ∧
            ((.sl (Sl.mk none 0 0) : SV) = .sl (Sl.mk none 0 0)) ∧
            ((.sl x10 : SV) = .sl x10) ∧
            ((.sl x11 : SV) = .sl x11) ∧
            I12 n20 w15 ∧
            m13 n20 w15 < m13 n14 w15)) ∧
        ((decide (n14 < (x_2.n : Int))) = false →
          ∃ n21 : Int, (Trip Try.prog 73 #[.agg #[x10.val, x11.val]] w15 fun r22 w23 => r22 = .int .i64 n21 ∧ Sub w15 w23) ∧
          Trip Try.prog 74 #[x10.val, .int .i64 n21, .int .i64 n_1, x_2.val] w15 fun r24 w25 =>
            ∃ x26 : Sl, r24 = x26.val ∧
            ∃ q27 : Bool, (Trip Try.prog 69 #[.agg #[x26.val, x11.val]] w25 fun r28 w29 => r28 = .bool q27 ∧ Sub w25 w29) ∧
            ((!q27) = true →
              Q (.tuple #[.agg #[.slice none 0 0, .slice none 0 0], .int .i64 0]) w25) ∧
            ((!q27) = false →
              ∃ n30 : Int, Wr .i64 (1000 + n21) n30 ∧
              Q (.tuple #[.agg #[x26.val, x11.val], .int .i64 n30]) w25)))
theorem of17 (x0_0 : Sl) (x0_1 : Sl) (n_1 : Int) (x_2 : Sl) (v : World) (Q : Value → World → Prop) (h : vc17 x0_0 x0_1 n_1 x_2 v Q) : Trip Try.prog 17 #[.agg #[x0_0.val, x0_1.val], .int .i64 n_1, x_2.val] v Q :=
  trip_of_eq (args := [.ag [.sl x0_0, .sl x0_1], .num .i64 n_1, .sl x_2]) (A := ⟨[(5, [(9, .int .i64)], [])], [], [], [], [18, 24, 25, 26, 28, 32, 34, 37, 39, 43, 48, 49, 50, 55, 56, 59, 66, 68, 69, 72, 73, 76, 78, 86, 87, 88, 89, 93, 95, 96, 99, 103, 112, 113, 114, 118, 119, 123, 126, 128, 130, 134, 135, 137, 141, 142, 143]⟩) Try.func17 (by kernel_rfl) (by kernel_rfl) (by kernel_rfl : vc17 x0_0 x0_1 n_1 x_2 v Q = _) h

/-- laws.equalLazy -/
def vc18 (x0_0 : Sl) (x0_1 : Sl) (x1_0 : Sl) (x1_1 : Sl) (v : World) (Q : Value → World → Prop) : Prop :=
  ∃ q1 : Bool, (Trip Try.prog 25 #[x0_0.val, x1_0.val] v fun r2 w3 => r2 = .bool q1 ∧ Sub v w3) ∧
  ∃ q4 : Bool, (q1 = true →
    (Trip Try.prog 56 #[x0_1.val, x1_1.val] v fun r5 w6 => r5 = .bool q4 ∧ Sub v w6)) ∧
  Q (.bool (q1 && q4)) v
theorem of18 (x0_0 : Sl) (x0_1 : Sl) (x1_0 : Sl) (x1_1 : Sl) (v : World) (Q : Value → World → Prop) (h : vc18 x0_0 x0_1 x1_0 x1_1 v Q) : Trip Try.prog 18 #[.agg #[x0_0.val, x0_1.val], .agg #[x1_0.val, x1_1.val]] v Q :=
  trip_of_eq (args := [.ag [.sl x0_0, .sl x0_1], .ag [.sl x1_0, .sl x1_1]]) (A := ⟨[], [], [], [], [18, 24, 25, 26, 28, 32, 34, 37, 39, 43, 48, 49, 50, 55, 56, 59, 66, 68, 69, 72, 73, 76, 78, 86, 87, 88, 89, 93, 95, 96, 99, 103, 112, 113, 114, 118, 119, 123, 126, 128, 130, 134, 135, 137, 141, 142, 143]⟩) Try.func18 (by kernel_rfl) (by kernel_rfl) (by kernel_rfl : vc18 x0_0 x0_1 x1_0 x1_1 v Q = _) h

/-- spec.DrawLazyDrop -/
def vc19 (x_0 : Sl) (v : World) (Q : Value → World → Prop) : Prop :=
  Trip Try.prog 60 #[x_0.val] v fun r1 w2 =>
    ∃ a3 : Addr, r1 = .pointer (some (a3.add 0)) ∧
    Trip Try.prog 61 #[.pointer (some (a3.add 0))] w2 fun r4 w5 =>
      ∃ x6 : Sl, ∃ x7 : Sl, r4 = .agg #[x6.val, x7.val] ∧
      Trip Try.prog 63 #[.pointer (some (a3.add 0)), .int .i64 (x6.n : Int)] w5 fun r8 w9 =>
        ∃ n10 : Int, r8 = .int .i64 n10 ∧
        Q (.tuple #[.agg #[x6.val, x7.val], .int .i64 n10]) w9
theorem of19 (x_0 : Sl) (v : World) (Q : Value → World → Prop) (h : vc19 x_0 v Q) : Trip Try.prog 19 #[x_0.val] v Q :=
  trip_of_eq (args := [.sl x_0]) (A := ⟨[], [], [(3, [])], [], [18, 24, 25, 26, 28, 32, 34, 37, 39, 43, 48, 49, 50, 55, 56, 59, 66, 68, 69, 72, 73, 76, 78, 86, 87, 88, 89, 93, 95, 96, 99, 103, 112, 113, 114, 118, 119, 123, 126, 128, 130, 134, 135, 137, 141, 142, 143]⟩) Try.func19 (by kernel_rfl) (by kernel_rfl) (by kernel_rfl : vc19 x_0 v Q = _) h

/-- impl.LazyDrop -/
def vc20 (x0_0 : Sl) (x0_1 : Sl) (n_1 : Int) (v : World) (Q : Value → World → Prop) : Prop :=
  Trip Try.prog 75 #[.agg #[x0_0.val, x0_1.val]] v fun r1 w2 =>
    ∃ x3 : Sl, ∃ q4 : Bool, r1 = .tuple #[x3.val, .bool q4] ∧
    ∃ q5 : Bool, ((!q4) = false →
      (Trip Try.prog 66 #[x0_0.val, .int .i64 n_1] w2 fun r6 w7 => r6 = .bool q5 ∧ Sub w2 w7)) ∧
    (((!q4) || (!q5)) = true →
      Q (.tuple #[.agg #[.slice none 0 0, .slice none 0 0], .bool false]) w2) ∧
    (((!q4) || (!q5)) = false →
      Trip Try.prog 64 #[.agg #[x0_0.val, x0_1.val]] w2 fun r8 w9 =>
        ∃ x10 : Sl, ∃ x11 : Sl, r8 = .agg #[x10.val, x11.val] ∧
        NewAt w9 (.cells #[.slice none 0 0, .slice none 0 0] 26 (0, 0)) fun a12 w13 =>
          StoreAt w13 a12 0 [x10.val, x11.val] fun w14 =>
            ∃ n15 : Int, ∃ q16 : Bool, (Trip Try.prog 76 #[x0_0.val, .int .i64 n_1] w14 fun r17 w18 => r17 = .tuple #[.int .i64 n15, .bool q16] ∧ Sub w14 w18) ∧
            (q16 = true →
              IxOk x0_0 n15 ∧
              ∃ n19 : Int, w14.cell? ((elA x0_0 n15 3).add 0) = some (.int .i64 n19) ∧
              IxOk x3 n15 ∧
              ∃ n20 : Int, w14.cell? ((elA x3 n15 1).add 0) = some (.int .i64 n20) ∧
              ((decide (n19 = n20)) = true →
                Q (.tuple #[.agg #[.slice none 0 0, .slice none 0 0], .bool false]) w14) ∧
              ((decide (n19 = n20)) = false →
                Trip Try.prog 77 #[.pointer (some (a12.add 0)), .int .i64 n15] w14 fun r21 w22 =>
                  r21 = .tuple #[] ∧
                  ∃ x23 : Sl, ∃ x24 : Sl, (w22.cell? (a12.add 0) = some (x23.val) ∧
                    w22.cell? (a12.add 1) = some (x24.val)) ∧
                  Q (.tuple #[.agg #[x23.val, x24.val], .bool true]) w22)) ∧
            (q16 = false →
              ∃ x25 : Sl, ∃ x26 : Sl, (w14.cell? (a12.add 0) = some (x25.val) ∧
                w14.cell? (a12.add 1) = some (x26.val)) ∧
              Q (.tuple #[.agg #[x25.val, x26.val], .bool true]) w14))
theorem of20 (x0_0 : Sl) (x0_1 : Sl) (n_1 : Int) (v : World) (Q : Value → World → Prop) (h : vc20 x0_0 x0_1 n_1 v Q) : Trip Try.prog 20 #[.agg #[x0_0.val, x0_1.val], .int .i64 n_1] v Q :=
  trip_of_eq (args := [.ag [.sl x0_0, .sl x0_1], .num .i64 n_1]) (A := ⟨[], [], [], [8], [18, 24, 25, 26, 28, 32, 34, 37, 39, 43, 48, 49, 50, 55, 56, 59, 66, 68, 69, 72, 73, 76, 78, 86, 87, 88, 89, 93, 95, 96, 99, 103, 112, 113, 114, 118, 119, 123, 126, 128, 130, 134, 135, 137, 141, 142, 143]⟩) Try.func20 (by kernel_rfl) (by kernel_rfl) (by kernel_rfl : vc20 x0_0 x0_1 n_1 v Q = _) h

/-- spec.LazyDrop -/
def vc21 (x0_0 : Sl) (x0_1 : Sl) (n_1 : Int) (v : World) (Q : Value → World → Prop) : Prop :=
  ∃ q1 : Bool, (Trip Try.prog 69 #[.agg #[x0_0.val, x0_1.val]] v fun r2 w3 => r2 = .bool q1 ∧ Sub v w3) ∧
  ∃ q4 : Bool, ((!q1) = false →
    (Trip Try.prog 72 #[x0_0.val, .int .i64 n_1] v fun r5 w6 => r5 = .bool q4 ∧ Sub v w6)) ∧
  (((!q1) || (!q4)) = true →
    Q (.tuple #[.agg #[.slice none 0 0, .slice none 0 0], .bool false]) v) ∧
  (((!q1) || (!q4)) = false →
    Trip Try.prog 71 #[.agg #[x0_0.val, x0_1.val]] v fun r7 w8 =>
      ∃ x9 : Sl, ∃ x10 : Sl, r7 = .agg #[x9.val, x10.val] ∧
      ∃ q11 : Bool, (Trip Try.prog 78 #[.int .i64 n_1] w8 fun r12 w13 => r12 = .bool q11 ∧ Sub w8 w13) ∧
      (q11 = true →
        ∃ n14 : Int, Wr .i64 (n_1 - 1000) n14 ∧
        IxOk x0_0 n14 ∧
        ∃ n15 : Int, w8.cell? ((elA x0_0 n14 3).add 0) = some (.int .i64 n15) ∧
        ∃ n16 : Int, Wr .i64 (n_1 - 1000) n16 ∧
        Trip Try.prog 80 #[.agg #[x0_0.val, x0_1.val]] w8 fun r17 w18 =>
          ∃ x19 : Sl, r17 = x19.val ∧
          Sub w8 w18 ∧
          Trip Try.prog 79 #[x19.val] w18 fun r20 w21 =>
            ∃ x22 : Sl, r20 = x22.val ∧
            Sub w18 w21 ∧
            IxOk x22 n16 ∧
            ∃ n23 : Int, w21.cell? ((elA x22 n16 1).add 0) = some (.int .i64 n23) ∧
            ((decide (n15 = n23)) = true →
              Q (.tuple #[.agg #[.slice none 0 0, .slice none 0 0], .bool false]) w21) ∧
            ((decide (n15 = n23)) = false →
              Trip Try.prog 81 #[.agg #[x9.val, x10.val], .int .i64 n_1] w21 fun r24 w25 =>
                ∃ x26 : Sl, ∃ x27 : Sl, r24 = .agg #[x26.val, x27.val] ∧
                Q (.tuple #[.agg #[x26.val, x27.val], .bool true]) w25)) ∧
      (q11 = false →
        Q (.tuple #[.agg #[x9.val, x10.val], .bool true]) w8))
theorem of21 (x0_0 : Sl) (x0_1 : Sl) (n_1 : Int) (v : World) (Q : Value → World → Prop) (h : vc21 x0_0 x0_1 n_1 v Q) : Trip Try.prog 21 #[.agg #[x0_0.val, x0_1.val], .int .i64 n_1] v Q :=
  trip_of_eq (args := [.ag [.sl x0_0, .sl x0_1], .num .i64 n_1]) (A := ⟨[], [], [(5, [8, 9])], [], [18, 24, 25, 26, 28, 32, 34, 37, 39, 43, 48, 49, 50, 55, 56, 59, 66, 68, 69, 72, 73, 76, 78, 86, 87, 88, 89, 93, 95, 96, 99, 103, 112, 113, 114, 118, 119, 123, 126, 128, 130, 134, 135, 137, 141, 142, 143]⟩) Try.func21 (by kernel_rfl) (by kernel_rfl) (by kernel_rfl : vc21 x0_0 x0_1 n_1 v Q = _) h

/-- impl.SettledHeap -/
def vc22 (x0_0 : Sl) (x0_1 : Sl) (v : World) (Q : Value → World → Prop) : Prop :=
  ∃ q1 : Bool, (Trip Try.prog 24 #[.agg #[x0_0.val, x0_1.val]] v fun r2 w3 => r2 = .bool q1 ∧ Sub v w3) ∧
  ((!q1) = true →
    Q (.tuple #[.slice none 0 0, .bool false]) v) ∧
  ((!q1) = false →
    Trip Try.prog 64 #[.agg #[x0_0.val, x0_1.val]] v fun r4 w5 =>
      ∃ x6 : Sl, ∃ x7 : Sl, r4 = .agg #[x6.val, x7.val] ∧
      NewAt w5 (.cells #[.slice none 0 0, .slice none 0 0] 26 (0, 0)) fun a8 w9 =>
        StoreAt w9 a8 0 [x6.val, x7.val] fun w10 =>
          ∃ I11 : World → Prop, ∃ m12 : World → Nat, I11 w10 ∧
          ∀ w13 : World, I11 w13 →
          ∃ x14 : Sl, w13.cell? (a8.add 1) = some (x14.val) ∧
          ((decide ((x14.n : Int) > 0)) = true →
            Trip Try.prog 65 #[.pointer (some (a8.add 0)), .int .i64 100000] w13 fun r15 w16 =>
              r15 = .tuple #[] ∧
              ((.sl x0_0 : SV) = .sl x0_0) ∧
              ((.sl x0_1 : SV) = .sl x0_1) ∧
              I11 w16 ∧
              m12 w16 < m12 w13) ∧
          ((decide ((x14.n : Int) > 0)) = false →
            ∃ x17 : Sl, w13.cell? (a8.add 0) = some (x17.val) ∧
            Q (.tuple #[x17.val, .bool true]) w13))
theorem of22 (x0_0 : Sl) (x0_1 : Sl) (v : World) (Q : Value → World → Prop) (h : vc22 x0_0 x0_1 v Q) : Trip Try.prog 22 #[.agg #[x0_0.val, x0_1.val]] v Q :=
  trip_of_eq (args := [.ag [.sl x0_0, .sl x0_1]]) (A := ⟨[(4, [], [])], [], [], [4], [18, 24, 25, 26, 28, 32, 34, 37, 39, 43, 48, 49, 50, 55, 56, 59, 66, 68, 69, 72, 73, 76, 78, 86, 87, 88, 89, 93, 95, 96, 99, 103, 112, 113, 114, 118, 119, 123, 126, 128, 130, 134, 135, 137, 141, 142, 143]⟩) Try.func22 (by kernel_rfl) (by kernel_rfl) (by kernel_rfl : vc22 x0_0 x0_1 v Q = _) h

/-- impl.DropWord -/
def vc23 (x_0 : Sl) (n_1 : Int) (v : World) (Q : Value → World → Prop) : Prop :=
  Trip Try.prog 82 #[x_0.val] v fun r1 w2 =>
    ∃ x3 : Sl, ∃ q4 : Bool, r1 = .tuple #[x3.val, .bool q4] ∧
    ∃ q5 : Bool, ((!q4) = false →
      (Trip Try.prog 66 #[x_0.val, .int .i64 n_1] w2 fun r6 w7 => r6 = .bool q5 ∧ Sub w2 w7)) ∧
    (((!q4) || (!q5)) = true →
      Q (.tuple #[.slice none 0 0, .bool false]) w2) ∧
    (((!q4) || (!q5)) = false →
      Trip Try.prog 83 #[x_0.val] w2 fun r8 w9 =>
        ∃ x10 : Sl, r8 = x10.val ∧
        NewAt w9 (.cells #[.slice none 0 0] 92 (0, 0)) fun a11 w12 =>
          StoreAt w12 a11 0 [x10.val] fun w13 =>
            ∃ n14 : Int, ∃ q15 : Bool, (Trip Try.prog 76 #[x_0.val, .int .i64 n_1] w13 fun r16 w17 => r16 = .tuple #[.int .i64 n14, .bool q15] ∧ Sub w13 w17) ∧
            (q15 = true →
              IxOk x_0 n14 ∧
              ∃ n18 : Int, w13.cell? ((elA x_0 n14 3).add 0) = some (.int .i64 n18) ∧
              IxOk x3 n14 ∧
              ∃ n19 : Int, w13.cell? ((elA x3 n14 1).add 0) = some (.int .i64 n19) ∧
              ((decide (n18 = n19)) = true →
                Q (.tuple #[.slice none 0 0, .bool false]) w13) ∧
              ((decide (n18 = n19)) = false →
                Trip Try.prog 84 #[.pointer (some (a11.add 0)), .int .i64 n_1] w13 fun r20 w21 =>
                  r20 = .tuple #[] ∧
                  ∃ x22 : Sl, w21.cell? (a11.add 0) = some (x22.val) ∧
                  Q (.tuple #[x22.val, .bool true]) w21)) ∧
            (q15 = false →
              ∃ x23 : Sl, w13.cell? (a11.add 0) = some (x23.val) ∧
              Q (.tuple #[x23.val, .bool true]) w13))
theorem of23 (x_0 : Sl) (n_1 : Int) (v : World) (Q : Value → World → Prop) (h : vc23 x_0 n_1 v Q) : Trip Try.prog 23 #[x_0.val, .int .i64 n_1] v Q :=
  trip_of_eq (args := [.sl x_0, .num .i64 n_1]) (A := ⟨[], [], [], [8], [18, 24, 25, 26, 28, 32, 34, 37, 39, 43, 48, 49, 50, 55, 56, 59, 66, 68, 69, 72, 73, 76, 78, 86, 87, 88, 89, 93, 95, 96, 99, 103, 112, 113, 114, 118, 119, 123, 126, 128, 130, 134, 135, 137, 141, 142, 143]⟩) Try.func23 (by kernel_rfl) (by kernel_rfl) (by kernel_rfl : vc23 x_0 n_1 v Q = _) h

/-- impl.ValidLazy -/
def vc24 (x0_0 : Sl) (x0_1 : Sl) (v : World) (Q : Value → World → Prop) : Prop :=
  Trip Try.prog 75 #[.agg #[x0_0.val, x0_1.val]] v fun r1 w2 =>
    ∃ x3 : Sl, ∃ q4 : Bool, r1 = .tuple #[x3.val, .bool q4] ∧
    Q (.bool q4) w2
theorem of24 (x0_0 : Sl) (x0_1 : Sl) (v : World) (Q : Value → World → Prop) (h : vc24 x0_0 x0_1 v Q) : Trip Try.prog 24 #[.agg #[x0_0.val, x0_1.val]] v Q :=
  trip_of_eq (args := [.ag [.sl x0_0, .sl x0_1]]) (A := ⟨[], [], [], [], [18, 24, 25, 26, 28, 32, 34, 37, 39, 43, 48, 49, 50, 55, 56, 59, 66, 68, 69, 72, 73, 76, 78, 86, 87, 88, 89, 93, 95, 96, 99, 103, 112, 113, 114, 118, 119, 123, 126, 128, 130, 134, 135, 137, 141, 142, 143]⟩) Try.func24 (by kernel_rfl) (by kernel_rfl) (by kernel_rfl : vc24 x0_0 x0_1 v Q = _) h

/-- laws.equalHeap -/
def vc25 (x_0 : Sl) (x_1 : Sl) (v : World) (Q : Value → World → Prop) : Prop :=
  ((!decide ((x_0.n : Int) = (x_1.n : Int))) = true →
    Q (.bool false) v) ∧
  ((!decide ((x_0.n : Int) = (x_1.n : Int))) = false →
    ∃ I1 : Int → World → Prop, ∃ m2 : Int → World → Nat, I1 0 v ∧
    ∀ n3 : Int, ∀ w4 : World, I1 n3 w4 →
    ((decide (n3 < (x_0.n : Int))) = true →
      IxOk x_0 n3 ∧
      ∃ n5 : Int, ∃ n6 : Int, ∃ x7 : Sl, (w4.cell? ((elA x_0 n3 3).add 0) = some (.int .i64 n5) ∧
        w4.cell? ((elA x_0 n3 3).add 1) = some (.int .i64 n6) ∧
        w4.cell? ((elA x_0 n3 3).add 2) = some (x7.val)) ∧
      IxOk x_1 n3 ∧
      ∃ n8 : Int, ∃ n9 : Int, ∃ x10 : Sl, (w4.cell? ((elA x_1 n3 3).add 0) = some (.int .i64 n8) ∧
        w4.cell? ((elA x_1 n3 3).add 1) = some (.int .i64 n9) ∧
        w4.cell? ((elA x_1 n3 3).add 2) = some (x10.val)) ∧
      ∃ q11 : Bool, (Trip Try.prog 26 #[.agg #[.int .i64 n5, .int .i64 n6, x7.val], .agg #[.int .i64 n8, .int .i64 n9, x10.val]] w4 fun r12 w13 => r12 = .bool q11 ∧ Sub w4 w13) ∧
      ((!q11) = true →
        Q (.bool false) w4) ∧
      ((!q11) = false →
        ∃ n14 : Int, Wr .i64 (n3 + 1) n14 ∧
        I1 n14 w4 ∧
        m2 n14 w4 < m2 n3 w4)) ∧
    ((decide (n3 < (x_0.n : Int))) = false →
      Q (.bool true) w4))
theorem of25 (x_0 : Sl) (x_1 : Sl) (v : World) (Q : Value → World → Prop) (h : vc25 x_0 x_1 v Q) : Trip Try.prog 25 #[x_0.val, x_1.val] v Q :=
  trip_of_eq (args := [.sl x_0, .sl x_1]) (A := ⟨[(4, [(5, .int .i64)], [])], [], [], [], [18, 24, 25, 26, 28, 32, 34, 37, 39, 43, 48, 49, 50, 55, 56, 59, 66, 68, 69, 72, 73, 76, 78, 86, 87, 88, 89, 93, 95, 96, 99, 103, 112, 113, 114, 118, 119, 123, 126, 128, 130, 134, 135, 137, 141, 142, 143]⟩) Try.func25 (by kernel_rfl) (by kernel_rfl) (by kernel_rfl : vc25 x_0 x_1 v Q = _) h

/-- laws.equalCell -/
def vc26 (n0_0 : Int) (n0_1 : Int) (x0_2 : Sl) (n1_0 : Int) (n1_1 : Int) (x1_2 : Sl) (v : World) (Q : Value → World → Prop) : Prop :=
  ∃ q1 : Bool, (((decide (n0_0 = n1_0)) && (decide (n0_1 = n1_1))) = true →
    (Trip Try.prog 56 #[x0_2.val, x1_2.val] v fun r2 w3 => r2 = .bool q1 ∧ Sub v w3)) ∧
  Q (.bool (((decide (n0_0 = n1_0)) && (decide (n0_1 = n1_1))) && q1)) v
theorem of26 (n0_0 : Int) (n0_1 : Int) (x0_2 : Sl) (n1_0 : Int) (n1_1 : Int) (x1_2 : Sl) (v : World) (Q : Value → World → Prop) (h : vc26 n0_0 n0_1 x0_2 n1_0 n1_1 x1_2 v Q) : Trip Try.prog 26 #[.agg #[.int .i64 n0_0, .int .i64 n0_1, x0_2.val], .agg #[.int .i64 n1_0, .int .i64 n1_1, x1_2.val]] v Q :=
  trip_of_eq (args := [.ag [.num .i64 n0_0, .num .i64 n0_1, .sl x0_2], .ag [.num .i64 n1_0, .num .i64 n1_1, .sl x1_2]]) (A := ⟨[], [], [], [], [18, 24, 25, 26, 28, 32, 34, 37, 39, 43, 48, 49, 50, 55, 56, 59, 66, 68, 69, 72, 73, 76, 78, 86, 87, 88, 89, 93, 95, 96, 99, 103, 112, 113, 114, 118, 119, 123, 126, 128, 130, 134, 135, 137, 141, 142, 143]⟩) Try.func26 (by kernel_rfl) (by kernel_rfl) (by kernel_rfl : vc26 n0_0 n0_1 x0_2 n1_0 n1_1 x1_2 v Q = _) h

/-- impl.LiveCells -/
def vc27 (x_0 : Sl) (v : World) (Q : Value → World → Prop) : Prop :=
  ∃ q1 : Bool, (Trip Try.prog 50 #[x_0.val] v fun r2 w3 => r2 = .bool q1 ∧ Sub v w3) ∧
  ((!q1) = true →
    Q (.int .i64 (-1)) v) ∧
  ((!q1) = false →
    Trip Try.prog 85 #[x_0.val] v fun r4 w5 =>
      ∃ n6 : Int, r4 = .int .i64 n6 ∧
      Q (.int .i64 n6) w5)
theorem of27 (x_0 : Sl) (v : World) (Q : Value → World → Prop) (h : vc27 x_0 v Q) : Trip Try.prog 27 #[x_0.val] v Q :=
  trip_of_eq (args := [.sl x_0]) (A := ⟨[], [], [], [], [18, 24, 25, 26, 28, 32, 34, 37, 39, 43, 48, 49, 50, 55, 56, 59, 66, 68, 69, 72, 73, 76, 78, 86, 87, 88, 89, 93, 95, 96, 99, 103, 112, 113, 114, 118, 119, 123, 126, 128, 130, 134, 135, 137, 141, 142, 143]⟩) Try.func27 (by kernel_rfl) (by kernel_rfl) (by kernel_rfl : vc27 x_0 v Q = _) h

/-- laws.szMemory -/
def vc37 (x_0 : Sl) (x_1 : Sl) (v : World) (Q : Value → World → Prop) : Prop :=
  ((!decide ((x_0.n : Int) = (x_1.n : Int))) = true →
    Q (.bool false) v) ∧
  ((!decide ((x_0.n : Int) = (x_1.n : Int))) = false →
    ∃ I1 : Int → World → Prop, ∃ m2 : Int → World → Nat, I1 0 v ∧
    ∀ n3 : Int, ∀ w4 : World, I1 n3 w4 →
    ((decide (n3 < (x_0.n : Int))) = true →
      IxOk x_0 n3 ∧
      ∃ n5 : Int, ∃ n6 : Int, ∃ x7 : Sl, (w4.cell? ((elA x_0 n3 3).add 0) = some (.int .i64 n5) ∧
        w4.cell? ((elA x_0 n3 3).add 1) = some (.int .i64 n6) ∧
        w4.cell? ((elA x_0 n3 3).add 2) = some (x7.val)) ∧
      IxOk x_1 n3 ∧
      ∃ n8 : Int, ∃ n9 : Int, ∃ x10 : Sl, (w4.cell? ((elA x_1 n3 3).add 0) = some (.int .i64 n8) ∧
        w4.cell? ((elA x_1 n3 3).add 1) = some (.int .i64 n9) ∧
        w4.cell? ((elA x_1 n3 3).add 2) = some (x10.val)) ∧
      ∃ q11 : Bool, (Trip Try.prog 99 #[.agg #[.int .i64 n5, .int .i64 n6, x7.val], .agg #[.int .i64 n8, .int .i64 n9, x10.val]] w4 fun r12 w13 => r12 = .bool q11 ∧ Sub w4 w13) ∧
      ((!q11) = true →
        Q (.bool false) w4) ∧
      ((!q11) = false →
        ∃ n14 : Int, Wr .i64 (n3 + 1) n14 ∧
        I1 n14 w4 ∧
        m2 n14 w4 < m2 n3 w4)) ∧
    ((decide (n3 < (x_0.n : Int))) = false →
      Q (.bool true) w4))
theorem of37 (x_0 : Sl) (x_1 : Sl) (v : World) (Q : Value → World → Prop) (h : vc37 x_0 x_1 v Q) : Trip Try.prog 37 #[x_0.val, x_1.val] v Q :=
  trip_of_eq (args := [.sl x_0, .sl x_1]) (A := ⟨[(4, [(5, .int .i64)], [])], [], [], [], [18, 24, 25, 26, 28, 32, 34, 37, 39, 43, 48, 49, 50, 55, 56, 59, 66, 68, 69, 72, 73, 76, 78, 86, 87, 88, 89, 93, 95, 96, 99, 103, 112, 113, 114, 118, 119, 123, 126, 128, 130, 134, 135, 137, 141, 142, 143]⟩) Try.func37 (by kernel_rfl) (by kernel_rfl) (by kernel_rfl : vc37 x_0 x_1 v Q = _) h

/-- laws.markCellS -/
def vc38 (x_0 : Sl) (n_1 : Int) (v : World) (Q : Value → World → Prop) : Prop :=
  ∃ I1 : Int → Int → World → Prop, ∃ m2 : Int → Int → World → Nat, I1 n_1 0 v ∧
  ∀ n3 : Int, ∀ n4 : Int, ∀ w5 : World, I1 n3 n4 w5 →
  ((decide (n4 < (x_0.n : Int))) = true →
    IxOk x_0 n4 ∧
    StoreAt w5 (elA x_0 n4 3) 0 [.int .i64 n3] fun w6 =>
      ∃ n7 : Int, Wr .i64 (n3 + 1) n7 ∧
      IxOk x_0 n4 ∧
      StoreAt w6 (elA x_0 n4 3) 1 [.int .i64 n7] fun w8 =>
        ∃ n9 : Int, Wr .i64 (n7 + 1) n9 ∧
        IxOk x_0 n4 ∧
        ∃ x10 : Sl, w8.cell? ((elA x_0 n4 3).add 2) = some (x10.val) ∧
        Trip Try.prog 44 #[x10.val, .int .i64 n9] w8 fun r11 w12 =>
          ∃ n13 : Int, r11 = .int .i64 n13 ∧
          ∃ n14 : Int, Wr .i64 (n4 + 1) n14 ∧
          I1 n13 n14 w12 ∧
          m2 n13 n14 w12 < m2 n3 n4 w5) ∧
  ((decide (n4 < (x_0.n : Int))) = false →
    Q (.int .i64 n3) w5)
theorem of38 (x_0 : Sl) (n_1 : Int) (v : World) (Q : Value → World → Prop) (h : vc38 x_0 n_1 v Q) : Trip Try.prog 38 #[x_0.val, .int .i64 n_1] v Q :=
  trip_of_eq (args := [.sl x_0, .num .i64 n_1]) (A := ⟨[(2, [(1, .int .i64), (5, .int .i64)], [])], [], [], [], [18, 24, 25, 26, 28, 32, 34, 37, 39, 43, 48, 49, 50, 55, 56, 59, 66, 68, 69, 72, 73, 76, 78, 86, 87, 88, 89, 93, 95, 96, 99, 103, 112, 113, 114, 118, 119, 123, 126, 128, 130, 134, 135, 137, 141, 142, 143]⟩) Try.func38 (by kernel_rfl) (by kernel_rfl) (by kernel_rfl : vc38 x_0 n_1 v Q = _) h

/-- laws.heldCellS -/
def vc39 (x_0 : Sl) (n_1 : Int) (v : World) (Q : Value → World → Prop) : Prop :=
  ∃ I1 : Int → Int → World → Prop, ∃ m2 : Int → Int → World → Nat, I1 n_1 0 v ∧
  ∀ n3 : Int, ∀ n4 : Int, ∀ w5 : World, I1 n3 n4 w5 →
  ((decide (n4 < (x_0.n : Int))) = true →
    IxOk x_0 n4 ∧
    ∃ n6 : Int, w5.cell? ((elA x_0 n4 3).add 0) = some (.int .i64 n6) ∧
    ((!decide (n6 = n3)) = true →
      Q (.int .i64 (-1)) w5) ∧
    ((!decide (n6 = n3)) = false →
      ∃ n7 : Int, Wr .i64 (n3 + 1) n7 ∧
      IxOk x_0 n4 ∧
      ∃ n8 : Int, w5.cell? ((elA x_0 n4 3).add 1) = some (.int .i64 n8) ∧
      ((!decide (n8 = n7)) = true →
        Q (.int .i64 (-1)) w5) ∧
      ((!decide (n8 = n7)) = false →
        ∃ n9 : Int, Wr .i64 (n7 + 1) n9 ∧
        IxOk x_0 n4 ∧
        ∃ x10 : Sl, w5.cell? ((elA x_0 n4 3).add 2) = some (x10.val) ∧
        ∃ n11 : Int, (Trip Try.prog 96 #[x10.val, .int .i64 n9] w5 fun r12 w13 => r12 = .int .i64 n11 ∧ Sub w5 w13) ∧
        ((decide (n11 < 0)) = true →
          Q (.int .i64 (-1)) w5) ∧
        ((decide (n11 < 0)) = false →
          ∃ n14 : Int, Wr .i64 (n4 + 1) n14 ∧
          I1 n11 n14 w5 ∧
          m2 n11 n14 w5 < m2 n3 n4 w5)))) ∧
  ((decide (n4 < (x_0.n : Int))) = false →
    Q (.int .i64 n3) w5)
theorem of39 (x_0 : Sl) (n_1 : Int) (v : World) (Q : Value → World → Prop) (h : vc39 x_0 n_1 v Q) : Trip Try.prog 39 #[x_0.val, .int .i64 n_1] v Q :=
  trip_of_eq (args := [.sl x_0, .num .i64 n_1]) (A := ⟨[(2, [(1, .int .i64), (5, .int .i64)], [])], [], [], [], [18, 24, 25, 26, 28, 32, 34, 37, 39, 43, 48, 49, 50, 55, 56, 59, 66, 68, 69, 72, 73, 76, 78, 86, 87, 88, 89, 93, 95, 96, 99, 103, 112, 113, 114, 118, 119, 123, 126, 128, 130, 134, 135, 137, 141, 142, 143]⟩) Try.func39 (by kernel_rfl) (by kernel_rfl) (by kernel_rfl : vc39 x_0 n_1 v Q = _) h

/-- spec.AllocBlock -/
def vc41 (x_0 : Sl) (v : World) (Q : Value → World → Prop) : Prop :=
  StepT Try.prog (Instr.makeSlice 24 (.int .i64 (x_0.n : Int)) (.int .i64 (x_0.n : Int))) v fun r1 w2 =>
    ∃ x3 : Sl, r1 = x3.val ∧
    ∃ I4 : Int → World → Prop, ∃ m5 : Int → World → Nat, I4 0 w2 ∧
    ∀ n6 : Int, ∀ w7 : World, I4 n6 w7 →
    ((decide (n6 < (x_0.n : Int))) = true →
      IxOk x_0 n6 ∧
      ∃ n8 : Int, w7.cell? ((elA x_0 n6 1).add 0) = some (.int .i64 n8) ∧
      IxOk x3 n6 ∧
      StoreAt w7 (elA x3 n6 1) 0 [.int .i64 n8] fun w9 =>
        ∃ n10 : Int, Wr .i64 (n6 + 1) n10 ∧
        I4 n10 w9 ∧
        m5 n10 w9 < m5 n6 w7) ∧
    ((decide (n6 < (x_0.n : Int))) = false →
      Q (x3.val) w7)
theorem of41 (x_0 : Sl) (v : World) (Q : Value → World → Prop) (h : vc41 x_0 v Q) : Trip Try.prog 41 #[x_0.val] v Q :=
  trip_of_eq (args := [.sl x_0]) (A := ⟨[(3, [(4, .int .i64)], [])], [], [], [], [18, 24, 25, 26, 28, 32, 34, 37, 39, 43, 48, 49, 50, 55, 56, 59, 66, 68, 69, 72, 73, 76, 78, 86, 87, 88, 89, 93, 95, 96, 99, 103, 112, 113, 114, 118, 119, 123, 126, 128, 130, 134, 135, 137, 141, 142, 143]⟩) Try.func41 (by kernel_rfl) (by kernel_rfl) (by kernel_rfl : vc41 x_0 v Q = _) h

/-- impl.AllocBlock -/
def vc43 (x_0 : Sl) (x_1 : Sl) (v : World) (Q : Value → World → Prop) : Prop :=
  ((!decide ((x_0.n : Int) = (x_1.n : Int))) = true →
    Q (.bool false) v) ∧
  ((!decide ((x_0.n : Int) = (x_1.n : Int))) = false →
    ∃ I1 : Int → World → Prop, ∃ m2 : Int → World → Nat, I1 0 v ∧
    ∀ n3 : Int, ∀ w4 : World, I1 n3 w4 →
    ((decide (n3 < (x_0.n : Int))) = true →
      IxOk x_0 n3 ∧
      ∃ n5 : Int, w4.cell? ((elA x_0 n3 1).add 0) = some (.int .i64 n5) ∧
      IxOk x_1 n3 ∧
      ∃ n6 : Int, w4.cell? ((elA x_1 n3 1).add 0) = some (.int .i64 n6) ∧
      ((!decide (n5 = n6)) = true →
        Q (.bool false) w4) ∧
      ((!decide (n5 = n6)) = false →
        ∃ n7 : Int, Wr .i64 (n3 + 1) n7 ∧
        I1 n7 w4 ∧
        m2 n7 w4 < m2 n3 w4)) ∧
    ((decide (n3 < (x_0.n : Int))) = false →
      Q (.bool true) w4))
theorem of43 (x_0 : Sl) (x_1 : Sl) (v : World) (Q : Value → World → Prop) (h : vc43 x_0 x_1 v Q) : Trip Try.prog 43 #[x_0.val, x_1.val] v Q :=
  trip_of_eq (args := [.sl x_0, .sl x_1]) (A := ⟨[(4, [(5, .int .i64)], [])], [], [], [], [18, 24, 25, 26, 28, 32, 34, 37, 39, 43, 48, 49, 50, 55, 56, 59, 66, 68, 69, 72, 73, 76, 78, 86, 87, 88, 89, 93, 95, 96, 99, 103, 112, 113, 114, 118, 119, 123, 126, 128, 130, 134, 135, 137, 141, 142, 143]⟩) Try.func43 (by kernel_rfl) (by kernel_rfl) (by kernel_rfl : vc43 x_0 x_1 v Q = _) h

/-- laws.markIntS -/
def vc44 (x_0 : Sl) (n_1 : Int) (v : World) (Q : Value → World → Prop) : Prop :=
  ∃ I1 : Int → Int → World → Prop, ∃ m2 : Int → Int → World → Nat, I1 n_1 0 v ∧
  ∀ n3 : Int, ∀ n4 : Int, ∀ w5 : World, I1 n3 n4 w5 →
  ((decide (n4 < (x_0.n : Int))) = true →
    IxOk x_0 n4 ∧
    StoreAt w5 (elA x_0 n4 1) 0 [.int .i64 n3] fun w6 =>
      ∃ n7 : Int, Wr .i64 (n3 + 1) n7 ∧
      ∃ n8 : Int, Wr .i64 (n4 + 1) n8 ∧
      I1 n7 n8 w6 ∧
      m2 n7 n8 w6 < m2 n3 n4 w5) ∧
  ((decide (n4 < (x_0.n : Int))) = false →
    Q (.int .i64 n3) w5)
theorem of44 (x_0 : Sl) (n_1 : Int) (v : World) (Q : Value → World → Prop) (h : vc44 x_0 n_1 v Q) : Trip Try.prog 44 #[x_0.val, .int .i64 n_1] v Q :=
  trip_of_eq (args := [.sl x_0, .num .i64 n_1]) (A := ⟨[(2, [(1, .int .i64), (5, .int .i64)], [])], [], [], [], [18, 24, 25, 26, 28, 32, 34, 37, 39, 43, 48, 49, 50, 55, 56, 59, 66, 68, 69, 72, 73, 76, 78, 86, 87, 88, 89, 93, 95, 96, 99, 103, 112, 113, 114, 118, 119, 123, 126, 128, 130, 134, 135, 137, 141, 142, 143]⟩) Try.func44 (by kernel_rfl) (by kernel_rfl) (by kernel_rfl : vc44 x_0 n_1 v Q = _) h

/-- spec.DropBlock -/
def vc50 (x_0 : Sl) (v : World) (Q : Value → World → Prop) : Prop :=
  Trip Try.prog 82 #[x_0.val] v fun r1 w2 =>
    ∃ x3 : Sl, ∃ q4 : Bool, r1 = .tuple #[x3.val, .bool q4] ∧
    Q (.bool q4) w2
theorem of50 (x_0 : Sl) (v : World) (Q : Value → World → Prop) (h : vc50 x_0 v Q) : Trip Try.prog 50 #[x_0.val] v Q :=
  trip_of_eq (args := [.sl x_0]) (A := ⟨[], [], [], [], [18, 24, 25, 26, 28, 32, 34, 37, 39, 43, 48, 49, 50, 55, 56, 59, 66, 68, 69, 72, 73, 76, 78, 86, 87, 88, 89, 93, 95, 96, 99, 103, 112, 113, 114, 118, 119, 123, 126, 128, 130, 134, 135, 137, 141, 142, 143]⟩) Try.func50 (by kernel_rfl) (by kernel_rfl) (by kernel_rfl : vc50 x_0 v Q = _) h

/-- spec.DrawCellOf -/
def vc56 (x_0 : Sl) (x_1 : Sl) (v : World) (Q : Value → World → Prop) : Prop :=
  ((!decide ((x_0.n : Int) = (x_1.n : Int))) = true →
    Q (.bool false) v) ∧
  ((!decide ((x_0.n : Int) = (x_1.n : Int))) = false →
    ∃ I1 : Int → World → Prop, ∃ m2 : Int → World → Nat, I1 0 v ∧
    ∀ n3 : Int, ∀ w4 : World, I1 n3 w4 →
    ((decide (n3 < (x_0.n : Int))) = true →
      IxOk x_0 n3 ∧
      ∃ n5 : Int, w4.cell? ((elA x_0 n3 1).add 0) = some (.int .i64 n5) ∧
      IxOk x_1 n3 ∧
      ∃ n6 : Int, w4.cell? ((elA x_1 n3 1).add 0) = some (.int .i64 n6) ∧
      ((!decide (n5 = n6)) = true →
        Q (.bool false) w4) ∧
      ((!decide (n5 = n6)) = false →
        ∃ n7 : Int, Wr .i64 (n3 + 1) n7 ∧
        I1 n7 w4 ∧
        m2 n7 w4 < m2 n3 w4)) ∧
    ((decide (n3 < (x_0.n : Int))) = false →
      Q (.bool true) w4))
theorem of56 (x_0 : Sl) (x_1 : Sl) (v : World) (Q : Value → World → Prop) (h : vc56 x_0 x_1 v Q) : Trip Try.prog 56 #[x_0.val, x_1.val] v Q :=
  trip_of_eq (args := [.sl x_0, .sl x_1]) (A := ⟨[(4, [(5, .int .i64)], [])], [], [], [], [18, 24, 25, 26, 28, 32, 34, 37, 39, 43, 48, 49, 50, 55, 56, 59, 66, 68, 69, 72, 73, 76, 78, 86, 87, 88, 89, 93, 95, 96, 99, 103, 112, 113, 114, 118, 119, 123, 126, 128, 130, 134, 135, 137, 141, 142, 143]⟩) Try.func56 (by kernel_rfl) (by kernel_rfl) (by kernel_rfl : vc56 x_0 x_1 v Q = _) h

/-- laws.liveIn -/
def vc57 (x_0 : Sl) (v : World) (Q : Value → World → Prop) : Prop :=
  StepT Try.prog (Instr.buildSlice 24 0 #[]) v fun r1 w2 =>
    ∃ x3 : Sl, r1 = x3.val ∧
    ∃ I4 : Sl → Int → World → Prop, ∃ m5 : Sl → Int → World → Nat, I4 x3 0 w2 ∧
    ∀ x6 : Sl, ∀ n7 : Int, ∀ w8 : World, I4 x6 n7 w8 →
    ((decide (n7 < (x_0.n : Int))) = true →
      IxOk x_0 n7 ∧
      ∃ n9 : Int, w8.cell? ((elA x_0 n7 3).add 0) = some (.int .i64 n9) ∧
      ((decide (n9 > 0)) = true →
        StepT Try.prog (Instr.buildSlice 24 1 #[(0, (.int .i64 n7))]) w8 fun r10 w11 =>
          ∃ x12 : Sl, r10 = x12.val ∧
          StepT Try.prog (Builtin.append_ #[24, 24] 24 #[(x6.val), (x12.val)]) w11 fun r13 w14 =>
            ∃ x15 : Sl, r13 = x15.val ∧
            ∃ n16 : Int, Wr .i64 (n7 + 1) n16 ∧
            I4 x15 n16 w14 ∧
            m5 x15 n16 w14 < m5 x6 n7 w8) ∧
      ((decide (n9 > 0)) = false →
        ∃ n17 : Int, Wr .i64 (n7 + 1) n17 ∧
        I4 x6 n17 w8 ∧
        m5 x6 n17 w8 < m5 x6 n7 w8)) ∧
    ((decide (n7 < (x_0.n : Int))) = false →
      Q (x6.val) w8)
theorem of57 (x_0 : Sl) (v : World) (Q : Value → World → Prop) (h : vc57 x_0 v Q) : Trip Try.prog 57 #[x_0.val] v Q :=
  trip_of_eq (args := [.sl x_0]) (A := ⟨[(3, [(3, .sl), (4, .int .i64)], [])], [], [], [], [18, 24, 25, 26, 28, 32, 34, 37, 39, 43, 48, 49, 50, 55, 56, 59, 66, 68, 69, 72, 73, 76, 78, 86, 87, 88, 89, 93, 95, 96, 99, 103, 112, 113, 114, 118, 119, 123, 126, 128, 130, 134, 135, 137, 141, 142, 143]⟩) Try.func57 (by kernel_rfl) (by kernel_rfl) (by kernel_rfl : vc57 x_0 v Q = _) h

/-- spec.DrawAllocBlock -/
def vc60 (x_0 : Sl) (v : World) (Q : Value → World → Prop) : Prop :=
  ((decide ((x_0.n : Int) > 2000)) = true →
    CutOk x_0 0 2000 ∧
    NewAt v (.cells #[(x_0.cut 0 2000 1).val, .int .i64 0] 114 (0, 0)) fun a1 w2 =>
      Q (.pointer (some (a1.add 0))) w2) ∧
  ((decide ((x_0.n : Int) > 2000)) = false →
    NewAt v (.cells #[x_0.val, .int .i64 0] 114 (0, 0)) fun a3 w4 =>
      Q (.pointer (some (a3.add 0))) w4)
theorem of60 (x_0 : Sl) (v : World) (Q : Value → World → Prop) (h : vc60 x_0 v Q) : Trip Try.prog 60 #[x_0.val] v Q :=
  trip_of_eq (args := [.sl x_0]) (A := ⟨[], [], [], [10], [18, 24, 25, 26, 28, 32, 34, 37, 39, 43, 48, 49, 50, 55, 56, 59, 66, 68, 69, 72, 73, 76, 78, 86, 87, 88, 89, 93, 95, 96, 99, 103, 112, 113, 114, 118, 119, 123, 126, 128, 130, 134, 135, 137, 141, 142, 143]⟩) Try.func60 (by kernel_rfl) (by kernel_rfl) (by kernel_rfl : vc60 x_0 v Q = _) h

/-- spec.anyLazy -/
def vc61 (a_0 : Addr) (v : World) (Q : Value → World → Prop) : Prop :=
  Trip Try.prog 110 #[.pointer (some (a_0.add 0))] v fun r1 w2 =>
    ∃ x3 : Sl, ∃ x4 : Sl, r1 = .agg #[x3.val, x4.val] ∧
    ∃ n5 : Int, PureT Try.prog (Builtin.max_ #[3, 3] 3 #[(.int .i64 1), (.int .i64 (x3.n : Int))]) w2 (.int .i64 n5) ∧
    Trip Try.prog 111 #[.pointer (some (a_0.add 0)), .int .i64 20] w2 fun r6 w7 =>
      ∃ n8 : Int, r6 = .int .i64 n8 ∧
      ((decide (n8 = 0)) = true →
        Trip Try.prog 111 #[.pointer (some (a_0.add 0)), .int .i64 n5] w7 fun r9 w10 =>
          ∃ n11 : Int, r9 = .int .i64 n11 ∧
          StepT Try.prog (Instr.buildSlice 24 4 #[(0, (.int .i64 0)), (1, (.int .i64 (-1))), (2, (.int .i64 n5)), (3, (.int .i64 n11))]) w10 fun r12 w13 =>
            ∃ x14 : Sl, r12 = x14.val ∧
            Trip Try.prog 62 #[.pointer (some (a_0.add 0)), x14.val] w13 fun r15 w16 =>
              ∃ n17 : Int, r15 = .int .i64 n17 ∧
              StepT Try.prog (Instr.buildSlice 24 1 #[(0, (.int .i64 n17))]) w16 fun r18 w19 =>
                ∃ x20 : Sl, r18 = x20.val ∧
                StepT Try.prog (Builtin.append_ #[24, 24] 24 #[(x4.val), (x20.val)]) w19 fun r21 w22 =>
                  ∃ x23 : Sl, r21 = x23.val ∧
                  Q (.agg #[x3.val, x23.val]) w22) ∧
      ((decide (n8 = 0)) = false →
        ((decide (n8 = 1)) = true →
          ((decide ((x4.n : Int) > 0)) = true →
            ((0 : Int) ≤ 1 ∧ 1 ≤ (x4.n : Int)) ∧
            Q (.agg #[x3.val, (x4.cut 1 (x4.n : Int) 1).val]) w7) ∧
          ((decide ((x4.n : Int) > 0)) = false →
            Q (.agg #[x3.val, x4.val]) w7)) ∧
        ((decide (n8 = 1)) = false →
          ((decide (n8 = 2)) = true →
            ((decide ((x3.n : Int) > 0)) = true →
              Trip Try.prog 111 #[.pointer (some (a_0.add 0)), .int .i64 n5] w7 fun r24 w25 =>
                ∃ n26 : Int, r24 = .int .i64 n26 ∧
                (IxOk x3 n26 ∧
                  (∃ n27 : Int, w25.cell? ((elA x3 n26 3).add 0) = some (.int .i64 n27) ∧
                    StepT Try.prog (Instr.buildSlice 24 2 #[(0, (.int .i64 1)), (1, (.int .i64 (-1)))]) w25 fun r28 w29 =>
                      ∃ x30 : Sl, r28 = x30.val ∧
                      Trip Try.prog 62 #[.pointer (some (a_0.add 0)), x30.val] w29 fun r31 w32 =>
                        ∃ n33 : Int, r31 = .int .i64 n33 ∧
                        ∃ n34 : Int, Wr .i64 (n27 + n33) n34 ∧
                        IxOk x3 n26 ∧
                        StoreAt w32 (elA x3 n26 3) 0 [.int .i64 n34] fun w35 =>
                          Q (.agg #[x3.val, x4.val]) w35) ∧
                  StepT Try.prog (Instr.buildSlice 24 2 #[(0, (.int .i64 1)), (1, (.int .i64 (-1)))]) w25 fun r36 w37 =>
                    ∃ x38 : Sl, r36 = x38.val ∧
                    (∃ n39 : Int, w37.cell? ((elA x3 n26 3).add 0) = some (.int .i64 n39) ∧
                      Trip Try.prog 62 #[.pointer (some (a_0.add 0)), x38.val] w37 fun r40 w41 =>
                        ∃ n42 : Int, r40 = .int .i64 n42 ∧
                        ∃ n43 : Int, Wr .i64 (n39 + n42) n43 ∧
                        IxOk x3 n26 ∧
                        StoreAt w41 (elA x3 n26 3) 0 [.int .i64 n43] fun w44 =>
                          Q (.agg #[x3.val, x4.val]) w44) ∧
                    Trip Try.prog 62 #[.pointer (some (a_0.add 0)), x38.val] w37 fun r45 w46 =>
                      ∃ n47 : Int, r45 = .int .i64 n47 ∧
                      ∃ n48 : Int, w46.cell? ((elA x3 n26 3).add 0) = some (.int .i64 n48) ∧
                      ∃ n49 : Int, Wr .i64 (n48 + n47) n49 ∧
                      IxOk x3 n26 ∧
                      StoreAt w46 (elA x3 n26 3) 0 [.int .i64 n49] fun w50 =>
                        Q (.agg #[x3.val, x4.val]) w50) ∧
                StepT Try.prog (Instr.buildSlice 24 2 #[(0, (.int .i64 1)), (1, (.int .i64 (-1)))]) w25 fun r51 w52 =>
                  ∃ x53 : Sl, r51 = x53.val ∧
                  (IxOk x3 n26 ∧
                    (∃ n54 : Int, w52.cell? ((elA x3 n26 3).add 0) = some (.int .i64 n54) ∧
                      Trip Try.prog 62 #[.pointer (some (a_0.add 0)), x53.val] w52 fun r55 w56 =>
                        ∃ n57 : Int, r55 = .int .i64 n57 ∧
                        ∃ n58 : Int, Wr .i64 (n54 + n57) n58 ∧
                        IxOk x3 n26 ∧
                        StoreAt w56 (elA x3 n26 3) 0 [.int .i64 n58] fun w59 =>
                          Q (.agg #[x3.val, x4.val]) w59) ∧
                    Trip Try.prog 62 #[.pointer (some (a_0.add 0)), x53.val] w52 fun r60 w61 =>
                      ∃ n62 : Int, r60 = .int .i64 n62 ∧
                      ∃ n63 : Int, w61.cell? ((elA x3 n26 3).add 0) = some (.int .i64 n63) ∧
                      ∃ n64 : Int, Wr .i64 (n63 + n62) n64 ∧
                      IxOk x3 n26 ∧
                      StoreAt w61 (elA x3 n26 3) 0 [.int .i64 n64] fun w65 =>
                        Q (.agg #[x3.val, x4.val]) w65) ∧
                  Trip Try.prog 62 #[.pointer (some (a_0.add 0)), x53.val] w52 fun r66 w67 =>
                    ∃ n68 : Int, r66 = .int .i64 n68 ∧
                    IxOk x3 n26 ∧
                    ∃ n69 : Int, w67.cell? ((elA x3 n26 3).add 0) = some (.int .i64 n69) ∧
                    ∃ n70 : Int, Wr .i64 (n69 + n68) n70 ∧
                    IxOk x3 n26 ∧
                    StoreAt w67 (elA x3 n26 3) 0 [.int .i64 n70] fun w71 =>
                      Q (.agg #[x3.val, x4.val]) w71) ∧
            ((decide ((x3.n : Int) > 0)) = false →
              Q (.agg #[x3.val, x4.val]) w7)) ∧
          ((decide (n8 = 2)) = false →
            Q (.agg #[x3.val, x4.val]) w7)))
theorem of61 (a_0 : Addr) (v : World) (Q : Value → World → Prop) (h : vc61 a_0 v Q) : Trip Try.prog 61 #[.pointer (some (a_0.add 0))] v Q :=
  trip_of_eq (args := [.pt a_0 0]) (A := ⟨[], [], [(5, []), (12, [])], [], [18, 24, 25, 26, 28, 32, 34, 37, 39, 43, 48, 49, 50, 55, 56, 59, 66, 68, 69, 72, 73, 76, 78, 86, 87, 88, 89, 93, 95, 96, 99, 103, 112, 113, 114, 118, 119, 123, 126, 128, 130, 134, 135, 137, 141, 142, 143]⟩) Try.func61 (by kernel_rfl) (by kernel_rfl) (by kernel_rfl : vc61 a_0 v Q = _) h

/-- (*spec.reader).one -/
def vc62 (a_0 : Addr) (x_1 : Sl) (v : World) (Q : Value → World → Prop) : Prop :=
  Trip Try.prog 111 #[.pointer (some (a_0.add 0)), .int .i64 (x_1.n : Int)] v fun r1 w2 =>
    ∃ n3 : Int, r1 = .int .i64 n3 ∧
    IxOk x_1 n3 ∧
    ∃ n4 : Int, w2.cell? ((elA x_1 n3 1).add 0) = some (.int .i64 n4) ∧
    Q (.int .i64 n4) w2
theorem of62 (a_0 : Addr) (x_1 : Sl) (v : World) (Q : Value → World → Prop) (h : vc62 a_0 x_1 v Q) : Trip Try.prog 62 #[.pointer (some (a_0.add 0)), x_1.val] v Q :=
  trip_of_eq (args := [.pt a_0 0, .sl x_1]) (A := ⟨[], [], [], [], [18, 24, 25, 26, 28, 32, 34, 37, 39, 43, 48, 49, 50, 55, 56, 59, 66, 68, 69, 72, 73, 76, 78, 86, 87, 88, 89, 93, 95, 96, 99, 103, 112, 113, 114, 118, 119, 123, 126, 128, 130, 134, 135, 137, 141, 142, 143]⟩) Try.func62 (by kernel_rfl) (by kernel_rfl) (by kernel_rfl : vc62 a_0 x_1 v Q = _) h

/-- spec.wordFor -/
def vc63 (a_0 : Addr) (n_1 : Int) (v : World) (Q : Value → World → Prop) : Prop :=
  ∃ n1 : Int, PureT Try.prog (Builtin.max_ #[3, 3] 3 #[(.int .i64 1), (.int .i64 n_1)]) v (.int .i64 n1) ∧
  Trip Try.prog 111 #[.pointer (some (a_0.add 0)), .int .i64 n1] v fun r2 w3 =>
    ∃ n4 : Int, r2 = .int .i64 n4 ∧
    ∃ n5 : Int, Wr .i64 (1000 + n4) n5 ∧
    ∃ n6 : Int, PureT Try.prog (Builtin.max_ #[3, 3] 3 #[(.int .i64 1), (.int .i64 n_1)]) w3 (.int .i64 n6) ∧
    Trip Try.prog 111 #[.pointer (some (a_0.add 0)), .int .i64 n6] w3 fun r7 w8 =>
      ∃ n9 : Int, r7 = .int .i64 n9 ∧
      ∃ n10 : Int, Wr .i64 (1000 + n9) n10 ∧
      ∃ n11 : Int, PureT Try.prog (Builtin.max_ #[3, 3] 3 #[(.int .i64 1), (.int .i64 n_1)]) w8 (.int .i64 n11) ∧
      Trip Try.prog 111 #[.pointer (some (a_0.add 0)), .int .i64 n11] w8 fun r12 w13 =>
        ∃ n14 : Int, r12 = .int .i64 n14 ∧
        ∃ n15 : Int, Wr .i64 (1000 + n14) n15 ∧
        Trip Try.prog 111 #[.pointer (some (a_0.add 0)), .int .i64 30] w13 fun r16 w17 =>
          ∃ n18 : Int, r16 = .int .i64 n18 ∧
          ∃ n19 : Int, Wr .i64 (n18 - 10) n19 ∧
          ∃ n20 : Int, Wr .i64 (1000 + n_1) n20 ∧
          StepT Try.prog (Instr.buildSlice 24 8 #[(0, (.int .i64 n5)), (1, (.int .i64 n10)), (2, (.int .i64 n15)), (3, (.int .i64 n19)), (4, (.int .i64 n20)), (5, (.int .i64 1000000)), (6, (.int .i64 (-1000))), (7, (.int .i64 5))]) w17 fun r21 w22 =>
            ∃ x23 : Sl, r21 = x23.val ∧
            Trip Try.prog 62 #[.pointer (some (a_0.add 0)), x23.val] w22 fun r24 w25 =>
              ∃ n26 : Int, r24 = .int .i64 n26 ∧
              Q (.int .i64 n26) w25
theorem of63 (a_0 : Addr) (n_1 : Int) (v : World) (Q : Value → World → Prop) (h : vc63 a_0 n_1 v Q) : Trip Try.prog 63 #[.pointer (some (a_0.add 0)), .int .i64 n_1] v Q :=
  trip_of_eq (args := [.pt a_0 0, .num .i64 n_1]) (A := ⟨[], [], [], [], [18, 24, 25, 26, 28, 32, 34, 37, 39, 43, 48, 49, 50, 55, 56, 59, 66, 68, 69, 72, 73, 76, 78, 86, 87, 88, 89, 93, 95, 96, 99, 103, 112, 113, 114, 118, 119, 123, 126, 128, 130, 134, 135, 137, 141, 142, 143]⟩) Try.func63 (by kernel_rfl) (by kernel_rfl) (by kernel_rfl : vc63 a_0 n_1 v Q = _) h

/-- (impl.Lazy).clone -/
def vc64 (x0_0 : Sl) (x0_1 : Sl) (v : World) (Q : Value → World → Prop) : Prop :=
  Trip Try.prog 83 #[x0_0.val] v fun r1 w2 =>
    ∃ x3 : Sl, r1 = x3.val ∧
    Sub v w2 ∧
    Trip Try.prog 67 #[x0_1.val] w2 fun r4 w5 =>
      ∃ x6 : Sl, r4 = x6.val ∧
      Q (.agg #[x3.val, x6.val]) w5
theorem of64 (x0_0 : Sl) (x0_1 : Sl) (v : World) (Q : Value → World → Prop) (h : vc64 x0_0 x0_1 v Q) : Trip Try.prog 64 #[.agg #[x0_0.val, x0_1.val]] v Q :=
  trip_of_eq (args := [.ag [.sl x0_0, .sl x0_1]]) (A := ⟨[], [], [(1, [2])], [], [18, 24, 25, 26, 28, 32, 34, 37, 39, 43, 48, 49, 50, 55, 56, 59, 66, 68, 69, 72, 73, 76, 78, 86, 87, 88, 89, 93, 95, 96, 99, 103, 112, 113, 114, 118, 119, 123, 126, 128, 130, 134, 135, 137, 141, 142, 143]⟩) Try.func64 (by kernel_rfl) (by kernel_rfl) (by kernel_rfl : vc64 x0_0 x0_1 v Q = _) h

/-- (*impl.Lazy).settle -/
def vc65 (a_0 : Addr) (n_1 : Int) (v : World) (Q : Value → World → Prop) : Prop :=
  ∃ I1 : Int → World → Prop, ∃ m2 : Int → World → Nat, I1 n_1 v ∧
  ∀ n3 : Int, ∀ w4 : World, I1 n3 w4 →
  ∃ x5 : Sl, ((decide (n3 > 0)) = true →
    w4.cell? (a_0.add 1) = some (x5.val)) ∧
  (((decide (n3 > 0)) && (decide ((x5.n : Int) > 0))) = true →
    ∃ x6 : Sl, w4.cell? (a_0.add 1) = some (x6.val) ∧
    IxOk x6 0 ∧
    ∃ n7 : Int, w4.cell? ((elA x6 0 1).add 0) = some (.int .i64 n7) ∧
    ∃ x8 : Sl, w4.cell? (a_0.add 1) = some (x8.val) ∧
    ((0 : Int) ≤ 1 ∧ 1 ≤ (x8.n : Int)) ∧
    StoreAt w4 a_0 1 [(x8.cut 1 (x8.n : Int) 1).val] fun w9 =>
      ∃ x10 : Sl, w9.cell? (a_0.add 0) = some (x10.val) ∧
      IxOk x10 n7 ∧
      ∃ x11 : Sl, w9.cell? ((elA x10 n7 3).add 2) = some (x11.val) ∧
      ∃ x12 : Sl, w9.cell? (a_0.add 0) = some (x12.val) ∧
      IxOk x12 n7 ∧
      StoreAt w9 (elA x12 n7 3) 0 [.int .i64 0, .int .i64 0, .slice none 0 0] fun w13 =>
        ∃ I14 : Int → World → Prop, ∃ m15 : Int → World → Nat, I14 0 w13 ∧
        ∀ n16 : Int, ∀ w17 : World, I14 n16 w17 →
        ((decide (n16 < (x11.n : Int))) = true →
          IxOk x11 n16 ∧
          ∃ n18 : Int, w17.cell? ((elA x11 n16 1).add 0) = some (.int .i64 n18) ∧
          ∃ x19 : Sl, w17.cell? (a_0.add 0) = some (x19.val) ∧
          ∃ n20 : Int, ∃ q21 : Bool, (Trip Try.prog 76 #[x19.val, .int .i64 n18] w17 fun r22 w23 => r22 = .tuple #[.int .i64 n20, .bool q21] ∧ Sub w17 w23) ∧
          (q21 = true →
            Trip Try.prog 77 #[.pointer (some (a_0.add 0)), .int .i64 n20] w17 fun r24 w25 =>
              r24 = .tuple #[] ∧
              ∃ n26 : Int, Wr .i64 (n16 + 1) n26 ∧
              I14 n26 w25 ∧
              m15 n26 w25 < m15 n16 w17) ∧
          (q21 = false →
            ∃ n27 : Int, Wr .i64 (n16 + 1) n27 ∧
            I14 n27 w17 ∧
            m15 n27 w17 < m15 n16 w17)) ∧
        ((decide (n16 < (x11.n : Int))) = false →
          ∃ n28 : Int, Wr .i64 (n3 - 1) n28 ∧
          I1 n28 w17 ∧
          m2 n28 w17 < m2 n3 w4)) ∧
  (((decide (n3 > 0)) && (decide ((x5.n : Int) > 0))) = false →
    ∃ x29 : Sl, w4.cell? (a_0.add 0) = some (x29.val) ∧
    ∃ I30 : Int → World → Prop, ∃ m31 : Int → World → Nat, I30 (x29.n : Int) w4 ∧
    ∀ n32 : Int, ∀ w33 : World, I30 n32 w33 →
    ∃ x34 : Sl, ((decide (n32 > 0)) = true →
      w33.cell? (a_0.add 0) = some (x34.val)) ∧
    ∃ n35 : Int, ((decide (n32 > 0)) = true →
      Wr .i64 (n32 - 1) n35) ∧
    ((decide (n32 > 0)) = true →
      IxOk x34 n35) ∧
    ∃ n36 : Int, ((decide (n32 > 0)) = true →
      w33.cell? ((elA x34 n35 3).add 0) = some (.int .i64 n36)) ∧
    ∃ x37 : Sl, (((decide (n32 > 0)) && (decide (n36 = 0))) = true →
      w33.cell? (a_0.add 1) = some (x37.val)) ∧
    ∃ n38 : Int, (((decide (n32 > 0)) && (decide (n36 = 0))) = true →
      Wr .i64 (n32 - 1) n38) ∧
    ∃ q39 : Bool, (((decide (n32 > 0)) && (decide (n36 = 0))) = true →
      (Trip Try.prog 68 #[x37.val, .int .i64 n38] w33 fun r40 w41 => r40 = .bool q39 ∧ Sub w33 w41)) ∧
    ((((decide (n32 > 0)) && (decide (n36 = 0))) && (!q39)) = true →
      ∃ n42 : Int, Wr .i64 (n32 - 1) n42 ∧
      I30 n42 w33 ∧
      m31 n42 w33 < m31 n32 w33) ∧
    ((((decide (n32 > 0)) && (decide (n36 = 0))) && (!q39)) = false →
      ∃ x43 : Sl, w33.cell? (a_0.add 0) = some (x43.val) ∧
      CutOk x43 0 n32 ∧
      StoreAt w33 a_0 0 [(x43.cut 0 n32 3).val] fun w44 =>
        Q (.tuple #[]) w44))
theorem of65 (a_0 : Addr) (n_1 : Int) (v : World) (Q : Value → World → Prop) (h : vc65 a_0 n_1 v Q) : Trip Try.prog 65 #[.pointer (some (a_0.add 0)), .int .i64 n_1] v Q :=
  trip_of_eq (args := [.pt a_0 0, .num .i64 n_1]) (A := ⟨[(0, [(1, .int .i64)], []), (7, [(54, .int .i64)], []), (14, [(10, .int .i64)], [])], [], [], [], [18, 24, 25, 26, 28, 32, 34, 37, 39, 43, 48, 49, 50, 55, 56, 59, 66, 68, 69, 72, 73, 76, 78, 86, 87, 88, 89, 93, 95, 96, 99, 103, 112, 113, 114, 118, 119, 123, 126, 128, 130, 134, 135, 137, 141, 142, 143]⟩) Try.func65 (by kernel_rfl) (by kernel_rfl) (by kernel_rfl : vc65 a_0 n_1 v Q = _) h

/-- impl.wordValid -/
def vc66 (x_0 : Sl) (n_1 : Int) (v : World) (Q : Value → World → Prop) : Prop :=
  ∃ n1 : Int, ∃ q2 : Bool, (Trip Try.prog 76 #[x_0.val, .int .i64 n_1] v fun r3 w4 => r3 = .tuple #[.int .i64 n1, .bool q2] ∧ Sub v w4) ∧
  ∃ q5 : Bool, (q2 = false →
    (Trip Try.prog 95 #[.int .i64 n_1] v fun r6 w7 => r6 = .bool q5 ∧ Sub v w7)) ∧
  Q (.bool (q2 || q5)) v
theorem of66 (x_0 : Sl) (n_1 : Int) (v : World) (Q : Value → World → Prop) (h : vc66 x_0 n_1 v Q) : Trip Try.prog 66 #[x_0.val, .int .i64 n_1] v Q :=
  trip_of_eq (args := [.sl x_0, .num .i64 n_1]) (A := ⟨[], [], [], [], [18, 24, 25, 26, 28, 32, 34, 37, 39, 43, 48, 49, 50, 55, 56, 59, 66, 68, 69, 72, 73, 76, 78, 86, 87, 88, 89, 93, 95, 96, 99, 103, 112, 113, 114, 118, 119, 123, 126, 128, 130, 134, 135, 137, 141, 142, 143]⟩) Try.func66 (by kernel_rfl) (by kernel_rfl) (by kernel_rfl : vc66 x_0 n_1 v Q = _) h

/-- slices.Clone[[]int,int] -/
def vc67 (x_0 : Sl) (v : World) (Q : Value → World → Prop) : Prop :=
  ∃ q1 : Bool, PureT Try.prog (do eqGuard .eql 24 (.tmp 3) (.const (.slice none 0 0)) (x_0.val) (.slice none 0 0); binOp .eql 24 (x_0.val) (.slice none 0 0)) v (.bool q1) ∧
  (q1 = true →
    Q (.slice none 0 0) v) ∧
  (q1 = false →
    StepT Try.prog (Instr.buildSlice 24 0 #[]) v fun r2 w3 =>
      ∃ x4 : Sl, r2 = x4.val ∧
      StepT Try.prog (Builtin.append_ #[24, 24] 24 #[(x4.val), (x_0.val)]) w3 fun r5 w6 =>
        ∃ x7 : Sl, r5 = x7.val ∧
        Q (x7.val) w6)
theorem of67 (x_0 : Sl) (v : World) (Q : Value → World → Prop) (h : vc67 x_0 v Q) : Trip Try.prog 67 #[x_0.val] v Q :=
  trip_of_eq (args := [.sl x_0]) (A := ⟨[], [], [], [], [18, 24, 25, 26, 28, 32, 34, 37, 39, 43, 48, 49, 50, 55, 56, 59, 66, 68, 69, 72, 73, 76, 78, 86, 87, 88, 89, 93, 95, 96, 99, 103, 112, 113, 114, 118, 119, 123, 126, 128, 130, 134, 135, 137, 141, 142, 143]⟩) Try.func67 (by kernel_rfl) (by kernel_rfl) (by kernel_rfl : vc67 x_0 v Q = _) h

/-- slices.Contains[[]int,int] -/
def vc68 (x_0 : Sl) (n_1 : Int) (v : World) (Q : Value → World → Prop) : Prop :=
  ∃ n1 : Int, (Trip Try.prog 112 #[x_0.val, .int .i64 n_1] v fun r2 w3 => r2 = .int .i64 n1 ∧ Sub v w3) ∧
  Q (.bool (decide (n1 ≥ 0))) v
theorem of68 (x_0 : Sl) (n_1 : Int) (v : World) (Q : Value → World → Prop) (h : vc68 x_0 n_1 v Q) : Trip Try.prog 68 #[x_0.val, .int .i64 n_1] v Q :=
  trip_of_eq (args := [.sl x_0, .num .i64 n_1]) (A := ⟨[], [], [], [], [18, 24, 25, 26, 28, 32, 34, 37, 39, 43, 48, 49, 50, 55, 56, 59, 66, 68, 69, 72, 73, 76, 78, 86, 87, 88, 89, 93, 95, 96, 99, 103, 112, 113, 114, 118, 119, 123, 126, 128, 130, 134, 135, 137, 141, 142, 143]⟩) Try.func68 (by kernel_rfl) (by kernel_rfl) (by kernel_rfl : vc68 x_0 n_1 v Q = _) h

/-- spec.validLazy -/
def vc69 (x0_0 : Sl) (x0_1 : Sl) (v : World) (Q : Value → World → Prop) : Prop :=
  ∃ q1 : Bool, (Trip Try.prog 113 #[.agg #[x0_0.val, x0_1.val]] v fun r2 w3 => r2 = .bool q1 ∧ Sub v w3) ∧
  ((!q1) = false →
    Trip Try.prog 80 #[.agg #[x0_0.val, x0_1.val]] v fun r4 w5 =>
      ∃ x6 : Sl, r4 = x6.val ∧
      ∃ q7 : Bool, (Trip Try.prog 114 #[x6.val] w5 fun r8 w9 => r8 = .bool q7 ∧ Sub w5 w9) ∧
      ((!q7) = true →
        Q (.bool false) w5) ∧
      ((!q7) = false →
        Trip Try.prog 80 #[.agg #[x0_0.val, x0_1.val]] w5 fun r10 w11 =>
          ∃ x12 : Sl, r10 = x12.val ∧
          Trip Try.prog 79 #[x12.val] w11 fun r13 w14 =>
            ∃ x15 : Sl, r13 = x15.val ∧
            ∃ I16 : Int → World → Prop, ∃ m17 : Int → World → Nat, I16 0 w14 ∧
            ∀ n18 : Int, ∀ w19 : World, I16 n18 w19 →
            ((decide (n18 < (x0_1.n : Int))) = true →
              IxOk x0_1 n18 ∧
              ∃ n20 : Int, w19.cell? ((elA x0_1 n18 1).add 0) = some (.int .i64 n20) ∧
              IxOk x15 n20 ∧
              ∃ n21 : Int, w19.cell? ((elA x15 n20 1).add 0) = some (.int .i64 n21) ∧
              ((!decide (n21 = 0)) = true →
                Q (.bool false) w19) ∧
              ((!decide (n21 = 0)) = false →
                ∃ n22 : Int, Wr .i64 (n18 + 1) n22 ∧
                ((.sl x0_0 : SV) = .sl x0_0) ∧
                ((.sl x0_1 : SV) = .sl x0_1) ∧
                I16 n22 w19 ∧
                m17 n22 w19 < m17 n18 w19)) ∧
            ((decide (n18 < (x0_1.n : Int))) = false →
              Q (.bool true) w19))) ∧
  ((!q1) = true →
    Q (.bool false) v)
theorem of69 (x0_0 : Sl) (x0_1 : Sl) (v : World) (Q : Value → World → Prop) (h : vc69 x0_0 x0_1 v Q) : Trip Try.prog 69 #[.agg #[x0_0.val, x0_1.val]] v Q :=
  trip_of_eq (args := [.ag [.sl x0_0, .sl x0_1]]) (A := ⟨[(5, [(4, .int .i64)], [])], [], [], [], [18, 24, 25, 26, 28, 32, 34, 37, 39, 43, 48, 49, 50, 55, 56, 59, 66, 68, 69, 72, 73, 76, 78, 86, 87, 88, 89, 93, 95, 96, 99, 103, 112, 113, 114, 118, 119, 123, 126, 128, 130, 134, 135, 137, 141, 142, 143]⟩) Try.func69 (by kernel_rfl) (by kernel_rfl) (by kernel_rfl : vc69 x0_0 x0_1 v Q = _) h

/-- spec.settle -/
def vc70 (x0_0 : Sl) (x0_1 : Sl) (n_1 : Int) (v : World) (Q : Value → World → Prop) : Prop :=
  ∃ I1 : Int → Sl → Sl → World → Prop, ∃ m2 : Int → Sl → Sl → World → Nat, I1 0 x0_0 x0_1 v ∧
  ∀ n3 : Int, ∀ x4 : Sl, ∀ x5 : Sl, ∀ w6 : World, I1 n3 x4 x5 w6 →
  (((decide (n3 < n_1)) && (decide ((x5.n : Int) > 0))) = true →
    IxOk x5 0 ∧
    ∃ n7 : Int, w6.cell? ((elA x5 0 1).add 0) = some (.int .i64 n7) ∧
    IxOk x4 n7 ∧
    ∃ x8 : Sl, w6.cell? ((elA x4 n7 3).add 2) = some (x8.val) ∧
    ((0 : Int) ≤ 1 ∧ 1 ≤ (x5.n : Int)) ∧
    Trip Try.prog 115 #[(x5.cut 1 (x5.n : Int) 1).val] w6 fun r9 w10 =>
      ∃ x11 : Sl, r9 = x11.val ∧
      StepT Try.prog (Instr.buildSlice 24 0 #[]) w10 fun r12 w13 =>
        ∃ x14 : Sl, r12 = x14.val ∧
        IxOk x4 n7 ∧
        StoreAt w13 (elA x4 n7 3) 0 [.int .i64 0, .int .i64 0, x14.val] fun w15 =>
          ∃ I16 : Int → Sl → Sl → World → Prop, ∃ m17 : Int → Sl → Sl → World → Nat, I16 0 x4 x11 w15 ∧
          ∀ n18 : Int, ∀ x19 : Sl, ∀ x20 : Sl, ∀ w21 : World, I16 n18 x19 x20 w21 →
          ((decide (n18 < (x8.n : Int))) = true →
            IxOk x8 n18 ∧
            ∃ n22 : Int, w21.cell? ((elA x8 n18 1).add 0) = some (.int .i64 n22) ∧
            ∃ q23 : Bool, (Trip Try.prog 78 #[.int .i64 n22] w21 fun r24 w25 => r24 = .bool q23 ∧ Sub w21 w25) ∧
            (q23 = true →
              IxOk x8 n18 ∧
              ∃ n26 : Int, w21.cell? ((elA x8 n18 1).add 0) = some (.int .i64 n26) ∧
              Trip Try.prog 81 #[.agg #[x19.val, x20.val], .int .i64 n26] w21 fun r27 w28 =>
                ∃ x29 : Sl, ∃ x30 : Sl, r27 = .agg #[x29.val, x30.val] ∧
                ∃ n31 : Int, Wr .i64 (n18 + 1) n31 ∧
                ((.sl (Sl.mk none 0 0) : SV) = .sl (Sl.mk none 0 0)) ∧
                ((.sl (Sl.mk none 0 0) : SV) = .sl (Sl.mk none 0 0)) ∧
                I16 n31 x29 x30 w28 ∧
                m17 n31 x29 x30 w28 < m17 n18 x19 x20 w21) ∧
            (q23 = false →
              ∃ n32 : Int, Wr .i64 (n18 + 1) n32 ∧
              ((.sl (Sl.mk none 0 0) : SV) = .sl (Sl.mk none 0 0)) ∧
              ((.sl (Sl.mk none 0 0) : SV) = .sl (Sl.mk none 0 0)) ∧
              I16 n32 x19 x20 w21 ∧
              m17 n32 x19 x20 w21 < m17 n18 x19 x20 w21)) ∧
          ((decide (n18 < (x8.n : Int))) = false →
            ∃ n33 : Int, Wr .i64 (n3 + 1) n33 ∧
            ((.sl (Sl.mk none 0 0) : SV) = .sl (Sl.mk none 0 0)) ∧
            ((.sl (Sl.mk none 0 0) : SV) = .sl (Sl.mk none 0 0)) ∧
            I1 n33 x19 x20 w21 ∧
            m2 n33 x19 x20 w21 < m2 n3 x4 x5 w6)) ∧
  (((decide (n3 < n_1)) && (decide ((x5.n : Int) > 0))) = false →
    Trip Try.prog 116 #[.agg #[x4.val, x5.val]] w6 fun r34 w35 =>
      ∃ x36 : Sl, r34 = x36.val ∧
      Sub w6 w35 ∧
      Q (.agg #[x36.val, x5.val]) w35)
theorem of70 (x0_0 : Sl) (x0_1 : Sl) (n_1 : Int) (v : World) (Q : Value → World → Prop) (h : vc70 x0_0 x0_1 n_1 v Q) : Trip Try.prog 70 #[.agg #[x0_0.val, x0_1.val], .int .i64 n_1] v Q :=
  trip_of_eq (args := [.ag [.sl x0_0, .sl x0_1], .num .i64 n_1]) (A := ⟨[(2, [(5, .int .i64)], [(0, 0, .sl), (0, 1, .sl)]), (9, [(8, .int .i64)], [(0, 0, .sl), (0, 1, .sl)])], [], [(12, []), (13, [1])], [], [18, 24, 25, 26, 28, 32, 34, 37, 39, 43, 48, 49, 50, 55, 56, 59, 66, 68, 69, 72, 73, 76, 78, 86, 87, 88, 89, 93, 95, 96, 99, 103, 112, 113, 114, 118, 119, 123, 126, 128, 130, 134, 135, 137, 141, 142, 143]⟩) Try.func70 (by kernel_rfl) (by kernel_rfl) (by kernel_rfl : vc70 x0_0 x0_1 n_1 v Q = _) h

/-- spec.copyLazy -/
def vc71 (x0_0 : Sl) (x0_1 : Sl) (v : World) (Q : Value → World → Prop) : Prop :=
  Trip Try.prog 117 #[x0_0.val] v fun r1 w2 =>
    ∃ x3 : Sl, r1 = x3.val ∧
    Sub v w2 ∧
    Trip Try.prog 115 #[x0_1.val] w2 fun r4 w5 =>
      ∃ x6 : Sl, r4 = x6.val ∧
      Q (.agg #[x3.val, x6.val]) w5
theorem of71 (x0_0 : Sl) (x0_1 : Sl) (v : World) (Q : Value → World → Prop) (h : vc71 x0_0 x0_1 v Q) : Trip Try.prog 71 #[.agg #[x0_0.val, x0_1.val]] v Q :=
  trip_of_eq (args := [.ag [.sl x0_0, .sl x0_1]]) (A := ⟨[], [], [(1, [2])], [], [18, 24, 25, 26, 28, 32, 34, 37, 39, 43, 48, 49, 50, 55, 56, 59, 66, 68, 69, 72, 73, 76, 78, 86, 87, 88, 89, 93, 95, 96, 99, 103, 112, 113, 114, 118, 119, 123, 126, 128, 130, 134, 135, 137, 141, 142, 143]⟩) Try.func71 (by kernel_rfl) (by kernel_rfl) (by kernel_rfl : vc71 x0_0 x0_1 v Q = _) h

/-- spec.isWord -/
def vc72 (x_0 : Sl) (n_1 : Int) (v : World) (Q : Value → World → Prop) : Prop :=
  ∃ q1 : Bool, (Trip Try.prog 88 #[.int .i64 n_1, .int .i64 (-999), .int .i64 999] v fun r2 w3 => r2 = .bool q1 ∧ Sub v w3) ∧
  ∃ q4 : Bool, (q1 = false →
    (Trip Try.prog 118 #[x_0.val, .int .i64 n_1] v fun r5 w6 => r5 = .bool q4 ∧ Sub v w6)) ∧
  Q (.bool (q1 || q4)) v
theorem of72 (x_0 : Sl) (n_1 : Int) (v : World) (Q : Value → World → Prop) (h : vc72 x_0 n_1 v Q) : Trip Try.prog 72 #[x_0.val, .int .i64 n_1] v Q :=
  trip_of_eq (args := [.sl x_0, .num .i64 n_1]) (A := ⟨[], [], [], [], [18, 24, 25, 26, 28, 32, 34, 37, 39, 43, 48, 49, 50, 55, 56, 59, 66, 68, 69, 72, 73, 76, 78, 86, 87, 88, 89, 93, 95, 96, 99, 103, 112, 113, 114, 118, 119, 123, 126, 128, 130, 134, 135, 137, 141, 142, 143]⟩) Try.func72 (by kernel_rfl) (by kernel_rfl) (by kernel_rfl : vc72 x_0 n_1 v Q = _) h

/-- spec.lazyIndex -/
def vc73 (x0_0 : Sl) (x0_1 : Sl) (v : World) (Q : Value → World → Prop) : Prop :=
  ∃ I1 : Int → World → Prop, ∃ m2 : Int → World → Nat, I1 0 v ∧
  ∀ n3 : Int, ∀ w4 : World, I1 n3 w4 →
  ((decide (n3 < (x0_0.n : Int))) = true →
    IxOk x0_0 n3 ∧
    ∃ n5 : Int, w4.cell? ((elA x0_0 n3 3).add 0) = some (.int .i64 n5) ∧
    ∃ q6 : Bool, ((decide (n5 = 0)) = true →
      (Trip Try.prog 119 #[x0_1.val, .int .i64 n3] w4 fun r7 w8 => r7 = .bool q6 ∧ Sub w4 w8)) ∧
    (((decide (n5 = 0)) && (!q6)) = true →
      Q (.int .i64 n3) w4) ∧
    (((decide (n5 = 0)) && (!q6)) = false →
      ∃ n9 : Int, Wr .i64 (n3 + 1) n9 ∧
      ((.sl x0_0 : SV) = .sl x0_0) ∧
      ((.sl x0_1 : SV) = .sl x0_1) ∧
      I1 n9 w4 ∧
      m2 n9 w4 < m2 n3 w4)) ∧
  ((decide (n3 < (x0_0.n : Int))) = false →
    Q (.int .i64 (x0_0.n : Int)) w4)
theorem of73 (x0_0 : Sl) (x0_1 : Sl) (v : World) (Q : Value → World → Prop) (h : vc73 x0_0 x0_1 v Q) : Trip Try.prog 73 #[.agg #[x0_0.val, x0_1.val]] v Q :=
  trip_of_eq (args := [.ag [.sl x0_0, .sl x0_1]]) (A := ⟨[(2, [(3, .int .i64)], [])], [], [], [], [18, 24, 25, 26, 28, 32, 34, 37, 39, 43, 48, 49, 50, 55, 56, 59, 66, 68, 69, 72, 73, 76, 78, 86, 87, 88, 89, 93, 95, 96, 99, 103, 112, 113, 114, 118, 119, 123, 126, 128, 130, 134, 135, 137, 141, 142, 143]⟩) Try.func73 (by kernel_rfl) (by kernel_rfl) (by kernel_rfl : vc73 x0_0 x0_1 v Q = _) h

/-- spec.place -/
def vc74 (x_0 : Sl) (n_1 : Int) (n_2 : Int) (x_3 : Sl) (v : World) (Q : Value → World → Prop) : Prop :=
  Trip Try.prog 115 #[x_3.val] v fun r1 w2 =>
    ∃ x3 : Sl, r1 = x3.val ∧
    ((decide (n_1 = (x_0.n : Int))) = true →
      StepT Try.prog (Instr.buildSlice 23 1 #[(0, (.agg #[.int .i64 1, .int .i64 n_2, x3.val]))]) w2 fun r4 w5 =>
        ∃ x6 : Sl, r4 = x6.val ∧
        StepT Try.prog (Builtin.append_ #[23, 23] 23 #[(x_0.val), (x6.val)]) w5 fun r7 w8 =>
          ∃ x9 : Sl, r7 = x9.val ∧
          Q (x9.val) w8) ∧
    ((decide (n_1 = (x_0.n : Int))) = false →
      IxOk x_0 n_1 ∧
      StoreAt w2 (elA x_0 n_1 3) 0 [.int .i64 1, .int .i64 n_2, x3.val] fun w10 =>
        Q (x_0.val) w10)
theorem of74 (x_0 : Sl) (n_1 : Int) (n_2 : Int) (x_3 : Sl) (v : World) (Q : Value → World → Prop) (h : vc74 x_0 n_1 n_2 x_3 v Q) : Trip Try.prog 74 #[x_0.val, .int .i64 n_1, .int .i64 n_2, x_3.val] v Q :=
  trip_of_eq (args := [.sl x_0, .num .i64 n_1, .num .i64 n_2, .sl x_3]) (A := ⟨[], [], [], [], [18, 24, 25, 26, 28, 32, 34, 37, 39, 43, 48, 49, 50, 55, 56, 59, 66, 68, 69, 72, 73, 76, 78, 86, 87, 88, 89, 93, 95, 96, 99, 103, 112, 113, 114, 118, 119, 123, 126, 128, 130, 134, 135, 137, 141, 142, 143]⟩) Try.func74 (by kernel_rfl) (by kernel_rfl) (by kernel_rfl : vc74 x_0 n_1 n_2 x_3 v Q = _) h

/-- impl.checkedLazy -/
def vc75 (x0_0 : Sl) (x0_1 : Sl) (v : World) (Q : Value → World → Prop) : Prop :=
  Trip Try.prog 120 #[x0_0.val] v fun r1 w2 =>
    ∃ x3 : Sl, r1 = x3.val ∧
    ∃ I4 : Int → World → Prop, ∃ m5 : Int → World → Nat, I4 0 w2 ∧
    ∀ n6 : Int, ∀ w7 : World, I4 n6 w7 →
    ((decide (n6 < (x3.n : Int))) = true →
      IxOk x3 n6 ∧
      ∃ n8 : Int, ∃ n9 : Int, ∃ x10 : Sl, (w7.cell? ((elA x3 n6 3).add 0) = some (.int .i64 n8) ∧
        w7.cell? ((elA x3 n6 3).add 1) = some (.int .i64 n9) ∧
        w7.cell? ((elA x3 n6 3).add 2) = some (x10.val)) ∧
      ((decide (n8 < 0)) = true →
        Q (.tuple #[.slice none 0 0, .bool false]) w7) ∧
      ((decide (n8 < 0)) = false →
        ∃ n11 : Int, Wr .i64 (n6 + 1) n11 ∧
        ((.sl x0_0 : SV) = .sl x0_0) ∧
        ((.sl x0_1 : SV) = .sl x0_1) ∧
        I4 n11 w7 ∧
        m5 n11 w7 < m5 n6 w7)) ∧
    ((decide (n6 < (x3.n : Int))) = false →
      ∃ I12 : Int → World → Prop, ∃ m13 : Int → World → Nat, I12 0 w7 ∧
      ∀ n14 : Int, ∀ w15 : World, I12 n14 w15 →
      ((decide (n14 < (x0_1.n : Int))) = true →
        IxOk x0_1 n14 ∧
        ∃ n16 : Int, w15.cell? ((elA x0_1 n14 1).add 0) = some (.int .i64 n16) ∧
        (((decide (n16 < 0)) || (decide (n16 ≥ (x3.n : Int)))) = false →
          IxOk x3 n16) ∧
        ∃ n17 : Int, (((decide (n16 < 0)) || (decide (n16 ≥ (x3.n : Int)))) = false →
          w15.cell? ((elA x3 n16 3).add 0) = some (.int .i64 n17)) ∧
        ((((decide (n16 < 0)) || (decide (n16 ≥ (x3.n : Int)))) || (!decide (n17 = 0))) = true →
          Q (.tuple #[.slice none 0 0, .bool false]) w15) ∧
        ((((decide (n16 < 0)) || (decide (n16 ≥ (x3.n : Int)))) || (!decide (n17 = 0))) = false →
          IxOk x3 n16 ∧
          StoreAt w15 (elA x3 n16 3) 0 [.int .i64 1] fun w18 =>
            ∃ n19 : Int, Wr .i64 (n14 + 1) n19 ∧
            ((.sl x0_0 : SV) = .sl x0_0) ∧
            ((.sl x0_1 : SV) = .sl x0_1) ∧
            I12 n19 w18 ∧
            m13 n19 w18 < m13 n14 w15)) ∧
      ((decide (n14 < (x0_1.n : Int))) = false →
        Trip Try.prog 82 #[x3.val] w15 fun r20 w21 =>
          ∃ x22 : Sl, ∃ q23 : Bool, r20 = .tuple #[x22.val, .bool q23] ∧
          NewAt w21 (.cells #[.slice none 0 0] 24 (0, 0)) fun a24 w25 =>
            StoreAt w25 a24 0 [x22.val] fun w26 =>
              ((!q23) = false →
                Trip Try.prog 121 #[x0_1.val, .func (.func 122) #[] #[.pointer (some (a24.add 0))]] w26 fun r27 w28 =>
                  ∃ q29 : Bool, r27 = .bool q29 ∧
                  (q29 = true →
                    Q (.tuple #[.slice none 0 0, .bool false]) w28) ∧
                  (q29 = false →
                    ∃ x30 : Sl, w28.cell? (a24.add 0) = some (x30.val) ∧
                    Q (.tuple #[x30.val, .bool true]) w28)) ∧
              ((!q23) = true →
                Q (.tuple #[.slice none 0 0, .bool false]) w26)))
theorem of75 (x0_0 : Sl) (x0_1 : Sl) (v : World) (Q : Value → World → Prop) (h : vc75 x0_0 x0_1 v Q) : Trip Try.prog 75 #[.agg #[x0_0.val, x0_1.val]] v Q :=
  trip_of_eq (args := [.ag [.sl x0_0, .sl x0_1]]) (A := ⟨[(3, [(16, .int .i64)], []), (9, [(27, .int .i64)], [])], [], [], [9], [18, 24, 25, 26, 28, 32, 34, 37, 39, 43, 48, 49, 50, 55, 56, 59, 66, 68, 69, 72, 73, 76, 78, 86, 87, 88, 89, 93, 95, 96, 99, 103, 112, 113, 114, 118, 119, 123, 126, 128, 130, 134, 135, 137, 141, 142, 143]⟩) Try.func75 (by kernel_rfl) (by kernel_rfl) (by kernel_rfl : vc75 x0_0 x0_1 v Q = _) h

/-- impl.liveAt -/
def vc76 (x_0 : Sl) (n_1 : Int) (v : World) (Q : Value → World → Prop) : Prop :=
  ∃ n1 : Int, Wr .i64 (n_1 - 1000) n1 ∧
  (((decide (n_1 ≥ 1000)) && (decide (n1 < (x_0.n : Int)))) = true →
    IxOk x_0 n1) ∧
  ∃ n2 : Int, (((decide (n_1 ≥ 1000)) && (decide (n1 < (x_0.n : Int)))) = true →
    v.cell? ((elA x_0 n1 3).add 0) = some (.int .i64 n2)) ∧
  Q (.tuple #[.int .i64 n1, .bool (((decide (n_1 ≥ 1000)) && (decide (n1 < (x_0.n : Int)))) && (decide (n2 > 0)))]) v
theorem of76 (x_0 : Sl) (n_1 : Int) (v : World) (Q : Value → World → Prop) (h : vc76 x_0 n_1 v Q) : Trip Try.prog 76 #[x_0.val, .int .i64 n_1] v Q :=
  trip_of_eq (args := [.sl x_0, .num .i64 n_1]) (A := ⟨[], [], [], [], [18, 24, 25, 26, 28, 32, 34, 37, 39, 43, 48, 49, 50, 55, 56, 59, 66, 68, 69, 72, 73, 76, 78, 86, 87, 88, 89, 93, 95, 96, 99, 103, 112, 113, 114, 118, 119, 123, 126, 128, 130, 134, 135, 137, 141, 142, 143]⟩) Try.func76 (by kernel_rfl) (by kernel_rfl) (by kernel_rfl : vc76 x_0 n_1 v Q = _) h

/-- (*impl.Lazy).drop -/
def vc77 (a_0 : Addr) (n_1 : Int) (v : World) (Q : Value → World → Prop) : Prop :=
  ∃ x1 : Sl, v.cell? (a_0.add 0) = some (x1.val) ∧
  IxOk x1 n_1 ∧
  ∃ n2 : Int, v.cell? ((elA x1 n_1 3).add 0) = some (.int .i64 n2) ∧
  ∃ n3 : Int, Wr .i64 (n2 - 1) n3 ∧
  IxOk x1 n_1 ∧
  StoreAt v (elA x1 n_1 3) 0 [.int .i64 n3] fun w4 =>
    ∃ x5 : Sl, w4.cell? (a_0.add 0) = some (x5.val) ∧
    IxOk x5 n_1 ∧
    ∃ n6 : Int, w4.cell? ((elA x5 n_1 3).add 0) = some (.int .i64 n6) ∧
    ((decide (n6 = 0)) = true →
      ∃ x7 : Sl, w4.cell? (a_0.add 1) = some (x7.val) ∧
      StepT Try.prog (Instr.buildSlice 24 1 #[(0, (.int .i64 n_1))]) w4 fun r8 w9 =>
        ∃ x10 : Sl, r8 = x10.val ∧
        StepT Try.prog (Builtin.append_ #[24, 24] 24 #[(x7.val), (x10.val)]) w9 fun r11 w12 =>
          ∃ x13 : Sl, r11 = x13.val ∧
          StoreAt w12 a_0 1 [x13.val] fun w14 =>
            Q (.tuple #[]) w14) ∧
    ((decide (n6 = 0)) = false →
      Q (.tuple #[]) w4)
theorem of77 (a_0 : Addr) (n_1 : Int) (v : World) (Q : Value → World → Prop) (h : vc77 a_0 n_1 v Q) : Trip Try.prog 77 #[.pointer (some (a_0.add 0)), .int .i64 n_1] v Q :=
  trip_of_eq (args := [.pt a_0 0, .num .i64 n_1]) (A := ⟨[], [], [], [], [18, 24, 25, 26, 28, 32, 34, 37, 39, 43, 48, 49, 50, 55, 56, 59, 66, 68, 69, 72, 73, 76, 78, 86, 87, 88, 89, 93, 95, 96, 99, 103, 112, 113, 114, 118, 119, 123, 126, 128, 130, 134, 135, 137, 141, 142, 143]⟩) Try.func77 (by kernel_rfl) (by kernel_rfl) (by kernel_rfl : vc77 a_0 n_1 v Q = _) h

/-- spec.isPointer -/
def vc78 (n_0 : Int) (v : World) (Q : Value → World → Prop) : Prop :=
  Q (.bool (decide (n_0 ≥ 1000))) v
theorem of78 (n_0 : Int) (v : World) (Q : Value → World → Prop) (h : vc78 n_0 v Q) : Trip Try.prog 78 #[.int .i64 n_0] v Q :=
  trip_of_eq (args := [.num .i64 n_0]) (A := ⟨[], [], [], [], [18, 24, 25, 26, 28, 32, 34, 37, 39, 43, 48, 49, 50, 55, 56, 59, 66, 68, 69, 72, 73, 76, 78, 86, 87, 88, 89, 93, 95, 96, 99, 103, 112, 113, 114, 118, 119, 123, 126, 128, 130, 134, 135, 137, 141, 142, 143]⟩) Try.func78 (by kernel_rfl) (by kernel_rfl) (by kernel_rfl : vc78 n_0 v Q = _) h

/-- spec.refsOf -/
def vc79 (x_0 : Sl) (v : World) (Q : Value → World → Prop) : Prop :=
  StepT Try.prog (Instr.makeSlice 24 (.int .i64 (x_0.n : Int)) (.int .i64 (x_0.n : Int))) v fun r1 w2 =>
    ∃ x3 : Sl, r1 = x3.val ∧
    ∃ I4 : Int → World → Prop, ∃ m5 : Int → World → Nat, I4 0 w2 ∧
    ∀ n6 : Int, ∀ w7 : World, I4 n6 w7 →
    ((decide (n6 < (x_0.n : Int))) = true →
      ∃ I8 : Int → World → Prop, ∃ m9 : Int → World → Nat, I8 0 w7 ∧
      ∀ n10 : Int, ∀ w11 : World, I8 n10 w11 →
      IxOk x_0 n6 ∧
      ∃ x12 : Sl, w11.cell? ((elA x_0 n6 3).add 2) = some (x12.val) ∧
      ((decide (n10 < (x12.n : Int))) = true →
        IxOk x_0 n6 ∧
        ∃ x13 : Sl, w11.cell? ((elA x_0 n6 3).add 2) = some (x13.val) ∧
        IxOk x13 n10 ∧
        ∃ n14 : Int, w11.cell? ((elA x13 n10 1).add 0) = some (.int .i64 n14) ∧
        ∃ q15 : Bool, (Trip Try.prog 118 #[x_0.val, .int .i64 n14] w11 fun r16 w17 => r16 = .bool q15 ∧ Sub w11 w17) ∧
        (q15 = true →
          IxOk x_0 n6 ∧
          ∃ x18 : Sl, w11.cell? ((elA x_0 n6 3).add 2) = some (x18.val) ∧
          IxOk x18 n10 ∧
          ∃ n19 : Int, w11.cell? ((elA x18 n10 1).add 0) = some (.int .i64 n19) ∧
          ∃ n20 : Int, Wr .i64 (n19 - 1000) n20 ∧
          IxOk x3 n20 ∧
          ∃ n21 : Int, w11.cell? ((elA x3 n20 1).add 0) = some (.int .i64 n21) ∧
          ∃ n22 : Int, Wr .i64 (n21 + 1) n22 ∧
          IxOk x3 n20 ∧
          StoreAt w11 (elA x3 n20 1) 0 [.int .i64 n22] fun w23 =>
            ∃ n24 : Int, Wr .i64 (n10 + 1) n24 ∧
            I8 n24 w23 ∧
            m9 n24 w23 < m9 n10 w11) ∧
        (q15 = false →
          ∃ n25 : Int, Wr .i64 (n10 + 1) n25 ∧
          I8 n25 w11 ∧
          m9 n25 w11 < m9 n10 w11)) ∧
      ((decide (n10 < (x12.n : Int))) = false →
        ∃ n26 : Int, Wr .i64 (n6 + 1) n26 ∧
        I4 n26 w11 ∧
        m5 n26 w11 < m5 n6 w7)) ∧
    ((decide (n6 < (x_0.n : Int))) = false →
      Q (x3.val) w7)
theorem of79 (x_0 : Sl) (v : World) (Q : Value → World → Prop) (h : vc79 x_0 v Q) : Trip Try.prog 79 #[x_0.val] v Q :=
  trip_of_eq (args := [.sl x_0]) (A := ⟨[(3, [(4, .int .i64)], []), (6, [(5, .int .i64)], [])], [], [], [], [18, 24, 25, 26, 28, 32, 34, 37, 39, 43, 48, 49, 50, 55, 56, 59, 66, 68, 69, 72, 73, 76, 78, 86, 87, 88, 89, 93, 95, 96, 99, 103, 112, 113, 114, 118, 119, 123, 126, 128, 130, 134, 135, 137, 141, 142, 143]⟩) Try.func79 (by kernel_rfl) (by kernel_rfl) (by kernel_rfl : vc79 x_0 v Q = _) h

/-- spec.raised -/
def vc80 (x0_0 : Sl) (x0_1 : Sl) (v : World) (Q : Value → World → Prop) : Prop :=
  Trip Try.prog 117 #[x0_0.val] v fun r1 w2 =>
    ∃ x3 : Sl, r1 = x3.val ∧
    ∃ I4 : Int → World → Prop, ∃ m5 : Int → World → Nat, I4 0 w2 ∧
    ∀ n6 : Int, ∀ w7 : World, I4 n6 w7 →
    ((decide (n6 < (x0_1.n : Int))) = true →
      IxOk x0_1 n6 ∧
      ∃ n8 : Int, w7.cell? ((elA x0_1 n6 1).add 0) = some (.int .i64 n8) ∧
      IxOk x3 n8 ∧
      StoreAt w7 (elA x3 n8 3) 0 [.int .i64 1] fun w9 =>
        ∃ n10 : Int, Wr .i64 (n6 + 1) n10 ∧
        ((.sl x0_0 : SV) = .sl x0_0) ∧
        ((.sl x0_1 : SV) = .sl x0_1) ∧
        I4 n10 w9 ∧
        m5 n10 w9 < m5 n6 w7) ∧
    ((decide (n6 < (x0_1.n : Int))) = false →
      Q (x3.val) w7)
theorem of80 (x0_0 : Sl) (x0_1 : Sl) (v : World) (Q : Value → World → Prop) (h : vc80 x0_0 x0_1 v Q) : Trip Try.prog 80 #[.agg #[x0_0.val, x0_1.val]] v Q :=
  trip_of_eq (args := [.ag [.sl x0_0, .sl x0_1]]) (A := ⟨[(3, [(4, .int .i64)], [])], [], [], [], [18, 24, 25, 26, 28, 32, 34, 37, 39, 43, 48, 49, 50, 55, 56, 59, 66, 68, 69, 72, 73, 76, 78, 86, 87, 88, 89, 93, 95, 96, 99, 103, 112, 113, 114, 118, 119, 123, 126, 128, 130, 134, 135, 137, 141, 142, 143]⟩) Try.func80 (by kernel_rfl) (by kernel_rfl) (by kernel_rfl : vc80 x0_0 x0_1 v Q = _) h

/-- spec.lower -/
def vc81 (x0_0 : Sl) (x0_1 : Sl) (n_1 : Int) (v : World) (Q : Value → World → Prop) : Prop :=
  ∃ n1 : Int, Wr .i64 (n_1 - 1000) n1 ∧
  IxOk x0_0 n1 ∧
  ∃ n2 : Int, v.cell? ((elA x0_0 n1 3).add 0) = some (.int .i64 n2) ∧
  ∃ n3 : Int, Wr .i64 (n2 - 1) n3 ∧
  IxOk x0_0 n1 ∧
  StoreAt v (elA x0_0 n1 3) 0 [.int .i64 n3] fun w4 =>
    IxOk x0_0 n1 ∧
    ∃ n5 : Int, w4.cell? ((elA x0_0 n1 3).add 0) = some (.int .i64 n5) ∧
    ((decide (n5 = 0)) = true →
      StepT Try.prog (Instr.buildSlice 24 1 #[(0, (.int .i64 n1))]) w4 fun r6 w7 =>
        ∃ x8 : Sl, r6 = x8.val ∧
        StepT Try.prog (Builtin.append_ #[24, 24] 24 #[(x0_1.val), (x8.val)]) w7 fun r9 w10 =>
          ∃ x11 : Sl, r9 = x11.val ∧
          Q (.agg #[x0_0.val, x11.val]) w10) ∧
    ((decide (n5 = 0)) = false →
      Q (.agg #[x0_0.val, x0_1.val]) w4)
theorem of81 (x0_0 : Sl) (x0_1 : Sl) (n_1 : Int) (v : World) (Q : Value → World → Prop) (h : vc81 x0_0 x0_1 n_1 v Q) : Trip Try.prog 81 #[.agg #[x0_0.val, x0_1.val], .int .i64 n_1] v Q :=
  trip_of_eq (args := [.ag [.sl x0_0, .sl x0_1], .num .i64 n_1]) (A := ⟨[], [], [(2, [])], [], [18, 24, 25, 26, 28, 32, 34, 37, 39, 43, 48, 49, 50, 55, 56, 59, 66, 68, 69, 72, 73, 76, 78, 86, 87, 88, 89, 93, 95, 96, 99, 103, 112, 113, 114, 118, 119, 123, 126, 128, 130, 134, 135, 137, 141, 142, 143]⟩) Try.func81 (by kernel_rfl) (by kernel_rfl) (by kernel_rfl : vc81 x0_0 x0_1 n_1 v Q = _) h

/-- impl.checkedHeap -/
def vc82 (x_0 : Sl) (v : World) (Q : Value → World → Prop) : Prop :=
  StepT Try.prog (Instr.makeSlice 24 (.int .i64 (x_0.n : Int)) (.int .i64 (x_0.n : Int))) v fun r1 w2 =>
    ∃ x3 : Sl, r1 = x3.val ∧
    ∃ I4 : Int → World → Prop, ∃ m5 : Int → World → Nat, I4 0 w2 ∧
    ∀ n6 : Int, ∀ w7 : World, I4 n6 w7 →
    ((decide (n6 < (x_0.n : Int))) = true →
      IxOk x_0 n6 ∧
      ∃ n8 : Int, ∃ n9 : Int, ∃ x10 : Sl, (w7.cell? ((elA x_0 n6 3).add 0) = some (.int .i64 n8) ∧
        w7.cell? ((elA x_0 n6 3).add 1) = some (.int .i64 n9) ∧
        w7.cell? ((elA x_0 n6 3).add 2) = some (x10.val)) ∧
      ∃ q11 : Bool, (Trip Try.prog 123 #[x_0.val, .agg #[.int .i64 n8, .int .i64 n9, x10.val]] w7 fun r12 w13 => r12 = .bool q11 ∧ Sub w7 w13) ∧
      ((!q11) = true →
        Q (.tuple #[.slice none 0 0, .bool false]) w7) ∧
      ((!q11) = false →
        ∃ I14 : Int → World → Prop, ∃ m15 : Int → World → Nat, I14 0 w7 ∧
        ∀ n16 : Int, ∀ w17 : World, I14 n16 w17 →
        ((decide (n16 < (x10.n : Int))) = true →
          IxOk x10 n16 ∧
          ∃ n18 : Int, w17.cell? ((elA x10 n16 1).add 0) = some (.int .i64 n18) ∧
          ∃ n19 : Int, ∃ q20 : Bool, (Trip Try.prog 76 #[x_0.val, .int .i64 n18] w17 fun r21 w22 => r21 = .tuple #[.int .i64 n19, .bool q20] ∧ Sub w17 w22) ∧
          (q20 = true →
            IxOk x3 n19 ∧
            ∃ n23 : Int, w17.cell? ((elA x3 n19 1).add 0) = some (.int .i64 n23) ∧
            ∃ n24 : Int, Wr .i64 (n23 + 1) n24 ∧
            IxOk x3 n19 ∧
            StoreAt w17 (elA x3 n19 1) 0 [.int .i64 n24] fun w25 =>
              ∃ n26 : Int, Wr .i64 (n16 + 1) n26 ∧
              ((.num .i64 n8 : SV) = .num .i64 n8) ∧
              ((.num .i64 n9 : SV) = .num .i64 n9) ∧
              ((.sl x10 : SV) = .sl x10) ∧
              I14 n26 w25 ∧
              m15 n26 w25 < m15 n16 w17) ∧
          (q20 = false →
            ∃ n27 : Int, Wr .i64 (n16 + 1) n27 ∧
            ((.num .i64 n8 : SV) = .num .i64 n8) ∧
            ((.num .i64 n9 : SV) = .num .i64 n9) ∧
            ((.sl x10 : SV) = .sl x10) ∧
            I14 n27 w17 ∧
            m15 n27 w17 < m15 n16 w17)) ∧
        ((decide (n16 < (x10.n : Int))) = false →
          ∃ n28 : Int, Wr .i64 (n6 + 1) n28 ∧
          I4 n28 w17 ∧
          m5 n28 w17 < m5 n6 w7))) ∧
    ((decide (n6 < (x_0.n : Int))) = false →
      ∃ n29 : Int, ((decide ((x_0.n : Int) > 0)) = true →
        Wr .i64 ((x_0.n : Int) - 1) n29) ∧
      ((decide ((x_0.n : Int) > 0)) = true →
        IxOk x_0 n29) ∧
      ∃ n30 : Int, ((decide ((x_0.n : Int) > 0)) = true →
        w7.cell? ((elA x_0 n29 3).add 0) = some (.int .i64 n30)) ∧
      (((decide ((x_0.n : Int) > 0)) && (decide (n30 = 0))) = true →
        Q (.tuple #[.slice none 0 0, .bool false]) w7) ∧
      (((decide ((x_0.n : Int) > 0)) && (decide (n30 = 0))) = false →
        Trip Try.prog 67 #[x3.val] w7 fun r31 w32 =>
          ∃ x33 : Sl, r31 = x33.val ∧
          ∃ I34 : Sl → Int → World → Prop, ∃ m35 : Sl → Int → World → Nat, I34 (Sl.mk none 0 0) 0 w32 ∧
          ∀ x36 : Sl, ∀ n37 : Int, ∀ w38 : World, I34 x36 n37 w38 →
          ((decide (n37 < (x_0.n : Int))) = true →
            IxOk x_0 n37 ∧
            ∃ n39 : Int, ∃ n40 : Int, ∃ x41 : Sl, (w38.cell? ((elA x_0 n37 3).add 0) = some (.int .i64 n39) ∧
              w38.cell? ((elA x_0 n37 3).add 1) = some (.int .i64 n40) ∧
              w38.cell? ((elA x_0 n37 3).add 2) = some (x41.val)) ∧
            ((decide (n39 > 0)) = true →
              IxOk x3 n37) ∧
            ∃ n42 : Int, ((decide (n39 > 0)) = true →
              w38.cell? ((elA x3 n37 1).add 0) = some (.int .i64 n42)) ∧
            (((decide (n39 > 0)) && ((decide (n39 < n42)) || (decide (n39 > 999999)))) = true →
              Q (.tuple #[.slice none 0 0, .bool false]) w38) ∧
            (((decide (n39 > 0)) && ((decide (n39 < n42)) || (decide (n39 > 999999)))) = false →
              IxOk x3 n37 ∧
              ∃ n43 : Int, w38.cell? ((elA x3 n37 1).add 0) = some (.int .i64 n43) ∧
              ((decide (n43 = 0)) = true →
                StepT Try.prog (Instr.buildSlice 24 1 #[(0, (.int .i64 n37))]) w38 fun r44 w45 =>
                  ∃ x46 : Sl, r44 = x46.val ∧
                  StepT Try.prog (Builtin.append_ #[24, 24] 24 #[(x36.val), (x46.val)]) w45 fun r47 w48 =>
                    ∃ x49 : Sl, r47 = x49.val ∧
                    ∃ n50 : Int, Wr .i64 (n37 + 1) n50 ∧
                    I34 x49 n50 w48 ∧
                    m35 x49 n50 w48 < m35 x36 n37 w38) ∧
              ((decide (n43 = 0)) = false →
                ∃ n51 : Int, Wr .i64 (n37 + 1) n51 ∧
                I34 x36 n51 w38 ∧
                m35 x36 n51 w38 < m35 x36 n37 w38))) ∧
          ((decide (n37 < (x_0.n : Int))) = false →
            ∃ I52 : Sl → Int → World → Prop, ∃ m53 : Sl → Int → World → Nat, I52 x36 0 w38 ∧
            ∀ x54 : Sl, ∀ n55 : Int, ∀ w56 : World, I52 x54 n55 w56 →
            ((decide ((x54.n : Int) > 0)) = true →
              ∃ n57 : Int, Wr .i64 ((x54.n : Int) - 1) n57 ∧
              IxOk x54 n57 ∧
              ∃ n58 : Int, w56.cell? ((elA x54 n57 1).add 0) = some (.int .i64 n58) ∧
              IxOk x_0 n58 ∧
              ∃ n59 : Int, ∃ n60 : Int, ∃ x61 : Sl, (w56.cell? ((elA x_0 n58 3).add 0) = some (.int .i64 n59) ∧
                w56.cell? ((elA x_0 n58 3).add 1) = some (.int .i64 n60) ∧
                w56.cell? ((elA x_0 n58 3).add 2) = some (x61.val)) ∧
              ∃ n62 : Int, Wr .i64 ((x54.n : Int) - 1) n62 ∧
              CutOk x54 0 n62 ∧
              ∃ I63 : Sl → Int → World → Prop, ∃ m64 : Sl → Int → World → Nat, I63 (x54.cut 0 n62 1) 0 w56 ∧
              ∀ x65 : Sl, ∀ n66 : Int, ∀ w67 : World, I63 x65 n66 w67 →
              ((decide (n66 < (x61.n : Int))) = true →
                IxOk x61 n66 ∧
                ∃ n68 : Int, w67.cell? ((elA x61 n66 1).add 0) = some (.int .i64 n68) ∧
                ∃ n69 : Int, ∃ q70 : Bool, (Trip Try.prog 76 #[x_0.val, .int .i64 n68] w67 fun r71 w72 => r71 = .tuple #[.int .i64 n69, .bool q70] ∧ Sub w67 w72) ∧
                (q70 = true →
                  IxOk x33 n69 ∧
                  ∃ n73 : Int, w67.cell? ((elA x33 n69 1).add 0) = some (.int .i64 n73) ∧
                  ∃ n74 : Int, Wr .i64 (n73 - 1) n74 ∧
                  IxOk x33 n69 ∧
                  StoreAt w67 (elA x33 n69 1) 0 [.int .i64 n74] fun w75 =>
                    IxOk x33 n69 ∧
                    ∃ n76 : Int, w75.cell? ((elA x33 n69 1).add 0) = some (.int .i64 n76) ∧
                    ((decide (n76 = 0)) = true →
                      StepT Try.prog (Instr.buildSlice 24 1 #[(0, (.int .i64 n69))]) w75 fun r77 w78 =>
                        ∃ x79 : Sl, r77 = x79.val ∧
                        StepT Try.prog (Builtin.append_ #[24, 24] 24 #[(x65.val), (x79.val)]) w78 fun r80 w81 =>
                          ∃ x82 : Sl, r80 = x82.val ∧
                          ∃ n83 : Int, Wr .i64 (n66 + 1) n83 ∧
                          ((.num .i64 n59 : SV) = .num .i64 n59) ∧
                          ((.num .i64 n60 : SV) = .num .i64 n60) ∧
                          ((.sl x61 : SV) = .sl x61) ∧
                          I63 x82 n83 w81 ∧
                          m64 x82 n83 w81 < m64 x65 n66 w67) ∧
                    ((decide (n76 = 0)) = false →
                      ∃ n84 : Int, Wr .i64 (n66 + 1) n84 ∧
                      ((.num .i64 n59 : SV) = .num .i64 n59) ∧
                      ((.num .i64 n60 : SV) = .num .i64 n60) ∧
                      ((.sl x61 : SV) = .sl x61) ∧
                      I63 x65 n84 w75 ∧
                      m64 x65 n84 w75 < m64 x65 n66 w67)) ∧
                (q70 = false →
                  ∃ n85 : Int, Wr .i64 (n66 + 1) n85 ∧
                  ((.num .i64 n59 : SV) = .num .i64 n59) ∧
                  ((.num .i64 n60 : SV) = .num .i64 n60) ∧
                  ((.sl x61 : SV) = .sl x61) ∧
                  I63 x65 n85 w67 ∧
                  m64 x65 n85 w67 < m64 x65 n66 w67)) ∧
              ((decide (n66 < (x61.n : Int))) = false →
                ∃ n86 : Int, Wr .i64 (n55 + 1) n86 ∧
                I52 x65 n86 w67 ∧
                m53 x65 n86 w67 < m53 x54 n55 w56)) ∧
            ((decide ((x54.n : Int) > 0)) = false →
              Q (.tuple #[x3.val, .bool (decide (n55 = (x_0.n : Int)))]) w56))))
theorem of82 (x_0 : Sl) (v : World) (Q : Value → World → Prop) (h : vc82 x_0 v Q) : Trip Try.prog 82 #[x_0.val] v Q :=
  trip_of_eq (args := [.sl x_0]) (A := ⟨[(3, [(26, .int .i64)], []), (8, [(37, .int .i64)], []), (21, [(12, .sl), (73, .int .i64)], []), (28, [(12, .sl), (13, .int .i64)], []), (33, [(12, .sl), (127, .int .i64)], [])], [], [], [], [18, 24, 25, 26, 28, 32, 34, 37, 39, 43, 48, 49, 50, 55, 56, 59, 66, 68, 69, 72, 73, 76, 78, 86, 87, 88, 89, 93, 95, 96, 99, 103, 112, 113, 114, 118, 119, 123, 126, 128, 130, 134, 135, 137, 141, 142, 143]⟩) Try.func82 (by kernel_rfl) (by kernel_rfl) (by kernel_rfl : vc82 x_0 v Q = _) h

/-- impl.cloneHeap -/
def vc83 (x_0 : Sl) (v : World) (Q : Value → World → Prop) : Prop :=
  Trip Try.prog 120 #[x_0.val] v fun r1 w2 =>
    ∃ x3 : Sl, r1 = x3.val ∧
    ∃ I4 : Int → World → Prop, ∃ m5 : Int → World → Nat, I4 0 w2 ∧
    ∀ n6 : Int, ∀ w7 : World, I4 n6 w7 →
    ((decide (n6 < (x_0.n : Int))) = true →
      IxOk x_0 n6 ∧
      ∃ n8 : Int, ∃ n9 : Int, ∃ x10 : Sl, (w7.cell? ((elA x_0 n6 3).add 0) = some (.int .i64 n8) ∧
        w7.cell? ((elA x_0 n6 3).add 1) = some (.int .i64 n9) ∧
        w7.cell? ((elA x_0 n6 3).add 2) = some (x10.val)) ∧
      Trip Try.prog 67 #[x10.val] w7 fun r11 w12 =>
        ∃ x13 : Sl, r11 = x13.val ∧
        IxOk x3 n6 ∧
        StoreAt w12 (elA x3 n6 3) 2 [x13.val] fun w14 =>
          ∃ n15 : Int, Wr .i64 (n6 + 1) n15 ∧
          I4 n15 w14 ∧
          m5 n15 w14 < m5 n6 w7) ∧
    ((decide (n6 < (x_0.n : Int))) = false →
      Q (x3.val) w7)
theorem of83 (x_0 : Sl) (v : World) (Q : Value → World → Prop) (h : vc83 x_0 v Q) : Trip Try.prog 83 #[x_0.val] v Q :=
  trip_of_eq (args := [.sl x_0]) (A := ⟨[(3, [(10, .int .i64)], [])], [], [], [], [18, 24, 25, 26, 28, 32, 34, 37, 39, 43, 48, 49, 50, 55, 56, 59, 66, 68, 69, 72, 73, 76, 78, 86, 87, 88, 89, 93, 95, 96, 99, 103, 112, 113, 114, 118, 119, 123, 126, 128, 130, 134, 135, 137, 141, 142, 143]⟩) Try.func83 (by kernel_rfl) (by kernel_rfl) (by kernel_rfl : vc83 x_0 v Q = _) h

/-- (*impl.heap).drop -/
def vc84 (a_0 : Addr) (n_1 : Int) (v : World) (Q : Value → World → Prop) : Prop :=
  StepT Try.prog (Instr.buildSlice 24 1 #[(0, (.int .i64 n_1))]) v fun r1 w2 =>
    ∃ x3 : Sl, r1 = x3.val ∧
    ∃ I4 : Sl → World → Prop, ∃ m5 : Sl → World → Nat, I4 x3 w2 ∧
    ∀ x6 : Sl, ∀ w7 : World, I4 x6 w7 →
    ((decide ((x6.n : Int) > 0)) = true →
      ∃ x8 : Sl, w7.cell? (a_0.add 0) = some (x8.val) ∧
      ∃ n9 : Int, Wr .i64 ((x6.n : Int) - 1) n9 ∧
      IxOk x6 n9 ∧
      ∃ n10 : Int, w7.cell? ((elA x6 n9 1).add 0) = some (.int .i64 n10) ∧
      ∃ n11 : Int, ∃ q12 : Bool, (Trip Try.prog 76 #[x8.val, .int .i64 n10] w7 fun r13 w14 => r13 = .tuple #[.int .i64 n11, .bool q12] ∧ Sub w7 w14) ∧
      ∃ n15 : Int, Wr .i64 ((x6.n : Int) - 1) n15 ∧
      CutOk x6 0 n15 ∧
      ((!q12) = true →
        I4 (x6.cut 0 n15 1) w7 ∧
        m5 (x6.cut 0 n15 1) w7 < m5 x6 w7) ∧
      ((!q12) = false →
        ∃ x16 : Sl, w7.cell? (a_0.add 0) = some (x16.val) ∧
        IxOk x16 n11 ∧
        ∃ n17 : Int, w7.cell? ((elA x16 n11 3).add 0) = some (.int .i64 n17) ∧
        ∃ n18 : Int, Wr .i64 (n17 - 1) n18 ∧
        IxOk x16 n11 ∧
        StoreAt w7 (elA x16 n11 3) 0 [.int .i64 n18] fun w19 =>
          ∃ x20 : Sl, w19.cell? (a_0.add 0) = some (x20.val) ∧
          IxOk x20 n11 ∧
          ∃ n21 : Int, w19.cell? ((elA x20 n11 3).add 0) = some (.int .i64 n21) ∧
          ((decide (n21 = 0)) = true →
            ∃ x22 : Sl, w19.cell? (a_0.add 0) = some (x22.val) ∧
            IxOk x22 n11 ∧
            ∃ x23 : Sl, w19.cell? ((elA x22 n11 3).add 2) = some (x23.val) ∧
            StepT Try.prog (Builtin.append_ #[24, 24] 24 #[((x6.cut 0 n15 1).val), (x23.val)]) w19 fun r24 w25 =>
              ∃ x26 : Sl, r24 = x26.val ∧
              ∃ x27 : Sl, w25.cell? (a_0.add 0) = some (x27.val) ∧
              IxOk x27 n11 ∧
              StoreAt w25 (elA x27 n11 3) 0 [.int .i64 0, .int .i64 0, .slice none 0 0] fun w28 =>
                I4 x26 w28 ∧
                m5 x26 w28 < m5 x6 w7) ∧
          ((decide (n21 = 0)) = false →
            I4 (x6.cut 0 n15 1) w19 ∧
            m5 (x6.cut 0 n15 1) w19 < m5 x6 w7))) ∧
    ((decide ((x6.n : Int) > 0)) = false →
      Trip Try.prog 98 #[.pointer (some (a_0.add 0))] w7 fun r29 w30 =>
        r29 = .tuple #[] ∧
        Q (.tuple #[]) w30)
theorem of84 (a_0 : Addr) (n_1 : Int) (v : World) (Q : Value → World → Prop) (h : vc84 a_0 n_1 v Q) : Trip Try.prog 84 #[.pointer (some (a_0.add 0)), .int .i64 n_1] v Q :=
  trip_of_eq (args := [.pt a_0 0, .num .i64 n_1]) (A := ⟨[(1, [(4, .sl)], [])], [], [], [], [18, 24, 25, 26, 28, 32, 34, 37, 39, 43, 48, 49, 50, 55, 56, 59, 66, 68, 69, 72, 73, 76, 78, 86, 87, 88, 89, 93, 95, 96, 99, 103, 112, 113, 114, 118, 119, 123, 126, 128, 130, 134, 135, 137, 141, 142, 143]⟩) Try.func84 (by kernel_rfl) (by kernel_rfl) (by kernel_rfl : vc84 a_0 n_1 v Q = _) h

/-- impl.liveCells -/
def vc85 (x_0 : Sl) (v : World) (Q : Value → World → Prop) : Prop :=
  ∃ I1 : Int → Int → World → Prop, ∃ m2 : Int → Int → World → Nat, I1 0 0 v ∧
  ∀ n3 : Int, ∀ n4 : Int, ∀ w5 : World, I1 n3 n4 w5 →
  ((decide (n4 < (x_0.n : Int))) = true →
    IxOk x_0 n4 ∧
    ∃ n6 : Int, ∃ n7 : Int, ∃ x8 : Sl, (w5.cell? ((elA x_0 n4 3).add 0) = some (.int .i64 n6) ∧
      w5.cell? ((elA x_0 n4 3).add 1) = some (.int .i64 n7) ∧
      w5.cell? ((elA x_0 n4 3).add 2) = some (x8.val)) ∧
    ((decide (n6 > 0)) = true →
      ∃ n9 : Int, Wr .i64 (n3 + 1) n9 ∧
      ∃ n10 : Int, Wr .i64 (n4 + 1) n10 ∧
      I1 n9 n10 w5 ∧
      m2 n9 n10 w5 < m2 n3 n4 w5) ∧
    ((decide (n6 > 0)) = false →
      ∃ n11 : Int, Wr .i64 (n4 + 1) n11 ∧
      I1 n3 n11 w5 ∧
      m2 n3 n11 w5 < m2 n3 n4 w5)) ∧
  ((decide (n4 < (x_0.n : Int))) = false →
    Q (.int .i64 n3) w5)
theorem of85 (x_0 : Sl) (v : World) (Q : Value → World → Prop) (h : vc85 x_0 v Q) : Trip Try.prog 85 #[x_0.val] v Q :=
  trip_of_eq (args := [.sl x_0]) (A := ⟨[(3, [(3, .int .i64), (8, .int .i64)], [])], [], [], [], [18, 24, 25, 26, 28, 32, 34, 37, 39, 43, 48, 49, 50, 55, 56, 59, 66, 68, 69, 72, 73, 76, 78, 86, 87, 88, 89, 93, 95, 96, 99, 103, 112, 113, 114, 118, 119, 123, 126, 128, 130, 134, 135, 137, 141, 142, 143]⟩) Try.func85 (by kernel_rfl) (by kernel_rfl) (by kernel_rfl : vc85 x_0 v Q = _) h

/-- laws.szIntS -/
def vc86 (x_0 : Sl) (n_1 : Int) (v : World) (Q : Value → World → Prop) : Prop :=
  ∃ n1 : Int, Wr .i64 (n_1 - (x_0.n : Int)) n1 ∧
  ((decide (n1 < 0)) = true →
    Q (.int .i64 (-1)) v) ∧
  ((decide (n1 < 0)) = false →
    Q (.int .i64 n1) v)
theorem of86 (x_0 : Sl) (n_1 : Int) (v : World) (Q : Value → World → Prop) (h : vc86 x_0 n_1 v Q) : Trip Try.prog 86 #[x_0.val, .int .i64 n_1] v Q :=
  trip_of_eq (args := [.sl x_0, .num .i64 n_1]) (A := ⟨[], [], [], [], [18, 24, 25, 26, 28, 32, 34, 37, 39, 43, 48, 49, 50, 55, 56, 59, 66, 68, 69, 72, 73, 76, 78, 86, 87, 88, 89, 93, 95, 96, 99, 103, 112, 113, 114, 118, 119, 123, 126, 128, 130, 134, 135, 137, 141, 142, 143]⟩) Try.func86 (by kernel_rfl) (by kernel_rfl) (by kernel_rfl : vc86 x_0 n_1 v Q = _) h

/-- spec.validMemory -/
def vc88 (n_0 : Int) (n_1 : Int) (n_2 : Int) (v : World) (Q : Value → World → Prop) : Prop :=
  Q (.bool ((decide (n_1 ≤ n_0)) && (decide (n_0 ≤ n_2)))) v
theorem of88 (n_0 : Int) (n_1 : Int) (n_2 : Int) (v : World) (Q : Value → World → Prop) (h : vc88 n_0 n_1 n_2 v Q) : Trip Try.prog 88 #[.int .i64 n_0, .int .i64 n_1, .int .i64 n_2] v Q :=
  trip_of_eq (args := [.num .i64 n_0, .num .i64 n_1, .num .i64 n_2]) (A := ⟨[], [], [], [], [18, 24, 25, 26, 28, 32, 34, 37, 39, 43, 48, 49, 50, 55, 56, 59, 66, 68, 69, 72, 73, 76, 78, 86, 87, 88, 89, 93, 95, 96, 99, 103, 112, 113, 114, 118, 119, 123, 126, 128, 130, 134, 135, 137, 141, 142, 143]⟩) Try.func88 (by kernel_rfl) (by kernel_rfl) (by kernel_rfl : vc88 n_0 n_1 n_2 v Q = _) h

/-- spec.isBlock -/
def vc95 (n_0 : Int) (v : World) (Q : Value → World → Prop) : Prop :=
  Q (.bool ((decide (n_0 ≥ (-999))) && (decide (n_0 ≤ 999)))) v
theorem of95 (n_0 : Int) (v : World) (Q : Value → World → Prop) (h : vc95 n_0 v Q) : Trip Try.prog 95 #[.int .i64 n_0] v Q :=
  trip_of_eq (args := [.num .i64 n_0]) (A := ⟨[], [], [], [], [18, 24, 25, 26, 28, 32, 34, 37, 39, 43, 48, 49, 50, 55, 56, 59, 66, 68, 69, 72, 73, 76, 78, 86, 87, 88, 89, 93, 95, 96, 99, 103, 112, 113, 114, 118, 119, 123, 126, 128, 130, 134, 135, 137, 141, 142, 143]⟩) Try.func95 (by kernel_rfl) (by kernel_rfl) (by kernel_rfl : vc95 n_0 v Q = _) h

/-- laws.heldIntS -/
def vc96 (x_0 : Sl) (n_1 : Int) (v : World) (Q : Value → World → Prop) : Prop :=
  ∃ I1 : Int → Int → World → Prop, ∃ m2 : Int → Int → World → Nat, I1 n_1 0 v ∧
  ∀ n3 : Int, ∀ n4 : Int, ∀ w5 : World, I1 n3 n4 w5 →
  ((decide (n4 < (x_0.n : Int))) = true →
    IxOk x_0 n4 ∧
    ∃ n6 : Int, w5.cell? ((elA x_0 n4 1).add 0) = some (.int .i64 n6) ∧
    ((!decide (n6 = n3)) = true →
      Q (.int .i64 (-1)) w5) ∧
    ((!decide (n6 = n3)) = false →
      ∃ n7 : Int, Wr .i64 (n3 + 1) n7 ∧
      ∃ n8 : Int, Wr .i64 (n4 + 1) n8 ∧
      I1 n7 n8 w5 ∧
      m2 n7 n8 w5 < m2 n3 n4 w5)) ∧
  ((decide (n4 < (x_0.n : Int))) = false →
    Q (.int .i64 n3) w5)
theorem of96 (x_0 : Sl) (n_1 : Int) (v : World) (Q : Value → World → Prop) (h : vc96 x_0 n_1 v Q) : Trip Try.prog 96 #[x_0.val, .int .i64 n_1] v Q :=
  trip_of_eq (args := [.sl x_0, .num .i64 n_1]) (A := ⟨[(2, [(1, .int .i64), (5, .int .i64)], [])], [], [], [], [18, 24, 25, 26, 28, 32, 34, 37, 39, 43, 48, 49, 50, 55, 56, 59, 66, 68, 69, 72, 73, 76, 78, 86, 87, 88, 89, 93, 95, 96, 99, 103, 112, 113, 114, 118, 119, 123, 126, 128, 130, 134, 135, 137, 141, 142, 143]⟩) Try.func96 (by kernel_rfl) (by kernel_rfl) (by kernel_rfl : vc96 x_0 n_1 v Q = _) h

/-- spec.heapOf -/
def vc98 (a_0 : Addr) (v : World) (Q : Value → World → Prop) : Prop :=
  ∃ x1 : Sl, v.cell? (a_0.add 0) = some (x1.val) ∧
  ∃ I2 : Int → World → Prop, ∃ m3 : Int → World → Nat, I2 (x1.n : Int) v ∧
  ∀ n4 : Int, ∀ w5 : World, I2 n4 w5 →
  ∃ x6 : Sl, ((decide (n4 > 0)) = true →
    w5.cell? (a_0.add 0) = some (x6.val)) ∧
  ∃ n7 : Int, ((decide (n4 > 0)) = true →
    Wr .i64 (n4 - 1) n7) ∧
  ((decide (n4 > 0)) = true →
    IxOk x6 n7) ∧
  ∃ n8 : Int, ((decide (n4 > 0)) = true →
    w5.cell? ((elA x6 n7 3).add 0) = some (.int .i64 n8)) ∧
  (((decide (n4 > 0)) && (decide (n8 = 0))) = true →
    ∃ n9 : Int, Wr .i64 (n4 - 1) n9 ∧
    I2 n9 w5 ∧
    m3 n9 w5 < m3 n4 w5) ∧
  (((decide (n4 > 0)) && (decide (n8 = 0))) = false →
    ∃ x10 : Sl, w5.cell? (a_0.add 0) = some (x10.val) ∧
    CutOk x10 0 n4 ∧
    StoreAt w5 a_0 0 [(x10.cut 0 n4 3).val] fun w11 =>
      Q (.tuple #[]) w11)
theorem of98 (a_0 : Addr) (v : World) (Q : Value → World → Prop) (h : vc98 a_0 v Q) : Trip Try.prog 98 #[.pointer (some (a_0.add 0))] v Q :=
  trip_of_eq (args := [.pt a_0 0]) (A := ⟨[(1, [(2, .int .i64)], [])], [], [], [], [18, 24, 25, 26, 28, 32, 34, 37, 39, 43, 48, 49, 50, 55, 56, 59, 66, 68, 69, 72, 73, 76, 78, 86, 87, 88, 89, 93, 95, 96, 99, 103, 112, 113, 114, 118, 119, 123, 126, 128, 130, 134, 135, 137, 141, 142, 143]⟩) Try.func98 (by kernel_rfl) (by kernel_rfl) (by kernel_rfl : vc98 a_0 v Q = _) h

/-- laws.eqCell -/
def vc99 (n0_0 : Int) (n0_1 : Int) (x0_2 : Sl) (n1_0 : Int) (n1_1 : Int) (x1_2 : Sl) (v : World) (Q : Value → World → Prop) : Prop :=
  ((!decide (n0_0 = n1_0)) = true →
    Q (.bool false) v) ∧
  ((!decide (n0_0 = n1_0)) = false →
    ((!decide (n0_1 = n1_1)) = true →
      Q (.bool false) v) ∧
    ((!decide (n0_1 = n1_1)) = false →
      ∃ q1 : Bool, (Trip Try.prog 43 #[x0_2.val, x1_2.val] v fun r2 w3 => r2 = .bool q1 ∧ Sub v w3) ∧
      ((!q1) = true →
        Q (.bool false) v) ∧
      ((!q1) = false →
        Q (.bool true) v)))
theorem of99 (n0_0 : Int) (n0_1 : Int) (x0_2 : Sl) (n1_0 : Int) (n1_1 : Int) (x1_2 : Sl) (v : World) (Q : Value → World → Prop) (h : vc99 n0_0 n0_1 x0_2 n1_0 n1_1 x1_2 v Q) : Trip Try.prog 99 #[.agg #[.int .i64 n0_0, .int .i64 n0_1, x0_2.val], .agg #[.int .i64 n1_0, .int .i64 n1_1, x1_2.val]] v Q :=
  trip_of_eq (args := [.ag [.num .i64 n0_0, .num .i64 n0_1, .sl x0_2], .ag [.num .i64 n1_0, .num .i64 n1_1, .sl x1_2]]) (A := ⟨[], [], [], [], [18, 24, 25, 26, 28, 32, 34, 37, 39, 43, 48, 49, 50, 55, 56, 59, 66, 68, 69, 72, 73, 76, 78, 86, 87, 88, 89, 93, 95, 96, 99, 103, 112, 113, 114, 118, 119, 123, 126, 128, 130, 134, 135, 137, 141, 142, 143]⟩) Try.func99 (by kernel_rfl) (by kernel_rfl) (by kernel_rfl : vc99 n0_0 n0_1 x0_2 n1_0 n1_1 x1_2 v Q = _) h

/-- spec.zeros -/
def vc100 (n_0 : Int) (v : World) (Q : Value → World → Prop) : Prop :=
  StepT Try.prog (Instr.makeSlice 24 (.int .i64 n_0) (.int .i64 n_0)) v fun r1 w2 =>
    ∃ x3 : Sl, r1 = x3.val ∧
    Q (x3.val) w2
theorem of100 (n_0 : Int) (v : World) (Q : Value → World → Prop) (h : vc100 n_0 v Q) : Trip Try.prog 100 #[.int .i64 n_0] v Q :=
  trip_of_eq (args := [.num .i64 n_0]) (A := ⟨[], [], [], [], [18, 24, 25, 26, 28, 32, 34, 37, 39, 43, 48, 49, 50, 55, 56, 59, 66, 68, 69, 72, 73, 76, 78, 86, 87, 88, 89, 93, 95, 96, 99, 103, 112, 113, 114, 118, 119, 123, 126, 128, 130, 134, 135, 137, 141, 142, 143]⟩) Try.func100 (by kernel_rfl) (by kernel_rfl) (by kernel_rfl : vc100 n_0 v Q = _) h

/-- spec.fill -/
def vc110 (a_0 : Addr) (v : World) (Q : Value → World → Prop) : Prop :=
  Trip Try.prog 133 #[.pointer (some (a_0.add 0)), .bool false] v fun r1 w2 =>
    ∃ x3 : Sl, r1 = x3.val ∧
    StepT Try.prog (Instr.buildSlice 24 0 #[]) w2 fun r4 w5 =>
      ∃ x6 : Sl, r4 = x6.val ∧
      Trip Try.prog 111 #[.pointer (some (a_0.add 0)), .int .i64 7] w5 fun r7 w8 =>
        ∃ n9 : Int, r7 = .int .i64 n9 ∧
        ∃ I10 : Int → Sl → Sl → World → Prop, ∃ m11 : Int → Sl → Sl → World → Nat, I10 n9 x3 x6 w8 ∧
        ∀ n12 : Int, ∀ x13 : Sl, ∀ x14 : Sl, ∀ w15 : World, I10 n12 x13 x14 w15 →
        (((decide (n12 > 0)) && (decide ((x13.n : Int) > 0))) = true →
          (Trip Try.prog 111 #[.pointer (some (a_0.add 0)), .int .i64 (x13.n : Int)] w15 fun r16 w17 =>
              ∃ n18 : Int, r16 = .int .i64 n18 ∧
              ∃ n19 : Int, Wr .i64 (1000 + n18) n19 ∧
              (Trip Try.prog 21 #[.agg #[x13.val, x14.val], .int .i64 n19] w17 fun r20 w21 =>
                  ∃ x22 : Sl, ∃ x23 : Sl, ∃ q24 : Bool, r20 = .tuple #[.agg #[x22.val, x23.val], .bool q24] ∧
                  Sub w21 w21 ∧
                  (q24 = true →
                    Trip Try.prog 111 #[.pointer (some (a_0.add 0)), .int .i64 5] w21 fun r25 w26 =>
                      ∃ n27 : Int, r25 = .int .i64 n27 ∧
                      ((decide (n27 = 0)) = true →
                        Trip Try.prog 70 #[.agg #[x22.val, x23.val], .int .i64 1] w26 fun r28 w29 =>
                          ∃ x30 : Sl, ∃ x31 : Sl, r28 = .agg #[x30.val, x31.val] ∧
                          ∃ n32 : Int, Wr .i64 (n12 - 1) n32 ∧
                          ((.sl (Sl.mk none 0 0) : SV) = .sl (Sl.mk none 0 0)) ∧
                          ((.sl (Sl.mk none 0 0) : SV) = .sl (Sl.mk none 0 0)) ∧
                          I10 n32 x30 x31 w29 ∧
                          m11 n32 x30 x31 w29 < m11 n12 x13 x14 w15) ∧
                      ((decide (n27 = 0)) = false →
                        ∃ n33 : Int, Wr .i64 (n12 - 1) n33 ∧
                        ((.sl (Sl.mk none 0 0) : SV) = .sl (Sl.mk none 0 0)) ∧
                        ((.sl (Sl.mk none 0 0) : SV) = .sl (Sl.mk none 0 0)) ∧
                        I10 n33 x22 x23 w26 ∧
                        m11 n33 x22 x23 w26 < m11 n12 x13 x14 w15)) ∧
                  (q24 = false →
                    Trip Try.prog 111 #[.pointer (some (a_0.add 0)), .int .i64 5] w21 fun r34 w35 =>
                      ∃ n36 : Int, r34 = .int .i64 n36 ∧
                      ((decide (n36 = 0)) = true →
                        Trip Try.prog 70 #[.agg #[x13.val, x14.val], .int .i64 1] w35 fun r37 w38 =>
                          ∃ x39 : Sl, ∃ x40 : Sl, r37 = .agg #[x39.val, x40.val] ∧
                          ∃ n41 : Int, Wr .i64 (n12 - 1) n41 ∧
                          ((.sl (Sl.mk none 0 0) : SV) = .sl (Sl.mk none 0 0)) ∧
                          ((.sl (Sl.mk none 0 0) : SV) = .sl (Sl.mk none 0 0)) ∧
                          I10 n41 x39 x40 w38 ∧
                          m11 n41 x39 x40 w38 < m11 n12 x13 x14 w15) ∧
                      ((decide (n36 = 0)) = false →
                        ∃ n42 : Int, Wr .i64 (n12 - 1) n42 ∧
                        ((.sl (Sl.mk none 0 0) : SV) = .sl (Sl.mk none 0 0)) ∧
                        ((.sl (Sl.mk none 0 0) : SV) = .sl (Sl.mk none 0 0)) ∧
                        I10 n42 x13 x14 w35 ∧
                        m11 n42 x13 x14 w35 < m11 n12 x13 x14 w15))) ∧
              Sub w17 w17 ∧
              Trip Try.prog 21 #[.agg #[x13.val, x14.val], .int .i64 n19] w17 fun r43 w44 =>
                ∃ x45 : Sl, ∃ x46 : Sl, ∃ q47 : Bool, r43 = .tuple #[.agg #[x45.val, x46.val], .bool q47] ∧
                (q47 = true →
                  Trip Try.prog 111 #[.pointer (some (a_0.add 0)), .int .i64 5] w44 fun r48 w49 =>
                    ∃ n50 : Int, r48 = .int .i64 n50 ∧
                    ((decide (n50 = 0)) = true →
                      Trip Try.prog 70 #[.agg #[x45.val, x46.val], .int .i64 1] w49 fun r51 w52 =>
                        ∃ x53 : Sl, ∃ x54 : Sl, r51 = .agg #[x53.val, x54.val] ∧
                        ∃ n55 : Int, Wr .i64 (n12 - 1) n55 ∧
                        ((.sl (Sl.mk none 0 0) : SV) = .sl (Sl.mk none 0 0)) ∧
                        ((.sl (Sl.mk none 0 0) : SV) = .sl (Sl.mk none 0 0)) ∧
                        I10 n55 x53 x54 w52 ∧
                        m11 n55 x53 x54 w52 < m11 n12 x13 x14 w15) ∧
                    ((decide (n50 = 0)) = false →
                      ∃ n56 : Int, Wr .i64 (n12 - 1) n56 ∧
                      ((.sl (Sl.mk none 0 0) : SV) = .sl (Sl.mk none 0 0)) ∧
                      ((.sl (Sl.mk none 0 0) : SV) = .sl (Sl.mk none 0 0)) ∧
                      I10 n56 x45 x46 w49 ∧
                      m11 n56 x45 x46 w49 < m11 n12 x13 x14 w15)) ∧
                (q47 = false →
                  Trip Try.prog 111 #[.pointer (some (a_0.add 0)), .int .i64 5] w44 fun r57 w58 =>
                    ∃ n59 : Int, r57 = .int .i64 n59 ∧
                    ((decide (n59 = 0)) = true →
                      Trip Try.prog 70 #[.agg #[x13.val, x14.val], .int .i64 1] w58 fun r60 w61 =>
                        ∃ x62 : Sl, ∃ x63 : Sl, r60 = .agg #[x62.val, x63.val] ∧
                        ∃ n64 : Int, Wr .i64 (n12 - 1) n64 ∧
                        ((.sl (Sl.mk none 0 0) : SV) = .sl (Sl.mk none 0 0)) ∧
                        ((.sl (Sl.mk none 0 0) : SV) = .sl (Sl.mk none 0 0)) ∧
                        I10 n64 x62 x63 w61 ∧
                        m11 n64 x62 x63 w61 < m11 n12 x13 x14 w15) ∧
                    ((decide (n59 = 0)) = false →
                      ∃ n65 : Int, Wr .i64 (n12 - 1) n65 ∧
                      ((.sl (Sl.mk none 0 0) : SV) = .sl (Sl.mk none 0 0)) ∧
                      ((.sl (Sl.mk none 0 0) : SV) = .sl (Sl.mk none 0 0)) ∧
                      I10 n65 x13 x14 w58 ∧
                      m11 n65 x13 x14 w58 < m11 n12 x13 x14 w15))) ∧
          Sub w15 w15 ∧
          Trip Try.prog 111 #[.pointer (some (a_0.add 0)), .int .i64 (x13.n : Int)] w15 fun r66 w67 =>
            ∃ n68 : Int, r66 = .int .i64 n68 ∧
            ∃ n69 : Int, Wr .i64 (1000 + n68) n69 ∧
            Trip Try.prog 21 #[.agg #[x13.val, x14.val], .int .i64 n69] w67 fun r70 w71 =>
              ∃ x72 : Sl, ∃ x73 : Sl, ∃ q74 : Bool, r70 = .tuple #[.agg #[x72.val, x73.val], .bool q74] ∧
              (q74 = true →
                Trip Try.prog 111 #[.pointer (some (a_0.add 0)), .int .i64 5] w71 fun r75 w76 =>
                  ∃ n77 : Int, r75 = .int .i64 n77 ∧
                  ((decide (n77 = 0)) = true →
                    Trip Try.prog 70 #[.agg #[x72.val, x73.val], .int .i64 1] w76 fun r78 w79 =>
                      ∃ x80 : Sl, ∃ x81 : Sl, r78 = .agg #[x80.val, x81.val] ∧
                      ∃ n82 : Int, Wr .i64 (n12 - 1) n82 ∧
                      ((.sl (Sl.mk none 0 0) : SV) = .sl (Sl.mk none 0 0)) ∧
                      ((.sl (Sl.mk none 0 0) : SV) = .sl (Sl.mk none 0 0)) ∧
                      I10 n82 x80 x81 w79 ∧
                      m11 n82 x80 x81 w79 < m11 n12 x13 x14 w15) ∧
                  ((decide (n77 = 0)) = false →
                    ∃ n83 : Int, Wr .i64 (n12 - 1) n83 ∧
                    ((.sl (Sl.mk none 0 0) : SV) = .sl (Sl.mk none 0 0)) ∧
                    ((.sl (Sl.mk none 0 0) : SV) = .sl (Sl.mk none 0 0)) ∧
                    I10 n83 x72 x73 w76 ∧
                    m11 n83 x72 x73 w76 < m11 n12 x13 x14 w15)) ∧
              (q74 = false →
                Trip Try.prog 111 #[.pointer (some (a_0.add 0)), .int .i64 5] w71 fun r84 w85 =>
                  ∃ n86 : Int, r84 = .int .i64 n86 ∧
                  ((decide (n86 = 0)) = true →
                    Trip Try.prog 70 #[.agg #[x13.val, x14.val], .int .i64 1] w85 fun r87 w88 =>
                      ∃ x89 : Sl, ∃ x90 : Sl, r87 = .agg #[x89.val, x90.val] ∧
                      ∃ n91 : Int, Wr .i64 (n12 - 1) n91 ∧
                      ((.sl (Sl.mk none 0 0) : SV) = .sl (Sl.mk none 0 0)) ∧
                      ((.sl (Sl.mk none 0 0) : SV) = .sl (Sl.mk none 0 0)) ∧
                      I10 n91 x89 x90 w88 ∧
                      m11 n91 x89 x90 w88 < m11 n12 x13 x14 w15) ∧
                  ((decide (n86 = 0)) = false →
                    ∃ n92 : Int, Wr .i64 (n12 - 1) n92 ∧
                    ((.sl (Sl.mk none 0 0) : SV) = .sl (Sl.mk none 0 0)) ∧
                    ((.sl (Sl.mk none 0 0) : SV) = .sl (Sl.mk none 0 0)) ∧
                    I10 n92 x13 x14 w85 ∧
                    m11 n92 x13 x14 w85 < m11 n12 x13 x14 w15))) ∧
        (((decide (n12 > 0)) && (decide ((x13.n : Int) > 0))) = false →
          Q (.agg #[x13.val, x14.val]) w15)
theorem of110 (a_0 : Addr) (v : World) (Q : Value → World → Prop) (h : vc110 a_0 v Q) : Trip Try.prog 110 #[.pointer (some (a_0.add 0))] v Q :=
  trip_of_eq (args := [.pt a_0 0]) (A := ⟨[(3, [(4, .int .i64)], [(1, 0, .sl), (1, 1, .sl)])], [], [(5, [11])], [], [18, 24, 25, 26, 28, 32, 34, 37, 39, 43, 48, 49, 50, 55, 56, 59, 66, 68, 69, 72, 73, 76, 78, 86, 87, 88, 89, 93, 95, 96, 99, 103, 112, 113, 114, 118, 119, 123, 126, 128, 130, 134, 135, 137, 141, 142, 143]⟩) Try.func110 (by kernel_rfl) (by kernel_rfl) (by kernel_rfl : vc110 a_0 v Q = _) h

/-- (*spec.reader).pick -/
def vc111 (a_0 : Addr) (n_1 : Int) (v : World) (Q : Value → World → Prop) : Prop :=
  ∃ n1 : Int, v.cell? (a_0.add 1) = some (.int .i64 n1) ∧
  ∃ n2 : Int, Wr .i64 (n1 + 1) n2 ∧
  StoreAt v a_0 1 [.int .i64 n2] fun w3 =>
    ∃ x4 : Sl, ((decide (n_1 < 1)) = false →
      w3.cell? (a_0.add 0) = some (x4.val)) ∧
    (((decide (n_1 < 1)) || (decide ((x4.n : Int) = 0))) = true →
      Q (.int .i64 0) w3) ∧
    (((decide (n_1 < 1)) || (decide ((x4.n : Int) = 0))) = false →
      ∃ n5 : Int, w3.cell? (a_0.add 1) = some (.int .i64 n5) ∧
      ∃ n6 : Int, Wr .i64 (n5 - 1) n6 ∧
      ∃ x7 : Sl, w3.cell? (a_0.add 0) = some (x7.val) ∧
      ((decide (n6 < (x7.n : Int))) = true →
        ∃ x8 : Sl, w3.cell? (a_0.add 0) = some (x8.val) ∧
        IxOk x8 n6 ∧
        ∃ n9 : Int, w3.cell? ((elA x8 n6 1).add 0) = some (.int .u8 n9) ∧
        ∃ n10 : Int, Wr .i64 n9 n10 ∧
        (n_1 : Int) ≠ 0 ∧
        Q (.int .i64 (Int.tmod n10 n_1)) w3) ∧
      ((decide (n6 < (x7.n : Int))) = false →
        ∃ x11 : Sl, w3.cell? (a_0.add 0) = some (x11.val) ∧
        ∃ x12 : Sl, w3.cell? (a_0.add 0) = some (x12.val) ∧
        ((x12.n : Int) : Int) ≠ 0 ∧
        IxOk x11 (Int.tmod n6 (x12.n : Int)) ∧
        ∃ n13 : Int, w3.cell? ((elA x11 (Int.tmod n6 (x12.n : Int)) 1).add 0) = some (.int .u8 n13) ∧
        ∃ n14 : Int, Wr .i64 n13 n14 ∧
        ∃ n15 : Int, Wr .i64 (n14 * 131) n15 ∧
        ∃ x16 : Sl, w3.cell? (a_0.add 0) = some (x16.val) ∧
        ∃ n17 : Int, Wr .i64 (n6 * 7) n17 ∧
        ∃ n18 : Int, Wr .i64 (n17 + 3) n18 ∧
        ∃ x19 : Sl, w3.cell? (a_0.add 0) = some (x19.val) ∧
        ((x19.n : Int) : Int) ≠ 0 ∧
        IxOk x16 (Int.tmod n18 (x19.n : Int)) ∧
        ∃ n20 : Int, w3.cell? ((elA x16 (Int.tmod n18 (x19.n : Int)) 1).add 0) = some (.int .u8 n20) ∧
        ∃ n21 : Int, Wr .i64 n20 n21 ∧
        ∃ n22 : Int, Wr .i64 (n21 * 1117) n22 ∧
        ∃ n23 : Int, Wr .i64 (n15 + n22) n23 ∧
        ∃ n24 : Int, Wr .i64 (n6 * 29) n24 ∧
        ∃ n25 : Int, Wr .i64 (n23 + n24) n25 ∧
        ∃ x26 : Sl, w3.cell? (a_0.add 0) = some (x26.val) ∧
        ∃ n27 : Int, (((x26.n : Int) : Int) ≠ 0 ∧ Wr .i64 (Int.tdiv n6 (x26.n : Int)) n27) ∧
        ∃ n28 : Int, Wr .i64 (n27 * 53) n28 ∧
        ∃ n29 : Int, Wr .i64 (n25 + n28) n29 ∧
        ∃ n30 : Int, ((64 : Int) ≠ 0 ∧ Wr .i64 (Int.tdiv n29 64) n30) ∧
        ∃ n31 : Int, PureT Try.prog (do eqGuard .xor 3 (.tmp 92) (.tmp 94) (.int .i64 n29) (.int .i64 n30); binOp .xor 3 (.int .i64 n29) (.int .i64 n30)) w3 (.int .i64 n31) ∧
        (n_1 : Int) ≠ 0 ∧
        Q (.int .i64 (Int.tmod n31 n_1)) w3))
theorem of111 (a_0 : Addr) (n_1 : Int) (v : World) (Q : Value → World → Prop) (h : vc111 a_0 n_1 v Q) : Trip Try.prog 111 #[.pointer (some (a_0.add 0)), .int .i64 n_1] v Q :=
  trip_of_eq (args := [.pt a_0 0, .num .i64 n_1]) (A := ⟨[], [], [], [], [18, 24, 25, 26, 28, 32, 34, 37, 39, 43, 48, 49, 50, 55, 56, 59, 66, 68, 69, 72, 73, 76, 78, 86, 87, 88, 89, 93, 95, 96, 99, 103, 112, 113, 114, 118, 119, 123, 126, 128, 130, 134, 135, 137, 141, 142, 143]⟩) Try.func111 (by kernel_rfl) (by kernel_rfl) (by kernel_rfl : vc111 a_0 n_1 v Q = _) h

/-- slices.Index[[]int,int] -/
def vc112 (x_0 : Sl) (n_1 : Int) (v : World) (Q : Value → World → Prop) : Prop :=
  ∃ I1 : Int → World → Prop, ∃ m2 : Int → World → Nat, I1 0 v ∧
  ∀ n3 : Int, ∀ w4 : World, I1 n3 w4 →
  ((decide (n3 < (x_0.n : Int))) = true →
    IxOk x_0 n3 ∧
    ∃ n5 : Int, w4.cell? ((elA x_0 n3 1).add 0) = some (.int .i64 n5) ∧
    ((decide (n_1 = n5)) = true →
      Q (.int .i64 n3) w4) ∧
    ((decide (n_1 = n5)) = false →
      ∃ n6 : Int, Wr .i64 (n3 + 1) n6 ∧
      I1 n6 w4 ∧
      m2 n6 w4 < m2 n3 w4)) ∧
  ((decide (n3 < (x_0.n : Int))) = false →
    Q (.int .i64 (-1)) w4)
theorem of112 (x_0 : Sl) (n_1 : Int) (v : World) (Q : Value → World → Prop) (h : vc112 x_0 n_1 v Q) : Trip Try.prog 112 #[x_0.val, .int .i64 n_1] v Q :=
  trip_of_eq (args := [.sl x_0, .num .i64 n_1]) (A := ⟨[(2, [(8, .int .i64)], [])], [], [], [], [18, 24, 25, 26, 28, 32, 34, 37, 39, 43, 48, 49, 50, 55, 56, 59, 66, 68, 69, 72, 73, 76, 78, 86, 87, 88, 89, 93, 95, 96, 99, 103, 112, 113, 114, 118, 119, 123, 126, 128, 130, 134, 135, 137, 141, 142, 143]⟩) Try.func112 (by kernel_rfl) (by kernel_rfl) (by kernel_rfl : vc112 x_0 n_1 v Q = _) h

/-- spec.validPending -/
def vc113 (x0_0 : Sl) (x0_1 : Sl) (v : World) (Q : Value → World → Prop) : Prop :=
  ∃ I1 : Int → World → Prop, ∃ m2 : Int → World → Nat, I1 0 v ∧
  ∀ n3 : Int, ∀ w4 : World, I1 n3 w4 →
  ((decide (n3 < (x0_1.n : Int))) = true →
    IxOk x0_1 n3 ∧
    ∃ n5 : Int, w4.cell? ((elA x0_1 n3 1).add 0) = some (.int .i64 n5) ∧
    ∃ n6 : Int, Wr .i64 ((x0_0.n : Int) - 1) n6 ∧
    ∃ q7 : Bool, (Trip Try.prog 88 #[.int .i64 n5, .int .i64 0, .int .i64 n6] w4 fun r8 w9 => r8 = .bool q7 ∧ Sub w4 w9) ∧
    ((!q7) = false →
      IxOk x0_0 n5) ∧
    ∃ n10 : Int, ((!q7) = false →
      w4.cell? ((elA x0_0 n5 3).add 0) = some (.int .i64 n10)) ∧
    (((!q7) || (!decide (n10 = 0))) = false →
      CutOk x0_1 0 n3) ∧
    ∃ q11 : Bool, (((!q7) || (!decide (n10 = 0))) = false →
      (Trip Try.prog 119 #[(x0_1.cut 0 n3 1).val, .int .i64 n5] w4 fun r12 w13 => r12 = .bool q11 ∧ Sub w4 w13)) ∧
    ((((!q7) || (!decide (n10 = 0))) || q11) = true →
      Q (.bool false) w4) ∧
    ((((!q7) || (!decide (n10 = 0))) || q11) = false →
      ∃ n14 : Int, Wr .i64 (n3 + 1) n14 ∧
      ((.sl x0_0 : SV) = .sl x0_0) ∧
      ((.sl x0_1 : SV) = .sl x0_1) ∧
      I1 n14 w4 ∧
      m2 n14 w4 < m2 n3 w4)) ∧
  ((decide (n3 < (x0_1.n : Int))) = false →
    ∃ I15 : Int → World → Prop, ∃ m16 : Int → World → Nat, I15 0 w4 ∧
    ∀ n17 : Int, ∀ w18 : World, I15 n17 w18 →
    ((decide (n17 < (x0_0.n : Int))) = true →
      IxOk x0_0 n17 ∧
      ∃ n19 : Int, w18.cell? ((elA x0_0 n17 3).add 0) = some (.int .i64 n19) ∧
      ((decide (n19 < 0)) = true →
        Q (.bool false) w18) ∧
      ((decide (n19 < 0)) = false →
        ∃ n20 : Int, Wr .i64 (n17 + 1) n20 ∧
        ((.sl x0_0 : SV) = .sl x0_0) ∧
        ((.sl x0_1 : SV) = .sl x0_1) ∧
        I15 n20 w18 ∧
        m16 n20 w18 < m16 n17 w18)) ∧
    ((decide (n17 < (x0_0.n : Int))) = false →
      Q (.bool true) w18))
theorem of113 (x0_0 : Sl) (x0_1 : Sl) (v : World) (Q : Value → World → Prop) (h : vc113 x0_0 x0_1 v Q) : Trip Try.prog 113 #[.agg #[x0_0.val, x0_1.val]] v Q :=
  trip_of_eq (args := [.ag [.sl x0_0, .sl x0_1]]) (A := ⟨[(2, [(3, .int .i64)], []), (8, [(5, .int .i64)], [])], [], [], [], [18, 24, 25, 26, 28, 32, 34, 37, 39, 43, 48, 49, 50, 55, 56, 59, 66, 68, 69, 72, 73, 76, 78, 86, 87, 88, 89, 93, 95, 96, 99, 103, 112, 113, 114, 118, 119, 123, 126, 128, 130, 134, 135, 137, 141, 142, 143]⟩) Try.func113 (by kernel_rfl) (by kernel_rfl) (by kernel_rfl : vc113 x0_0 x0_1 v Q = _) h

/-- spec.validHeap -/
def vc114 (x_0 : Sl) (v : World) (Q : Value → World → Prop) : Prop :=
  ∃ n1 : Int, ((decide ((x_0.n : Int) > 0)) = true →
    Wr .i64 ((x_0.n : Int) - 1) n1) ∧
  ((decide ((x_0.n : Int) > 0)) = true →
    IxOk x_0 n1) ∧
  ∃ n2 : Int, ((decide ((x_0.n : Int) > 0)) = true →
    v.cell? ((elA x_0 n1 3).add 0) = some (.int .i64 n2)) ∧
  (((decide ((x_0.n : Int) > 0)) && (decide (n2 = 0))) = true →
    Q (.bool false) v) ∧
  (((decide ((x_0.n : Int) > 0)) && (decide (n2 = 0))) = false →
    ∃ I3 : Int → World → Prop, ∃ m4 : Int → World → Nat, I3 0 v ∧
    ∀ n5 : Int, ∀ w6 : World, I3 n5 w6 →
    ((decide (n5 < (x_0.n : Int))) = true →
      IxOk x_0 n5 ∧
      ∃ n7 : Int, ∃ n8 : Int, ∃ x9 : Sl, (w6.cell? ((elA x_0 n5 3).add 0) = some (.int .i64 n7) ∧
        w6.cell? ((elA x_0 n5 3).add 1) = some (.int .i64 n8) ∧
        w6.cell? ((elA x_0 n5 3).add 2) = some (x9.val)) ∧
      ∃ q10 : Bool, (Trip Try.prog 134 #[x_0.val, .agg #[.int .i64 n7, .int .i64 n8, x9.val]] w6 fun r11 w12 => r11 = .bool q10 ∧ Sub w6 w12) ∧
      ((!q10) = true →
        Q (.bool false) w6) ∧
      ((!q10) = false →
        ∃ n13 : Int, Wr .i64 (n5 + 1) n13 ∧
        I3 n13 w6 ∧
        m4 n13 w6 < m4 n5 w6)) ∧
    ((decide (n5 < (x_0.n : Int))) = false →
      Trip Try.prog 79 #[x_0.val] w6 fun r14 w15 =>
        ∃ x16 : Sl, r14 = x16.val ∧
        ∃ I17 : Int → World → Prop, ∃ m18 : Int → World → Nat, I17 0 w15 ∧
        ∀ n19 : Int, ∀ w20 : World, I17 n19 w20 →
        ((decide (n19 < (x_0.n : Int))) = true →
          IxOk x_0 n19 ∧
          ∃ n21 : Int, w20.cell? ((elA x_0 n19 3).add 0) = some (.int .i64 n21) ∧
          ((decide (n21 > 0)) = true →
            IxOk x_0 n19) ∧
          ∃ n22 : Int, ((decide (n21 > 0)) = true →
            w20.cell? ((elA x_0 n19 3).add 0) = some (.int .i64 n22)) ∧
          ((decide (n21 > 0)) = true →
            IxOk x16 n19) ∧
          ∃ n23 : Int, ((decide (n21 > 0)) = true →
            w20.cell? ((elA x16 n19 1).add 0) = some (.int .i64 n23)) ∧
          (((decide (n21 > 0)) && (decide (n22 < n23))) = true →
            Q (.bool false) w20) ∧
          (((decide (n21 > 0)) && (decide (n22 < n23))) = false →
            ∃ n24 : Int, Wr .i64 (n19 + 1) n24 ∧
            I17 n24 w20 ∧
            m18 n24 w20 < m18 n19 w20)) ∧
        ((decide (n19 < (x_0.n : Int))) = false →
          ∃ q25 : Bool, (Trip Try.prog 135 #[x_0.val] w20 fun r26 w27 => r26 = .bool q25 ∧ Sub w20 w27) ∧
          Q (.bool q25) w20)))
theorem of114 (x_0 : Sl) (v : World) (Q : Value → World → Prop) (h : vc114 x_0 v Q) : Trip Try.prog 114 #[x_0.val] v Q :=
  trip_of_eq (args := [.sl x_0]) (A := ⟨[(4, [(3, .int .i64)], []), (10, [(5, .int .i64)], [])], [], [], [], [18, 24, 25, 26, 28, 32, 34, 37, 39, 43, 48, 49, 50, 55, 56, 59, 66, 68, 69, 72, 73, 76, 78, 86, 87, 88, 89, 93, 95, 96, 99, 103, 112, 113, 114, 118, 119, 123, 126, 128, 130, 134, 135, 137, 141, 142, 143]⟩) Try.func114 (by kernel_rfl) (by kernel_rfl) (by kernel_rfl : vc114 x_0 v Q = _) h

/-- spec.copyInts -/
def vc115 (x_0 : Sl) (v : World) (Q : Value → World → Prop) : Prop :=
  StepT Try.prog (Instr.buildSlice 24 0 #[]) v fun r1 w2 =>
    ∃ x3 : Sl, r1 = x3.val ∧
    StepT Try.prog (Builtin.append_ #[24, 24] 24 #[(x3.val), (x_0.val)]) w2 fun r4 w5 =>
      ∃ x6 : Sl, r4 = x6.val ∧
      Q (x6.val) w5
theorem of115 (x_0 : Sl) (v : World) (Q : Value → World → Prop) (h : vc115 x_0 v Q) : Trip Try.prog 115 #[x_0.val] v Q :=
  trip_of_eq (args := [.sl x_0]) (A := ⟨[], [], [], [], [18, 24, 25, 26, 28, 32, 34, 37, 39, 43, 48, 49, 50, 55, 56, 59, 66, 68, 69, 72, 73, 76, 78, 86, 87, 88, 89, 93, 95, 96, 99, 103, 112, 113, 114, 118, 119, 123, 126, 128, 130, 134, 135, 137, 141, 142, 143]⟩) Try.func115 (by kernel_rfl) (by kernel_rfl) (by kernel_rfl : vc115 x_0 v Q = _) h

/-- spec.trimLazy -/
def vc116 (x0_0 : Sl) (x0_1 : Sl) (v : World) (Q : Value → World → Prop) : Prop :=
  ∃ I1 : Int → World → Prop, ∃ m2 : Int → World → Nat, I1 (x0_0.n : Int) v ∧
  ∀ n3 : Int, ∀ w4 : World, I1 n3 w4 →
  ∃ n5 : Int, ((decide (n3 > 0)) = true →
    Wr .i64 (n3 - 1) n5) ∧
  ((decide (n3 > 0)) = true →
    IxOk x0_0 n5) ∧
  ∃ n6 : Int, ((decide (n3 > 0)) = true →
    w4.cell? ((elA x0_0 n5 3).add 0) = some (.int .i64 n6)) ∧
  ∃ n7 : Int, (((decide (n3 > 0)) && (decide (n6 = 0))) = true →
    Wr .i64 (n3 - 1) n7) ∧
  ∃ q8 : Bool, (((decide (n3 > 0)) && (decide (n6 = 0))) = true →
    (Trip Try.prog 119 #[x0_1.val, .int .i64 n7] w4 fun r9 w10 => r9 = .bool q8 ∧ Sub w4 w10)) ∧
  ((((decide (n3 > 0)) && (decide (n6 = 0))) && (!q8)) = true →
    ∃ n11 : Int, Wr .i64 (n3 - 1) n11 ∧
    ((.sl x0_0 : SV) = .sl x0_0) ∧
    ((.sl x0_1 : SV) = .sl x0_1) ∧
    I1 n11 w4 ∧
    m2 n11 w4 < m2 n3 w4) ∧
  ((((decide (n3 > 0)) && (decide (n6 = 0))) && (!q8)) = false →
    CutOk x0_0 0 n3 ∧
    Q ((x0_0.cut 0 n3 3).val) w4)
theorem of116 (x0_0 : Sl) (x0_1 : Sl) (v : World) (Q : Value → World → Prop) (h : vc116 x0_0 x0_1 v Q) : Trip Try.prog 116 #[.agg #[x0_0.val, x0_1.val]] v Q :=
  trip_of_eq (args := [.ag [.sl x0_0, .sl x0_1]]) (A := ⟨[(2, [(3, .int .i64)], [])], [], [], [], [18, 24, 25, 26, 28, 32, 34, 37, 39, 43, 48, 49, 50, 55, 56, 59, 66, 68, 69, 72, 73, 76, 78, 86, 87, 88, 89, 93, 95, 96, 99, 103, 112, 113, 114, 118, 119, 123, 126, 128, 130, 134, 135, 137, 141, 142, 143]⟩) Try.func116 (by kernel_rfl) (by kernel_rfl) (by kernel_rfl : vc116 x0_0 x0_1 v Q = _) h

/-- spec.copyHeap -/
def vc117 (x_0 : Sl) (v : World) (Q : Value → World → Prop) : Prop :=
  StepT Try.prog (Instr.buildSlice 23 0 #[]) v fun r1 w2 =>
    ∃ x3 : Sl, r1 = x3.val ∧
    ∃ I4 : Sl → Int → World → Prop, ∃ m5 : Sl → Int → World → Nat, I4 x3 0 w2 ∧
    ∀ x6 : Sl, ∀ n7 : Int, ∀ w8 : World, I4 x6 n7 w8 →
    ((decide (n7 < (x_0.n : Int))) = true →
      IxOk x_0 n7 ∧
      ∃ n9 : Int, w8.cell? ((elA x_0 n7 3).add 0) = some (.int .i64 n9) ∧
      IxOk x_0 n7 ∧
      ∃ n10 : Int, w8.cell? ((elA x_0 n7 3).add 1) = some (.int .i64 n10) ∧
      IxOk x_0 n7 ∧
      ∃ x11 : Sl, w8.cell? ((elA x_0 n7 3).add 2) = some (x11.val) ∧
      Trip Try.prog 115 #[x11.val] w8 fun r12 w13 =>
        ∃ x14 : Sl, r12 = x14.val ∧
        Sub w8 w13 ∧
        StepT Try.prog (Instr.buildSlice 23 1 #[(0, (.agg #[.int .i64 n9, .int .i64 n10, x14.val]))]) w13 fun r15 w16 =>
          ∃ x17 : Sl, r15 = x17.val ∧
          StepT Try.prog (Builtin.append_ #[23, 23] 23 #[(x6.val), (x17.val)]) w16 fun r18 w19 =>
            ∃ x20 : Sl, r18 = x20.val ∧
            ∃ n21 : Int, Wr .i64 (n7 + 1) n21 ∧
            I4 x20 n21 w19 ∧
            m5 x20 n21 w19 < m5 x6 n7 w8) ∧
    ((decide (n7 < (x_0.n : Int))) = false →
      Q (x6.val) w8)
theorem of117 (x_0 : Sl) (v : World) (Q : Value → World → Prop) (h : vc117 x_0 v Q) : Trip Try.prog 117 #[x_0.val] v Q :=
  trip_of_eq (args := [.sl x_0]) (A := ⟨[(3, [(3, .sl), (4, .int .i64)], [])], [], [(5, [16])], [], [18, 24, 25, 26, 28, 32, 34, 37, 39, 43, 48, 49, 50, 55, 56, 59, 66, 68, 69, 72, 73, 76, 78, 86, 87, 88, 89, 93, 95, 96, 99, 103, 112, 113, 114, 118, 119, 123, 126, 128, 130, 134, 135, 137, 141, 142, 143]⟩) Try.func117 (by kernel_rfl) (by kernel_rfl) (by kernel_rfl : vc117 x_0 v Q = _) h

/-- spec.isLive -/
def vc118 (x_0 : Sl) (n_1 : Int) (v : World) (Q : Value → World → Prop) : Prop :=
  ∃ n1 : Int, Wr .i64 (n_1 - 1000) n1 ∧
  ∃ n2 : Int, Wr .i64 ((x_0.n : Int) - 1) n2 ∧
  ∃ q3 : Bool, (Trip Try.prog 88 #[.int .i64 n1, .int .i64 0, .int .i64 n2] v fun r4 w5 => r4 = .bool q3 ∧ Sub v w5) ∧
  ∃ q6 : Bool, (q3 = true →
    (Trip Try.prog 78 #[.int .i64 n_1] v fun r7 w8 => r7 = .bool q6 ∧ Sub v w8)) ∧
  ∃ n9 : Int, ((q3 && q6) = true →
    Wr .i64 (n_1 - 1000) n9) ∧
  ((q3 && q6) = true →
    IxOk x_0 n9) ∧
  ∃ n10 : Int, ((q3 && q6) = true →
    v.cell? ((elA x_0 n9 3).add 0) = some (.int .i64 n10)) ∧
  Q (.bool ((q3 && q6) && (decide (n10 > 0)))) v
theorem of118 (x_0 : Sl) (n_1 : Int) (v : World) (Q : Value → World → Prop) (h : vc118 x_0 n_1 v Q) : Trip Try.prog 118 #[x_0.val, .int .i64 n_1] v Q :=
  trip_of_eq (args := [.sl x_0, .num .i64 n_1]) (A := ⟨[], [], [], [], [18, 24, 25, 26, 28, 32, 34, 37, 39, 43, 48, 49, 50, 55, 56, 59, 66, 68, 69, 72, 73, 76, 78, 86, 87, 88, 89, 93, 95, 96, 99, 103, 112, 113, 114, 118, 119, 123, 126, 128, 130, 134, 135, 137, 141, 142, 143]⟩) Try.func118 (by kernel_rfl) (by kernel_rfl) (by kernel_rfl : vc118 x_0 n_1 v Q = _) h

/-- spec.isIn -/
def vc119 (x_0 : Sl) (n_1 : Int) (v : World) (Q : Value → World → Prop) : Prop :=
  ∃ I1 : Int → World → Prop, ∃ m2 : Int → World → Nat, I1 0 v ∧
  ∀ n3 : Int, ∀ w4 : World, I1 n3 w4 →
  ((decide (n3 < (x_0.n : Int))) = true →
    IxOk x_0 n3 ∧
    ∃ n5 : Int, w4.cell? ((elA x_0 n3 1).add 0) = some (.int .i64 n5) ∧
    ((decide (n5 = n_1)) = true →
      Q (.bool true) w4) ∧
    ((decide (n5 = n_1)) = false →
      ∃ n6 : Int, Wr .i64 (n3 + 1) n6 ∧
      I1 n6 w4 ∧
      m2 n6 w4 < m2 n3 w4)) ∧
  ((decide (n3 < (x_0.n : Int))) = false →
    Q (.bool false) w4)
theorem of119 (x_0 : Sl) (n_1 : Int) (v : World) (Q : Value → World → Prop) (h : vc119 x_0 n_1 v Q) : Trip Try.prog 119 #[x_0.val, .int .i64 n_1] v Q :=
  trip_of_eq (args := [.sl x_0, .num .i64 n_1]) (A := ⟨[(2, [(5, .int .i64)], [])], [], [], [], [18, 24, 25, 26, 28, 32, 34, 37, 39, 43, 48, 49, 50, 55, 56, 59, 66, 68, 69, 72, 73, 76, 78, 86, 87, 88, 89, 93, 95, 96, 99, 103, 112, 113, 114, 118, 119, 123, 126, 128, 130, 134, 135, 137, 141, 142, 143]⟩) Try.func119 (by kernel_rfl) (by kernel_rfl) (by kernel_rfl : vc119 x_0 n_1 v Q = _) h

/-- slices.Clone[[]impl.Cell,impl.Cell] -/
def vc120 (x_0 : Sl) (v : World) (Q : Value → World → Prop) : Prop :=
  ∃ q1 : Bool, PureT Try.prog (do eqGuard .eql 23 (.tmp 3) (.const (.slice none 0 0)) (x_0.val) (.slice none 0 0); binOp .eql 23 (x_0.val) (.slice none 0 0)) v (.bool q1) ∧
  (q1 = true →
    Q (.slice none 0 0) v) ∧
  (q1 = false →
    StepT Try.prog (Instr.buildSlice 23 0 #[]) v fun r2 w3 =>
      ∃ x4 : Sl, r2 = x4.val ∧
      StepT Try.prog (Builtin.append_ #[23, 23] 23 #[(x4.val), (x_0.val)]) w3 fun r5 w6 =>
        ∃ x7 : Sl, r5 = x7.val ∧
        Q (x7.val) w6)
theorem of120 (x_0 : Sl) (v : World) (Q : Value → World → Prop) (h : vc120 x_0 v Q) : Trip Try.prog 120 #[x_0.val] v Q :=
  trip_of_eq (args := [.sl x_0]) (A := ⟨[], [], [], [], [18, 24, 25, 26, 28, 32, 34, 37, 39, 43, 48, 49, 50, 55, 56, 59, 66, 68, 69, 72, 73, 76, 78, 86, 87, 88, 89, 93, 95, 96, 99, 103, 112, 113, 114, 118, 119, 123, 126, 128, 130, 134, 135, 137, 141, 142, 143]⟩) Try.func120 (by kernel_rfl) (by kernel_rfl) (by kernel_rfl : vc120 x_0 v Q = _) h

/-- slices.ContainsFunc[[]int,int] -/
def vc121 (x_0 : Sl) (f_1 : Nat) (k1_0 : Addr) (v : World) (Q : Value → World → Prop) : Prop :=
  Trip Try.prog 136 #[x_0.val, .func (.func f_1) #[] #[.pointer (some (k1_0.add 0))]] v fun r1 w2 =>
    ∃ n3 : Int, r1 = .int .i64 n3 ∧
    Q (.bool (decide (n3 ≥ 0))) w2
theorem of121 (x_0 : Sl) (f_1 : Nat) (k1_0 : Addr) (v : World) (Q : Value → World → Prop) (h : vc121 x_0 f_1 k1_0 v Q) : Trip Try.prog 121 #[x_0.val, .func (.func f_1) #[] #[.pointer (some (k1_0.add 0))]] v Q :=
  trip_of_eq (args := [.sl x_0, .clo f_1 [.pt k1_0 0]]) (A := ⟨[], [], [], [], [18, 24, 25, 26, 28, 32, 34, 37, 39, 43, 48, 49, 50, 55, 56, 59, 66, 68, 69, 72, 73, 76, 78, 86, 87, 88, 89, 93, 95, 96, 99, 103, 112, 113, 114, 118, 119, 123, 126, 128, 130, 134, 135, 137, 141, 142, 143]⟩) Try.func121 (by kernel_rfl) (by kernel_rfl) (by kernel_rfl : vc121 x_0 f_1 k1_0 v Q = _) h

/-- impl.checkedLazy$1 -/
def vc122 (n_0 : Int) (c_0 : Addr) (v : World) (Q : Value → World → Prop) : Prop :=
  ∃ x1 : Sl, v.cell? (c_0.add 0) = some (x1.val) ∧
  IxOk x1 n_0 ∧
  ∃ n2 : Int, v.cell? ((elA x1 n_0 1).add 0) = some (.int .i64 n2) ∧
  Q (.bool (decide (n2 > 0))) v
theorem of122 (n_0 : Int) (c_0 : Addr) (v : World) (Q : Value → World → Prop) (h : vc122 n_0 c_0 v Q) : Trip Try.prog 122 #[.int .i64 n_0, .pointer (some (c_0.add 0))] v Q :=
  trip_of_eq (args := [.num .i64 n_0, .pt c_0 0]) (A := ⟨[], [], [], [], [18, 24, 25, 26, 28, 32, 34, 37, 39, 43, 48, 49, 50, 55, 56, 59, 66, 68, 69, 72, 73, 76, 78, 86, 87, 88, 89, 93, 95, 96, 99, 103, 112, 113, 114, 118, 119, 123, 126, 128, 130, 134, 135, 137, 141, 142, 143]⟩) Try.func122 (by kernel_rfl) (by kernel_rfl) (by kernel_rfl : vc122 n_0 c_0 v Q = _) h

/-- impl.cellValid -/
def vc123 (x_0 : Sl) (n1_0 : Int) (n1_1 : Int) (x1_2 : Sl) (v : World) (Q : Value → World → Prop) : Prop :=
  (((((decide (n1_0 < (-1))) || (decide (n1_1 < 0))) || (decide (n1_1 > 99))) || (decide ((x1_2.n : Int) > 3))) = true →
    Q (.bool false) v) ∧
  (((((decide (n1_0 < (-1))) || (decide (n1_1 < 0))) || (decide (n1_1 > 99))) || (decide ((x1_2.n : Int) > 3))) = false →
    ((((decide (n1_0 < 1)) && (!decide (n1_1 = 0))) || ((decide (n1_0 = 0)) && (decide ((x1_2.n : Int) > 0)))) = true →
      Q (.bool false) v) ∧
    ((((decide (n1_0 < 1)) && (!decide (n1_1 = 0))) || ((decide (n1_0 = 0)) && (decide ((x1_2.n : Int) > 0)))) = false →
      ∃ I1 : Int → World → Prop, ∃ m2 : Int → World → Nat, I1 0 v ∧
      ∀ n3 : Int, ∀ w4 : World, I1 n3 w4 →
      ((decide (n3 < (x1_2.n : Int))) = true →
        IxOk x1_2 n3 ∧
        ∃ n5 : Int, w4.cell? ((elA x1_2 n3 1).add 0) = some (.int .i64 n5) ∧
        ∃ q6 : Bool, (Trip Try.prog 66 #[x_0.val, .int .i64 n5] w4 fun r7 w8 => r7 = .bool q6 ∧ Sub w4 w8) ∧
        (((!q6) || ((decide (n1_0 < 0)) && (!decide (n5 = 0)))) = true →
          Q (.bool false) w4) ∧
        (((!q6) || ((decide (n1_0 < 0)) && (!decide (n5 = 0)))) = false →
          ∃ n9 : Int, Wr .i64 (n3 + 1) n9 ∧
          ((.num .i64 n1_0 : SV) = .num .i64 n1_0) ∧
          ((.num .i64 n1_1 : SV) = .num .i64 n1_1) ∧
          ((.sl x1_2 : SV) = .sl x1_2) ∧
          I1 n9 w4 ∧
          m2 n9 w4 < m2 n3 w4)) ∧
      ((decide (n3 < (x1_2.n : Int))) = false →
        Q (.bool true) w4)))
theorem of123 (x_0 : Sl) (n1_0 : Int) (n1_1 : Int) (x1_2 : Sl) (v : World) (Q : Value → World → Prop) (h : vc123 x_0 n1_0 n1_1 x1_2 v Q) : Trip Try.prog 123 #[x_0.val, .agg #[.int .i64 n1_0, .int .i64 n1_1, x1_2.val]] v Q :=
  trip_of_eq (args := [.sl x_0, .ag [.num .i64 n1_0, .num .i64 n1_1, .sl x1_2]]) (A := ⟨[(6, [(48, .int .i64)], [])], [], [], [], [18, 24, 25, 26, 28, 32, 34, 37, 39, 43, 48, 49, 50, 55, 56, 59, 66, 68, 69, 72, 73, 76, 78, 86, 87, 88, 89, 93, 95, 96, 99, 103, 112, 113, 114, 118, 119, 123, 126, 128, 130, 134, 135, 137, 141, 142, 143]⟩) Try.func123 (by kernel_rfl) (by kernel_rfl) (by kernel_rfl : vc123 x_0 n1_0 n1_1 x1_2 v Q = _) h

/-- spec.cellsOf -/
def vc125 (x_0 : Sl) (v : World) (Q : Value → World → Prop) : Prop :=
  ∃ I1 : Int → World → Prop, ∃ m2 : Int → World → Nat, I1 (x_0.n : Int) v ∧
  ∀ n3 : Int, ∀ w4 : World, I1 n3 w4 →
  ∃ n5 : Int, ((decide (n3 > 0)) = true →
    Wr .i64 (n3 - 1) n5) ∧
  ((decide (n3 > 0)) = true →
    IxOk x_0 n5) ∧
  ∃ n6 : Int, ((decide (n3 > 0)) = true →
    w4.cell? ((elA x_0 n5 3).add 0) = some (.int .i64 n6)) ∧
  (((decide (n3 > 0)) && (decide (n6 = 0))) = true →
    ∃ n7 : Int, Wr .i64 (n3 - 1) n7 ∧
    I1 n7 w4 ∧
    m2 n7 w4 < m2 n3 w4) ∧
  (((decide (n3 > 0)) && (decide (n6 = 0))) = false →
    CutOk x_0 0 n3 ∧
    Q ((x_0.cut 0 n3 3).val) w4)
theorem of125 (x_0 : Sl) (v : World) (Q : Value → World → Prop) (h : vc125 x_0 v Q) : Trip Try.prog 125 #[x_0.val] v Q :=
  trip_of_eq (args := [.sl x_0]) (A := ⟨[(2, [(3, .int .i64)], [])], [], [], [], [18, 24, 25, 26, 28, 32, 34, 37, 39, 43, 48, 49, 50, 55, 56, 59, 66, 68, 69, 72, 73, 76, 78, 86, 87, 88, 89, 93, 95, 96, 99, 103, 112, 113, 114, 118, 119, 123, 126, 128, 130, 134, 135, 137, 141, 142, 143]⟩) Try.func125 (by kernel_rfl) (by kernel_rfl) (by kernel_rfl : vc125 x_0 v Q = _) h

/-- spec.chainOf -/
def vc132 (a_0 : Addr) (x_1 : Sl) (v : World) (Q : Value → World → Prop) : Prop :=
  Trip Try.prog 115 #[x_1.val] v fun r1 w2 =>
    ∃ x3 : Sl, r1 = x3.val ∧
    ((decide ((x3.n : Int) > 0)) = true →
      Trip Try.prog 111 #[.pointer (some (a_0.add 0)), .int .i64 2] w2 fun r4 w5 =>
        ∃ n6 : Int, r4 = .int .i64 n6 ∧
        ((decide (n6 = 0)) = true →
          Trip Try.prog 111 #[.pointer (some (a_0.add 0)), .int .i64 (x3.n : Int)] w5 fun r7 w8 =>
            ∃ n9 : Int, r7 = .int .i64 n9 ∧
            StepT Try.prog (Instr.buildSlice 24 6 #[(0, (.int .i64 0)), (1, (.int .i64 1)), (2, (.int .i64 (-1))), (3, (.int .i64 7)), (4, (.int .i64 1000)), (5, (.int .i64 1001))]) w8 fun r10 w11 =>
              ∃ x12 : Sl, r10 = x12.val ∧
              Trip Try.prog 62 #[.pointer (some (a_0.add 0)), x12.val] w11 fun r13 w14 =>
                ∃ n15 : Int, r13 = .int .i64 n15 ∧
                IxOk x3 n9 ∧
                StoreAt w14 (elA x3 n9 1) 0 [.int .i64 n15] fun w16 =>
                  Q (x3.val) w16) ∧
        ((decide (n6 = 0)) = false →
          StepT Try.prog (Instr.buildSlice 24 5 #[(0, (.int .i64 0)), (1, (.int .i64 1)), (2, (.int .i64 2)), (3, (.int .i64 (-1))), (4, (.int .i64 1000))]) w5 fun r17 w18 =>
            ∃ x19 : Sl, r17 = x19.val ∧
            Trip Try.prog 62 #[.pointer (some (a_0.add 0)), x19.val] w18 fun r20 w21 =>
              ∃ n22 : Int, r20 = .int .i64 n22 ∧
              StepT Try.prog (Instr.buildSlice 24 1 #[(0, (.int .i64 n22))]) w21 fun r23 w24 =>
                ∃ x25 : Sl, r23 = x25.val ∧
                StepT Try.prog (Builtin.append_ #[24, 24] 24 #[(x3.val), (x25.val)]) w24 fun r26 w27 =>
                  ∃ x28 : Sl, r26 = x28.val ∧
                  Q (x28.val) w27)) ∧
    ((decide ((x3.n : Int) > 0)) = false →
      StepT Try.prog (Instr.buildSlice 24 5 #[(0, (.int .i64 0)), (1, (.int .i64 1)), (2, (.int .i64 2)), (3, (.int .i64 (-1))), (4, (.int .i64 1000))]) w2 fun r29 w30 =>
        ∃ x31 : Sl, r29 = x31.val ∧
        Trip Try.prog 62 #[.pointer (some (a_0.add 0)), x31.val] w30 fun r32 w33 =>
          ∃ n34 : Int, r32 = .int .i64 n34 ∧
          StepT Try.prog (Instr.buildSlice 24 1 #[(0, (.int .i64 n34))]) w33 fun r35 w36 =>
            ∃ x37 : Sl, r35 = x37.val ∧
            StepT Try.prog (Builtin.append_ #[24, 24] 24 #[(x3.val), (x37.val)]) w36 fun r38 w39 =>
              ∃ x40 : Sl, r38 = x40.val ∧
              Q (x40.val) w39)
theorem of132 (a_0 : Addr) (x_1 : Sl) (v : World) (Q : Value → World → Prop) (h : vc132 a_0 x_1 v Q) : Trip Try.prog 132 #[.pointer (some (a_0.add 0)), x_1.val] v Q :=
  trip_of_eq (args := [.pt a_0 0, .sl x_1]) (A := ⟨[], [], [], [], [18, 24, 25, 26, 28, 32, 34, 37, 39, 43, 48, 49, 50, 55, 56, 59, 66, 68, 69, 72, 73, 76, 78, 86, 87, 88, 89, 93, 95, 96, 99, 103, 112, 113, 114, 118, 119, 123, 126, 128, 130, 134, 135, 137, 141, 142, 143]⟩) Try.func132 (by kernel_rfl) (by kernel_rfl) (by kernel_rfl : vc132 a_0 x_1 v Q = _) h

/-- spec.goodHeap -/
def vc133 (a_0 : Addr) (q_1 : Bool) (v : World) (Q : Value → World → Prop) : Prop :=
  StepT Try.prog (Instr.buildSlice 23 0 #[]) v fun r1 w2 =>
    ∃ x3 : Sl, r1 = x3.val ∧
    Trip Try.prog 111 #[.pointer (some (a_0.add 0)), .int .i64 14] w2 fun r4 w5 =>
      ∃ n6 : Int, r4 = .int .i64 n6 ∧
      ∃ n7 : Int, Wr .i64 (3 + n6) n7 ∧
      ∃ I8 : Sl → Int → World → Prop, ∃ m9 : Sl → Int → World → Nat, I8 x3 n7 w5 ∧
      ∀ x10 : Sl, ∀ n11 : Int, ∀ w12 : World, I8 x10 n11 w12 →
      ((decide (n11 > 0)) = true →
        StepT Try.prog (Instr.buildSlice 24 0 #[]) w12 fun r13 w14 =>
          ∃ x15 : Sl, r13 = x15.val ∧
          Trip Try.prog 111 #[.pointer (some (a_0.add 0)), .int .i64 4] w14 fun r16 w17 =>
            ∃ n18 : Int, r16 = .int .i64 n18 ∧
            ∃ I19 : Sl → Int → World → Prop, ∃ m20 : Sl → Int → World → Nat, I19 x15 n18 w17 ∧
            ∀ x21 : Sl, ∀ n22 : Int, ∀ w23 : World, I19 x21 n22 w23 →
            ((decide (n22 > 0)) = true →
              Trip Try.prog 111 #[.pointer (some (a_0.add 0)), .int .i64 20] w23 fun r24 w25 =>
                ∃ n26 : Int, r24 = .int .i64 n26 ∧
                ∃ n27 : Int, Wr .i64 (n26 - 5) n27 ∧
                ((decide ((x10.n : Int) > 0)) = true →
                  Trip Try.prog 111 #[.pointer (some (a_0.add 0)), .int .i64 3] w25 fun r28 w29 =>
                    ∃ n30 : Int, r28 = .int .i64 n30 ∧
                    ((decide (n30 > 0)) = true →
                      Trip Try.prog 111 #[.pointer (some (a_0.add 0)), .int .i64 (x10.n : Int)] w29 fun r31 w32 =>
                        ∃ n33 : Int, r31 = .int .i64 n33 ∧
                        IxOk x10 n33 ∧
                        ∃ n34 : Int, w32.cell? ((elA x10 n33 3).add 0) = some (.int .i64 n34) ∧
                        ((decide (n34 > 0)) = true →
                          ∃ n35 : Int, Wr .i64 (1000 + n33) n35 ∧
                          IxOk x10 n33 ∧
                          ∃ n36 : Int, w32.cell? ((elA x10 n33 3).add 0) = some (.int .i64 n36) ∧
                          Trip Try.prog 79 #[x10.val] w32 fun r37 w38 =>
                            ∃ x39 : Sl, r37 = x39.val ∧
                            Sub w32 w38 ∧
                            IxOk x39 n33 ∧
                            ∃ n40 : Int, w38.cell? ((elA x39 n33 1).add 0) = some (.int .i64 n40) ∧
                            ((decide (n36 = n40)) = false →
                              Trip Try.prog 111 #[.pointer (some (a_0.add 0)), .int .i64 2] w38 fun r41 w42 =>
                                ∃ n43 : Int, r41 = .int .i64 n43 ∧
                                ((decide (n43 = 0)) = true →
                                  IxOk x10 n33 ∧
                                  ∃ n44 : Int, w42.cell? ((elA x10 n33 3).add 0) = some (.int .i64 n44) ∧
                                  ∃ n45 : Int, Wr .i64 (n44 + 1) n45 ∧
                                  IxOk x10 n33 ∧
                                  StoreAt w42 (elA x10 n33 3) 0 [.int .i64 n45] fun w46 =>
                                    StepT Try.prog (Instr.buildSlice 24 1 #[(0, (.int .i64 n35))]) w46 fun r47 w48 =>
                                      ∃ x49 : Sl, r47 = x49.val ∧
                                      StepT Try.prog (Builtin.append_ #[24, 24] 24 #[(x21.val), (x49.val)]) w48 fun r50 w51 =>
                                        ∃ x52 : Sl, r50 = x52.val ∧
                                        ∃ n53 : Int, Wr .i64 (n22 - 1) n53 ∧
                                        I19 x52 n53 w51 ∧
                                        m20 x52 n53 w51 < m20 x21 n22 w23) ∧
                                ((decide (n43 = 0)) = false →
                                  StepT Try.prog (Instr.buildSlice 24 1 #[(0, (.int .i64 n35))]) w42 fun r54 w55 =>
                                    ∃ x56 : Sl, r54 = x56.val ∧
                                    StepT Try.prog (Builtin.append_ #[24, 24] 24 #[(x21.val), (x56.val)]) w55 fun r57 w58 =>
                                      ∃ x59 : Sl, r57 = x59.val ∧
                                      ∃ n60 : Int, Wr .i64 (n22 - 1) n60 ∧
                                      I19 x59 n60 w58 ∧
                                      m20 x59 n60 w58 < m20 x21 n22 w23)) ∧
                            ((decide (n36 = n40)) = true →
                              IxOk x10 n33 ∧
                              ∃ n61 : Int, w38.cell? ((elA x10 n33 3).add 0) = some (.int .i64 n61) ∧
                              ∃ n62 : Int, Wr .i64 (n61 + 1) n62 ∧
                              IxOk x10 n33 ∧
                              StoreAt w38 (elA x10 n33 3) 0 [.int .i64 n62] fun w63 =>
                                StepT Try.prog (Instr.buildSlice 24 1 #[(0, (.int .i64 n35))]) w63 fun r64 w65 =>
                                  ∃ x66 : Sl, r64 = x66.val ∧
                                  StepT Try.prog (Builtin.append_ #[24, 24] 24 #[(x21.val), (x66.val)]) w65 fun r67 w68 =>
                                    ∃ x69 : Sl, r67 = x69.val ∧
                                    ∃ n70 : Int, Wr .i64 (n22 - 1) n70 ∧
                                    I19 x69 n70 w68 ∧
                                    m20 x69 n70 w68 < m20 x21 n22 w23)) ∧
                        ((decide (n34 > 0)) = false →
                          StepT Try.prog (Instr.buildSlice 24 1 #[(0, (.int .i64 n27))]) w32 fun r71 w72 =>
                            ∃ x73 : Sl, r71 = x73.val ∧
                            StepT Try.prog (Builtin.append_ #[24, 24] 24 #[(x21.val), (x73.val)]) w72 fun r74 w75 =>
                              ∃ x76 : Sl, r74 = x76.val ∧
                              ∃ n77 : Int, Wr .i64 (n22 - 1) n77 ∧
                              I19 x76 n77 w75 ∧
                              m20 x76 n77 w75 < m20 x21 n22 w23)) ∧
                    ((decide (n30 > 0)) = false →
                      StepT Try.prog (Instr.buildSlice 24 1 #[(0, (.int .i64 n27))]) w29 fun r78 w79 =>
                        ∃ x80 : Sl, r78 = x80.val ∧
                        StepT Try.prog (Builtin.append_ #[24, 24] 24 #[(x21.val), (x80.val)]) w79 fun r81 w82 =>
                          ∃ x83 : Sl, r81 = x83.val ∧
                          ∃ n84 : Int, Wr .i64 (n22 - 1) n84 ∧
                          I19 x83 n84 w82 ∧
                          m20 x83 n84 w82 < m20 x21 n22 w23)) ∧
                ((decide ((x10.n : Int) > 0)) = false →
                  StepT Try.prog (Instr.buildSlice 24 1 #[(0, (.int .i64 n27))]) w25 fun r85 w86 =>
                    ∃ x87 : Sl, r85 = x87.val ∧
                    StepT Try.prog (Builtin.append_ #[24, 24] 24 #[(x21.val), (x87.val)]) w86 fun r88 w89 =>
                      ∃ x90 : Sl, r88 = x90.val ∧
                      ∃ n91 : Int, Wr .i64 (n22 - 1) n91 ∧
                      I19 x90 n91 w89 ∧
                      m20 x90 n91 w89 < m20 x21 n22 w23)) ∧
            ((decide (n22 > 0)) = false →
              Trip Try.prog 111 #[.pointer (some (a_0.add 0)), .int .i64 7] w23 fun r92 w93 =>
                ∃ n94 : Int, r92 = .int .i64 n94 ∧
                Trip Try.prog 111 #[.pointer (some (a_0.add 0)), .int .i64 7] w93 fun r95 w96 =>
                  ∃ n97 : Int, r95 = .int .i64 n97 ∧
                  StepT Try.prog (Instr.buildSlice 24 4 #[(0, (.int .i64 n94)), (1, (.int .i64 n97)), (2, (.int .i64 0)), (3, (.int .i64 99))]) w96 fun r98 w99 =>
                    ∃ x100 : Sl, r98 = x100.val ∧
                    Trip Try.prog 62 #[.pointer (some (a_0.add 0)), x100.val] w99 fun r101 w102 =>
                      ∃ n103 : Int, r101 = .int .i64 n103 ∧
                      Trip Try.prog 139 #[x10.val, .int .i64 n103, x21.val] w102 fun r104 w105 =>
                        ∃ x106 : Sl, ∃ n107 : Int, r104 = .tuple #[x106.val, .int .i64 n107] ∧
                        ((decide (n107 > 0)) = true →
                          ((decide ((x106.n : Int) > 0)) = true →
                            Trip Try.prog 111 #[.pointer (some (a_0.add 0)), .int .i64 4] w105 fun r108 w109 =>
                              ∃ n110 : Int, r108 = .int .i64 n110 ∧
                              ((decide (n110 = 0)) = true →
                                Trip Try.prog 111 #[.pointer (some (a_0.add 0)), .int .i64 (x106.n : Int)] w109 fun r111 w112 =>
                                  ∃ n113 : Int, r111 = .int .i64 n113 ∧
                                  ∃ n114 : Int, Wr .i64 (1000 + n113) n114 ∧
                                  Trip Try.prog 140 #[x106.val, .int .i64 n114] w112 fun r115 w116 =>
                                    ∃ x117 : Sl, ∃ q118 : Bool, r115 = .tuple #[x117.val, .bool q118] ∧
                                    (q118 = true →
                                      ∃ n119 : Int, Wr .i64 (n11 - 1) n119 ∧
                                      I8 x117 n119 w116 ∧
                                      m9 x117 n119 w116 < m9 x10 n11 w12) ∧
                                    (q118 = false →
                                      ∃ n120 : Int, Wr .i64 (n11 - 1) n120 ∧
                                      I8 x106 n120 w116 ∧
                                      m9 x106 n120 w116 < m9 x10 n11 w12)) ∧
                              ((decide (n110 = 0)) = false →
                                ∃ n121 : Int, Wr .i64 (n11 - 1) n121 ∧
                                I8 x106 n121 w109 ∧
                                m9 x106 n121 w109 < m9 x10 n11 w12)) ∧
                          ((decide ((x106.n : Int) > 0)) = false →
                            ∃ n122 : Int, Wr .i64 (n11 - 1) n122 ∧
                            I8 x106 n122 w105 ∧
                            m9 x106 n122 w105 < m9 x10 n11 w12)) ∧
                        ((decide (n107 > 0)) = false →
                          ((decide ((x10.n : Int) > 0)) = true →
                            Trip Try.prog 111 #[.pointer (some (a_0.add 0)), .int .i64 4] w105 fun r123 w124 =>
                              ∃ n125 : Int, r123 = .int .i64 n125 ∧
                              ((decide (n125 = 0)) = true →
                                Trip Try.prog 111 #[.pointer (some (a_0.add 0)), .int .i64 (x10.n : Int)] w124 fun r126 w127 =>
                                  ∃ n128 : Int, r126 = .int .i64 n128 ∧
                                  ∃ n129 : Int, Wr .i64 (1000 + n128) n129 ∧
                                  Trip Try.prog 140 #[x10.val, .int .i64 n129] w127 fun r130 w131 =>
                                    ∃ x132 : Sl, ∃ q133 : Bool, r130 = .tuple #[x132.val, .bool q133] ∧
                                    (q133 = true →
                                      ∃ n134 : Int, Wr .i64 (n11 - 1) n134 ∧
                                      I8 x132 n134 w131 ∧
                                      m9 x132 n134 w131 < m9 x10 n11 w12) ∧
                                    (q133 = false →
                                      ∃ n135 : Int, Wr .i64 (n11 - 1) n135 ∧
                                      I8 x10 n135 w131 ∧
                                      m9 x10 n135 w131 < m9 x10 n11 w12)) ∧
                              ((decide (n125 = 0)) = false →
                                ∃ n136 : Int, Wr .i64 (n11 - 1) n136 ∧
                                I8 x10 n136 w124 ∧
                                m9 x10 n136 w124 < m9 x10 n11 w12)) ∧
                          ((decide ((x10.n : Int) > 0)) = false →
                            ∃ n137 : Int, Wr .i64 (n11 - 1) n137 ∧
                            I8 x10 n137 w105 ∧
                            m9 x10 n137 w105 < m9 x10 n11 w12)))) ∧
      ((decide (n11 > 0)) = false →
        (q_1 = true →
          Trip Try.prog 111 #[.pointer (some (a_0.add 0)), .int .i64 3] w12 fun r138 w139 =>
            ∃ n140 : Int, r138 = .int .i64 n140 ∧
            ((decide (n140 = 0)) = true →
              Trip Try.prog 111 #[.pointer (some (a_0.add 0)), .int .i64 4] w139 fun r141 w142 =>
                ∃ n143 : Int, r141 = .int .i64 n143 ∧
                Trip Try.prog 100 #[.int .i64 n143] w142 fun r144 w145 =>
                  ∃ x146 : Sl, r144 = x146.val ∧
                  StepT Try.prog (Instr.buildSlice 23 1 #[(0, (.agg #[.int .i64 (-1), .int .i64 0, x146.val]))]) w145 fun r147 w148 =>
                    ∃ x149 : Sl, r147 = x149.val ∧
                    StepT Try.prog (Builtin.append_ #[23, 23] 23 #[(x10.val), (x149.val)]) w148 fun r150 w151 =>
                      ∃ x152 : Sl, r150 = x152.val ∧
                      Q (x152.val) w151) ∧
            ((decide (n140 = 0)) = false →
              Q (x10.val) w139)) ∧
        (q_1 = false →
          Q (x10.val) w12))
theorem of133 (a_0 : Addr) (q_1 : Bool) (v : World) (Q : Value → World → Prop) (h : vc133 a_0 q_1 v Q) : Trip Try.prog 133 #[.pointer (some (a_0.add 0)), .bool q_1] v Q :=
  trip_of_eq (args := [.pt a_0 0, .b q_1]) (A := ⟨[(3, [(5, .sl), (6, .int .i64)], []), (7, [(7, .sl), (8, .int .i64)], [])], [], [(14, [6])], [], [18, 24, 25, 26, 28, 32, 34, 37, 39, 43, 48, 49, 50, 55, 56, 59, 66, 68, 69, 72, 73, 76, 78, 86, 87, 88, 89, 93, 95, 96, 99, 103, 112, 113, 114, 118, 119, 123, 126, 128, 130, 134, 135, 137, 141, 142, 143]⟩) Try.func133 (by kernel_rfl) (by kernel_rfl) (by kernel_rfl : vc133 a_0 q_1 v Q = _) h

/-- spec.validCell -/
def vc134 (x_0 : Sl) (n1_0 : Int) (n1_1 : Int) (x1_2 : Sl) (v : World) (Q : Value → World → Prop) : Prop :=
  ∃ q1 : Bool, ((decide ((x1_2.n : Int) > 3)) = false →
    (Trip Try.prog 88 #[.int .i64 n1_0, .int .i64 (-1), .int .i64 999999] v fun r2 w3 => r2 = .bool q1 ∧ Sub v w3)) ∧
  (((decide ((x1_2.n : Int) > 3)) || (!q1)) = true →
    Q (.bool false) v) ∧
  (((decide ((x1_2.n : Int) > 3)) || (!q1)) = false →
    ((decide (n1_0 < 1)) = true →
      ∃ q4 : Bool, ((decide (n1_1 = 0)) = true →
        (Trip Try.prog 141 #[x1_2.val] v fun r5 w6 => r5 = .bool q4 ∧ Sub v w6)) ∧
      Q (.bool (((decide (n1_1 = 0)) && q4) && ((decide (n1_0 < 0)) || (decide ((x1_2.n : Int) = 0))))) v) ∧
    ((decide (n1_0 < 1)) = false →
      ∃ I7 : Int → World → Prop, ∃ m8 : Int → World → Nat, I7 0 v ∧
      ∀ n9 : Int, ∀ w10 : World, I7 n9 w10 →
      ((decide (n9 < (x1_2.n : Int))) = true →
        IxOk x1_2 n9 ∧
        ∃ n11 : Int, w10.cell? ((elA x1_2 n9 1).add 0) = some (.int .i64 n11) ∧
        ∃ q12 : Bool, (Trip Try.prog 72 #[x_0.val, .int .i64 n11] w10 fun r13 w14 => r13 = .bool q12 ∧ Sub w10 w14) ∧
        ((!q12) = true →
          Q (.bool false) w10) ∧
        ((!q12) = false →
          ∃ n15 : Int, Wr .i64 (n9 + 1) n15 ∧
          ((.num .i64 n1_0 : SV) = .num .i64 n1_0) ∧
          ((.num .i64 n1_1 : SV) = .num .i64 n1_1) ∧
          ((.sl x1_2 : SV) = .sl x1_2) ∧
          I7 n15 w10 ∧
          m8 n15 w10 < m8 n9 w10)) ∧
      ((decide (n9 < (x1_2.n : Int))) = false →
        ∃ q16 : Bool, (Trip Try.prog 88 #[.int .i64 n1_1, .int .i64 0, .int .i64 99] w10 fun r17 w18 => r17 = .bool q16 ∧ Sub w10 w18) ∧
        Q (.bool q16) w10)))
theorem of134 (x_0 : Sl) (n1_0 : Int) (n1_1 : Int) (x1_2 : Sl) (v : World) (Q : Value → World → Prop) (h : vc134 x_0 n1_0 n1_1 x1_2 v Q) : Trip Try.prog 134 #[x_0.val, .agg #[.int .i64 n1_0, .int .i64 n1_1, x1_2.val]] v Q :=
  trip_of_eq (args := [.sl x_0, .ag [.num .i64 n1_0, .num .i64 n1_1, .sl x1_2]]) (A := ⟨[(6, [(5, .int .i64)], [])], [], [], [], [18, 24, 25, 26, 28, 32, 34, 37, 39, 43, 48, 49, 50, 55, 56, 59, 66, 68, 69, 72, 73, 76, 78, 86, 87, 88, 89, 93, 95, 96, 99, 103, 112, 113, 114, 118, 119, 123, 126, 128, 130, 134, 135, 137, 141, 142, 143]⟩) Try.func134 (by kernel_rfl) (by kernel_rfl) (by kernel_rfl : vc134 x_0 n1_0 n1_1 x1_2 v Q = _) h

/-- spec.isAcyclic -/
def vc135 (x_0 : Sl) (v : World) (Q : Value → World → Prop) : Prop :=
  StepT Try.prog (Instr.makeSlice 131 (.int .i64 (x_0.n : Int)) (.int .i64 (x_0.n : Int))) v fun r1 w2 =>
    ∃ x3 : Sl, r1 = x3.val ∧
    ∃ I4 : Int → Bool → World → Prop, ∃ m5 : Int → Bool → World → Nat, I4 0 true w2 ∧
    ∀ n6 : Int, ∀ q7 : Bool, ∀ w8 : World, I4 n6 q7 w8 →
    (q7 = true →
      ∃ I9 : Int → Bool → Int → World → Prop, ∃ m10 : Int → Bool → Int → World → Nat, I9 n6 false 0 w8 ∧
      ∀ n11 : Int, ∀ q12 : Bool, ∀ n13 : Int, ∀ w14 : World, I9 n11 q12 n13 w14 →
      ((decide (n13 < (x_0.n : Int))) = true →
        IxOk x3 n13 ∧
        ∃ q15 : Bool, w14.cell? ((elA x3 n13 1).add 0) = some (.bool q15) ∧
        ((!q15) = true →
          IxOk x_0 n13) ∧
        ∃ x16 : Sl, ((!q15) = true →
          w14.cell? ((elA x_0 n13 3).add 2) = some (x16.val)) ∧
        ∃ q17 : Bool, ((!q15) = true →
          (Trip Try.prog 142 #[x3.val, x16.val] w14 fun r18 w19 => r18 = .bool q17 ∧ Sub w14 w19)) ∧
        (((!q15) && q17) = true →
          IxOk x3 n13 ∧
          StoreAt w14 (elA x3 n13 1) 0 [.bool true] fun w20 =>
            ∃ n21 : Int, Wr .i64 (n11 + 1) n21 ∧
            ∃ n22 : Int, Wr .i64 (n13 + 1) n22 ∧
            I9 n21 true n22 w20 ∧
            m10 n21 true n22 w20 < m10 n11 q12 n13 w14) ∧
        (((!q15) && q17) = false →
          ∃ n23 : Int, Wr .i64 (n13 + 1) n23 ∧
          I9 n11 q12 n23 w14 ∧
          m10 n11 q12 n23 w14 < m10 n11 q12 n13 w14)) ∧
      ((decide (n13 < (x_0.n : Int))) = false →
        I4 n11 q12 w14 ∧
        m5 n11 q12 w14 < m5 n6 q7 w8)) ∧
    (q7 = false →
      Q (.bool (decide (n6 = (x_0.n : Int)))) w8)
theorem of135 (x_0 : Sl) (v : World) (Q : Value → World → Prop) (h : vc135 x_0 v Q) : Trip Try.prog 135 #[x_0.val] v Q :=
  trip_of_eq (args := [.sl x_0]) (A := ⟨[(4, [(4, .int .i64), (5, .bool)], []), (7, [(4, .int .i64), (5, .bool), (6, .int .i64)], [])], [], [], [], [18, 24, 25, 26, 28, 32, 34, 37, 39, 43, 48, 49, 50, 55, 56, 59, 66, 68, 69, 72, 73, 76, 78, 86, 87, 88, 89, 93, 95, 96, 99, 103, 112, 113, 114, 118, 119, 123, 126, 128, 130, 134, 135, 137, 141, 142, 143]⟩) Try.func135 (by kernel_rfl) (by kernel_rfl) (by kernel_rfl : vc135 x_0 v Q = _) h

/-- slices.IndexFunc[[]int,int] -/
def vc136 (x_0 : Sl) (f_1 : Nat) (k1_0 : Addr) (v : World) (Q : Value → World → Prop) : Prop :=
  ∃ I1 : Int → World → Prop, ∃ m2 : Int → World → Nat, I1 0 v ∧
  ∀ n3 : Int, ∀ w4 : World, I1 n3 w4 →
  ((decide (n3 < (x_0.n : Int))) = true →
    IxOk x_0 n3 ∧
    ∃ n5 : Int, w4.cell? ((elA x_0 n3 1).add 0) = some (.int .i64 n5) ∧
    Trip Try.prog f_1 #[.int .i64 n5, .pointer (some (k1_0.add 0))] w4 fun r6 w7 =>
      ∃ q8 : Bool, r6 = .bool q8 ∧
      (q8 = true →
        Q (.int .i64 n3) w7) ∧
      (q8 = false →
        ∃ n9 : Int, Wr .i64 (n3 + 1) n9 ∧
        I1 n9 w7 ∧
        m2 n9 w7 < m2 n3 w4)) ∧
  ((decide (n3 < (x_0.n : Int))) = false →
    Q (.int .i64 (-1)) w4)
theorem of136 (x_0 : Sl) (f_1 : Nat) (k1_0 : Addr) (v : World) (Q : Value → World → Prop) (h : vc136 x_0 f_1 k1_0 v Q) : Trip Try.prog 136 #[x_0.val, .func (.func f_1) #[] #[.pointer (some (k1_0.add 0))]] v Q :=
  trip_of_eq (args := [.sl x_0, .clo f_1 [.pt k1_0 0]]) (A := ⟨[(2, [(8, .int .i64)], [])], [], [], [], [18, 24, 25, 26, 28, 32, 34, 37, 39, 43, 48, 49, 50, 55, 56, 59, 66, 68, 69, 72, 73, 76, 78, 86, 87, 88, 89, 93, 95, 96, 99, 103, 112, 113, 114, 118, 119, 123, 126, 128, 130, 134, 135, 137, 141, 142, 143]⟩) Try.func136 (by kernel_rfl) (by kernel_rfl) (by kernel_rfl : vc136 x_0 f_1 k1_0 v Q = _) h

/-- spec.mapped -/
def vc139 (x_0 : Sl) (n_1 : Int) (x_2 : Sl) (v : World) (Q : Value → World → Prop) : Prop :=
  ∃ q1 : Bool, (Trip Try.prog 114 #[x_0.val] v fun r2 w3 => r2 = .bool q1 ∧ Sub v w3) ∧
  ((!q1) = true →
    Q (.tuple #[.slice none 0 0, .int .i64 0]) v) ∧
  ((!q1) = false →
    ∃ n4 : Int, (Trip Try.prog 143 #[x_0.val] v fun r5 w6 => r5 = .int .i64 n4 ∧ Sub v w6) ∧
    ∃ I7 : Int → World → Prop, ∃ m8 : Int → World → Nat, I7 0 v ∧
    ∀ n9 : Int, ∀ w10 : World, I7 n9 w10 →
    ((decide (n9 < (x_2.n : Int))) = true →
      IxOk x_2 n9 ∧
      ∃ n11 : Int, w10.cell? ((elA x_2 n9 1).add 0) = some (.int .i64 n11) ∧
      ∃ q12 : Bool, (Trip Try.prog 72 #[x_0.val, .int .i64 n11] w10 fun r13 w14 => r13 = .bool q12 ∧ Sub w10 w14) ∧
      ((!q12) = true →
        Q (.tuple #[.slice none 0 0, .int .i64 0]) w10) ∧
      ((!q12) = false →
        ∃ n15 : Int, Wr .i64 (n9 + 1) n15 ∧
        I7 n15 w10 ∧
        m8 n15 w10 < m8 n9 w10)) ∧
    ((decide (n9 < (x_2.n : Int))) = false →
      Trip Try.prog 117 #[x_0.val] w10 fun r16 w17 =>
        ∃ x18 : Sl, r16 = x18.val ∧
        Trip Try.prog 74 #[x18.val, .int .i64 n4, .int .i64 n_1, x_2.val] w17 fun r19 w20 =>
          ∃ x21 : Sl, r19 = x21.val ∧
          ∃ q22 : Bool, (Trip Try.prog 114 #[x21.val] w20 fun r23 w24 => r23 = .bool q22 ∧ Sub w20 w24) ∧
          ((!q22) = true →
            Q (.tuple #[.slice none 0 0, .int .i64 0]) w20) ∧
          ((!q22) = false →
            ∃ n25 : Int, Wr .i64 (1000 + n4) n25 ∧
            Q (.tuple #[x21.val, .int .i64 n25]) w20)))
theorem of139 (x_0 : Sl) (n_1 : Int) (x_2 : Sl) (v : World) (Q : Value → World → Prop) (h : vc139 x_0 n_1 x_2 v Q) : Trip Try.prog 139 #[x_0.val, .int .i64 n_1, x_2.val] v Q :=
  trip_of_eq (args := [.sl x_0, .num .i64 n_1, .sl x_2]) (A := ⟨[(5, [(9, .int .i64)], [])], [], [], [], [18, 24, 25, 26, 28, 32, 34, 37, 39, 43, 48, 49, 50, 55, 56, 59, 66, 68, 69, 72, 73, 76, 78, 86, 87, 88, 89, 93, 95, 96, 99, 103, 112, 113, 114, 118, 119, 123, 126, 128, 130, 134, 135, 137, 141, 142, 143]⟩) Try.func139 (by kernel_rfl) (by kernel_rfl) (by kernel_rfl : vc139 x_0 n_1 x_2 v Q = _) h

/-- spec.DropWord -/
def vc140 (x_0 : Sl) (n_1 : Int) (v : World) (Q : Value → World → Prop) : Prop :=
  ∃ q1 : Bool, (Trip Try.prog 114 #[x_0.val] v fun r2 w3 => r2 = .bool q1 ∧ Sub v w3) ∧
  ∃ q4 : Bool, ((!q1) = false →
    (Trip Try.prog 72 #[x_0.val, .int .i64 n_1] v fun r5 w6 => r5 = .bool q4 ∧ Sub v w6)) ∧
  (((!q1) || (!q4)) = true →
    Q (.tuple #[.slice none 0 0, .bool false]) v) ∧
  (((!q1) || (!q4)) = false →
    ∃ q7 : Bool, (Trip Try.prog 78 #[.int .i64 n_1] v fun r8 w9 => r8 = .bool q7 ∧ Sub v w9) ∧
    ∃ n10 : Int, (q7 = true →
      Wr .i64 (n_1 - 1000) n10) ∧
    (q7 = true →
      IxOk x_0 n10) ∧
    ∃ n11 : Int, (q7 = true →
      v.cell? ((elA x_0 n10 3).add 0) = some (.int .i64 n11)) ∧
    ∃ n12 : Int, (q7 = true →
      Wr .i64 (n_1 - 1000) n12) ∧
    (q7 = true →
      Trip Try.prog 79 #[x_0.val] v fun r13 w14 =>
        ∃ x15 : Sl, r13 = x15.val ∧
        Sub v w14 ∧
        IxOk x15 n12 ∧
        ∃ n16 : Int, w14.cell? ((elA x15 n12 1).add 0) = some (.int .i64 n16) ∧
        ((decide (n11 = n16)) = true →
          Q (.tuple #[.slice none 0 0, .bool false]) w14) ∧
        ((decide (n11 = n16)) = false →
          Trip Try.prog 117 #[x_0.val] w14 fun r17 w18 =>
            ∃ x19 : Sl, r17 = x19.val ∧
            StepT Try.prog (Instr.buildSlice 24 1 #[(0, (.int .i64 n_1))]) w18 fun r20 w21 =>
              ∃ x22 : Sl, r20 = x22.val ∧
              Trip Try.prog 144 #[x19.val, x22.val] w21 fun r23 w24 =>
                ∃ x25 : Sl, r23 = x25.val ∧
                Q (.tuple #[x25.val, .bool true]) w24)) ∧
    (q7 = false →
      Sub v v ∧
      Trip Try.prog 117 #[x_0.val] v fun r26 w27 =>
        ∃ x28 : Sl, r26 = x28.val ∧
        StepT Try.prog (Instr.buildSlice 24 1 #[(0, (.int .i64 n_1))]) w27 fun r29 w30 =>
          ∃ x31 : Sl, r29 = x31.val ∧
          Trip Try.prog 144 #[x28.val, x31.val] w30 fun r32 w33 =>
            ∃ x34 : Sl, r32 = x34.val ∧
            Q (.tuple #[x34.val, .bool true]) w33))
theorem of140 (x_0 : Sl) (n_1 : Int) (v : World) (Q : Value → World → Prop) (h : vc140 x_0 n_1 v Q) : Trip Try.prog 140 #[x_0.val, .int .i64 n_1] v Q :=
  trip_of_eq (args := [.sl x_0, .num .i64 n_1]) (A := ⟨[], [], [(3, [10])], [], [18, 24, 25, 26, 28, 32, 34, 37, 39, 43, 48, 49, 50, 55, 56, 59, 66, 68, 69, 72, 73, 76, 78, 86, 87, 88, 89, 93, 95, 96, 99, 103, 112, 113, 114, 118, 119, 123, 126, 128, 130, 134, 135, 137, 141, 142, 143]⟩) Try.func140 (by kernel_rfl) (by kernel_rfl) (by kernel_rfl : vc140 x_0 n_1 v Q = _) h

/-- spec.allZero -/
def vc141 (x_0 : Sl) (v : World) (Q : Value → World → Prop) : Prop :=
  ∃ I1 : Int → World → Prop, ∃ m2 : Int → World → Nat, I1 0 v ∧
  ∀ n3 : Int, ∀ w4 : World, I1 n3 w4 →
  ((decide (n3 < (x_0.n : Int))) = true →
    IxOk x_0 n3 ∧
    ∃ n5 : Int, w4.cell? ((elA x_0 n3 1).add 0) = some (.int .i64 n5) ∧
    ((!decide (n5 = 0)) = true →
      Q (.bool false) w4) ∧
    ((!decide (n5 = 0)) = false →
      ∃ n6 : Int, Wr .i64 (n3 + 1) n6 ∧
      I1 n6 w4 ∧
      m2 n6 w4 < m2 n3 w4)) ∧
  ((decide (n3 < (x_0.n : Int))) = false →
    Q (.bool true) w4)
theorem of141 (x_0 : Sl) (v : World) (Q : Value → World → Prop) (h : vc141 x_0 v Q) : Trip Try.prog 141 #[x_0.val] v Q :=
  trip_of_eq (args := [.sl x_0]) (A := ⟨[(2, [(3, .int .i64)], [])], [], [], [], [18, 24, 25, 26, 28, 32, 34, 37, 39, 43, 48, 49, 50, 55, 56, 59, 66, 68, 69, 72, 73, 76, 78, 86, 87, 88, 89, 93, 95, 96, 99, 103, 112, 113, 114, 118, 119, 123, 126, 128, 130, 134, 135, 137, 141, 142, 143]⟩) Try.func141 (by kernel_rfl) (by kernel_rfl) (by kernel_rfl : vc141 x_0 v Q = _) h

/-- spec.allMarked -/
def vc142 (x_0 : Sl) (x_1 : Sl) (v : World) (Q : Value → World → Prop) : Prop :=
  ∃ I1 : Int → World → Prop, ∃ m2 : Int → World → Nat, I1 0 v ∧
  ∀ n3 : Int, ∀ w4 : World, I1 n3 w4 →
  ((decide (n3 < (x_1.n : Int))) = true →
    IxOk x_1 n3 ∧
    ∃ n5 : Int, w4.cell? ((elA x_1 n3 1).add 0) = some (.int .i64 n5) ∧
    ∃ q6 : Bool, (Trip Try.prog 78 #[.int .i64 n5] w4 fun r7 w8 => r7 = .bool q6 ∧ Sub w4 w8) ∧
    (q6 = true →
      IxOk x_1 n3) ∧
    ∃ n9 : Int, (q6 = true →
      w4.cell? ((elA x_1 n3 1).add 0) = some (.int .i64 n9)) ∧
    ∃ n10 : Int, (q6 = true →
      Wr .i64 (n9 - 1000) n10) ∧
    (q6 = true →
      IxOk x_0 n10) ∧
    ∃ q11 : Bool, (q6 = true →
      w4.cell? ((elA x_0 n10 1).add 0) = some (.bool q11)) ∧
    ((q6 && (!q11)) = true →
      Q (.bool false) w4) ∧
    ((q6 && (!q11)) = false →
      ∃ n12 : Int, Wr .i64 (n3 + 1) n12 ∧
      I1 n12 w4 ∧
      m2 n12 w4 < m2 n3 w4)) ∧
  ((decide (n3 < (x_1.n : Int))) = false →
    Q (.bool true) w4)
theorem of142 (x_0 : Sl) (x_1 : Sl) (v : World) (Q : Value → World → Prop) (h : vc142 x_0 x_1 v Q) : Trip Try.prog 142 #[x_0.val, x_1.val] v Q :=
  trip_of_eq (args := [.sl x_0, .sl x_1]) (A := ⟨[(2, [(5, .int .i64)], [])], [], [], [], [18, 24, 25, 26, 28, 32, 34, 37, 39, 43, 48, 49, 50, 55, 56, 59, 66, 68, 69, 72, 73, 76, 78, 86, 87, 88, 89, 93, 95, 96, 99, 103, 112, 113, 114, 118, 119, 123, 126, 128, 130, 134, 135, 137, 141, 142, 143]⟩) Try.func142 (by kernel_rfl) (by kernel_rfl) (by kernel_rfl : vc142 x_0 x_1 v Q = _) h

/-- spec.freeIndex -/
def vc143 (x_0 : Sl) (v : World) (Q : Value → World → Prop) : Prop :=
  ∃ I1 : Int → World → Prop, ∃ m2 : Int → World → Nat, I1 0 v ∧
  ∀ n3 : Int, ∀ w4 : World, I1 n3 w4 →
  ((decide (n3 < (x_0.n : Int))) = true →
    IxOk x_0 n3 ∧
    ∃ n5 : Int, w4.cell? ((elA x_0 n3 3).add 0) = some (.int .i64 n5) ∧
    ((decide (n5 = 0)) = true →
      Q (.int .i64 n3) w4) ∧
    ((decide (n5 = 0)) = false →
      ∃ n6 : Int, Wr .i64 (n3 + 1) n6 ∧
      I1 n6 w4 ∧
      m2 n6 w4 < m2 n3 w4)) ∧
  ((decide (n3 < (x_0.n : Int))) = false →
    Q (.int .i64 (x_0.n : Int)) w4)
theorem of143 (x_0 : Sl) (v : World) (Q : Value → World → Prop) (h : vc143 x_0 v Q) : Trip Try.prog 143 #[x_0.val] v Q :=
  trip_of_eq (args := [.sl x_0]) (A := ⟨[(2, [(3, .int .i64)], [])], [], [], [], [18, 24, 25, 26, 28, 32, 34, 37, 39, 43, 48, 49, 50, 55, 56, 59, 66, 68, 69, 72, 73, 76, 78, 86, 87, 88, 89, 93, 95, 96, 99, 103, 112, 113, 114, 118, 119, 123, 126, 128, 130, 134, 135, 137, 141, 142, 143]⟩) Try.func143 (by kernel_rfl) (by kernel_rfl) (by kernel_rfl : vc143 x_0 v Q = _) h

/-- spec.dropWords -/
def vc144 (x_0 : Sl) (x_1 : Sl) (v : World) (Q : Value → World → Prop) : Prop :=
  Trip Try.prog 115 #[x_1.val] v fun r1 w2 =>
    ∃ x3 : Sl, r1 = x3.val ∧
    ∃ I4 : Sl → World → Prop, ∃ m5 : Sl → World → Nat, I4 x3 w2 ∧
    ∀ x6 : Sl, ∀ w7 : World, I4 x6 w7 →
    ((decide ((x6.n : Int) > 0)) = true →
      ∃ n8 : Int, Wr .i64 ((x6.n : Int) - 1) n8 ∧
      IxOk x6 n8 ∧
      ∃ n9 : Int, w7.cell? ((elA x6 n8 1).add 0) = some (.int .i64 n9) ∧
      ∃ n10 : Int, Wr .i64 ((x6.n : Int) - 1) n10 ∧
      CutOk x6 0 n10 ∧
      ∃ q11 : Bool, (Trip Try.prog 78 #[.int .i64 n9] w7 fun r12 w13 => r12 = .bool q11 ∧ Sub w7 w13) ∧
      (q11 = true →
        ∃ n14 : Int, Wr .i64 (n9 - 1000) n14 ∧
        IxOk x_0 n14 ∧
        ∃ n15 : Int, w7.cell? ((elA x_0 n14 3).add 0) = some (.int .i64 n15) ∧
        ∃ n16 : Int, Wr .i64 (n15 - 1) n16 ∧
        IxOk x_0 n14 ∧
        StoreAt w7 (elA x_0 n14 3) 0 [.int .i64 n16] fun w17 =>
          IxOk x_0 n14 ∧
          ∃ n18 : Int, w17.cell? ((elA x_0 n14 3).add 0) = some (.int .i64 n18) ∧
          ((decide (n18 = 0)) = true →
            IxOk x_0 n14 ∧
            ∃ x19 : Sl, w17.cell? ((elA x_0 n14 3).add 2) = some (x19.val) ∧
            StepT Try.prog (Builtin.append_ #[24, 24] 24 #[((x6.cut 0 n10 1).val), (x19.val)]) w17 fun r20 w21 =>
              ∃ x22 : Sl, r20 = x22.val ∧
              StepT Try.prog (Instr.buildSlice 24 0 #[]) w21 fun r23 w24 =>
                ∃ x25 : Sl, r23 = x25.val ∧
                IxOk x_0 n14 ∧
                StoreAt w24 (elA x_0 n14 3) 0 [.int .i64 0, .int .i64 0, x25.val] fun w26 =>
                  I4 x22 w26 ∧
                  m5 x22 w26 < m5 x6 w7) ∧
          ((decide (n18 = 0)) = false →
            I4 (x6.cut 0 n10 1) w17 ∧
            m5 (x6.cut 0 n10 1) w17 < m5 x6 w7)) ∧
      (q11 = false →
        I4 (x6.cut 0 n10 1) w7 ∧
        m5 (x6.cut 0 n10 1) w7 < m5 x6 w7)) ∧
    ((decide ((x6.n : Int) > 0)) = false →
      Trip Try.prog 125 #[x_0.val] w7 fun r27 w28 =>
        ∃ x29 : Sl, r27 = x29.val ∧
        Q (x29.val) w28)
theorem of144 (x_0 : Sl) (x_1 : Sl) (v : World) (Q : Value → World → Prop) (h : vc144 x_0 x_1 v Q) : Trip Try.prog 144 #[x_0.val, x_1.val] v Q :=
  trip_of_eq (args := [.sl x_0, .sl x_1]) (A := ⟨[(2, [(5, .sl)], [])], [], [], [], [18, 24, 25, 26, 28, 32, 34, 37, 39, 43, 48, 49, 50, 55, 56, 59, 66, 68, 69, 72, 73, 76, 78, 86, 87, 88, 89, 93, 95, 96, 99, 103, 112, 113, 114, 118, 119, 123, 126, 128, 130, 134, 135, 137, 141, 142, 143]⟩) Try.func144 (by kernel_rfl) (by kernel_rfl) (by kernel_rfl : vc144 x_0 x_1 v Q = _) h

end Go.Vc
