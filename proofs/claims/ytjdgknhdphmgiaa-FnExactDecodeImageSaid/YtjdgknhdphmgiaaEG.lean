/- Part of the proofs about the heaps and memories: a law is joined in the text whose name ends in W and the law. -/
import Derived.Test.YtjdgknhdphmgiaaEVcFn
import Derived.Test.YtjdgknhdphmgiaaProg
import Derived.KernelRfl
namespace Go.Vc
open Go Go.Proofs
set_option linter.all false
/-- laws.FnExactDecodeImage -/
def vc5 (x_0 : Sl) (v : World) (Q : Value → World → Prop) : Prop :=
  ((decide ((x_0.n : Int) > 1048576)) = true →
    Q (.bool true) v) ∧
  ((decide ((x_0.n : Int) > 1048576)) = false →
    Trip Try.prog 19 #[x_0.val] v fun r1 w2 =>
      ∃ x3 : Sl, r1 = x3.val ∧
      Trip Try.prog 18 #[x3.val] w2 fun r4 w5 =>
        ∃ x6 : Sl, ∃ x7 : Sl, ∃ q8 : Bool, r4 = .tuple #[.agg #[x6.val, x7.val], .bool q8] ∧
        Trip Try.prog 19 #[x_0.val] w5 fun r9 w10 =>
          ∃ x11 : Sl, r9 = x11.val ∧
          Trip Try.prog 20 #[x11.val] w10 fun r12 w13 =>
            ∃ x14 : Sl, ∃ x15 : Sl, ∃ q16 : Bool, r12 = .tuple #[.agg #[x14.val, x15.val], .bool q16] ∧
            ∃ q17 : Bool, (Trip Try.prog 11 #[.agg #[x14.val, x15.val], .agg #[x6.val, x7.val]] w13 fun r18 w19 => r18 = .bool q17 ∧ Sub w13 w19) ∧
            (((!q17) || (!(q16 == q8))) = true →
              Q (.bool false) w13) ∧
            (((!q17) || (!(q16 == q8))) = false →
              Trip Try.prog 19 #[x_0.val] w13 fun r20 w21 =>
                ∃ x22 : Sl, r20 = x22.val ∧
                ∃ q23 : Bool, (Trip Try.prog 14 #[x11.val, x22.val] w21 fun r24 w25 => r24 = .bool q23 ∧ Sub w21 w25) ∧
                ((!q23) = true →
                  Q (.bool false) w21) ∧
                ((!q23) = false →
                  Trip Try.prog 16 #[x11.val, .int .i64 1] w21 fun r26 w27 =>
                    ∃ n28 : Int, r26 = .int .i64 n28 ∧
                    ∃ q29 : Bool, ((decide (n28 < 0)) = false →
                      (Trip Try.prog 11 #[.agg #[x14.val, x15.val], .agg #[x6.val, x7.val]] w27 fun r30 w31 => r30 = .bool q29 ∧ Sub w27 w31)) ∧
                    ((((decide (n28 < 0)) || (!q29)) || (!(q16 == q8))) = true →
                      Q (.bool false) w27) ∧
                    ((((decide (n28 < 0)) || (!q29)) || (!(q16 == q8))) = false →
                      Trip Try.prog 15 #[.agg #[x14.val, x15.val], .int .i64 1] w27 fun r32 w33 =>
                        ∃ n34 : Int, r32 = .int .i64 n34 ∧
                        ∃ n35 : Int, (Trip Try.prog 21 #[.agg #[x14.val, x15.val], .int .i64 1] w33 fun r36 w37 => r36 = .int .i64 n35 ∧ Sub w33 w37) ∧
                        ((decide (n35 < 0)) = true →
                          Q (.bool false) w33) ∧
                        ((decide (n35 < 0)) = false →
                          ((!decide (n35 = n34)) = true →
                            Q (.bool false) w33) ∧
                          ((!decide (n35 = n34)) = false →
                            Trip Try.prog 19 #[x_0.val] w33 fun r38 w39 =>
                              ∃ x40 : Sl, r38 = x40.val ∧
                              Trip Try.prog 20 #[x40.val] w39 fun r41 w42 =>
                                ∃ x43 : Sl, ∃ x44 : Sl, ∃ q45 : Bool, r41 = .tuple #[.agg #[x43.val, x44.val], .bool q45] ∧
                                ∃ q46 : Bool, (Trip Try.prog 11 #[.agg #[x43.val, x44.val], .agg #[x6.val, x7.val]] w42 fun r47 w48 => r47 = .bool q46 ∧ Sub w42 w48) ∧
                                (((!q46) || (!(q45 == q8))) = true →
                                  Q (.bool false) w42) ∧
                                (((!q46) || (!(q45 == q8))) = false →
                                  ∃ n49 : Int, (Trip Try.prog 21 #[.agg #[x14.val, x15.val], .int .i64 1] w42 fun r50 w51 => r50 = .int .i64 n49 ∧ Sub w42 w51) ∧
                                  ((decide (n49 < 0)) = true →
                                    Q (.bool false) w42) ∧
                                  ((decide (n49 < 0)) = false →
                                    ((!decide (n49 = n34)) = true →
                                      Q (.bool false) w42) ∧
                                    ((!decide (n49 = n34)) = false →
                                      Q (.bool true) w42)))))))))
theorem of5 (x_0 : Sl) (v : World) (Q : Value → World → Prop) (h : vc5 x_0 v Q) : Trip Try.prog 5 #[x_0.val] v Q :=
  trip_of_eq (args := [.sl x_0]) (A := ⟨[], [], [], [], [7, 11, 14, 17, 21, 24, 25, 26, 30, 31, 32, 38, 39, 40, 43, 44, 45, 46, 48, 56, 57, 58, 69, 70, 77, 78, 79, 80, 81, 82, 83, 84, 87, 88, 89, 91, 92, 93, 94, 95, 100, 103, 104, 105, 106, 107, 109, 111, 114, 115, 116, 118, 120, 121, 122, 123, 124, 125]⟩) Try.func5 (by kernel_rfl) (by kernel_rfl) (by kernel_rfl : vc5 x_0 v Q = _) h

/-- laws.eqImage -/
def vc11 (x0_0 : Sl) (x0_1 : Sl) (x1_0 : Sl) (x1_1 : Sl) (v : World) (Q : Value → World → Prop) : Prop :=
  ∃ q1 : Bool, (Trip Try.prog 31 #[x0_0.val, x1_0.val] v fun r2 w3 => r2 = .bool q1 ∧ Sub v w3) ∧
  ((!q1) = true →
    Q (.bool false) v) ∧
  ((!q1) = false →
    ∃ q4 : Bool, (Trip Try.prog 32 #[x0_1.val, x1_1.val] v fun r5 w6 => r5 = .bool q4 ∧ Sub v w6) ∧
    ((!q4) = true →
      Q (.bool false) v) ∧
    ((!q4) = false →
      Q (.bool true) v))
theorem of11 (x0_0 : Sl) (x0_1 : Sl) (x1_0 : Sl) (x1_1 : Sl) (v : World) (Q : Value → World → Prop) (h : vc11 x0_0 x0_1 x1_0 x1_1 v Q) : Trip Try.prog 11 #[.agg #[x0_0.val, x0_1.val], .agg #[x1_0.val, x1_1.val]] v Q :=
  trip_of_eq (args := [.ag [.sl x0_0, .sl x0_1], .ag [.sl x1_0, .sl x1_1]]) (A := ⟨[], [], [], [], [7, 11, 14, 17, 21, 24, 25, 26, 30, 31, 32, 38, 39, 40, 43, 44, 45, 46, 48, 56, 57, 58, 69, 70, 77, 78, 79, 80, 81, 82, 83, 84, 87, 88, 89, 91, 92, 93, 94, 95, 100, 103, 104, 105, 106, 107, 109, 111, 114, 115, 116, 118, 120, 121, 122, 123, 124, 125]⟩) Try.func11 (by kernel_rfl) (by kernel_rfl) (by kernel_rfl : vc11 x0_0 x0_1 x1_0 x1_1 v Q = _) h

/-- impl.EncodeImage -/
def vc13 (x0_0 : Sl) (x0_1 : Sl) (v : World) (Q : Value → World → Prop) : Prop :=
  ∃ q1 : Bool, (Trip Try.prog 30 #[.agg #[x0_0.val, x0_1.val]] v fun r2 w3 => r2 = .bool q1 ∧ Sub v w3) ∧
  ((!q1) = true →
    Q (.slice none 0 0) v) ∧
  ((!q1) = false →
    NewAt v (.cells #[.slice none 0 0] 53 (0, 0)) fun a4 w5 =>
      Trip Try.prog 33 #[.pointer (some (a4.add 0)), .agg #[x0_0.val, x0_1.val]] w5 fun r6 w7 =>
        r6 = .tuple #[] ∧
        ∃ x8 : Sl, w7.cell? (a4.add 0) = some (x8.val) ∧
        Q (x8.val) w7)
theorem of13 (x0_0 : Sl) (x0_1 : Sl) (v : World) (Q : Value → World → Prop) (h : vc13 x0_0 x0_1 v Q) : Trip Try.prog 13 #[.agg #[x0_0.val, x0_1.val]] v Q :=
  trip_of_eq (args := [.ag [.sl x0_0, .sl x0_1]]) (A := ⟨[], [], [], [3], [7, 11, 14, 17, 21, 24, 25, 26, 30, 31, 32, 38, 39, 40, 43, 44, 45, 46, 48, 56, 57, 58, 69, 70, 77, 78, 79, 80, 81, 82, 83, 84, 87, 88, 89, 91, 92, 93, 94, 95, 100, 103, 104, 105, 106, 107, 109, 111, 114, 115, 116, 118, 120, 121, 122, 123, 124, 125]⟩) Try.func13 (by kernel_rfl) (by kernel_rfl) (by kernel_rfl : vc13 x0_0 x0_1 v Q = _) h

/-- laws.eqIntS -/
def vc14 (x_0 : Sl) (x_1 : Sl) (v : World) (Q : Value → World → Prop) : Prop :=
  ((!decide ((x_0.n : Int) = (x_1.n : Int))) = true →
    Q (.bool false) v) ∧
  ((!decide ((x_0.n : Int) = (x_1.n : Int))) = false →
    ∃ I1 : Int → World → Prop, ∃ m2 : Int → World → Nat, I1 0 v ∧
    ∀ n3 : Int, ∀ w4 : World, I1 n3 w4 →
    ((decide (n3 < (x_0.n : Int))) = true →
      IxOk x_0 n3 ∧
      ∃ n5 : Int, w4.cell? ((elA x_0 n3 1).add 0) = some (.int .i64 n5) ∧
      IxOk x_1 n3 ∧
      ∃ n6 : Int, w4.cell? ((elA x_1 n3 1).add 0) = some (.int .i64 n6) ∧
      ((!decide (n5 = n6)) = true →
        Q (.bool false) w4) ∧
      ((!decide (n5 = n6)) = false →
        ∃ n7 : Int, Wr .i64 (n3 + 1) n7 ∧
        I1 n7 w4 ∧
        m2 n7 w4 < m2 n3 w4)) ∧
    ((decide (n3 < (x_0.n : Int))) = false →
      Q (.bool true) w4))
theorem of14 (x_0 : Sl) (x_1 : Sl) (v : World) (Q : Value → World → Prop) (h : vc14 x_0 x_1 v Q) : Trip Try.prog 14 #[x_0.val, x_1.val] v Q :=
  trip_of_eq (args := [.sl x_0, .sl x_1]) (A := ⟨[(4, [(5, .int .i64)], [])], [], [], [], [7, 11, 14, 17, 21, 24, 25, 26, 30, 31, 32, 38, 39, 40, 43, 44, 45, 46, 48, 56, 57, 58, 69, 70, 77, 78, 79, 80, 81, 82, 83, 84, 87, 88, 89, 91, 92, 93, 94, 95, 100, 103, 104, 105, 106, 107, 109, 111, 114, 115, 116, 118, 120, 121, 122, 123, 124, 125]⟩) Try.func14 (by kernel_rfl) (by kernel_rfl) (by kernel_rfl : vc14 x_0 x_1 v Q = _) h

/-- laws.markImage -/
def vc15 (x0_0 : Sl) (x0_1 : Sl) (n_1 : Int) (v : World) (Q : Value → World → Prop) : Prop :=
  Trip Try.prog 34 #[x0_0.val, .int .i64 n_1] v fun r1 w2 =>
    ∃ n3 : Int, r1 = .int .i64 n3 ∧
    Trip Try.prog 35 #[x0_1.val, .int .i64 n3] w2 fun r4 w5 =>
      ∃ n6 : Int, r4 = .int .i64 n6 ∧
      Q (.int .i64 n6) w5
theorem of15 (x0_0 : Sl) (x0_1 : Sl) (n_1 : Int) (v : World) (Q : Value → World → Prop) (h : vc15 x0_0 x0_1 n_1 v Q) : Trip Try.prog 15 #[.agg #[x0_0.val, x0_1.val], .int .i64 n_1] v Q :=
  trip_of_eq (args := [.ag [.sl x0_0, .sl x0_1], .num .i64 n_1]) (A := ⟨[], [], [], [], [7, 11, 14, 17, 21, 24, 25, 26, 30, 31, 32, 38, 39, 40, 43, 44, 45, 46, 48, 56, 57, 58, 69, 70, 77, 78, 79, 80, 81, 82, 83, 84, 87, 88, 89, 91, 92, 93, 94, 95, 100, 103, 104, 105, 106, 107, 109, 111, 114, 115, 116, 118, 120, 121, 122, 123, 124, 125]⟩) Try.func15 (by kernel_rfl) (by kernel_rfl) (by kernel_rfl : vc15 x0_0 x0_1 n_1 v Q = _) h

/-- laws.markIntS -/
def vc16 (x_0 : Sl) (n_1 : Int) (v : World) (Q : Value → World → Prop) : Prop :=
  ∃ I1 : Int → Int → World → Prop, ∃ m2 : Int → Int → World → Nat, I1 n_1 0 v ∧
  ∀ n3 : Int, ∀ n4 : Int, ∀ w5 : World, I1 n3 n4 w5 →
  ((decide (n4 < (x_0.n : Int))) = true →
    IxOk x_0 n4 ∧
    StoreAt w5 (elA x_0 n4 1) 0 [.int .i64 n3] fun w6 =>
      ∃ n7 : Int, Wr .i64 (n3 + 1) n7 ∧
      ∃ n8 : Int, Wr .i64 (n4 + 1) n8 ∧
      I1 n7 n8 w6 ∧
      m2 n7 n8 w6 < m2 n3 n4 w5) ∧
  ((decide (n4 < (x_0.n : Int))) = false →
    Q (.int .i64 n3) w5)
theorem of16 (x_0 : Sl) (n_1 : Int) (v : World) (Q : Value → World → Prop) (h : vc16 x_0 n_1 v Q) : Trip Try.prog 16 #[x_0.val, .int .i64 n_1] v Q :=
  trip_of_eq (args := [.sl x_0, .num .i64 n_1]) (A := ⟨[(2, [(1, .int .i64), (5, .int .i64)], [])], [], [], [], [7, 11, 14, 17, 21, 24, 25, 26, 30, 31, 32, 38, 39, 40, 43, 44, 45, 46, 48, 56, 57, 58, 69, 70, 77, 78, 79, 80, 81, 82, 83, 84, 87, 88, 89, 91, 92, 93, 94, 95, 100, 103, 104, 105, 106, 107, 109, 111, 114, 115, 116, 118, 120, 121, 122, 123, 124, 125]⟩) Try.func16 (by kernel_rfl) (by kernel_rfl) (by kernel_rfl : vc16 x_0 n_1 v Q = _) h

/-- laws.heldIntS -/
def vc17 (x_0 : Sl) (n_1 : Int) (v : World) (Q : Value → World → Prop) : Prop :=
  ∃ I1 : Int → Int → World → Prop, ∃ m2 : Int → Int → World → Nat, I1 n_1 0 v ∧
  ∀ n3 : Int, ∀ n4 : Int, ∀ w5 : World, I1 n3 n4 w5 →
  ((decide (n4 < (x_0.n : Int))) = true →
    IxOk x_0 n4 ∧
    ∃ n6 : Int, w5.cell? ((elA x_0 n4 1).add 0) = some (.int .i64 n6) ∧
    ((!decide (n6 = n3)) = true →
      Q (.int .i64 (-1)) w5) ∧
    ((!decide (n6 = n3)) = false →
      ∃ n7 : Int, Wr .i64 (n3 + 1) n7 ∧
      ∃ n8 : Int, Wr .i64 (n4 + 1) n8 ∧
      I1 n7 n8 w5 ∧
      m2 n7 n8 w5 < m2 n3 n4 w5)) ∧
  ((decide (n4 < (x_0.n : Int))) = false →
    Q (.int .i64 n3) w5)
theorem of17 (x_0 : Sl) (n_1 : Int) (v : World) (Q : Value → World → Prop) (h : vc17 x_0 n_1 v Q) : Trip Try.prog 17 #[x_0.val, .int .i64 n_1] v Q :=
  trip_of_eq (args := [.sl x_0, .num .i64 n_1]) (A := ⟨[(2, [(1, .int .i64), (5, .int .i64)], [])], [], [], [], [7, 11, 14, 17, 21, 24, 25, 26, 30, 31, 32, 38, 39, 40, 43, 44, 45, 46, 48, 56, 57, 58, 69, 70, 77, 78, 79, 80, 81, 82, 83, 84, 87, 88, 89, 91, 92, 93, 94, 95, 100, 103, 104, 105, 106, 107, 109, 111, 114, 115, 116, 118, 120, 121, 122, 123, 124, 125]⟩) Try.func17 (by kernel_rfl) (by kernel_rfl) (by kernel_rfl : vc17 x_0 n_1 v Q = _) h

/-- spec.DecodeImage -/
def vc18 (x_0 : Sl) (v : World) (Q : Value → World → Prop) : Prop :=
  NewAt v (.cells #[x_0.val, .int .i64 0, .bool false] 59 (0, 0)) fun a1 w2 =>
    Trip Try.prog 36 #[.pointer (some (a1.add 0))] w2 fun r3 w4 =>
      ∃ x5 : Sl, ∃ x6 : Sl, r3 = .agg #[x5.val, x6.val] ∧
      ∃ q7 : Bool, w4.cell? (a1.add 2) = some (.bool q7) ∧
      ∃ n8 : Int, (q7 = false →
        w4.cell? (a1.add 1) = some (.int .i64 n8)) ∧
      ∃ q9 : Bool, ((q7 || (!decide (n8 = (x_0.n : Int)))) = false →
        (Trip Try.prog 26 #[.agg #[x5.val, x6.val]] w4 fun r10 w11 => r10 = .bool q9 ∧ Sub w4 w11)) ∧
      (((q7 || (!decide (n8 = (x_0.n : Int)))) || (!q9)) = true →
        Q (.tuple #[.agg #[.slice none 0 0, .slice none 0 0], .bool false]) w4) ∧
      (((q7 || (!decide (n8 = (x_0.n : Int)))) || (!q9)) = false →
        Q (.tuple #[.agg #[x5.val, x6.val], .bool true]) w4)
theorem of18 (x_0 : Sl) (v : World) (Q : Value → World → Prop) (h : vc18 x_0 v Q) : Trip Try.prog 18 #[x_0.val] v Q :=
  trip_of_eq (args := [.sl x_0]) (A := ⟨[], [], [], [8], [7, 11, 14, 17, 21, 24, 25, 26, 30, 31, 32, 38, 39, 40, 43, 44, 45, 46, 48, 56, 57, 58, 69, 70, 77, 78, 79, 80, 81, 82, 83, 84, 87, 88, 89, 91, 92, 93, 94, 95, 100, 103, 104, 105, 106, 107, 109, 111, 114, 115, 116, 118, 120, 121, 122, 123, 124, 125]⟩) Try.func18 (by kernel_rfl) (by kernel_rfl) (by kernel_rfl : vc18 x_0 v Q = _) h

/-- laws.toIntS -/
def vc19 (x_0 : Sl) (v : World) (Q : Value → World → Prop) : Prop :=
  StepT Try.prog (Instr.makeSlice 35 (.int .i64 (x_0.n : Int)) (.int .i64 (x_0.n : Int))) v fun r1 w2 =>
    ∃ x3 : Sl, r1 = x3.val ∧
    ∃ I4 : Int → World → Prop, ∃ m5 : Int → World → Nat, I4 0 w2 ∧
    ∀ n6 : Int, ∀ w7 : World, I4 n6 w7 →
    ((decide (n6 < (x_0.n : Int))) = true →
      IxOk x_0 n6 ∧
      ∃ n8 : Int, w7.cell? ((elA x_0 n6 1).add 0) = some (.int .i64 n8) ∧
      IxOk x3 n6 ∧
      StoreAt w7 (elA x3 n6 1) 0 [.int .i64 n8] fun w9 =>
        ∃ n10 : Int, Wr .i64 (n6 + 1) n10 ∧
        I4 n10 w9 ∧
        m5 n10 w9 < m5 n6 w7) ∧
    ((decide (n6 < (x_0.n : Int))) = false →
      Q (x3.val) w7)
theorem of19 (x_0 : Sl) (v : World) (Q : Value → World → Prop) (h : vc19 x_0 v Q) : Trip Try.prog 19 #[x_0.val] v Q :=
  trip_of_eq (args := [.sl x_0]) (A := ⟨[(3, [(4, .int .i64)], [])], [], [], [], [7, 11, 14, 17, 21, 24, 25, 26, 30, 31, 32, 38, 39, 40, 43, 44, 45, 46, 48, 56, 57, 58, 69, 70, 77, 78, 79, 80, 81, 82, 83, 84, 87, 88, 89, 91, 92, 93, 94, 95, 100, 103, 104, 105, 106, 107, 109, 111, 114, 115, 116, 118, 120, 121, 122, 123, 124, 125]⟩) Try.func19 (by kernel_rfl) (by kernel_rfl) (by kernel_rfl : vc19 x_0 v Q = _) h

/-- impl.DecodeImage -/
def vc20 (x_0 : Sl) (v : World) (Q : Value → World → Prop) : Prop :=
  NewAt v (.cells #[.slice none 0 0, .bool false] 62 (0, 0)) fun a1 w2 =>
    StoreAt w2 a1 0 [x_0.val, .bool false] fun w3 =>
      Trip Try.prog 37 #[.pointer (some (a1.add 0))] w3 fun r4 w5 =>
        ∃ x6 : Sl, ∃ x7 : Sl, r4 = .agg #[x6.val, x7.val] ∧
        ∃ q8 : Bool, w5.cell? (a1.add 1) = some (.bool q8) ∧
        ∃ x9 : Sl, (q8 = false →
          w5.cell? (a1.add 0) = some (x9.val)) ∧
        ((q8 || (decide ((x9.n : Int) > 0))) = false →
          Trip Try.prog 13 #[.agg #[x6.val, x7.val]] w5 fun r10 w11 =>
            ∃ x12 : Sl, r10 = x12.val ∧
            ∃ q13 : Bool, (Trip Try.prog 38 #[x12.val, x_0.val] w11 fun r14 w15 => r14 = .bool q13 ∧ Sub w11 w15) ∧
            ((!q13) = true →
              Q (.tuple #[.agg #[.slice none 0 0, .slice none 0 0], .bool false]) w11) ∧
            ((!q13) = false →
              Q (.tuple #[.agg #[x6.val, x7.val], .bool true]) w11)) ∧
        ((q8 || (decide ((x9.n : Int) > 0))) = true →
          Q (.tuple #[.agg #[.slice none 0 0, .slice none 0 0], .bool false]) w5)
theorem of20 (x_0 : Sl) (v : World) (Q : Value → World → Prop) (h : vc20 x_0 v Q) : Trip Try.prog 20 #[x_0.val] v Q :=
  trip_of_eq (args := [.sl x_0]) (A := ⟨[], [], [], [4], [7, 11, 14, 17, 21, 24, 25, 26, 30, 31, 32, 38, 39, 40, 43, 44, 45, 46, 48, 56, 57, 58, 69, 70, 77, 78, 79, 80, 81, 82, 83, 84, 87, 88, 89, 91, 92, 93, 94, 95, 100, 103, 104, 105, 106, 107, 109, 111, 114, 115, 116, 118, 120, 121, 122, 123, 124, 125]⟩) Try.func20 (by kernel_rfl) (by kernel_rfl) (by kernel_rfl : vc20 x_0 v Q = _) h

/-- laws.heldImage -/
def vc21 (x0_0 : Sl) (x0_1 : Sl) (n_1 : Int) (v : World) (Q : Value → World → Prop) : Prop :=
  ∃ n1 : Int, (Trip Try.prog 39 #[x0_0.val, .int .i64 n_1] v fun r2 w3 => r2 = .int .i64 n1 ∧ Sub v w3) ∧
  ((decide (n1 < 0)) = true →
    Q (.int .i64 (-1)) v) ∧
  ((decide (n1 < 0)) = false →
    ∃ n4 : Int, (Trip Try.prog 40 #[x0_1.val, .int .i64 n1] v fun r5 w6 => r5 = .int .i64 n4 ∧ Sub v w6) ∧
    ((decide (n4 < 0)) = true →
      Q (.int .i64 (-1)) v) ∧
    ((decide (n4 < 0)) = false →
      Q (.int .i64 n4) v))
theorem of21 (x0_0 : Sl) (x0_1 : Sl) (n_1 : Int) (v : World) (Q : Value → World → Prop) (h : vc21 x0_0 x0_1 n_1 v Q) : Trip Try.prog 21 #[.agg #[x0_0.val, x0_1.val], .int .i64 n_1] v Q :=
  trip_of_eq (args := [.ag [.sl x0_0, .sl x0_1], .num .i64 n_1]) (A := ⟨[], [], [], [], [7, 11, 14, 17, 21, 24, 25, 26, 30, 31, 32, 38, 39, 40, 43, 44, 45, 46, 48, 56, 57, 58, 69, 70, 77, 78, 79, 80, 81, 82, 83, 84, 87, 88, 89, 91, 92, 93, 94, 95, 100, 103, 104, 105, 106, 107, 109, 111, 114, 115, 116, 118, 120, 121, 122, 123, 124, 125]⟩) Try.func21 (by kernel_rfl) (by kernel_rfl) (by kernel_rfl : vc21 x0_0 x0_1 n_1 v Q = _) h

/-- spec.validImage -/
def vc26 (x0_0 : Sl) (x0_1 : Sl) (v : World) (Q : Value → World → Prop) : Prop :=
  ((decide ((x0_1.n : Int) > 4)) = false →
    Trip Try.prog 47 #[.agg #[x0_0.val, x0_1.val]] v fun r1 w2 =>
      ∃ x3 : Sl, ∃ x4 : Sl, r1 = .agg #[x3.val, x4.val] ∧
      ∃ q5 : Bool, (Trip Try.prog 46 #[.agg #[x3.val, x4.val]] w2 fun r6 w7 => r6 = .bool q5 ∧ Sub w2 w7) ∧
      ((!q5) = true →
        Q (.bool false) w2) ∧
      ((!q5) = false →
        ∃ I8 : Int → World → Prop, ∃ m9 : Int → World → Nat, I8 0 w2 ∧
        ∀ n10 : Int, ∀ w11 : World, I8 n10 w11 →
        ((decide (n10 < (x0_1.n : Int))) = true →
          IxOk x0_1 n10 ∧
          ∃ x12 : Sl, ∃ x13 : Sl, ∃ n14 : Int, ∃ n15 : Int, ∃ x16 : Sl, (w11.cell? ((elA x0_1 n10 5).add 0) = some (x12.val) ∧
            w11.cell? ((elA x0_1 n10 5).add 1) = some (x13.val) ∧
            w11.cell? ((elA x0_1 n10 5).add 2) = some (.int .i64 n14) ∧
            w11.cell? ((elA x0_1 n10 5).add 3) = some (.int .i64 n15) ∧
            w11.cell? ((elA x0_1 n10 5).add 4) = some (x16.val)) ∧
          ∃ q17 : Bool, (Trip Try.prog 48 #[.agg #[x0_0.val, x0_1.val], .agg #[x12.val, x13.val, .int .i64 n14, .int .i64 n15, x16.val]] w11 fun r18 w19 => r18 = .bool q17 ∧ Sub w11 w19) ∧
          ((!q17) = true →
            Q (.bool false) w11) ∧
          ((!q17) = false →
            ∃ n20 : Int, Wr .i64 (n10 + 1) n20 ∧
            ((.sl x0_0 : SV) = .sl x0_0) ∧
            ((.sl x0_1 : SV) = .sl x0_1) ∧
            I8 n20 w11 ∧
            m9 n20 w11 < m9 n10 w11)) ∧
        ((decide (n10 < (x0_1.n : Int))) = false →
          Q (.bool true) w11))) ∧
  ((decide ((x0_1.n : Int) > 4)) = true →
    Q (.bool false) v)
theorem of26 (x0_0 : Sl) (x0_1 : Sl) (v : World) (Q : Value → World → Prop) (h : vc26 x0_0 x0_1 v Q) : Trip Try.prog 26 #[.agg #[x0_0.val, x0_1.val]] v Q :=
  trip_of_eq (args := [.ag [.sl x0_0, .sl x0_1]]) (A := ⟨[(4, [(3, .int .i64)], [])], [], [], [], [7, 11, 14, 17, 21, 24, 25, 26, 30, 31, 32, 38, 39, 40, 43, 44, 45, 46, 48, 56, 57, 58, 69, 70, 77, 78, 79, 80, 81, 82, 83, 84, 87, 88, 89, 91, 92, 93, 94, 95, 100, 103, 104, 105, 106, 107, 109, 111, 114, 115, 116, 118, 120, 121, 122, 123, 124, 125]⟩) Try.func26 (by kernel_rfl) (by kernel_rfl) (by kernel_rfl : vc26 x0_0 x0_1 v Q = _) h

/-- impl.ValidImage -/
def vc30 (x0_0 : Sl) (x0_1 : Sl) (v : World) (Q : Value → World → Prop) : Prop :=
  Trip Try.prog 55 #[.agg #[x0_0.val, x0_1.val]] v fun r1 w2 =>
    ∃ x3 : Sl, ∃ x4 : Sl, ∃ q5 : Bool, r1 = .tuple #[.agg #[x3.val, x4.val], .bool q5] ∧
    ((!q5) = true →
      Q (.bool false) w2) ∧
    ((!q5) = false →
      ∃ I6 : Int → World → Prop, ∃ m7 : Int → World → Nat, I6 0 w2 ∧
      ∀ n8 : Int, ∀ w9 : World, I6 n8 w9 →
      ((decide (n8 < (x0_1.n : Int))) = true →
        IxOk x0_1 n8 ∧
        ∃ x10 : Sl, ∃ x11 : Sl, ∃ n12 : Int, ∃ n13 : Int, ∃ x14 : Sl, (w9.cell? ((elA x0_1 n8 5).add 0) = some (x10.val) ∧
          w9.cell? ((elA x0_1 n8 5).add 1) = some (x11.val) ∧
          w9.cell? ((elA x0_1 n8 5).add 2) = some (.int .i64 n12) ∧
          w9.cell? ((elA x0_1 n8 5).add 3) = some (.int .i64 n13) ∧
          w9.cell? ((elA x0_1 n8 5).add 4) = some (x14.val)) ∧
        ∃ n15 : Int, PureT Try.prog (Builtin.max_ #[3, 3] 3 #[(.int .i64 1), (.int .i64 (x10.n : Int))]) w9 (.int .i64 n15) ∧
        (((((decide (n13 < n15)) || (decide (n13 > 2000))) || (decide ((x14.n : Int) < 1))) || (decide ((x14.n : Int) > 2000))) = true →
          Q (.bool false) w9) ∧
        (((((decide (n13 < n15)) || (decide (n13 > 2000))) || (decide ((x14.n : Int) < 1))) || (decide ((x14.n : Int) > 2000))) = false →
          ∃ n16 : Int, Wr .i64 ((x14.n : Int) - 1) n16 ∧
          IxOk x14 n16 ∧
          ∃ n17 : Int, w9.cell? ((elA x14 n16 6).add 0) = some (.int .i64 n17) ∧
          (((!decide (n17 = 23)) && (!decide (n17 = 24))) = true →
            Q (.bool false) w9) ∧
          (((!decide (n17 = 23)) && (!decide (n17 = 24))) = false →
            ∃ I18 : Int → World → Prop, ∃ m19 : Int → World → Nat, I18 0 w9 ∧
            ∀ n20 : Int, ∀ w21 : World, I18 n20 w21 →
            ((decide (n20 < (x14.n : Int))) = true →
              IxOk x14 n20 ∧
              ∃ n22 : Int, ∃ n23 : Int, ∃ n24 : Int, ∃ n25 : Int, ∃ x26 : Sl, ∃ x27 : Sl, (w21.cell? ((elA x14 n20 6).add 0) = some (.int .i64 n22) ∧
                w21.cell? ((elA x14 n20 6).add 1) = some (.int .i64 n23) ∧
                w21.cell? ((elA x14 n20 6).add 2) = some (.int .i64 n24) ∧
                w21.cell? ((elA x14 n20 6).add 3) = some (.int .i64 n25) ∧
                w21.cell? ((elA x14 n20 6).add 4) = some (x26.val) ∧
                w21.cell? ((elA x14 n20 6).add 5) = some (x27.val)) ∧
              ∃ q28 : Bool, (Trip Try.prog 56 #[.agg #[x3.val, x4.val], .agg #[x10.val, x11.val, .int .i64 n12, .int .i64 n13, x14.val], .int .i64 n20, .agg #[.int .i64 n22, .int .i64 n23, .int .i64 n24, .int .i64 n25, x26.val, x27.val]] w21 fun r29 w30 => r29 = .bool q28 ∧ Sub w21 w30) ∧
              ((!q28) = true →
                Q (.bool false) w21) ∧
              ((!q28) = false →
                ∃ n31 : Int, Wr .i64 (n20 + 1) n31 ∧
                ((.sl x0_0 : SV) = .sl x0_0) ∧
                ((.sl x0_1 : SV) = .sl x0_1) ∧
                ((.sl x3 : SV) = .sl x3) ∧
                ((.sl x4 : SV) = .sl x4) ∧
                ((.sl x10 : SV) = .sl x10) ∧
                ((.sl x11 : SV) = .sl x11) ∧
                ((.num .i64 n12 : SV) = .num .i64 n12) ∧
                ((.num .i64 n13 : SV) = .num .i64 n13) ∧
                ((.sl x14 : SV) = .sl x14) ∧
                I18 n31 w21 ∧
                m19 n31 w21 < m19 n20 w21)) ∧
            ((decide (n20 < (x14.n : Int))) = false →
              ∃ n32 : Int, Wr .i64 (n8 + 1) n32 ∧
              ((.sl x0_0 : SV) = .sl x0_0) ∧
              ((.sl x0_1 : SV) = .sl x0_1) ∧
              ((.sl x3 : SV) = .sl x3) ∧
              ((.sl x4 : SV) = .sl x4) ∧
              I6 n32 w21 ∧
              m7 n32 w21 < m7 n8 w9)))) ∧
      ((decide (n8 < (x0_1.n : Int))) = false →
        Q (.bool true) w9))
theorem of30 (x0_0 : Sl) (x0_1 : Sl) (v : World) (Q : Value → World → Prop) (h : vc30 x0_0 x0_1 v Q) : Trip Try.prog 30 #[.agg #[x0_0.val, x0_1.val]] v Q :=
  trip_of_eq (args := [.ag [.sl x0_0, .sl x0_1]]) (A := ⟨[(5, [(20, .int .i64)], []), (13, [(66, .int .i64)], [])], [], [], [], [7, 11, 14, 17, 21, 24, 25, 26, 30, 31, 32, 38, 39, 40, 43, 44, 45, 46, 48, 56, 57, 58, 69, 70, 77, 78, 79, 80, 81, 82, 83, 84, 87, 88, 89, 91, 92, 93, 94, 95, 100, 103, 104, 105, 106, 107, 109, 111, 114, 115, 116, 118, 120, 121, 122, 123, 124, 125]⟩) Try.func30 (by kernel_rfl) (by kernel_rfl) (by kernel_rfl : vc30 x0_0 x0_1 v Q = _) h

/-- laws.eqDeclS -/
def vc31 (x_0 : Sl) (x_1 : Sl) (v : World) (Q : Value → World → Prop) : Prop :=
  ((!decide ((x_0.n : Int) = (x_1.n : Int))) = true →
    Q (.bool false) v) ∧
  ((!decide ((x_0.n : Int) = (x_1.n : Int))) = false →
    ∃ I1 : Int → World → Prop, ∃ m2 : Int → World → Nat, I1 0 v ∧
    ∀ n3 : Int, ∀ w4 : World, I1 n3 w4 →
    ((decide (n3 < (x_0.n : Int))) = true →
      IxOk x_0 n3 ∧
      ∃ n5 : Int, ∃ n6 : Int, ∃ x7 : Sl, (w4.cell? ((elA x_0 n3 3).add 0) = some (.int .i64 n5) ∧
        w4.cell? ((elA x_0 n3 3).add 1) = some (.int .i64 n6) ∧
        w4.cell? ((elA x_0 n3 3).add 2) = some (x7.val)) ∧
      IxOk x_1 n3 ∧
      ∃ n8 : Int, ∃ n9 : Int, ∃ x10 : Sl, (w4.cell? ((elA x_1 n3 3).add 0) = some (.int .i64 n8) ∧
        w4.cell? ((elA x_1 n3 3).add 1) = some (.int .i64 n9) ∧
        w4.cell? ((elA x_1 n3 3).add 2) = some (x10.val)) ∧
      ∃ q11 : Bool, (Trip Try.prog 57 #[.agg #[.int .i64 n5, .int .i64 n6, x7.val], .agg #[.int .i64 n8, .int .i64 n9, x10.val]] w4 fun r12 w13 => r12 = .bool q11 ∧ Sub w4 w13) ∧
      ((!q11) = true →
        Q (.bool false) w4) ∧
      ((!q11) = false →
        ∃ n14 : Int, Wr .i64 (n3 + 1) n14 ∧
        I1 n14 w4 ∧
        m2 n14 w4 < m2 n3 w4)) ∧
    ((decide (n3 < (x_0.n : Int))) = false →
      Q (.bool true) w4))
theorem of31 (x_0 : Sl) (x_1 : Sl) (v : World) (Q : Value → World → Prop) (h : vc31 x_0 x_1 v Q) : Trip Try.prog 31 #[x_0.val, x_1.val] v Q :=
  trip_of_eq (args := [.sl x_0, .sl x_1]) (A := ⟨[(4, [(5, .int .i64)], [])], [], [], [], [7, 11, 14, 17, 21, 24, 25, 26, 30, 31, 32, 38, 39, 40, 43, 44, 45, 46, 48, 56, 57, 58, 69, 70, 77, 78, 79, 80, 81, 82, 83, 84, 87, 88, 89, 91, 92, 93, 94, 95, 100, 103, 104, 105, 106, 107, 109, 111, 114, 115, 116, 118, 120, 121, 122, 123, 124, 125]⟩) Try.func31 (by kernel_rfl) (by kernel_rfl) (by kernel_rfl : vc31 x_0 x_1 v Q = _) h

/-- laws.eqProcS -/
def vc32 (x_0 : Sl) (x_1 : Sl) (v : World) (Q : Value → World → Prop) : Prop :=
  ((!decide ((x_0.n : Int) = (x_1.n : Int))) = true →
    Q (.bool false) v) ∧
  ((!decide ((x_0.n : Int) = (x_1.n : Int))) = false →
    ∃ I1 : Int → World → Prop, ∃ m2 : Int → World → Nat, I1 0 v ∧
    ∀ n3 : Int, ∀ w4 : World, I1 n3 w4 →
    ((decide (n3 < (x_0.n : Int))) = true →
      IxOk x_0 n3 ∧
      ∃ x5 : Sl, ∃ x6 : Sl, ∃ n7 : Int, ∃ n8 : Int, ∃ x9 : Sl, (w4.cell? ((elA x_0 n3 5).add 0) = some (x5.val) ∧
        w4.cell? ((elA x_0 n3 5).add 1) = some (x6.val) ∧
        w4.cell? ((elA x_0 n3 5).add 2) = some (.int .i64 n7) ∧
        w4.cell? ((elA x_0 n3 5).add 3) = some (.int .i64 n8) ∧
        w4.cell? ((elA x_0 n3 5).add 4) = some (x9.val)) ∧
      IxOk x_1 n3 ∧
      ∃ x10 : Sl, ∃ x11 : Sl, ∃ n12 : Int, ∃ n13 : Int, ∃ x14 : Sl, (w4.cell? ((elA x_1 n3 5).add 0) = some (x10.val) ∧
        w4.cell? ((elA x_1 n3 5).add 1) = some (x11.val) ∧
        w4.cell? ((elA x_1 n3 5).add 2) = some (.int .i64 n12) ∧
        w4.cell? ((elA x_1 n3 5).add 3) = some (.int .i64 n13) ∧
        w4.cell? ((elA x_1 n3 5).add 4) = some (x14.val)) ∧
      ∃ q15 : Bool, (Trip Try.prog 58 #[.agg #[x5.val, x6.val, .int .i64 n7, .int .i64 n8, x9.val], .agg #[x10.val, x11.val, .int .i64 n12, .int .i64 n13, x14.val]] w4 fun r16 w17 => r16 = .bool q15 ∧ Sub w4 w17) ∧
      ((!q15) = true →
        Q (.bool false) w4) ∧
      ((!q15) = false →
        ∃ n18 : Int, Wr .i64 (n3 + 1) n18 ∧
        I1 n18 w4 ∧
        m2 n18 w4 < m2 n3 w4)) ∧
    ((decide (n3 < (x_0.n : Int))) = false →
      Q (.bool true) w4))
theorem of32 (x_0 : Sl) (x_1 : Sl) (v : World) (Q : Value → World → Prop) (h : vc32 x_0 x_1 v Q) : Trip Try.prog 32 #[x_0.val, x_1.val] v Q :=
  trip_of_eq (args := [.sl x_0, .sl x_1]) (A := ⟨[(4, [(5, .int .i64)], [])], [], [], [], [7, 11, 14, 17, 21, 24, 25, 26, 30, 31, 32, 38, 39, 40, 43, 44, 45, 46, 48, 56, 57, 58, 69, 70, 77, 78, 79, 80, 81, 82, 83, 84, 87, 88, 89, 91, 92, 93, 94, 95, 100, 103, 104, 105, 106, 107, 109, 111, 114, 115, 116, 118, 120, 121, 122, 123, 124, 125]⟩) Try.func32 (by kernel_rfl) (by kernel_rfl) (by kernel_rfl : vc32 x_0 x_1 v Q = _) h

/-- (*impl.byteWriter).image -/
def vc33 (a_0 : Addr) (x1_0 : Sl) (x1_1 : Sl) (v : World) (Q : Value → World → Prop) : Prop :=
  Trip Try.prog 59 #[.pointer (some (a_0.add 0)), .int .i64 (x1_0.n : Int)] v fun r1 w2 =>
    r1 = .tuple #[] ∧
    ∃ I3 : Int → World → Prop, ∃ m4 : Int → World → Nat, I3 0 w2 ∧
    ∀ n5 : Int, ∀ w6 : World, I3 n5 w6 →
    ((decide (n5 < (x1_0.n : Int))) = true →
      IxOk x1_0 n5 ∧
      ∃ n7 : Int, ∃ n8 : Int, ∃ x9 : Sl, (w6.cell? ((elA x1_0 n5 3).add 0) = some (.int .i64 n7) ∧
        w6.cell? ((elA x1_0 n5 3).add 1) = some (.int .i64 n8) ∧
        w6.cell? ((elA x1_0 n5 3).add 2) = some (x9.val)) ∧
      Trip Try.prog 59 #[.pointer (some (a_0.add 0)), .int .i64 n7] w6 fun r10 w11 =>
        r10 = .tuple #[] ∧
        Trip Try.prog 59 #[.pointer (some (a_0.add 0)), .int .i64 n8] w11 fun r12 w13 =>
          r12 = .tuple #[] ∧
          Trip Try.prog 59 #[.pointer (some (a_0.add 0)), .int .i64 (x9.n : Int)] w13 fun r14 w15 =>
            r14 = .tuple #[] ∧
            ∃ I16 : Int → World → Prop, ∃ m17 : Int → World → Nat, I16 0 w15 ∧
            ∀ n18 : Int, ∀ w19 : World, I16 n18 w19 →
            ((decide (n18 < (x9.n : Int))) = true →
              IxOk x9 n18 ∧
              ∃ x20 : Sl, w19.cell? ((elA x9 n18 1).add 0) = some (x20.val) ∧
              Trip Try.prog 60 #[.pointer (some (a_0.add 0)), x20.val] w19 fun r21 w22 =>
                r21 = .tuple #[] ∧
                ∃ n23 : Int, Wr .i64 (n18 + 1) n23 ∧
                ((.sl x1_0 : SV) = .sl x1_0) ∧
                ((.sl x1_1 : SV) = .sl x1_1) ∧
                ((.num .i64 n7 : SV) = .num .i64 n7) ∧
                ((.num .i64 n8 : SV) = .num .i64 n8) ∧
                ((.sl x9 : SV) = .sl x9) ∧
                I16 n23 w22 ∧
                m17 n23 w22 < m17 n18 w19) ∧
            ((decide (n18 < (x9.n : Int))) = false →
              ∃ n24 : Int, Wr .i64 (n5 + 1) n24 ∧
              ((.sl x1_0 : SV) = .sl x1_0) ∧
              ((.sl x1_1 : SV) = .sl x1_1) ∧
              I3 n24 w19 ∧
              m4 n24 w19 < m4 n5 w6)) ∧
    ((decide (n5 < (x1_0.n : Int))) = false →
      Trip Try.prog 59 #[.pointer (some (a_0.add 0)), .int .i64 (x1_1.n : Int)] w6 fun r25 w26 =>
        r25 = .tuple #[] ∧
        ∃ I27 : Int → World → Prop, ∃ m28 : Int → World → Nat, I27 0 w26 ∧
        ∀ n29 : Int, ∀ w30 : World, I27 n29 w30 →
        ((decide (n29 < (x1_1.n : Int))) = true →
          IxOk x1_1 n29 ∧
          ∃ x31 : Sl, ∃ x32 : Sl, ∃ n33 : Int, ∃ n34 : Int, ∃ x35 : Sl, (w30.cell? ((elA x1_1 n29 5).add 0) = some (x31.val) ∧
            w30.cell? ((elA x1_1 n29 5).add 1) = some (x32.val) ∧
            w30.cell? ((elA x1_1 n29 5).add 2) = some (.int .i64 n33) ∧
            w30.cell? ((elA x1_1 n29 5).add 3) = some (.int .i64 n34) ∧
            w30.cell? ((elA x1_1 n29 5).add 4) = some (x35.val)) ∧
          Trip Try.prog 60 #[.pointer (some (a_0.add 0)), x31.val] w30 fun r36 w37 =>
            r36 = .tuple #[] ∧
            Trip Try.prog 60 #[.pointer (some (a_0.add 0)), x32.val] w37 fun r38 w39 =>
              r38 = .tuple #[] ∧
              Trip Try.prog 59 #[.pointer (some (a_0.add 0)), .int .i64 n33] w39 fun r40 w41 =>
                r40 = .tuple #[] ∧
                Trip Try.prog 59 #[.pointer (some (a_0.add 0)), .int .i64 n34] w41 fun r42 w43 =>
                  r42 = .tuple #[] ∧
                  Trip Try.prog 59 #[.pointer (some (a_0.add 0)), .int .i64 (x35.n : Int)] w43 fun r44 w45 =>
                    r44 = .tuple #[] ∧
                    ∃ I46 : Int → World → Prop, ∃ m47 : Int → World → Nat, I46 0 w45 ∧
                    ∀ n48 : Int, ∀ w49 : World, I46 n48 w49 →
                    ((decide (n48 < (x35.n : Int))) = true →
                      IxOk x35 n48 ∧
                      ∃ n50 : Int, ∃ n51 : Int, ∃ n52 : Int, ∃ n53 : Int, ∃ x54 : Sl, ∃ x55 : Sl, (w49.cell? ((elA x35 n48 6).add 0) = some (.int .i64 n50) ∧
                        w49.cell? ((elA x35 n48 6).add 1) = some (.int .i64 n51) ∧
                        w49.cell? ((elA x35 n48 6).add 2) = some (.int .i64 n52) ∧
                        w49.cell? ((elA x35 n48 6).add 3) = some (.int .i64 n53) ∧
                        w49.cell? ((elA x35 n48 6).add 4) = some (x54.val) ∧
                        w49.cell? ((elA x35 n48 6).add 5) = some (x55.val)) ∧
                      ∃ I56 : Int → World → Prop, ∃ m57 : Int → World → Nat, I56 0 w49 ∧
                      ∀ n58 : Int, ∀ w59 : World, I56 n58 w59 →
                      ((decide (n58 < 4)) = true →
                        ∃ n60 : Int, ArrIx 4 [.int .i64 n50, .int .i64 n51, .int .i64 n52, .int .i64 n53] n58 (.int .i64 n60) ∧
                        Trip Try.prog 59 #[.pointer (some (a_0.add 0)), .int .i64 n60] w59 fun r61 w62 =>
                          r61 = .tuple #[] ∧
                          ∃ n63 : Int, Wr .i64 (n58 + 1) n63 ∧
                          ((.sl x1_0 : SV) = .sl x1_0) ∧
                          ((.sl x1_1 : SV) = .sl x1_1) ∧
                          ((.sl x31 : SV) = .sl x31) ∧
                          ((.sl x32 : SV) = .sl x32) ∧
                          ((.num .i64 n33 : SV) = .num .i64 n33) ∧
                          ((.num .i64 n34 : SV) = .num .i64 n34) ∧
                          ((.sl x35 : SV) = .sl x35) ∧
                          ((.num .i64 n50 : SV) = .num .i64 n50) ∧
                          ((.num .i64 n51 : SV) = .num .i64 n51) ∧
                          ((.num .i64 n52 : SV) = .num .i64 n52) ∧
                          ((.num .i64 n53 : SV) = .num .i64 n53) ∧
                          ((.sl x54 : SV) = .sl x54) ∧
                          ((.sl x55 : SV) = .sl x55) ∧
                          I56 n63 w62 ∧
                          m57 n63 w62 < m57 n58 w59) ∧
                      ((decide (n58 < 4)) = false →
                        Trip Try.prog 60 #[.pointer (some (a_0.add 0)), x54.val] w59 fun r64 w65 =>
                          r64 = .tuple #[] ∧
                          Trip Try.prog 60 #[.pointer (some (a_0.add 0)), x55.val] w65 fun r66 w67 =>
                            r66 = .tuple #[] ∧
                            ∃ n68 : Int, Wr .i64 (n48 + 1) n68 ∧
                            ((.sl x1_0 : SV) = .sl x1_0) ∧
                            ((.sl x1_1 : SV) = .sl x1_1) ∧
                            ((.sl x31 : SV) = .sl x31) ∧
                            ((.sl x32 : SV) = .sl x32) ∧
                            ((.num .i64 n33 : SV) = .num .i64 n33) ∧
                            ((.num .i64 n34 : SV) = .num .i64 n34) ∧
                            ((.sl x35 : SV) = .sl x35) ∧
                            I46 n68 w67 ∧
                            m47 n68 w67 < m47 n48 w49)) ∧
                    ((decide (n48 < (x35.n : Int))) = false →
                      ∃ n69 : Int, Wr .i64 (n29 + 1) n69 ∧
                      ((.sl x1_0 : SV) = .sl x1_0) ∧
                      ((.sl x1_1 : SV) = .sl x1_1) ∧
                      I27 n69 w49 ∧
                      m28 n69 w49 < m28 n29 w30)) ∧
        ((decide (n29 < (x1_1.n : Int))) = false →
          Q (.tuple #[]) w30))
theorem of33 (a_0 : Addr) (x1_0 : Sl) (x1_1 : Sl) (v : World) (Q : Value → World → Prop) (h : vc33 a_0 x1_0 x1_1 v Q) : Trip Try.prog 33 #[.pointer (some (a_0.add 0)), .agg #[x1_0.val, x1_1.val]] v Q :=
  trip_of_eq (args := [.pt a_0 0, .ag [.sl x1_0, .sl x1_1]]) (A := ⟨[(3, [(22, .int .i64)], []), (9, [(42, .int .i64)], []), (16, [(60, .int .i64)], []), (24, [(88, .int .i64)], []), (27, [(101, .int .i64)], [])], [], [], [], [7, 11, 14, 17, 21, 24, 25, 26, 30, 31, 32, 38, 39, 40, 43, 44, 45, 46, 48, 56, 57, 58, 69, 70, 77, 78, 79, 80, 81, 82, 83, 84, 87, 88, 89, 91, 92, 93, 94, 95, 100, 103, 104, 105, 106, 107, 109, 111, 114, 115, 116, 118, 120, 121, 122, 123, 124, 125]⟩) Try.func33 (by kernel_rfl) (by kernel_rfl) (by kernel_rfl : vc33 a_0 x1_0 x1_1 v Q = _) h

/-- laws.markDeclS -/
def vc34 (x_0 : Sl) (n_1 : Int) (v : World) (Q : Value → World → Prop) : Prop :=
  ∃ I1 : Int → Int → World → Prop, ∃ m2 : Int → Int → World → Nat, I1 n_1 0 v ∧
  ∀ n3 : Int, ∀ n4 : Int, ∀ w5 : World, I1 n3 n4 w5 →
  ((decide (n4 < (x_0.n : Int))) = true →
    IxOk x_0 n4 ∧
    StoreAt w5 (elA x_0 n4 3) 0 [.int .i64 n3] fun w6 =>
      ∃ n7 : Int, Wr .i64 (n3 + 1) n7 ∧
      IxOk x_0 n4 ∧
      StoreAt w6 (elA x_0 n4 3) 1 [.int .i64 n7] fun w8 =>
        ∃ n9 : Int, Wr .i64 (n7 + 1) n9 ∧
        IxOk x_0 n4 ∧
        ∃ x10 : Sl, w8.cell? ((elA x_0 n4 3).add 2) = some (x10.val) ∧
        Trip Try.prog 61 #[x10.val, .int .i64 n9] w8 fun r11 w12 =>
          ∃ n13 : Int, r11 = .int .i64 n13 ∧
          ∃ n14 : Int, Wr .i64 (n4 + 1) n14 ∧
          I1 n13 n14 w12 ∧
          m2 n13 n14 w12 < m2 n3 n4 w5) ∧
  ((decide (n4 < (x_0.n : Int))) = false →
    Q (.int .i64 n3) w5)
theorem of34 (x_0 : Sl) (n_1 : Int) (v : World) (Q : Value → World → Prop) (h : vc34 x_0 n_1 v Q) : Trip Try.prog 34 #[x_0.val, .int .i64 n_1] v Q :=
  trip_of_eq (args := [.sl x_0, .num .i64 n_1]) (A := ⟨[(2, [(1, .int .i64), (5, .int .i64)], [])], [], [], [], [7, 11, 14, 17, 21, 24, 25, 26, 30, 31, 32, 38, 39, 40, 43, 44, 45, 46, 48, 56, 57, 58, 69, 70, 77, 78, 79, 80, 81, 82, 83, 84, 87, 88, 89, 91, 92, 93, 94, 95, 100, 103, 104, 105, 106, 107, 109, 111, 114, 115, 116, 118, 120, 121, 122, 123, 124, 125]⟩) Try.func34 (by kernel_rfl) (by kernel_rfl) (by kernel_rfl : vc34 x_0 n_1 v Q = _) h

/-- laws.markProcS -/
def vc35 (x_0 : Sl) (n_1 : Int) (v : World) (Q : Value → World → Prop) : Prop :=
  ∃ I1 : Int → Int → World → Prop, ∃ m2 : Int → Int → World → Nat, I1 n_1 0 v ∧
  ∀ n3 : Int, ∀ n4 : Int, ∀ w5 : World, I1 n3 n4 w5 →
  ((decide (n4 < (x_0.n : Int))) = true →
    IxOk x_0 n4 ∧
    ∃ x6 : Sl, w5.cell? ((elA x_0 n4 5).add 0) = some (x6.val) ∧
    Trip Try.prog 16 #[x6.val, .int .i64 n3] w5 fun r7 w8 =>
      ∃ n9 : Int, r7 = .int .i64 n9 ∧
      IxOk x_0 n4 ∧
      ∃ x10 : Sl, w8.cell? ((elA x_0 n4 5).add 1) = some (x10.val) ∧
      Trip Try.prog 16 #[x10.val, .int .i64 n9] w8 fun r11 w12 =>
        ∃ n13 : Int, r11 = .int .i64 n13 ∧
        IxOk x_0 n4 ∧
        StoreAt w12 (elA x_0 n4 5) 2 [.int .i64 n13] fun w14 =>
          ∃ n15 : Int, Wr .i64 (n13 + 1) n15 ∧
          IxOk x_0 n4 ∧
          StoreAt w14 (elA x_0 n4 5) 3 [.int .i64 n15] fun w16 =>
            ∃ n17 : Int, Wr .i64 (n15 + 1) n17 ∧
            IxOk x_0 n4 ∧
            ∃ x18 : Sl, w16.cell? ((elA x_0 n4 5).add 4) = some (x18.val) ∧
            Trip Try.prog 62 #[x18.val, .int .i64 n17] w16 fun r19 w20 =>
              ∃ n21 : Int, r19 = .int .i64 n21 ∧
              ∃ n22 : Int, Wr .i64 (n4 + 1) n22 ∧
              I1 n21 n22 w20 ∧
              m2 n21 n22 w20 < m2 n3 n4 w5) ∧
  ((decide (n4 < (x_0.n : Int))) = false →
    Q (.int .i64 n3) w5)
theorem of35 (x_0 : Sl) (n_1 : Int) (v : World) (Q : Value → World → Prop) (h : vc35 x_0 n_1 v Q) : Trip Try.prog 35 #[x_0.val, .int .i64 n_1] v Q :=
  trip_of_eq (args := [.sl x_0, .num .i64 n_1]) (A := ⟨[(2, [(1, .int .i64), (5, .int .i64)], [])], [], [], [], [7, 11, 14, 17, 21, 24, 25, 26, 30, 31, 32, 38, 39, 40, 43, 44, 45, 46, 48, 56, 57, 58, 69, 70, 77, 78, 79, 80, 81, 82, 83, 84, 87, 88, 89, 91, 92, 93, 94, 95, 100, 103, 104, 105, 106, 107, 109, 111, 114, 115, 116, 118, 120, 121, 122, 123, 124, 125]⟩) Try.func35 (by kernel_rfl) (by kernel_rfl) (by kernel_rfl : vc35 x_0 n_1 v Q = _) h

/-- (*spec.source).image -/
def vc36 (a_0 : Addr) (v : World) (Q : Value → World → Prop) : Prop :=
  Trip Try.prog 63 #[.pointer (some (a_0.add 0))] v fun r1 w2 =>
    ∃ x3 : Sl, r1 = x3.val ∧
    StepT Try.prog (Instr.buildSlice 29 0 #[]) w2 fun r4 w5 =>
      ∃ x6 : Sl, r4 = x6.val ∧
      Trip Try.prog 64 #[.pointer (some (a_0.add 0))] w5 fun r7 w8 =>
        ∃ n9 : Int, r7 = .int .i64 n9 ∧
        ∃ I10 : Sl → Int → World → Prop, ∃ m11 : Sl → Int → World → Nat, I10 x6 0 w8 ∧
        ∀ x12 : Sl, ∀ n13 : Int, ∀ w14 : World, I10 x12 n13 w14 →
        ((decide (n13 < n9)) = true →
          Trip Try.prog 65 #[.pointer (some (a_0.add 0))] w14 fun r15 w16 =>
            ∃ x17 : Sl, ∃ x18 : Sl, ∃ n19 : Int, ∃ n20 : Int, ∃ x21 : Sl, r15 = .agg #[x17.val, x18.val, .int .i64 n19, .int .i64 n20, x21.val] ∧
            StepT Try.prog (Instr.buildSlice 29 1 #[(0, (.agg #[x17.val, x18.val, .int .i64 n19, .int .i64 n20, x21.val]))]) w16 fun r22 w23 =>
              ∃ x24 : Sl, r22 = x24.val ∧
              StepT Try.prog (Builtin.append_ #[29, 29] 29 #[(x12.val), (x24.val)]) w23 fun r25 w26 =>
                ∃ x27 : Sl, r25 = x27.val ∧
                ∃ n28 : Int, Wr .i64 (n13 + 1) n28 ∧
                ((.sl (Sl.mk none 0 0) : SV) = .sl (Sl.mk none 0 0)) ∧
                ((.sl (Sl.mk none 0 0) : SV) = .sl (Sl.mk none 0 0)) ∧
                I10 x27 n28 w26 ∧
                m11 x27 n28 w26 < m11 x12 n13 w14) ∧
        ((decide (n13 < n9)) = false →
          Q (.agg #[x3.val, x12.val]) w14)
theorem of36 (a_0 : Addr) (v : World) (Q : Value → World → Prop) (h : vc36 a_0 v Q) : Trip Try.prog 36 #[.pointer (some (a_0.add 0))] v Q :=
  trip_of_eq (args := [.pt a_0 0]) (A := ⟨[(5, [(4, .sl), (6, .int .i64)], [])], [], [], [], [7, 11, 14, 17, 21, 24, 25, 26, 30, 31, 32, 38, 39, 40, 43, 44, 45, 46, 48, 56, 57, 58, 69, 70, 77, 78, 79, 80, 81, 82, 83, 84, 87, 88, 89, 91, 92, 93, 94, 95, 100, 103, 104, 105, 106, 107, 109, 111, 114, 115, 116, 118, 120, 121, 122, 123, 124, 125]⟩) Try.func36 (by kernel_rfl) (by kernel_rfl) (by kernel_rfl : vc36 a_0 v Q = _) h

/-- (*impl.byteReader).image -/
def vc37 (a_0 : Addr) (v : World) (Q : Value → World → Prop) : Prop :=
  Trip Try.prog 66 #[.pointer (some (a_0.add 0))] v fun r1 w2 =>
    ∃ n3 : Int, r1 = .int .i64 n3 ∧
    ∃ I4 : Int → Sl → World → Prop, ∃ m5 : Int → Sl → World → Nat, I4 0 (Sl.mk none 0 0) w2 ∧
    ∀ n6 : Int, ∀ x7 : Sl, ∀ w8 : World, I4 n6 x7 w8 →
    ((decide (n6 < n3)) = true →
      Trip Try.prog 67 #[.pointer (some (a_0.add 0))] w8 fun r9 w10 =>
        ∃ n11 : Int, r9 = .int .i64 n11 ∧
        Trip Try.prog 67 #[.pointer (some (a_0.add 0))] w10 fun r12 w13 =>
          ∃ n14 : Int, r12 = .int .i64 n14 ∧
          Trip Try.prog 66 #[.pointer (some (a_0.add 0))] w13 fun r15 w16 =>
            ∃ n17 : Int, r15 = .int .i64 n17 ∧
            ∃ I18 : Int → Sl → World → Prop, ∃ m19 : Int → Sl → World → Nat, I18 0 (Sl.mk none 0 0) w16 ∧
            ∀ n20 : Int, ∀ x21 : Sl, ∀ w22 : World, I18 n20 x21 w22 →
            ((decide (n20 < n17)) = true →
              Trip Try.prog 68 #[.pointer (some (a_0.add 0))] w22 fun r23 w24 =>
                ∃ x25 : Sl, r23 = x25.val ∧
                StepT Try.prog (Instr.buildSlice 88 1 #[(0, (.agg #[x25.val]))]) w24 fun r26 w27 =>
                  ∃ x28 : Sl, r26 = x28.val ∧
                  StepT Try.prog (Builtin.append_ #[88, 88] 88 #[(x21.val), (x28.val)]) w27 fun r29 w30 =>
                    ∃ x31 : Sl, r29 = x31.val ∧
                    ∃ n32 : Int, Wr .i64 (n20 + 1) n32 ∧
                    ((.sl (Sl.mk none 0 0) : SV) = .sl (Sl.mk none 0 0)) ∧
                    ((.sl (Sl.mk none 0 0) : SV) = .sl (Sl.mk none 0 0)) ∧
                    ((.sl x7 : SV) = .sl x7) ∧
                    ((.sl (Sl.mk none 0 0) : SV) = .sl (Sl.mk none 0 0)) ∧
                    ((.num .i64 n11 : SV) = .num .i64 n11) ∧
                    ((.num .i64 n14 : SV) = .num .i64 n14) ∧
                    I18 n32 x31 w30 ∧
                    m19 n32 x31 w30 < m19 n20 x21 w22) ∧
            ((decide (n20 < n17)) = false →
              StepT Try.prog (Instr.buildSlice 28 1 #[(0, (.agg #[.int .i64 n11, .int .i64 n14, x21.val]))]) w22 fun r33 w34 =>
                ∃ x35 : Sl, r33 = x35.val ∧
                StepT Try.prog (Builtin.append_ #[28, 28] 28 #[(x7.val), (x35.val)]) w34 fun r36 w37 =>
                  ∃ x38 : Sl, r36 = x38.val ∧
                  ∃ n39 : Int, Wr .i64 (n6 + 1) n39 ∧
                  ((.sl (Sl.mk none 0 0) : SV) = .sl (Sl.mk none 0 0)) ∧
                  ((.sl (Sl.mk none 0 0) : SV) = .sl (Sl.mk none 0 0)) ∧
                  ((.sl (Sl.mk none 0 0) : SV) = .sl (Sl.mk none 0 0)) ∧
                  I4 n39 x38 w37 ∧
                  m5 n39 x38 w37 < m5 n6 x7 w8)) ∧
    ((decide (n6 < n3)) = false →
      Trip Try.prog 66 #[.pointer (some (a_0.add 0))] w8 fun r40 w41 =>
        ∃ n42 : Int, r40 = .int .i64 n42 ∧
        ∃ I43 : Int → Sl → World → Prop, ∃ m44 : Int → Sl → World → Nat, I43 0 (Sl.mk none 0 0) w41 ∧
        ∀ n45 : Int, ∀ x46 : Sl, ∀ w47 : World, I43 n45 x46 w47 →
        ((decide (n45 < n42)) = true →
          Trip Try.prog 68 #[.pointer (some (a_0.add 0))] w47 fun r48 w49 =>
            ∃ x50 : Sl, r48 = x50.val ∧
            Trip Try.prog 68 #[.pointer (some (a_0.add 0))] w49 fun r51 w52 =>
              ∃ x53 : Sl, r51 = x53.val ∧
              Trip Try.prog 67 #[.pointer (some (a_0.add 0))] w52 fun r54 w55 =>
                ∃ n56 : Int, r54 = .int .i64 n56 ∧
                Trip Try.prog 67 #[.pointer (some (a_0.add 0))] w55 fun r57 w58 =>
                  ∃ n59 : Int, r57 = .int .i64 n59 ∧
                  Trip Try.prog 66 #[.pointer (some (a_0.add 0))] w58 fun r60 w61 =>
                    ∃ n62 : Int, r60 = .int .i64 n62 ∧
                    ∃ I63 : Int → Sl → World → Prop, ∃ m64 : Int → Sl → World → Nat, I63 0 (Sl.mk none 0 0) w61 ∧
                    ∀ n65 : Int, ∀ x66 : Sl, ∀ w67 : World, I63 n65 x66 w67 →
                    ((decide (n65 < n62)) = true →
                      Trip Try.prog 67 #[.pointer (some (a_0.add 0))] w67 fun r68 w69 =>
                        ∃ n70 : Int, r68 = .int .i64 n70 ∧
                        Trip Try.prog 67 #[.pointer (some (a_0.add 0))] w69 fun r71 w72 =>
                          ∃ n73 : Int, r71 = .int .i64 n73 ∧
                          Trip Try.prog 67 #[.pointer (some (a_0.add 0))] w72 fun r74 w75 =>
                            ∃ n76 : Int, r74 = .int .i64 n76 ∧
                            Trip Try.prog 67 #[.pointer (some (a_0.add 0))] w75 fun r77 w78 =>
                              ∃ n79 : Int, r77 = .int .i64 n79 ∧
                              Trip Try.prog 68 #[.pointer (some (a_0.add 0))] w78 fun r80 w81 =>
                                ∃ x82 : Sl, r80 = x82.val ∧
                                Trip Try.prog 68 #[.pointer (some (a_0.add 0))] w81 fun r83 w84 =>
                                  ∃ x85 : Sl, r83 = x85.val ∧
                                  StepT Try.prog (Instr.buildSlice 64 1 #[(0, (.agg #[.int .i64 n70, .int .i64 n73, .int .i64 n76, .int .i64 n79, x82.val, x85.val]))]) w84 fun r86 w87 =>
                                    ∃ x88 : Sl, r86 = x88.val ∧
                                    StepT Try.prog (Builtin.append_ #[64, 64] 64 #[(x66.val), (x88.val)]) w87 fun r89 w90 =>
                                      ∃ x91 : Sl, r89 = x91.val ∧
                                      ∃ n92 : Int, Wr .i64 (n65 + 1) n92 ∧
                                      ((.sl (Sl.mk none 0 0) : SV) = .sl (Sl.mk none 0 0)) ∧
                                      ((.sl (Sl.mk none 0 0) : SV) = .sl (Sl.mk none 0 0)) ∧
                                      ((.sl x7 : SV) = .sl x7) ∧
                                      ((.sl x46 : SV) = .sl x46) ∧
                                      ((.sl x50 : SV) = .sl x50) ∧
                                      ((.sl x53 : SV) = .sl x53) ∧
                                      ((.num .i64 n56 : SV) = .num .i64 n56) ∧
                                      ((.num .i64 n59 : SV) = .num .i64 n59) ∧
                                      I63 n92 x91 w90 ∧
                                      m64 n92 x91 w90 < m64 n65 x66 w67) ∧
                    ((decide (n65 < n62)) = false →
                      StepT Try.prog (Instr.buildSlice 29 1 #[(0, (.agg #[x50.val, x53.val, .int .i64 n56, .int .i64 n59, x66.val]))]) w67 fun r93 w94 =>
                        ∃ x95 : Sl, r93 = x95.val ∧
                        StepT Try.prog (Builtin.append_ #[29, 29] 29 #[(x46.val), (x95.val)]) w94 fun r96 w97 =>
                          ∃ x98 : Sl, r96 = x98.val ∧
                          ∃ n99 : Int, Wr .i64 (n45 + 1) n99 ∧
                          ((.sl (Sl.mk none 0 0) : SV) = .sl (Sl.mk none 0 0)) ∧
                          ((.sl (Sl.mk none 0 0) : SV) = .sl (Sl.mk none 0 0)) ∧
                          ((.sl x7 : SV) = .sl x7) ∧
                          I43 n99 x98 w97 ∧
                          m44 n99 x98 w97 < m44 n45 x46 w47)) ∧
        ((decide (n45 < n42)) = false →
          Q (.agg #[x7.val, x46.val]) w47))
theorem of37 (a_0 : Addr) (v : World) (Q : Value → World → Prop) (h : vc37 a_0 v Q) : Trip Try.prog 37 #[.pointer (some (a_0.add 0))] v Q :=
  trip_of_eq (args := [.pt a_0 0]) (A := ⟨[(3, [(9, .int .i64)], [(1, 0, .sl)]), (6, [(18, .int .i64)], [(2, 2, .sl)]), (12, [(38, .int .i64)], [(1, 1, .sl)]), (15, [(51, .int .i64)], [(2, 4, .sl)])], [], [(7, [])], [], [7, 11, 14, 17, 21, 24, 25, 26, 30, 31, 32, 38, 39, 40, 43, 44, 45, 46, 48, 56, 57, 58, 69, 70, 77, 78, 79, 80, 81, 82, 83, 84, 87, 88, 89, 91, 92, 93, 94, 95, 100, 103, 104, 105, 106, 107, 109, 111, 114, 115, 116, 118, 120, 121, 122, 123, 124, 125]⟩) Try.func37 (by kernel_rfl) (by kernel_rfl) (by kernel_rfl : vc37 a_0 v Q = _) h

/-- slices.Equal[[]int,int] -/
def vc38 (x_0 : Sl) (x_1 : Sl) (v : World) (Q : Value → World → Prop) : Prop :=
  ((!decide ((x_0.n : Int) = (x_1.n : Int))) = true →
    Q (.bool false) v) ∧
  ((!decide ((x_0.n : Int) = (x_1.n : Int))) = false →
    ∃ I1 : Int → World → Prop, ∃ m2 : Int → World → Nat, I1 0 v ∧
    ∀ n3 : Int, ∀ w4 : World, I1 n3 w4 →
    ((decide (n3 < (x_0.n : Int))) = true →
      IxOk x_0 n3 ∧
      ∃ n5 : Int, w4.cell? ((elA x_0 n3 1).add 0) = some (.int .i64 n5) ∧
      IxOk x_1 n3 ∧
      ∃ n6 : Int, w4.cell? ((elA x_1 n3 1).add 0) = some (.int .i64 n6) ∧
      ((!decide (n5 = n6)) = true →
        Q (.bool false) w4) ∧
      ((!decide (n5 = n6)) = false →
        ∃ n7 : Int, Wr .i64 (n3 + 1) n7 ∧
        I1 n7 w4 ∧
        m2 n7 w4 < m2 n3 w4)) ∧
    ((decide (n3 < (x_0.n : Int))) = false →
      Q (.bool true) w4))
theorem of38 (x_0 : Sl) (x_1 : Sl) (v : World) (Q : Value → World → Prop) (h : vc38 x_0 x_1 v Q) : Trip Try.prog 38 #[x_0.val, x_1.val] v Q :=
  trip_of_eq (args := [.sl x_0, .sl x_1]) (A := ⟨[(4, [(13, .int .i64)], [])], [], [], [], [7, 11, 14, 17, 21, 24, 25, 26, 30, 31, 32, 38, 39, 40, 43, 44, 45, 46, 48, 56, 57, 58, 69, 70, 77, 78, 79, 80, 81, 82, 83, 84, 87, 88, 89, 91, 92, 93, 94, 95, 100, 103, 104, 105, 106, 107, 109, 111, 114, 115, 116, 118, 120, 121, 122, 123, 124, 125]⟩) Try.func38 (by kernel_rfl) (by kernel_rfl) (by kernel_rfl : vc38 x_0 x_1 v Q = _) h

/-- laws.heldDeclS -/
def vc39 (x_0 : Sl) (n_1 : Int) (v : World) (Q : Value → World → Prop) : Prop :=
  ∃ I1 : Int → Int → World → Prop, ∃ m2 : Int → Int → World → Nat, I1 n_1 0 v ∧
  ∀ n3 : Int, ∀ n4 : Int, ∀ w5 : World, I1 n3 n4 w5 →
  ((decide (n4 < (x_0.n : Int))) = true →
    IxOk x_0 n4 ∧
    ∃ n6 : Int, w5.cell? ((elA x_0 n4 3).add 0) = some (.int .i64 n6) ∧
    ((!decide (n6 = n3)) = true →
      Q (.int .i64 (-1)) w5) ∧
    ((!decide (n6 = n3)) = false →
      ∃ n7 : Int, Wr .i64 (n3 + 1) n7 ∧
      IxOk x_0 n4 ∧
      ∃ n8 : Int, w5.cell? ((elA x_0 n4 3).add 1) = some (.int .i64 n8) ∧
      ((!decide (n8 = n7)) = true →
        Q (.int .i64 (-1)) w5) ∧
      ((!decide (n8 = n7)) = false →
        ∃ n9 : Int, Wr .i64 (n7 + 1) n9 ∧
        IxOk x_0 n4 ∧
        ∃ x10 : Sl, w5.cell? ((elA x_0 n4 3).add 2) = some (x10.val) ∧
        ∃ n11 : Int, (Trip Try.prog 69 #[x10.val, .int .i64 n9] w5 fun r12 w13 => r12 = .int .i64 n11 ∧ Sub w5 w13) ∧
        ((decide (n11 < 0)) = true →
          Q (.int .i64 (-1)) w5) ∧
        ((decide (n11 < 0)) = false →
          ∃ n14 : Int, Wr .i64 (n4 + 1) n14 ∧
          I1 n11 n14 w5 ∧
          m2 n11 n14 w5 < m2 n3 n4 w5)))) ∧
  ((decide (n4 < (x_0.n : Int))) = false →
    Q (.int .i64 n3) w5)
theorem of39 (x_0 : Sl) (n_1 : Int) (v : World) (Q : Value → World → Prop) (h : vc39 x_0 n_1 v Q) : Trip Try.prog 39 #[x_0.val, .int .i64 n_1] v Q :=
  trip_of_eq (args := [.sl x_0, .num .i64 n_1]) (A := ⟨[(2, [(1, .int .i64), (5, .int .i64)], [])], [], [], [], [7, 11, 14, 17, 21, 24, 25, 26, 30, 31, 32, 38, 39, 40, 43, 44, 45, 46, 48, 56, 57, 58, 69, 70, 77, 78, 79, 80, 81, 82, 83, 84, 87, 88, 89, 91, 92, 93, 94, 95, 100, 103, 104, 105, 106, 107, 109, 111, 114, 115, 116, 118, 120, 121, 122, 123, 124, 125]⟩) Try.func39 (by kernel_rfl) (by kernel_rfl) (by kernel_rfl : vc39 x_0 n_1 v Q = _) h

/-- laws.heldProcS -/
def vc40 (x_0 : Sl) (n_1 : Int) (v : World) (Q : Value → World → Prop) : Prop :=
  ∃ I1 : Int → Int → World → Prop, ∃ m2 : Int → Int → World → Nat, I1 n_1 0 v ∧
  ∀ n3 : Int, ∀ n4 : Int, ∀ w5 : World, I1 n3 n4 w5 →
  ((decide (n4 < (x_0.n : Int))) = true →
    IxOk x_0 n4 ∧
    ∃ x6 : Sl, w5.cell? ((elA x_0 n4 5).add 0) = some (x6.val) ∧
    ∃ n7 : Int, (Trip Try.prog 17 #[x6.val, .int .i64 n3] w5 fun r8 w9 => r8 = .int .i64 n7 ∧ Sub w5 w9) ∧
    ((decide (n7 < 0)) = true →
      Q (.int .i64 (-1)) w5) ∧
    ((decide (n7 < 0)) = false →
      IxOk x_0 n4 ∧
      ∃ x10 : Sl, w5.cell? ((elA x_0 n4 5).add 1) = some (x10.val) ∧
      ∃ n11 : Int, (Trip Try.prog 17 #[x10.val, .int .i64 n7] w5 fun r12 w13 => r12 = .int .i64 n11 ∧ Sub w5 w13) ∧
      ((decide (n11 < 0)) = true →
        Q (.int .i64 (-1)) w5) ∧
      ((decide (n11 < 0)) = false →
        IxOk x_0 n4 ∧
        ∃ n14 : Int, w5.cell? ((elA x_0 n4 5).add 2) = some (.int .i64 n14) ∧
        ((!decide (n14 = n11)) = true →
          Q (.int .i64 (-1)) w5) ∧
        ((!decide (n14 = n11)) = false →
          ∃ n15 : Int, Wr .i64 (n11 + 1) n15 ∧
          IxOk x_0 n4 ∧
          ∃ n16 : Int, w5.cell? ((elA x_0 n4 5).add 3) = some (.int .i64 n16) ∧
          ((!decide (n16 = n15)) = true →
            Q (.int .i64 (-1)) w5) ∧
          ((!decide (n16 = n15)) = false →
            ∃ n17 : Int, Wr .i64 (n15 + 1) n17 ∧
            IxOk x_0 n4 ∧
            ∃ x18 : Sl, w5.cell? ((elA x_0 n4 5).add 4) = some (x18.val) ∧
            ∃ n19 : Int, (Trip Try.prog 70 #[x18.val, .int .i64 n17] w5 fun r20 w21 => r20 = .int .i64 n19 ∧ Sub w5 w21) ∧
            ((decide (n19 < 0)) = true →
              Q (.int .i64 (-1)) w5) ∧
            ((decide (n19 < 0)) = false →
              ∃ n22 : Int, Wr .i64 (n4 + 1) n22 ∧
              I1 n19 n22 w5 ∧
              m2 n19 n22 w5 < m2 n3 n4 w5)))))) ∧
  ((decide (n4 < (x_0.n : Int))) = false →
    Q (.int .i64 n3) w5)
theorem of40 (x_0 : Sl) (n_1 : Int) (v : World) (Q : Value → World → Prop) (h : vc40 x_0 n_1 v Q) : Trip Try.prog 40 #[x_0.val, .int .i64 n_1] v Q :=
  trip_of_eq (args := [.sl x_0, .num .i64 n_1]) (A := ⟨[(2, [(1, .int .i64), (5, .int .i64)], [])], [], [], [], [7, 11, 14, 17, 21, 24, 25, 26, 30, 31, 32, 38, 39, 40, 43, 44, 45, 46, 48, 56, 57, 58, 69, 70, 77, 78, 79, 80, 81, 82, 83, 84, 87, 88, 89, 91, 92, 93, 94, 95, 100, 103, 104, 105, 106, 107, 109, 111, 114, 115, 116, 118, 120, 121, 122, 123, 124, 125]⟩) Try.func40 (by kernel_rfl) (by kernel_rfl) (by kernel_rfl : vc40 x_0 n_1 v Q = _) h

/-- spec.validSigs -/
def vc46 (x0_0 : Sl) (x0_1 : Sl) (v : World) (Q : Value → World → Prop) : Prop :=
  ∃ q1 : Bool, (Trip Try.prog 80 #[x0_0.val] v fun r2 w3 => r2 = .bool q1 ∧ Sub v w3) ∧
  ∃ q4 : Bool, ((!q1) = false →
    (Trip Try.prog 81 #[.int .i64 (x0_1.n : Int), .int .i64 1, .int .i64 4] v fun r5 w6 => r5 = .bool q4 ∧ Sub v w6)) ∧
  (((!q1) || (!q4)) = true →
    Q (.bool false) v) ∧
  (((!q1) || (!q4)) = false →
    ∃ I7 : Int → World → Prop, ∃ m8 : Int → World → Nat, I7 0 v ∧
    ∀ n9 : Int, ∀ w10 : World, I7 n9 w10 →
    ((decide (n9 < (x0_1.n : Int))) = true →
      IxOk x0_1 n9 ∧
      ∃ x11 : Sl, ∃ n12 : Int, ∃ n13 : Int, ∃ n14 : Int, ∃ x15 : Sl, (w10.cell? ((elA x0_1 n9 5).add 0) = some (x11.val) ∧
        w10.cell? ((elA x0_1 n9 5).add 1) = some (.int .i64 n12) ∧
        w10.cell? ((elA x0_1 n9 5).add 2) = some (.int .i64 n13) ∧
        w10.cell? ((elA x0_1 n9 5).add 3) = some (.int .i64 n14) ∧
        w10.cell? ((elA x0_1 n9 5).add 4) = some (x15.val)) ∧
      ∃ q16 : Bool, ((decide ((x11.n : Int) > 3)) = false →
        (Trip Try.prog 82 #[x0_0.val, x11.val] w10 fun r17 w18 => r17 = .bool q16 ∧ Sub w10 w18)) ∧
      ∃ q19 : Bool, (((decide ((x11.n : Int) > 3)) || (!q16)) = false →
        (Trip Try.prog 81 #[.int .i64 n12, .int .i64 0, .int .i64 (x0_0.n : Int)] w10 fun r20 w21 => r20 = .bool q19 ∧ Sub w10 w21)) ∧
      ((((decide ((x11.n : Int) > 3)) || (!q16)) || (!q19)) = true →
        Q (.bool false) w10) ∧
      ((((decide ((x11.n : Int) > 3)) || (!q16)) || (!q19)) = false →
        ∃ n22 : Int, Wr .i64 (n9 + 1) n22 ∧
        ((.sl x0_0 : SV) = .sl x0_0) ∧
        ((.sl x0_1 : SV) = .sl x0_1) ∧
        I7 n22 w10 ∧
        m8 n22 w10 < m8 n9 w10)) ∧
    ((decide (n9 < (x0_1.n : Int))) = false →
      IxOk x0_1 0 ∧
      ∃ x23 : Sl, w10.cell? ((elA x0_1 0 5).add 0) = some (x23.val) ∧
      ((decide ((x23.n : Int) = 0)) = true →
        IxOk x0_1 0) ∧
      ∃ n24 : Int, ((decide ((x23.n : Int) = 0)) = true →
        w10.cell? ((elA x0_1 0 5).add 1) = some (.int .i64 n24)) ∧
      Q (.bool ((decide ((x23.n : Int) = 0)) && (decide (n24 = 0)))) w10))
theorem of46 (x0_0 : Sl) (x0_1 : Sl) (v : World) (Q : Value → World → Prop) (h : vc46 x0_0 x0_1 v Q) : Trip Try.prog 46 #[.agg #[x0_0.val, x0_1.val]] v Q :=
  trip_of_eq (args := [.ag [.sl x0_0, .sl x0_1]]) (A := ⟨[(4, [(3, .int .i64)], [])], [], [], [], [7, 11, 14, 17, 21, 24, 25, 26, 30, 31, 32, 38, 39, 40, 43, 44, 45, 46, 48, 56, 57, 58, 69, 70, 77, 78, 79, 80, 81, 82, 83, 84, 87, 88, 89, 91, 92, 93, 94, 95, 100, 103, 104, 105, 106, 107, 109, 111, 114, 115, 116, 118, 120, 121, 122, 123, 124, 125]⟩) Try.func46 (by kernel_rfl) (by kernel_rfl) (by kernel_rfl : vc46 x0_0 x0_1 v Q = _) h

/-- spec.sigsOfImage -/
def vc47 (x0_0 : Sl) (x0_1 : Sl) (v : World) (Q : Value → World → Prop) : Prop :=
  StepT Try.prog (Instr.buildSlice 79 0 #[]) v fun r1 w2 =>
    ∃ x3 : Sl, r1 = x3.val ∧
    ∃ I4 : Int → Sl → World → Prop, ∃ m5 : Int → Sl → World → Nat, I4 0 x3 w2 ∧
    ∀ n6 : Int, ∀ x7 : Sl, ∀ w8 : World, I4 n6 x7 w8 →
    ((decide (n6 < (x0_1.n : Int))) = true →
      IxOk x0_1 n6 ∧
      ∃ x9 : Sl, w8.cell? ((elA x0_1 n6 5).add 0) = some (x9.val) ∧
      IxOk x0_1 n6 ∧
      ∃ n10 : Int, w8.cell? ((elA x0_1 n6 5).add 2) = some (.int .i64 n10) ∧
      StepT Try.prog (Instr.buildSlice 79 1 #[(0, (.agg #[x9.val, .int .i64 n10, .int .i64 0, .int .i64 0, .slice none 0 0]))]) w8 fun r11 w12 =>
        ∃ x13 : Sl, r11 = x13.val ∧
        Sub w8 w12 ∧
        StepT Try.prog (Builtin.append_ #[79, 79] 79 #[(x7.val), (x13.val)]) w12 fun r14 w15 =>
          ∃ x16 : Sl, r14 = x16.val ∧
          ∃ n17 : Int, Wr .i64 (n6 + 1) n17 ∧
          ((.sl x0_0 : SV) = .sl x0_0) ∧
          ((.sl x0_1 : SV) = .sl x0_1) ∧
          ((.sl (Sl.mk none 0 0) : SV) = .sl (Sl.mk none 0 0)) ∧
          ((.sl (Sl.mk none 0 0) : SV) = .sl (Sl.mk none 0 0)) ∧
          ((.sl x0_0 : SV) = .sl x0_0) ∧
          I4 n17 x16 w15 ∧
          m5 n17 x16 w15 < m5 n6 x7 w8) ∧
    ((decide (n6 < (x0_1.n : Int))) = false →
      Q (.agg #[x0_0.val, x7.val]) w8)
theorem of47 (x0_0 : Sl) (x0_1 : Sl) (v : World) (Q : Value → World → Prop) (h : vc47 x0_0 x0_1 v Q) : Trip Try.prog 47 #[.agg #[x0_0.val, x0_1.val]] v Q :=
  trip_of_eq (args := [.ag [.sl x0_0, .sl x0_1]]) (A := ⟨[(3, [(4, .int .i64)], [(2, 1, .sl)])], [], [(5, [15])], [], [7, 11, 14, 17, 21, 24, 25, 26, 30, 31, 32, 38, 39, 40, 43, 44, 45, 46, 48, 56, 57, 58, 69, 70, 77, 78, 79, 80, 81, 82, 83, 84, 87, 88, 89, 91, 92, 93, 94, 95, 100, 103, 104, 105, 106, 107, 109, 111, 114, 115, 116, 118, 120, 121, 122, 123, 124, 125]⟩) Try.func47 (by kernel_rfl) (by kernel_rfl) (by kernel_rfl : vc47 x0_0 x0_1 v Q = _) h

/-- spec.validProc -/
def vc48 (x0_0 : Sl) (x0_1 : Sl) (x1_0 : Sl) (x1_1 : Sl) (n1_2 : Int) (n1_3 : Int) (x1_4 : Sl) (v : World) (Q : Value → World → Prop) : Prop :=
  ∃ q1 : Bool, (Trip Try.prog 83 #[x1_0.val, x1_1.val] v fun r2 w3 => r2 = .bool q1 ∧ Sub v w3) ∧
  ∃ n4 : Int, ((!q1) = false →
    PureT Try.prog (Builtin.max_ #[3, 3] 3 #[(.int .i64 1), (.int .i64 (x1_0.n : Int))]) v (.int .i64 n4)) ∧
  ∃ q5 : Bool, ((!q1) = false →
    (Trip Try.prog 81 #[.int .i64 n1_3, .int .i64 n4, .int .i64 2000] v fun r6 w7 => r6 = .bool q5 ∧ Sub v w7)) ∧
  ∃ q8 : Bool, (((!q1) || (!q5)) = false →
    (Trip Try.prog 81 #[.int .i64 (x1_4.n : Int), .int .i64 1, .int .i64 2000] v fun r9 w10 => r9 = .bool q8 ∧ Sub v w10)) ∧
  ((((!q1) || (!q5)) || (!q8)) = true →
    Q (.bool false) v) ∧
  ((((!q1) || (!q5)) || (!q8)) = false →
    ∃ I11 : Int → World → Prop, ∃ m12 : Int → World → Nat, I11 0 v ∧
    ∀ n13 : Int, ∀ w14 : World, I11 n13 w14 →
    ((decide (n13 < (x1_4.n : Int))) = true →
      ∃ q15 : Bool, (Trip Try.prog 84 #[.agg #[x0_0.val, x0_1.val], .agg #[x1_0.val, x1_1.val, .int .i64 n1_2, .int .i64 n1_3, x1_4.val], .int .i64 n13] w14 fun r16 w17 => r16 = .bool q15 ∧ Sub w14 w17) ∧
      ((!q15) = true →
        Q (.bool false) w14) ∧
      ((!q15) = false →
        ∃ n18 : Int, Wr .i64 (n13 + 1) n18 ∧
        ((.sl x0_0 : SV) = .sl x0_0) ∧
        ((.sl x0_1 : SV) = .sl x0_1) ∧
        ((.sl x1_0 : SV) = .sl x1_0) ∧
        ((.sl x1_1 : SV) = .sl x1_1) ∧
        ((.num .i64 n1_2 : SV) = .num .i64 n1_2) ∧
        ((.num .i64 n1_3 : SV) = .num .i64 n1_3) ∧
        ((.sl x1_4 : SV) = .sl x1_4) ∧
        I11 n18 w14 ∧
        m12 n18 w14 < m12 n13 w14)) ∧
    ((decide (n13 < (x1_4.n : Int))) = false →
      ∃ n19 : Int, Wr .i64 ((x1_4.n : Int) - 1) n19 ∧
      IxOk x1_4 n19 ∧
      ∃ n20 : Int, w14.cell? ((elA x1_4 n19 6).add 0) = some (.int .i64 n20) ∧
      ∃ n21 : Int, ((decide (n20 = 23)) = false →
        Wr .i64 ((x1_4.n : Int) - 1) n21) ∧
      ((decide (n20 = 23)) = false →
        IxOk x1_4 n21) ∧
      ∃ n22 : Int, ((decide (n20 = 23)) = false →
        w14.cell? ((elA x1_4 n21 6).add 0) = some (.int .i64 n22)) ∧
      Q (.bool ((decide (n20 = 23)) || (decide (n22 = 24)))) w14))
theorem of48 (x0_0 : Sl) (x0_1 : Sl) (x1_0 : Sl) (x1_1 : Sl) (n1_2 : Int) (n1_3 : Int) (x1_4 : Sl) (v : World) (Q : Value → World → Prop) (h : vc48 x0_0 x0_1 x1_0 x1_1 n1_2 n1_3 x1_4 v Q) : Trip Try.prog 48 #[.agg #[x0_0.val, x0_1.val], .agg #[x1_0.val, x1_1.val, .int .i64 n1_2, .int .i64 n1_3, x1_4.val]] v Q :=
  trip_of_eq (args := [.ag [.sl x0_0, .sl x0_1], .ag [.sl x1_0, .sl x1_1, .num .i64 n1_2, .num .i64 n1_3, .sl x1_4]]) (A := ⟨[(5, [(6, .int .i64)], [])], [], [], [], [7, 11, 14, 17, 21, 24, 25, 26, 30, 31, 32, 38, 39, 40, 43, 44, 45, 46, 48, 56, 57, 58, 69, 70, 77, 78, 79, 80, 81, 82, 83, 84, 87, 88, 89, 91, 92, 93, 94, 95, 100, 103, 104, 105, 106, 107, 109, 111, 114, 115, 116, 118, 120, 121, 122, 123, 124, 125]⟩) Try.func48 (by kernel_rfl) (by kernel_rfl) (by kernel_rfl : vc48 x0_0 x0_1 x1_0 x1_1 n1_2 n1_3 x1_4 v Q = _) h

/-- impl.imageSigs -/
def vc55 (x0_0 : Sl) (x0_1 : Sl) (v : World) (Q : Value → World → Prop) : Prop :=
  ((decide ((x0_1.n : Int) > 4)) = true →
    Q (.tuple #[.agg #[.slice none 0 0, .slice none 0 0], .bool false]) v) ∧
  ((decide ((x0_1.n : Int) > 4)) = false →
    ∃ I1 : Int → Sl → World → Prop, ∃ m2 : Int → Sl → World → Nat, I1 0 (Sl.mk none 0 0) v ∧
    ∀ n3 : Int, ∀ x4 : Sl, ∀ w5 : World, I1 n3 x4 w5 →
    ((decide (n3 < (x0_1.n : Int))) = true →
      IxOk x0_1 n3 ∧
      ∃ x6 : Sl, ∃ x7 : Sl, ∃ n8 : Int, ∃ n9 : Int, ∃ x10 : Sl, (w5.cell? ((elA x0_1 n3 5).add 0) = some (x6.val) ∧
        w5.cell? ((elA x0_1 n3 5).add 1) = some (x7.val) ∧
        w5.cell? ((elA x0_1 n3 5).add 2) = some (.int .i64 n8) ∧
        w5.cell? ((elA x0_1 n3 5).add 3) = some (.int .i64 n9) ∧
        w5.cell? ((elA x0_1 n3 5).add 4) = some (x10.val)) ∧
      StepT Try.prog (Instr.buildSlice 93 1 #[(0, (.agg #[x6.val, x7.val, .int .i64 n8]))]) w5 fun r11 w12 =>
        ∃ x13 : Sl, r11 = x13.val ∧
        StepT Try.prog (Builtin.append_ #[93, 93] 93 #[(x4.val), (x13.val)]) w12 fun r14 w15 =>
          ∃ x16 : Sl, r14 = x16.val ∧
          ∃ n17 : Int, Wr .i64 (n3 + 1) n17 ∧
          ((.sl x0_0 : SV) = .sl x0_0) ∧
          ((.sl x0_1 : SV) = .sl x0_1) ∧
          ((.sl (Sl.mk none 0 0) : SV) = .sl (Sl.mk none 0 0)) ∧
          ((.sl (Sl.mk none 0 0) : SV) = .sl (Sl.mk none 0 0)) ∧
          ((.sl x0_0 : SV) = .sl x0_0) ∧
          I1 n17 x16 w15 ∧
          m2 n17 x16 w15 < m2 n3 x4 w5) ∧
    ((decide (n3 < (x0_1.n : Int))) = false →
      ∃ q18 : Bool, (Trip Try.prog 87 #[x0_0.val, x4.val] w5 fun r19 w20 => r19 = .bool q18 ∧ Sub w5 w20) ∧
      Q (.tuple #[.agg #[x0_0.val, x4.val], .bool q18]) w5))
theorem of55 (x0_0 : Sl) (x0_1 : Sl) (v : World) (Q : Value → World → Prop) (h : vc55 x0_0 x0_1 v Q) : Trip Try.prog 55 #[.agg #[x0_0.val, x0_1.val]] v Q :=
  trip_of_eq (args := [.ag [.sl x0_0, .sl x0_1]]) (A := ⟨[(5, [(18, .int .i64)], [(2, 1, .sl)])], [], [(9, [])], [], [7, 11, 14, 17, 21, 24, 25, 26, 30, 31, 32, 38, 39, 40, 43, 44, 45, 46, 48, 56, 57, 58, 69, 70, 77, 78, 79, 80, 81, 82, 83, 84, 87, 88, 89, 91, 92, 93, 94, 95, 100, 103, 104, 105, 106, 107, 109, 111, 114, 115, 116, 118, 120, 121, 122, 123, 124, 125]⟩) Try.func55 (by kernel_rfl) (by kernel_rfl) (by kernel_rfl : vc55 x0_0 x0_1 v Q = _) h

/-- (impl.signatures).instrValid -/
def vc56 (x0_0 : Sl) (x0_1 : Sl) (x1_0 : Sl) (x1_1 : Sl) (n1_2 : Int) (n1_3 : Int) (x1_4 : Sl) (n_2 : Int) (n3_0 : Int) (n3_1 : Int) (n3_2 : Int) (n3_3 : Int) (x3_4 : Sl) (x3_5 : Sl) (v : World) (Q : Value → World → Prop) : Prop :=
  NewAt v (.cells #[x1_0.val, x1_1.val, .int .i64 n1_2, .int .i64 n1_3, x1_4.val] 66 (0, 0)) fun a1 w2 =>
    NewAt w2 (.cells #[.int .i64 n_2] 3 (0, 0)) fun a3 w4 =>
      (((((((decide (n3_0 < 0)) || (decide (n3_0 > 24))) || (decide (n3_0 = 7))) || (decide (n3_0 = 8))) || (decide (n3_0 = 12))) || (decide (n3_0 = 13))) = true →
        Q (.bool false) w4) ∧
      (((((((decide (n3_0 < 0)) || (decide (n3_0 > 24))) || (decide (n3_0 = 7))) || (decide (n3_0 = 8))) || (decide (n3_0 = 12))) || (decide (n3_0 = 13))) = false →
        ∃ n5 : Int, ((decide (n3_1 < 0)) = false →
          w4.cell? (a1.add 3) = some (.int .i64 n5)) ∧
        ∃ q6 : Bool, ((!decide (n3_1 = 0)) = true →
          ((decide (n3_1 < 0)) || (decide (n3_1 ≥ n5))) = false →
          (Trip Try.prog 88 #[.int .i64 n3_0] w4 fun r7 w8 => r7 = .bool q6 ∧ Sub w4 w8)) ∧
        ∃ n9 : Int, (((((decide (n3_1 < 0)) || (decide (n3_1 ≥ n5))) || ((!decide (n3_1 = 0)) && (!q6))) || (decide (n3_3 < 0))) = false →
          w4.cell? (a1.add 3) = some (.int .i64 n9)) ∧
        (((((((decide (n3_1 < 0)) || (decide (n3_1 ≥ n5))) || ((!decide (n3_1 = 0)) && (!q6))) || (decide (n3_3 < 0))) || (decide (n3_3 > n9))) || ((!decide (n3_3 = 0)) && (!decide (n3_0 = 6)))) = true →
          Q (.bool false) w4) ∧
        (((((((decide (n3_1 < 0)) || (decide (n3_1 ≥ n5))) || ((!decide (n3_1 = 0)) && (!q6))) || (decide (n3_3 < 0))) || (decide (n3_3 > n9))) || ((!decide (n3_3 = 0)) && (!decide (n3_0 = 6)))) = false →
          ∃ I10 : Int → World → Prop, ∃ m11 : Int → World → Nat, I10 0 w4 ∧
          ∀ n12 : Int, ∀ w13 : World, I10 n12 w13 →
          ((decide (n12 < (x3_4.n : Int))) = true →
            IxOk x3_4 n12 ∧
            ∃ n14 : Int, w13.cell? ((elA x3_4 n12 1).add 0) = some (.int .i64 n14) ∧
            ∃ n15 : Int, ((decide (n14 < 0)) = false →
              w13.cell? (a1.add 3) = some (.int .i64 n15)) ∧
            (((decide (n14 < 0)) || (decide (n14 ≥ n15))) = true →
              Q (.bool false) w13) ∧
            (((decide (n14 < 0)) || (decide (n14 ≥ n15))) = false →
              ∃ n16 : Int, Wr .i64 (n12 + 1) n16 ∧
              ((.sl x0_0 : SV) = .sl x0_0) ∧
              ((.sl x0_1 : SV) = .sl x0_1) ∧
              ((.num .i64 n3_0 : SV) = .num .i64 n3_0) ∧
              ((.num .i64 n3_1 : SV) = .num .i64 n3_1) ∧
              ((.num .i64 n3_2 : SV) = .num .i64 n3_2) ∧
              ((.num .i64 n3_3 : SV) = .num .i64 n3_3) ∧
              ((.sl x3_4 : SV) = .sl x3_4) ∧
              ((.sl x3_5 : SV) = .sl x3_5) ∧
              I10 n16 w13 ∧
              m11 n16 w13 < m11 n12 w13)) ∧
          ((decide (n12 < (x3_4.n : Int))) = false →
            NewAt w13 (.cells #[(Vl.mk Value.nilFunc rfl).x] 132 (0, 0)) fun a17 w18 =>
              StoreAt w18 a17 0 [(Vl.mk (.func (.func 89) #[] #[.pointer (some (a3.add 0)), .pointer (some (a1.add 0))]) rfl).x] fun w19 =>
                (((decide ((x3_5.n : Int) > 0)) && (!decide (n3_0 = 21))) = false →
                  Trip Try.prog 90 #[x3_5.val, .func (.func 91) #[] #[.pointer (some (a17.add 0))]] w19 fun r20 w21 =>
                    ∃ q22 : Bool, r20 = .bool q22 ∧
                    (q22 = true →
                      Q (.bool false) w21) ∧
                    (q22 = false →
                      ∃ y23 : Vl, w21.cell? (a17.add 0) = some (y23.x) ∧
                      ∃ q24 : Bool, (Trip Try.prog 92 #[.agg #[x0_0.val, x0_1.val], .agg #[.int .i64 n3_0, .int .i64 n3_1, .int .i64 n3_2, .int .i64 n3_3, x3_4.val, x3_5.val], y23.x] w21 fun r25 w26 => r25 = .bool q24 ∧ Sub w21 w26) ∧
                      ((!q24) = true →
                        Q (.bool false) w21) ∧
                      ((!q24) = false →
                        ∃ n27 : Int, ∃ n28 : Int, (Trip Try.prog 93 #[.agg #[x0_0.val, x0_1.val], .agg #[.int .i64 n3_0, .int .i64 n3_1, .int .i64 n3_2, .int .i64 n3_3, x3_4.val, x3_5.val]] w21 fun r29 w30 => r29 = .tuple #[.int .i64 n27, .int .i64 n28] ∧ Sub w21 w30) ∧
                        Q (.bool ((decide ((x3_4.n : Int) ≥ n27)) && (decide ((x3_4.n : Int) ≤ n28)))) w21))) ∧
                (((decide ((x3_5.n : Int) > 0)) && (!decide (n3_0 = 21))) = true →
                  Q (.bool false) w19))))
theorem of56 (x0_0 : Sl) (x0_1 : Sl) (x1_0 : Sl) (x1_1 : Sl) (n1_2 : Int) (n1_3 : Int) (x1_4 : Sl) (n_2 : Int) (n3_0 : Int) (n3_1 : Int) (n3_2 : Int) (n3_3 : Int) (x3_4 : Sl) (x3_5 : Sl) (v : World) (Q : Value → World → Prop) (h : vc56 x0_0 x0_1 x1_0 x1_1 n1_2 n1_3 x1_4 n_2 n3_0 n3_1 n3_2 n3_3 x3_4 x3_5 v Q) : Trip Try.prog 56 #[.agg #[x0_0.val, x0_1.val], .agg #[x1_0.val, x1_1.val, .int .i64 n1_2, .int .i64 n1_3, x1_4.val], .int .i64 n_2, .agg #[.int .i64 n3_0, .int .i64 n3_1, .int .i64 n3_2, .int .i64 n3_3, x3_4.val, x3_5.val]] v Q :=
  trip_of_eq (args := [.ag [.sl x0_0, .sl x0_1], .ag [.sl x1_0, .sl x1_1, .num .i64 n1_2, .num .i64 n1_3, .sl x1_4], .num .i64 n_2, .ag [.num .i64 n3_0, .num .i64 n3_1, .num .i64 n3_2, .num .i64 n3_3, .sl x3_4, .sl x3_5]]) (A := ⟨[(6, [(88, .int .i64)], [])], [], [], [5, 6, 11], [7, 11, 14, 17, 21, 24, 25, 26, 30, 31, 32, 38, 39, 40, 43, 44, 45, 46, 48, 56, 57, 58, 69, 70, 77, 78, 79, 80, 81, 82, 83, 84, 87, 88, 89, 91, 92, 93, 94, 95, 100, 103, 104, 105, 106, 107, 109, 111, 114, 115, 116, 118, 120, 121, 122, 123, 124, 125]⟩) Try.func56 (by kernel_rfl) (by kernel_rfl) (by kernel_rfl : vc56 x0_0 x0_1 x1_0 x1_1 n1_2 n1_3 x1_4 n_2 n3_0 n3_1 n3_2 n3_3 x3_4 x3_5 v Q = _) h

/-- laws.eqDecl -/
def vc57 (n0_0 : Int) (n0_1 : Int) (x0_2 : Sl) (n1_0 : Int) (n1_1 : Int) (x1_2 : Sl) (v : World) (Q : Value → World → Prop) : Prop :=
  ((!decide (n0_0 = n1_0)) = true →
    Q (.bool false) v) ∧
  ((!decide (n0_0 = n1_0)) = false →
    ((!decide (n0_1 = n1_1)) = true →
      Q (.bool false) v) ∧
    ((!decide (n0_1 = n1_1)) = false →
      ∃ q1 : Bool, (Trip Try.prog 94 #[x0_2.val, x1_2.val] v fun r2 w3 => r2 = .bool q1 ∧ Sub v w3) ∧
      ((!q1) = true →
        Q (.bool false) v) ∧
      ((!q1) = false →
        Q (.bool true) v)))
theorem of57 (n0_0 : Int) (n0_1 : Int) (x0_2 : Sl) (n1_0 : Int) (n1_1 : Int) (x1_2 : Sl) (v : World) (Q : Value → World → Prop) (h : vc57 n0_0 n0_1 x0_2 n1_0 n1_1 x1_2 v Q) : Trip Try.prog 57 #[.agg #[.int .i64 n0_0, .int .i64 n0_1, x0_2.val], .agg #[.int .i64 n1_0, .int .i64 n1_1, x1_2.val]] v Q :=
  trip_of_eq (args := [.ag [.num .i64 n0_0, .num .i64 n0_1, .sl x0_2], .ag [.num .i64 n1_0, .num .i64 n1_1, .sl x1_2]]) (A := ⟨[], [], [], [], [7, 11, 14, 17, 21, 24, 25, 26, 30, 31, 32, 38, 39, 40, 43, 44, 45, 46, 48, 56, 57, 58, 69, 70, 77, 78, 79, 80, 81, 82, 83, 84, 87, 88, 89, 91, 92, 93, 94, 95, 100, 103, 104, 105, 106, 107, 109, 111, 114, 115, 116, 118, 120, 121, 122, 123, 124, 125]⟩) Try.func57 (by kernel_rfl) (by kernel_rfl) (by kernel_rfl : vc57 n0_0 n0_1 x0_2 n1_0 n1_1 x1_2 v Q = _) h

/-- laws.eqProc -/
def vc58 (x0_0 : Sl) (x0_1 : Sl) (n0_2 : Int) (n0_3 : Int) (x0_4 : Sl) (x1_0 : Sl) (x1_1 : Sl) (n1_2 : Int) (n1_3 : Int) (x1_4 : Sl) (v : World) (Q : Value → World → Prop) : Prop :=
  ∃ q1 : Bool, (Trip Try.prog 14 #[x0_0.val, x1_0.val] v fun r2 w3 => r2 = .bool q1 ∧ Sub v w3) ∧
  ((!q1) = true →
    Q (.bool false) v) ∧
  ((!q1) = false →
    ∃ q4 : Bool, (Trip Try.prog 14 #[x0_1.val, x1_1.val] v fun r5 w6 => r5 = .bool q4 ∧ Sub v w6) ∧
    ((!q4) = true →
      Q (.bool false) v) ∧
    ((!q4) = false →
      ((!decide (n0_2 = n1_2)) = true →
        Q (.bool false) v) ∧
      ((!decide (n0_2 = n1_2)) = false →
        ((!decide (n0_3 = n1_3)) = true →
          Q (.bool false) v) ∧
        ((!decide (n0_3 = n1_3)) = false →
          ∃ q7 : Bool, (Trip Try.prog 95 #[x0_4.val, x1_4.val] v fun r8 w9 => r8 = .bool q7 ∧ Sub v w9) ∧
          ((!q7) = true →
            Q (.bool false) v) ∧
          ((!q7) = false →
            Q (.bool true) v)))))
theorem of58 (x0_0 : Sl) (x0_1 : Sl) (n0_2 : Int) (n0_3 : Int) (x0_4 : Sl) (x1_0 : Sl) (x1_1 : Sl) (n1_2 : Int) (n1_3 : Int) (x1_4 : Sl) (v : World) (Q : Value → World → Prop) (h : vc58 x0_0 x0_1 n0_2 n0_3 x0_4 x1_0 x1_1 n1_2 n1_3 x1_4 v Q) : Trip Try.prog 58 #[.agg #[x0_0.val, x0_1.val, .int .i64 n0_2, .int .i64 n0_3, x0_4.val], .agg #[x1_0.val, x1_1.val, .int .i64 n1_2, .int .i64 n1_3, x1_4.val]] v Q :=
  trip_of_eq (args := [.ag [.sl x0_0, .sl x0_1, .num .i64 n0_2, .num .i64 n0_3, .sl x0_4], .ag [.sl x1_0, .sl x1_1, .num .i64 n1_2, .num .i64 n1_3, .sl x1_4]]) (A := ⟨[], [], [], [], [7, 11, 14, 17, 21, 24, 25, 26, 30, 31, 32, 38, 39, 40, 43, 44, 45, 46, 48, 56, 57, 58, 69, 70, 77, 78, 79, 80, 81, 82, 83, 84, 87, 88, 89, 91, 92, 93, 94, 95, 100, 103, 104, 105, 106, 107, 109, 111, 114, 115, 116, 118, 120, 121, 122, 123, 124, 125]⟩) Try.func58 (by kernel_rfl) (by kernel_rfl) (by kernel_rfl : vc58 x0_0 x0_1 n0_2 n0_3 x0_4 x1_0 x1_1 n1_2 n1_3 x1_4 v Q = _) h

/-- (*impl.byteWriter).number -/
def vc59 (a_0 : Addr) (n_1 : Int) (v : World) (Q : Value → World → Prop) : Prop :=
  ∃ x1 : Sl, v.cell? (a_0.add 0) = some (x1.val) ∧
  ∃ n2 : Int, Wr .i64 (n_1 + 32768) n2 ∧
  ∃ n3 : Int, ((256 : Int) ≠ 0 ∧ Wr .i64 (Int.tdiv n2 256) n3) ∧
  ∃ n4 : Int, Wr .i64 (n_1 + 32768) n4 ∧
  (256 : Int) ≠ 0 ∧
  StepT Try.prog (Instr.buildSlice 35 2 #[(0, (.int .i64 n3)), (1, (.int .i64 (Int.tmod n4 256)))]) v fun r5 w6 =>
    ∃ x7 : Sl, r5 = x7.val ∧
    StepT Try.prog (Builtin.append_ #[35, 35] 35 #[(x1.val), (x7.val)]) w6 fun r8 w9 =>
      ∃ x10 : Sl, r8 = x10.val ∧
      StoreAt w9 a_0 0 [x10.val] fun w11 =>
        Q (.tuple #[]) w11
theorem of59 (a_0 : Addr) (n_1 : Int) (v : World) (Q : Value → World → Prop) (h : vc59 a_0 n_1 v Q) : Trip Try.prog 59 #[.pointer (some (a_0.add 0)), .int .i64 n_1] v Q :=
  trip_of_eq (args := [.pt a_0 0, .num .i64 n_1]) (A := ⟨[], [], [], [], [7, 11, 14, 17, 21, 24, 25, 26, 30, 31, 32, 38, 39, 40, 43, 44, 45, 46, 48, 56, 57, 58, 69, 70, 77, 78, 79, 80, 81, 82, 83, 84, 87, 88, 89, 91, 92, 93, 94, 95, 100, 103, 104, 105, 106, 107, 109, 111, 114, 115, 116, 118, 120, 121, 122, 123, 124, 125]⟩) Try.func59 (by kernel_rfl) (by kernel_rfl) (by kernel_rfl : vc59 a_0 n_1 v Q = _) h

/-- (*impl.byteWriter).list -/
def vc60 (a_0 : Addr) (x_1 : Sl) (v : World) (Q : Value → World → Prop) : Prop :=
  Trip Try.prog 59 #[.pointer (some (a_0.add 0)), .int .i64 (x_1.n : Int)] v fun r1 w2 =>
    r1 = .tuple #[] ∧
    ∃ I3 : Int → World → Prop, ∃ m4 : Int → World → Nat, I3 0 w2 ∧
    ∀ n5 : Int, ∀ w6 : World, I3 n5 w6 →
    ((decide (n5 < (x_1.n : Int))) = true →
      IxOk x_1 n5 ∧
      ∃ n7 : Int, w6.cell? ((elA x_1 n5 1).add 0) = some (.int .i64 n7) ∧
      Trip Try.prog 59 #[.pointer (some (a_0.add 0)), .int .i64 n7] w6 fun r8 w9 =>
        r8 = .tuple #[] ∧
        ∃ n10 : Int, Wr .i64 (n5 + 1) n10 ∧
        I3 n10 w9 ∧
        m4 n10 w9 < m4 n5 w6) ∧
    ((decide (n5 < (x_1.n : Int))) = false →
      Q (.tuple #[]) w6)
theorem of60 (a_0 : Addr) (x_1 : Sl) (v : World) (Q : Value → World → Prop) (h : vc60 a_0 x_1 v Q) : Trip Try.prog 60 #[.pointer (some (a_0.add 0)), x_1.val] v Q :=
  trip_of_eq (args := [.pt a_0 0, .sl x_1]) (A := ⟨[(2, [(12, .int .i64)], [])], [], [], [], [7, 11, 14, 17, 21, 24, 25, 26, 30, 31, 32, 38, 39, 40, 43, 44, 45, 46, 48, 56, 57, 58, 69, 70, 77, 78, 79, 80, 81, 82, 83, 84, 87, 88, 89, 91, 92, 93, 94, 95, 100, 103, 104, 105, 106, 107, 109, 111, 114, 115, 116, 118, 120, 121, 122, 123, 124, 125]⟩) Try.func60 (by kernel_rfl) (by kernel_rfl) (by kernel_rfl : vc60 a_0 x_1 v Q = _) h

/-- laws.markConS -/
def vc61 (x_0 : Sl) (n_1 : Int) (v : World) (Q : Value → World → Prop) : Prop :=
  ∃ I1 : Int → Int → World → Prop, ∃ m2 : Int → Int → World → Nat, I1 n_1 0 v ∧
  ∀ n3 : Int, ∀ n4 : Int, ∀ w5 : World, I1 n3 n4 w5 →
  ((decide (n4 < (x_0.n : Int))) = true →
    IxOk x_0 n4 ∧
    ∃ x6 : Sl, w5.cell? ((elA x_0 n4 1).add 0) = some (x6.val) ∧
    Trip Try.prog 16 #[x6.val, .int .i64 n3] w5 fun r7 w8 =>
      ∃ n9 : Int, r7 = .int .i64 n9 ∧
      ∃ n10 : Int, Wr .i64 (n4 + 1) n10 ∧
      I1 n9 n10 w8 ∧
      m2 n9 n10 w8 < m2 n3 n4 w5) ∧
  ((decide (n4 < (x_0.n : Int))) = false →
    Q (.int .i64 n3) w5)
theorem of61 (x_0 : Sl) (n_1 : Int) (v : World) (Q : Value → World → Prop) (h : vc61 x_0 n_1 v Q) : Trip Try.prog 61 #[x_0.val, .int .i64 n_1] v Q :=
  trip_of_eq (args := [.sl x_0, .num .i64 n_1]) (A := ⟨[(2, [(1, .int .i64), (5, .int .i64)], [])], [], [], [], [7, 11, 14, 17, 21, 24, 25, 26, 30, 31, 32, 38, 39, 40, 43, 44, 45, 46, 48, 56, 57, 58, 69, 70, 77, 78, 79, 80, 81, 82, 83, 84, 87, 88, 89, 91, 92, 93, 94, 95, 100, 103, 104, 105, 106, 107, 109, 111, 114, 115, 116, 118, 120, 121, 122, 123, 124, 125]⟩) Try.func61 (by kernel_rfl) (by kernel_rfl) (by kernel_rfl : vc61 x_0 n_1 v Q = _) h

/-- laws.markInstrS -/
def vc62 (x_0 : Sl) (n_1 : Int) (v : World) (Q : Value → World → Prop) : Prop :=
  ∃ I1 : Int → Int → World → Prop, ∃ m2 : Int → Int → World → Nat, I1 n_1 0 v ∧
  ∀ n3 : Int, ∀ n4 : Int, ∀ w5 : World, I1 n3 n4 w5 →
  ((decide (n4 < (x_0.n : Int))) = true →
    IxOk x_0 n4 ∧
    StoreAt w5 (elA x_0 n4 6) 0 [.int .i64 n3] fun w6 =>
      ∃ n7 : Int, Wr .i64 (n3 + 1) n7 ∧
      IxOk x_0 n4 ∧
      StoreAt w6 (elA x_0 n4 6) 1 [.int .i64 n7] fun w8 =>
        ∃ n9 : Int, Wr .i64 (n7 + 1) n9 ∧
        IxOk x_0 n4 ∧
        StoreAt w8 (elA x_0 n4 6) 2 [.int .i64 n9] fun w10 =>
          ∃ n11 : Int, Wr .i64 (n9 + 1) n11 ∧
          IxOk x_0 n4 ∧
          StoreAt w10 (elA x_0 n4 6) 3 [.int .i64 n11] fun w12 =>
            ∃ n13 : Int, Wr .i64 (n11 + 1) n13 ∧
            IxOk x_0 n4 ∧
            ∃ x14 : Sl, w12.cell? ((elA x_0 n4 6).add 4) = some (x14.val) ∧
            Trip Try.prog 16 #[x14.val, .int .i64 n13] w12 fun r15 w16 =>
              ∃ n17 : Int, r15 = .int .i64 n17 ∧
              IxOk x_0 n4 ∧
              ∃ x18 : Sl, w16.cell? ((elA x_0 n4 6).add 5) = some (x18.val) ∧
              Trip Try.prog 16 #[x18.val, .int .i64 n17] w16 fun r19 w20 =>
                ∃ n21 : Int, r19 = .int .i64 n21 ∧
                ∃ n22 : Int, Wr .i64 (n4 + 1) n22 ∧
                I1 n21 n22 w20 ∧
                m2 n21 n22 w20 < m2 n3 n4 w5) ∧
  ((decide (n4 < (x_0.n : Int))) = false →
    Q (.int .i64 n3) w5)
theorem of62 (x_0 : Sl) (n_1 : Int) (v : World) (Q : Value → World → Prop) (h : vc62 x_0 n_1 v Q) : Trip Try.prog 62 #[x_0.val, .int .i64 n_1] v Q :=
  trip_of_eq (args := [.sl x_0, .num .i64 n_1]) (A := ⟨[(2, [(1, .int .i64), (5, .int .i64)], [])], [], [], [], [7, 11, 14, 17, 21, 24, 25, 26, 30, 31, 32, 38, 39, 40, 43, 44, 45, 46, 48, 56, 57, 58, 69, 70, 77, 78, 79, 80, 81, 82, 83, 84, 87, 88, 89, 91, 92, 93, 94, 95, 100, 103, 104, 105, 106, 107, 109, 111, 114, 115, 116, 118, 120, 121, 122, 123, 124, 125]⟩) Try.func62 (by kernel_rfl) (by kernel_rfl) (by kernel_rfl : vc62 x_0 n_1 v Q = _) h

/-- (*spec.source).decls -/
def vc63 (a_0 : Addr) (v : World) (Q : Value → World → Prop) : Prop :=
  StepT Try.prog (Instr.buildSlice 28 0 #[]) v fun r1 w2 =>
    ∃ x3 : Sl, r1 = x3.val ∧
    Trip Try.prog 64 #[.pointer (some (a_0.add 0))] w2 fun r4 w5 =>
      ∃ n6 : Int, r4 = .int .i64 n6 ∧
      ∃ I7 : Sl → Int → World → Prop, ∃ m8 : Sl → Int → World → Nat, I7 x3 0 w5 ∧
      ∀ x9 : Sl, ∀ n10 : Int, ∀ w11 : World, I7 x9 n10 w11 →
      ((decide (n10 < n6)) = true →
        Trip Try.prog 96 #[.pointer (some (a_0.add 0))] w11 fun r12 w13 =>
          ∃ n14 : Int, r12 = .int .i64 n14 ∧
          Trip Try.prog 96 #[.pointer (some (a_0.add 0))] w13 fun r15 w16 =>
            ∃ n17 : Int, r15 = .int .i64 n17 ∧
            StepT Try.prog (Instr.buildSlice 88 0 #[]) w16 fun r18 w19 =>
              ∃ x20 : Sl, r18 = x20.val ∧
              Trip Try.prog 64 #[.pointer (some (a_0.add 0))] w19 fun r21 w22 =>
                ∃ n23 : Int, r21 = .int .i64 n23 ∧
                ∃ I24 : Sl → Int → World → Prop, ∃ m25 : Sl → Int → World → Nat, I24 x20 0 w22 ∧
                ∀ x26 : Sl, ∀ n27 : Int, ∀ w28 : World, I24 x26 n27 w28 →
                ((decide (n27 < n23)) = true →
                  Trip Try.prog 97 #[.pointer (some (a_0.add 0))] w28 fun r29 w30 =>
                    ∃ x31 : Sl, r29 = x31.val ∧
                    StepT Try.prog (Instr.buildSlice 88 1 #[(0, (.agg #[x31.val]))]) w30 fun r32 w33 =>
                      ∃ x34 : Sl, r32 = x34.val ∧
                      StepT Try.prog (Builtin.append_ #[88, 88] 88 #[(x26.val), (x34.val)]) w33 fun r35 w36 =>
                        ∃ x37 : Sl, r35 = x37.val ∧
                        ∃ n38 : Int, Wr .i64 (n27 + 1) n38 ∧
                        I24 x37 n38 w36 ∧
                        m25 x37 n38 w36 < m25 x26 n27 w28) ∧
                ((decide (n27 < n23)) = false →
                  StepT Try.prog (Instr.buildSlice 28 1 #[(0, (.agg #[.int .i64 n14, .int .i64 n17, x26.val]))]) w28 fun r39 w40 =>
                    ∃ x41 : Sl, r39 = x41.val ∧
                    StepT Try.prog (Builtin.append_ #[28, 28] 28 #[(x9.val), (x41.val)]) w40 fun r42 w43 =>
                      ∃ x44 : Sl, r42 = x44.val ∧
                      ∃ n45 : Int, Wr .i64 (n10 + 1) n45 ∧
                      I7 x44 n45 w43 ∧
                      m8 x44 n45 w43 < m8 x9 n10 w11)) ∧
      ((decide (n10 < n6)) = false →
        Q (x9.val) w11)
theorem of63 (a_0 : Addr) (v : World) (Q : Value → World → Prop) (h : vc63 a_0 v Q) : Trip Try.prog 63 #[.pointer (some (a_0.add 0))] v Q :=
  trip_of_eq (args := [.pt a_0 0]) (A := ⟨[(4, [(3, .sl), (5, .int .i64)], []), (11, [(8, .sl), (10, .int .i64)], [])], [], [], [], [7, 11, 14, 17, 21, 24, 25, 26, 30, 31, 32, 38, 39, 40, 43, 44, 45, 46, 48, 56, 57, 58, 69, 70, 77, 78, 79, 80, 81, 82, 83, 84, 87, 88, 89, 91, 92, 93, 94, 95, 100, 103, 104, 105, 106, 107, 109, 111, 114, 115, 116, 118, 120, 121, 122, 123, 124, 125]⟩) Try.func63 (by kernel_rfl) (by kernel_rfl) (by kernel_rfl : vc63 a_0 v Q = _) h

/-- (*spec.source).many -/
def vc64 (a_0 : Addr) (v : World) (Q : Value → World → Prop) : Prop :=
  Trip Try.prog 96 #[.pointer (some (a_0.add 0))] v fun r1 w2 =>
    ∃ n3 : Int, r1 = .int .i64 n3 ∧
    ∃ q4 : Bool, w2.cell? (a_0.add 2) = some (.bool q4) ∧
    ∃ n5 : Int, ((q4 || (decide (n3 < 0))) = false →
      Wr .i64 (2 * n3) n5) ∧
    ∃ x6 : Sl, ((q4 || (decide (n3 < 0))) = false →
      w2.cell? (a_0.add 0) = some (x6.val)) ∧
    ∃ n7 : Int, ((q4 || (decide (n3 < 0))) = false →
      w2.cell? (a_0.add 1) = some (.int .i64 n7)) ∧
    ∃ n8 : Int, ((q4 || (decide (n3 < 0))) = false →
      Wr .i64 ((x6.n : Int) - n7) n8) ∧
    (((q4 || (decide (n3 < 0))) || (decide (n5 > n8))) = true →
      StoreAt w2 a_0 2 [.bool true] fun w9 =>
        Q (.int .i64 0) w9) ∧
    (((q4 || (decide (n3 < 0))) || (decide (n5 > n8))) = false →
      Q (.int .i64 n3) w2)
theorem of64 (a_0 : Addr) (v : World) (Q : Value → World → Prop) (h : vc64 a_0 v Q) : Trip Try.prog 64 #[.pointer (some (a_0.add 0))] v Q :=
  trip_of_eq (args := [.pt a_0 0]) (A := ⟨[], [], [], [], [7, 11, 14, 17, 21, 24, 25, 26, 30, 31, 32, 38, 39, 40, 43, 44, 45, 46, 48, 56, 57, 58, 69, 70, 77, 78, 79, 80, 81, 82, 83, 84, 87, 88, 89, 91, 92, 93, 94, 95, 100, 103, 104, 105, 106, 107, 109, 111, 114, 115, 116, 118, 120, 121, 122, 123, 124, 125]⟩) Try.func64 (by kernel_rfl) (by kernel_rfl) (by kernel_rfl : vc64 a_0 v Q = _) h

/-- (*spec.source).proc -/
def vc65 (a_0 : Addr) (v : World) (Q : Value → World → Prop) : Prop :=
  Trip Try.prog 97 #[.pointer (some (a_0.add 0))] v fun r1 w2 =>
    ∃ x3 : Sl, r1 = x3.val ∧
    Trip Try.prog 97 #[.pointer (some (a_0.add 0))] w2 fun r4 w5 =>
      ∃ x6 : Sl, r4 = x6.val ∧
      Trip Try.prog 96 #[.pointer (some (a_0.add 0))] w5 fun r7 w8 =>
        ∃ n9 : Int, r7 = .int .i64 n9 ∧
        Trip Try.prog 96 #[.pointer (some (a_0.add 0))] w8 fun r10 w11 =>
          ∃ n12 : Int, r10 = .int .i64 n12 ∧
          StepT Try.prog (Instr.buildSlice 64 0 #[]) w11 fun r13 w14 =>
            ∃ x15 : Sl, r13 = x15.val ∧
            Trip Try.prog 64 #[.pointer (some (a_0.add 0))] w14 fun r16 w17 =>
              ∃ n18 : Int, r16 = .int .i64 n18 ∧
              ∃ I19 : Sl → Int → World → Prop, ∃ m20 : Sl → Int → World → Nat, I19 x15 0 w17 ∧
              ∀ x21 : Sl, ∀ n22 : Int, ∀ w23 : World, I19 x21 n22 w23 →
              ((decide (n22 < n18)) = true →
                Trip Try.prog 98 #[.pointer (some (a_0.add 0))] w23 fun r24 w25 =>
                  ∃ n26 : Int, ∃ n27 : Int, ∃ n28 : Int, ∃ n29 : Int, ∃ x30 : Sl, ∃ x31 : Sl, r24 = .agg #[.int .i64 n26, .int .i64 n27, .int .i64 n28, .int .i64 n29, x30.val, x31.val] ∧
                  StepT Try.prog (Instr.buildSlice 64 1 #[(0, (.agg #[.int .i64 n26, .int .i64 n27, .int .i64 n28, .int .i64 n29, x30.val, x31.val]))]) w25 fun r32 w33 =>
                    ∃ x34 : Sl, r32 = x34.val ∧
                    StepT Try.prog (Builtin.append_ #[64, 64] 64 #[(x21.val), (x34.val)]) w33 fun r35 w36 =>
                      ∃ x37 : Sl, r35 = x37.val ∧
                      ∃ n38 : Int, Wr .i64 (n22 + 1) n38 ∧
                      ((.sl (Sl.mk none 0 0) : SV) = .sl (Sl.mk none 0 0)) ∧
                      ((.sl (Sl.mk none 0 0) : SV) = .sl (Sl.mk none 0 0)) ∧
                      ((.num .i64 0 : SV) = .num .i64 0) ∧
                      ((.num .i64 0 : SV) = .num .i64 0) ∧
                      ((.sl (Sl.mk none 0 0) : SV) = .sl (Sl.mk none 0 0)) ∧
                      I19 x37 n38 w36 ∧
                      m20 x37 n38 w36 < m20 x21 n22 w23) ∧
              ((decide (n22 < n18)) = false →
                Q (.agg #[x3.val, x6.val, .int .i64 n9, .int .i64 n12, x21.val]) w23)
theorem of65 (a_0 : Addr) (v : World) (Q : Value → World → Prop) (h : vc65 a_0 v Q) : Trip Try.prog 65 #[.pointer (some (a_0.add 0))] v Q :=
  trip_of_eq (args := [.pt a_0 0]) (A := ⟨[(8, [(7, .sl), (9, .int .i64)], [])], [], [], [], [7, 11, 14, 17, 21, 24, 25, 26, 30, 31, 32, 38, 39, 40, 43, 44, 45, 46, 48, 56, 57, 58, 69, 70, 77, 78, 79, 80, 81, 82, 83, 84, 87, 88, 89, 91, 92, 93, 94, 95, 100, 103, 104, 105, 106, 107, 109, 111, 114, 115, 116, 118, 120, 121, 122, 123, 124, 125]⟩) Try.func65 (by kernel_rfl) (by kernel_rfl) (by kernel_rfl : vc65 a_0 v Q = _) h

/-- (*impl.byteReader).length -/
def vc66 (a_0 : Addr) (v : World) (Q : Value → World → Prop) : Prop :=
  Trip Try.prog 67 #[.pointer (some (a_0.add 0))] v fun r1 w2 =>
    ∃ n3 : Int, r1 = .int .i64 n3 ∧
    ∃ x4 : Sl, ((decide (n3 < 0)) = false →
      w2.cell? (a_0.add 0) = some (x4.val)) ∧
    ∃ n5 : Int, ((decide (n3 < 0)) = false →
      ((2 : Int) ≠ 0 ∧ Wr .i64 (Int.tdiv (x4.n : Int) 2) n5)) ∧
    (((decide (n3 < 0)) || (decide (n3 > n5))) = true →
      StoreAt w2 a_0 1 [.bool true] fun w6 =>
        Q (.int .i64 0) w6) ∧
    (((decide (n3 < 0)) || (decide (n3 > n5))) = false →
      Q (.int .i64 n3) w2)
theorem of66 (a_0 : Addr) (v : World) (Q : Value → World → Prop) (h : vc66 a_0 v Q) : Trip Try.prog 66 #[.pointer (some (a_0.add 0))] v Q :=
  trip_of_eq (args := [.pt a_0 0]) (A := ⟨[], [], [], [], [7, 11, 14, 17, 21, 24, 25, 26, 30, 31, 32, 38, 39, 40, 43, 44, 45, 46, 48, 56, 57, 58, 69, 70, 77, 78, 79, 80, 81, 82, 83, 84, 87, 88, 89, 91, 92, 93, 94, 95, 100, 103, 104, 105, 106, 107, 109, 111, 114, 115, 116, 118, 120, 121, 122, 123, 124, 125]⟩) Try.func66 (by kernel_rfl) (by kernel_rfl) (by kernel_rfl : vc66 a_0 v Q = _) h

/-- (*impl.byteReader).number -/
def vc67 (a_0 : Addr) (v : World) (Q : Value → World → Prop) : Prop :=
  ∃ q1 : Bool, v.cell? (a_0.add 1) = some (.bool q1) ∧
  ∃ x2 : Sl, (q1 = false →
    v.cell? (a_0.add 0) = some (x2.val)) ∧
  ((q1 || (decide ((x2.n : Int) < 2))) = true →
    StoreAt v a_0 1 [.bool true] fun w3 =>
      Q (.int .i64 0) w3) ∧
  ((q1 || (decide ((x2.n : Int) < 2))) = false →
    ∃ x4 : Sl, v.cell? (a_0.add 0) = some (x4.val) ∧
    IxOk x4 0 ∧
    ∃ n5 : Int, v.cell? ((elA x4 0 1).add 0) = some (.int .i64 n5) ∧
    ∃ n6 : Int, Wr .i64 (256 * n5) n6 ∧
    ∃ x7 : Sl, v.cell? (a_0.add 0) = some (x7.val) ∧
    IxOk x7 1 ∧
    ∃ n8 : Int, v.cell? ((elA x7 1 1).add 0) = some (.int .i64 n8) ∧
    ∃ n9 : Int, Wr .i64 (n6 + n8) n9 ∧
    ∃ n10 : Int, Wr .i64 (n9 - 32768) n10 ∧
    ∃ x11 : Sl, v.cell? (a_0.add 0) = some (x11.val) ∧
    ((0 : Int) ≤ 2 ∧ 2 ≤ (x11.n : Int)) ∧
    StoreAt v a_0 0 [(x11.cut 2 (x11.n : Int) 1).val] fun w12 =>
      Q (.int .i64 n10) w12)
theorem of67 (a_0 : Addr) (v : World) (Q : Value → World → Prop) (h : vc67 a_0 v Q) : Trip Try.prog 67 #[.pointer (some (a_0.add 0))] v Q :=
  trip_of_eq (args := [.pt a_0 0]) (A := ⟨[], [], [], [], [7, 11, 14, 17, 21, 24, 25, 26, 30, 31, 32, 38, 39, 40, 43, 44, 45, 46, 48, 56, 57, 58, 69, 70, 77, 78, 79, 80, 81, 82, 83, 84, 87, 88, 89, 91, 92, 93, 94, 95, 100, 103, 104, 105, 106, 107, 109, 111, 114, 115, 116, 118, 120, 121, 122, 123, 124, 125]⟩) Try.func67 (by kernel_rfl) (by kernel_rfl) (by kernel_rfl : vc67 a_0 v Q = _) h

/-- (*impl.byteReader).list -/
def vc68 (a_0 : Addr) (v : World) (Q : Value → World → Prop) : Prop :=
  Trip Try.prog 66 #[.pointer (some (a_0.add 0))] v fun r1 w2 =>
    ∃ n3 : Int, r1 = .int .i64 n3 ∧
    StepT Try.prog (Instr.makeSlice 35 (.int .i64 n3) (.int .i64 n3)) w2 fun r4 w5 =>
      ∃ x6 : Sl, r4 = x6.val ∧
      ∃ I7 : Int → World → Prop, ∃ m8 : Int → World → Nat, I7 0 w5 ∧
      ∀ n9 : Int, ∀ w10 : World, I7 n9 w10 →
      ((decide (n9 < (x6.n : Int))) = true →
        Trip Try.prog 67 #[.pointer (some (a_0.add 0))] w10 fun r11 w12 =>
          ∃ n13 : Int, r11 = .int .i64 n13 ∧
          IxOk x6 n9 ∧
          StoreAt w12 (elA x6 n9 1) 0 [.int .i64 n13] fun w14 =>
            ∃ n15 : Int, Wr .i64 (n9 + 1) n15 ∧
            I7 n15 w14 ∧
            m8 n15 w14 < m8 n9 w10) ∧
      ((decide (n9 < (x6.n : Int))) = false →
        Q (x6.val) w10)
theorem of68 (a_0 : Addr) (v : World) (Q : Value → World → Prop) (h : vc68 a_0 v Q) : Trip Try.prog 68 #[.pointer (some (a_0.add 0))] v Q :=
  trip_of_eq (args := [.pt a_0 0]) (A := ⟨[(3, [(10, .int .i64)], [])], [], [], [], [7, 11, 14, 17, 21, 24, 25, 26, 30, 31, 32, 38, 39, 40, 43, 44, 45, 46, 48, 56, 57, 58, 69, 70, 77, 78, 79, 80, 81, 82, 83, 84, 87, 88, 89, 91, 92, 93, 94, 95, 100, 103, 104, 105, 106, 107, 109, 111, 114, 115, 116, 118, 120, 121, 122, 123, 124, 125]⟩) Try.func68 (by kernel_rfl) (by kernel_rfl) (by kernel_rfl : vc68 a_0 v Q = _) h

/-- laws.heldConS -/
def vc69 (x_0 : Sl) (n_1 : Int) (v : World) (Q : Value → World → Prop) : Prop :=
  ∃ I1 : Int → Int → World → Prop, ∃ m2 : Int → Int → World → Nat, I1 n_1 0 v ∧
  ∀ n3 : Int, ∀ n4 : Int, ∀ w5 : World, I1 n3 n4 w5 →
  ((decide (n4 < (x_0.n : Int))) = true →
    IxOk x_0 n4 ∧
    ∃ x6 : Sl, w5.cell? ((elA x_0 n4 1).add 0) = some (x6.val) ∧
    ∃ n7 : Int, (Trip Try.prog 17 #[x6.val, .int .i64 n3] w5 fun r8 w9 => r8 = .int .i64 n7 ∧ Sub w5 w9) ∧
    ((decide (n7 < 0)) = true →
      Q (.int .i64 (-1)) w5) ∧
    ((decide (n7 < 0)) = false →
      ∃ n10 : Int, Wr .i64 (n4 + 1) n10 ∧
      I1 n7 n10 w5 ∧
      m2 n7 n10 w5 < m2 n3 n4 w5)) ∧
  ((decide (n4 < (x_0.n : Int))) = false →
    Q (.int .i64 n3) w5)
theorem of69 (x_0 : Sl) (n_1 : Int) (v : World) (Q : Value → World → Prop) (h : vc69 x_0 n_1 v Q) : Trip Try.prog 69 #[x_0.val, .int .i64 n_1] v Q :=
  trip_of_eq (args := [.sl x_0, .num .i64 n_1]) (A := ⟨[(2, [(1, .int .i64), (5, .int .i64)], [])], [], [], [], [7, 11, 14, 17, 21, 24, 25, 26, 30, 31, 32, 38, 39, 40, 43, 44, 45, 46, 48, 56, 57, 58, 69, 70, 77, 78, 79, 80, 81, 82, 83, 84, 87, 88, 89, 91, 92, 93, 94, 95, 100, 103, 104, 105, 106, 107, 109, 111, 114, 115, 116, 118, 120, 121, 122, 123, 124, 125]⟩) Try.func69 (by kernel_rfl) (by kernel_rfl) (by kernel_rfl : vc69 x_0 n_1 v Q = _) h

/-- laws.heldInstrS -/
def vc70 (x_0 : Sl) (n_1 : Int) (v : World) (Q : Value → World → Prop) : Prop :=
  ∃ I1 : Int → Int → World → Prop, ∃ m2 : Int → Int → World → Nat, I1 n_1 0 v ∧
  ∀ n3 : Int, ∀ n4 : Int, ∀ w5 : World, I1 n3 n4 w5 →
  ((decide (n4 < (x_0.n : Int))) = true →
    IxOk x_0 n4 ∧
    ∃ n6 : Int, w5.cell? ((elA x_0 n4 6).add 0) = some (.int .i64 n6) ∧
    ((!decide (n6 = n3)) = true →
      Q (.int .i64 (-1)) w5) ∧
    ((!decide (n6 = n3)) = false →
      ∃ n7 : Int, Wr .i64 (n3 + 1) n7 ∧
      IxOk x_0 n4 ∧
      ∃ n8 : Int, w5.cell? ((elA x_0 n4 6).add 1) = some (.int .i64 n8) ∧
      ((!decide (n8 = n7)) = true →
        Q (.int .i64 (-1)) w5) ∧
      ((!decide (n8 = n7)) = false →
        ∃ n9 : Int, Wr .i64 (n7 + 1) n9 ∧
        IxOk x_0 n4 ∧
        ∃ n10 : Int, w5.cell? ((elA x_0 n4 6).add 2) = some (.int .i64 n10) ∧
        ((!decide (n10 = n9)) = true →
          Q (.int .i64 (-1)) w5) ∧
        ((!decide (n10 = n9)) = false →
          ∃ n11 : Int, Wr .i64 (n9 + 1) n11 ∧
          IxOk x_0 n4 ∧
          ∃ n12 : Int, w5.cell? ((elA x_0 n4 6).add 3) = some (.int .i64 n12) ∧
          ((!decide (n12 = n11)) = true →
            Q (.int .i64 (-1)) w5) ∧
          ((!decide (n12 = n11)) = false →
            ∃ n13 : Int, Wr .i64 (n11 + 1) n13 ∧
            IxOk x_0 n4 ∧
            ∃ x14 : Sl, w5.cell? ((elA x_0 n4 6).add 4) = some (x14.val) ∧
            ∃ n15 : Int, (Trip Try.prog 17 #[x14.val, .int .i64 n13] w5 fun r16 w17 => r16 = .int .i64 n15 ∧ Sub w5 w17) ∧
            ((decide (n15 < 0)) = true →
              Q (.int .i64 (-1)) w5) ∧
            ((decide (n15 < 0)) = false →
              IxOk x_0 n4 ∧
              ∃ x18 : Sl, w5.cell? ((elA x_0 n4 6).add 5) = some (x18.val) ∧
              ∃ n19 : Int, (Trip Try.prog 17 #[x18.val, .int .i64 n15] w5 fun r20 w21 => r20 = .int .i64 n19 ∧ Sub w5 w21) ∧
              ((decide (n19 < 0)) = true →
                Q (.int .i64 (-1)) w5) ∧
              ((decide (n19 < 0)) = false →
                ∃ n22 : Int, Wr .i64 (n4 + 1) n22 ∧
                I1 n19 n22 w5 ∧
                m2 n19 n22 w5 < m2 n3 n4 w5))))))) ∧
  ((decide (n4 < (x_0.n : Int))) = false →
    Q (.int .i64 n3) w5)
theorem of70 (x_0 : Sl) (n_1 : Int) (v : World) (Q : Value → World → Prop) (h : vc70 x_0 n_1 v Q) : Trip Try.prog 70 #[x_0.val, .int .i64 n_1] v Q :=
  trip_of_eq (args := [.sl x_0, .num .i64 n_1]) (A := ⟨[(2, [(1, .int .i64), (5, .int .i64)], [])], [], [], [], [7, 11, 14, 17, 21, 24, 25, 26, 30, 31, 32, 38, 39, 40, 43, 44, 45, 46, 48, 56, 57, 58, 69, 70, 77, 78, 79, 80, 81, 82, 83, 84, 87, 88, 89, 91, 92, 93, 94, 95, 100, 103, 104, 105, 106, 107, 109, 111, 114, 115, 116, 118, 120, 121, 122, 123, 124, 125]⟩) Try.func70 (by kernel_rfl) (by kernel_rfl) (by kernel_rfl : vc70 x_0 n_1 v Q = _) h

/-- spec.validTypes -/
def vc80 (x_0 : Sl) (v : World) (Q : Value → World → Prop) : Prop :=
  ((decide ((x_0.n : Int) > 4)) = true →
    Q (.bool false) v) ∧
  ((decide ((x_0.n : Int) > 4)) = false →
    ∃ I1 : Int → World → Prop, ∃ m2 : Int → World → Nat, I1 0 v ∧
    ∀ n3 : Int, ∀ w4 : World, I1 n3 w4 →
    ((decide (n3 < (x_0.n : Int))) = true →
      ∃ q5 : Bool, (Trip Try.prog 105 #[x_0.val, .int .i64 n3] w4 fun r6 w7 => r6 = .bool q5 ∧ Sub w4 w7) ∧
      ((!q5) = true →
        Q (.bool false) w4) ∧
      ((!q5) = false →
        ∃ n8 : Int, Wr .i64 (n3 + 1) n8 ∧
        I1 n8 w4 ∧
        m2 n8 w4 < m2 n3 w4)) ∧
    ((decide (n3 < (x_0.n : Int))) = false →
      Q (.bool true) w4))
theorem of80 (x_0 : Sl) (v : World) (Q : Value → World → Prop) (h : vc80 x_0 v Q) : Trip Try.prog 80 #[x_0.val] v Q :=
  trip_of_eq (args := [.sl x_0]) (A := ⟨[(4, [(3, .int .i64)], [])], [], [], [], [7, 11, 14, 17, 21, 24, 25, 26, 30, 31, 32, 38, 39, 40, 43, 44, 45, 46, 48, 56, 57, 58, 69, 70, 77, 78, 79, 80, 81, 82, 83, 84, 87, 88, 89, 91, 92, 93, 94, 95, 100, 103, 104, 105, 106, 107, 109, 111, 114, 115, 116, 118, 120, 121, 122, 123, 124, 125]⟩) Try.func80 (by kernel_rfl) (by kernel_rfl) (by kernel_rfl : vc80 x_0 v Q = _) h

/-- spec.inRange -/
def vc81 (n_0 : Int) (n_1 : Int) (n_2 : Int) (v : World) (Q : Value → World → Prop) : Prop :=
  Q (.bool ((decide (n_1 ≤ n_0)) && (decide (n_0 ≤ n_2)))) v
theorem of81 (n_0 : Int) (n_1 : Int) (n_2 : Int) (v : World) (Q : Value → World → Prop) (h : vc81 n_0 n_1 n_2 v Q) : Trip Try.prog 81 #[.int .i64 n_0, .int .i64 n_1, .int .i64 n_2] v Q :=
  trip_of_eq (args := [.num .i64 n_0, .num .i64 n_1, .num .i64 n_2]) (A := ⟨[], [], [], [], [7, 11, 14, 17, 21, 24, 25, 26, 30, 31, 32, 38, 39, 40, 43, 44, 45, 46, 48, 56, 57, 58, 69, 70, 77, 78, 79, 80, 81, 82, 83, 84, 87, 88, 89, 91, 92, 93, 94, 95, 100, 103, 104, 105, 106, 107, 109, 111, 114, 115, 116, 118, 120, 121, 122, 123, 124, 125]⟩) Try.func81 (by kernel_rfl) (by kernel_rfl) (by kernel_rfl : vc81 n_0 n_1 n_2 v Q = _) h

/-- spec.allTypes -/
def vc82 (x_0 : Sl) (x_1 : Sl) (v : World) (Q : Value → World → Prop) : Prop :=
  ∃ I1 : Int → World → Prop, ∃ m2 : Int → World → Nat, I1 0 v ∧
  ∀ n3 : Int, ∀ w4 : World, I1 n3 w4 →
  ((decide (n3 < (x_1.n : Int))) = true →
    IxOk x_1 n3 ∧
    ∃ n5 : Int, w4.cell? ((elA x_1 n3 1).add 0) = some (.int .i64 n5) ∧
    ∃ q6 : Bool, (Trip Try.prog 81 #[.int .i64 n5, .int .i64 0, .int .i64 (x_0.n : Int)] w4 fun r7 w8 => r7 = .bool q6 ∧ Sub w4 w8) ∧
    ((!q6) = true →
      Q (.bool false) w4) ∧
    ((!q6) = false →
      ∃ n9 : Int, Wr .i64 (n3 + 1) n9 ∧
      I1 n9 w4 ∧
      m2 n9 w4 < m2 n3 w4)) ∧
  ((decide (n3 < (x_1.n : Int))) = false →
    Q (.bool true) w4)
theorem of82 (x_0 : Sl) (x_1 : Sl) (v : World) (Q : Value → World → Prop) (h : vc82 x_0 x_1 v Q) : Trip Try.prog 82 #[x_0.val, x_1.val] v Q :=
  trip_of_eq (args := [.sl x_0, .sl x_1]) (A := ⟨[(2, [(5, .int .i64)], [])], [], [], [], [7, 11, 14, 17, 21, 24, 25, 26, 30, 31, 32, 38, 39, 40, 43, 44, 45, 46, 48, 56, 57, 58, 69, 70, 77, 78, 79, 80, 81, 82, 83, 84, 87, 88, 89, 91, 92, 93, 94, 95, 100, 103, 104, 105, 106, 107, 109, 111, 114, 115, 116, 118, 120, 121, 122, 123, 124, 125]⟩) Try.func82 (by kernel_rfl) (by kernel_rfl) (by kernel_rfl : vc82 x_0 x_1 v Q = _) h

/-- spec.validLent -/
def vc83 (x_0 : Sl) (x_1 : Sl) (v : World) (Q : Value → World → Prop) : Prop :=
  ∃ I1 : Int → World → Prop, ∃ m2 : Int → World → Nat, I1 0 v ∧
  ∀ n3 : Int, ∀ w4 : World, I1 n3 w4 →
  ((decide (n3 < (x_1.n : Int))) = true →
    IxOk x_1 n3 ∧
    ∃ n5 : Int, w4.cell? ((elA x_1 n3 1).add 0) = some (.int .i64 n5) ∧
    ∃ n6 : Int, Wr .i64 ((x_0.n : Int) - 1) n6 ∧
    ∃ q7 : Bool, (Trip Try.prog 81 #[.int .i64 n5, .int .i64 0, .int .i64 n6] w4 fun r8 w9 => r8 = .bool q7 ∧ Sub w4 w9) ∧
    ((!q7) = false →
      IxOk x_1 n3) ∧
    ∃ n10 : Int, ((!q7) = false →
      w4.cell? ((elA x_1 n3 1).add 0) = some (.int .i64 n10)) ∧
    ((!q7) = false →
      IxOk x_0 n10) ∧
    ∃ n11 : Int, ((!q7) = false →
      w4.cell? ((elA x_0 n10 1).add 0) = some (.int .i64 n11)) ∧
    ((decide (n3 > 0)) = true →
      ((!q7) || (decide (n11 = 0))) = false →
      IxOk x_1 n3) ∧
    ∃ n12 : Int, ((decide (n3 > 0)) = true →
      ((!q7) || (decide (n11 = 0))) = false →
      w4.cell? ((elA x_1 n3 1).add 0) = some (.int .i64 n12)) ∧
    ∃ n13 : Int, ((decide (n3 > 0)) = true →
      ((!q7) || (decide (n11 = 0))) = false →
      Wr .i64 (n3 - 1) n13) ∧
    ((decide (n3 > 0)) = true →
      ((!q7) || (decide (n11 = 0))) = false →
      IxOk x_1 n13) ∧
    ∃ n14 : Int, ((decide (n3 > 0)) = true →
      ((!q7) || (decide (n11 = 0))) = false →
      w4.cell? ((elA x_1 n13 1).add 0) = some (.int .i64 n14)) ∧
    ((((!q7) || (decide (n11 = 0))) || ((decide (n3 > 0)) && (decide (n12 ≤ n14)))) = true →
      Q (.bool false) w4) ∧
    ((((!q7) || (decide (n11 = 0))) || ((decide (n3 > 0)) && (decide (n12 ≤ n14)))) = false →
      ∃ n15 : Int, Wr .i64 (n3 + 1) n15 ∧
      I1 n15 w4 ∧
      m2 n15 w4 < m2 n3 w4)) ∧
  ((decide (n3 < (x_1.n : Int))) = false →
    Q (.bool true) w4)
theorem of83 (x_0 : Sl) (x_1 : Sl) (v : World) (Q : Value → World → Prop) (h : vc83 x_0 x_1 v Q) : Trip Try.prog 83 #[x_0.val, x_1.val] v Q :=
  trip_of_eq (args := [.sl x_0, .sl x_1]) (A := ⟨[(2, [(5, .int .i64)], [])], [], [], [], [7, 11, 14, 17, 21, 24, 25, 26, 30, 31, 32, 38, 39, 40, 43, 44, 45, 46, 48, 56, 57, 58, 69, 70, 77, 78, 79, 80, 81, 82, 83, 84, 87, 88, 89, 91, 92, 93, 94, 95, 100, 103, 104, 105, 106, 107, 109, 111, 114, 115, 116, 118, 120, 121, 122, 123, 124, 125]⟩) Try.func83 (by kernel_rfl) (by kernel_rfl) (by kernel_rfl : vc83 x_0 x_1 v Q = _) h

/-- spec.validInstr -/
def vc84 (x0_0 : Sl) (x0_1 : Sl) (x1_0 : Sl) (x1_1 : Sl) (n1_2 : Int) (n1_3 : Int) (x1_4 : Sl) (n_2 : Int) (v : World) (Q : Value → World → Prop) : Prop :=
  IxOk x1_4 n_2 ∧
  ∃ n1 : Int, ∃ n2 : Int, ∃ n3 : Int, ∃ n4 : Int, ∃ x5 : Sl, ∃ x6 : Sl, (v.cell? ((elA x1_4 n_2 6).add 0) = some (.int .i64 n1) ∧
    v.cell? ((elA x1_4 n_2 6).add 1) = some (.int .i64 n2) ∧
    v.cell? ((elA x1_4 n_2 6).add 2) = some (.int .i64 n3) ∧
    v.cell? ((elA x1_4 n_2 6).add 3) = some (.int .i64 n4) ∧
    v.cell? ((elA x1_4 n_2 6).add 4) = some (x5.val) ∧
    v.cell? ((elA x1_4 n_2 6).add 5) = some (x6.val)) ∧
  ∃ I7 : Int → World → Prop, ∃ m8 : Int → World → Nat, I7 0 v ∧
  ∀ n9 : Int, ∀ w10 : World, I7 n9 w10 →
  ((decide (n9 < (x5.n : Int))) = true →
    IxOk x5 n9 ∧
    ∃ n11 : Int, w10.cell? ((elA x5 n9 1).add 0) = some (.int .i64 n11) ∧
    ∃ n12 : Int, Wr .i64 (n1_3 - 1) n12 ∧
    ∃ q13 : Bool, (Trip Try.prog 81 #[.int .i64 n11, .int .i64 0, .int .i64 n12] w10 fun r14 w15 => r14 = .bool q13 ∧ Sub w10 w15) ∧
    ((!q13) = true →
      Q (.bool false) w10) ∧
    ((!q13) = false →
      ∃ n16 : Int, Wr .i64 (n9 + 1) n16 ∧
      ((.sl x0_0 : SV) = .sl x0_0) ∧
      ((.sl x0_1 : SV) = .sl x0_1) ∧
      ((.sl x1_0 : SV) = .sl x1_0) ∧
      ((.sl x1_1 : SV) = .sl x1_1) ∧
      ((.num .i64 n1_2 : SV) = .num .i64 n1_2) ∧
      ((.num .i64 n1_3 : SV) = .num .i64 n1_3) ∧
      ((.sl x1_4 : SV) = .sl x1_4) ∧
      ((.num .i64 n1 : SV) = .num .i64 n1) ∧
      ((.num .i64 n2 : SV) = .num .i64 n2) ∧
      ((.num .i64 n3 : SV) = .num .i64 n3) ∧
      ((.num .i64 n4 : SV) = .num .i64 n4) ∧
      ((.sl x5 : SV) = .sl x5) ∧
      ((.sl x6 : SV) = .sl x6) ∧
      I7 n16 w10 ∧
      m8 n16 w10 < m8 n9 w10)) ∧
  ((decide (n9 < (x5.n : Int))) = false →
    ∃ n17 : Int, Wr .i64 (n1_3 - 1) n17 ∧
    ∃ q18 : Bool, (Trip Try.prog 81 #[.int .i64 n2, .int .i64 0, .int .i64 n17] w10 fun r19 w20 => r19 = .bool q18 ∧ Sub w10 w20) ∧
    ∃ q21 : Bool, ((!decide (n2 = 0)) = true →
      (!q18) = false →
      (Trip Try.prog 106 #[.int .i64 n1] w10 fun r22 w23 => r22 = .bool q21 ∧ Sub w10 w23)) ∧
    (((((!q18) || ((!decide (n2 = 0)) && (!q21))) || ((!decide (n4 = 0)) && (!decide (n1 = 6)))) || ((!decide (n1 = 21)) && (decide ((x6.n : Int) > 0)))) = true →
      Q (.bool false) w10) ∧
    (((((!q18) || ((!decide (n2 = 0)) && (!q21))) || ((!decide (n4 = 0)) && (!decide (n1 = 6)))) || ((!decide (n1 = 21)) && (decide ((x6.n : Int) > 0)))) = false →
      ((decide (n1 = 0)) = true →
        ∃ q24 : Bool, ((decide ((x5.n : Int) = 0)) = true →
          (Trip Try.prog 81 #[.int .i64 n3, .int .i64 (-999), .int .i64 999] w10 fun r25 w26 => r25 = .bool q24 ∧ Sub w10 w26)) ∧
        Q (.bool ((decide ((x5.n : Int) = 0)) && q24)) w10) ∧
      ((decide (n1 = 0)) = false →
        ((decide (n1 = 1)) = true →
          Q (.bool ((decide ((x5.n : Int) = 2)) && (decide (n3 = 0)))) w10) ∧
        ((decide (n1 = 1)) = false →
          ((decide (n1 = 2)) = true →
            Q (.bool ((decide ((x5.n : Int) = 2)) && (decide (n3 = 0)))) w10) ∧
          ((decide (n1 = 2)) = false →
            ((decide (n1 = 3)) = true →
              Q (.bool ((decide ((x5.n : Int) = 2)) && (decide (n3 = 0)))) w10) ∧
            ((decide (n1 = 3)) = false →
              ((decide (n1 = 4)) = true →
                Q (.bool ((decide ((x5.n : Int) = 2)) && (decide (n3 = 0)))) w10) ∧
              ((decide (n1 = 4)) = false →
                ((decide (n1 = 11)) = true →
                  Q (.bool ((decide ((x5.n : Int) = 2)) && (decide (n3 = 0)))) w10) ∧
                ((decide (n1 = 11)) = false →
                  ((decide (n1 = 5)) = true →
                    Q (.bool ((decide ((x5.n : Int) = 1)) && (decide (n3 = 0)))) w10) ∧
                  ((decide (n1 = 5)) = false →
                    ((decide (n1 = 14)) = true →
                      Q (.bool ((decide ((x5.n : Int) = 1)) && (decide (n3 = 0)))) w10) ∧
                    ((decide (n1 = 14)) = false →
                      ((decide (n1 = 15)) = true →
                        Q (.bool ((decide ((x5.n : Int) = 1)) && (decide (n3 = 0)))) w10) ∧
                      ((decide (n1 = 15)) = false →
                        ((decide (n1 = 18)) = true →
                          Q (.bool ((decide ((x5.n : Int) = 1)) && (decide (n3 = 0)))) w10) ∧
                        ((decide (n1 = 18)) = false →
                          ((decide (n1 = 23)) = true →
                            Q (.bool ((decide ((x5.n : Int) = 1)) && (decide (n3 = 0)))) w10) ∧
                          ((decide (n1 = 23)) = false →
                            ((decide (n1 = 6)) = true →
                              ∃ n27 : Int, (Trip Try.prog 107 #[x0_0.val, .int .i64 n3] w10 fun r28 w29 => r28 = .int .i64 n27 ∧ Sub w10 w29) ∧
                              ((decide (n27 > 0)) = true →
                                Trip Try.prog 108 #[x0_0.val, .int .i64 n3] w10 fun r30 w31 =>
                                  ∃ x32 : Sl, r30 = x32.val ∧
                                  ∃ q33 : Bool, ((decide ((x5.n : Int) = (x32.n : Int))) = true →
                                    (Trip Try.prog 81 #[.int .i64 n4, .int .i64 0, .int .i64 n1_3] w31 fun r34 w35 => r34 = .bool q33 ∧ Sub w31 w35)) ∧
                                  Q (.bool ((decide ((x5.n : Int) = (x32.n : Int))) && q33)) w31) ∧
                              ((decide (n27 > 0)) = false →
                                Q (.bool false) w10)) ∧
                            ((decide (n1 = 6)) = false →
                              ((decide (n1 = 9)) = true →
                                ∃ q36 : Bool, (Trip Try.prog 109 #[.agg #[x0_0.val, x0_1.val], .int .i64 n3, .int .i64 (x5.n : Int), .int .i64 0] w10 fun r37 w38 => r37 = .bool q36 ∧ Sub w10 w38) ∧
                                Q (.bool q36) w10) ∧
                              ((decide (n1 = 9)) = false →
                                ((decide (n1 = 24)) = true →
                                  ∃ q39 : Bool, (Trip Try.prog 109 #[.agg #[x0_0.val, x0_1.val], .int .i64 n3, .int .i64 (x5.n : Int), .int .i64 0] w10 fun r40 w41 => r40 = .bool q39 ∧ Sub w10 w41) ∧
                                  Q (.bool q39) w10) ∧
                                ((decide (n1 = 24)) = false →
                                  ((decide (n1 = 10)) = true →
                                    ∃ q42 : Bool, (Trip Try.prog 109 #[.agg #[x0_0.val, x0_1.val], .int .i64 n3, .int .i64 (x5.n : Int), .int .i64 1] w10 fun r43 w44 => r43 = .bool q42 ∧ Sub w10 w44) ∧
                                    (q42 = true →
                                      IxOk x0_1 n3) ∧
                                    ∃ x45 : Sl, (q42 = true →
                                      w10.cell? ((elA x0_1 n3 5).add 1) = some (x45.val)) ∧
                                    Q (.bool (q42 && (decide ((x45.n : Int) = 0)))) w10) ∧
                                  ((decide (n1 = 10)) = false →
                                    ((decide (n1 = 16)) = true →
                                      ∃ q46 : Bool, (Trip Try.prog 81 #[.int .i64 (x5.n : Int), .int .i64 1, .int .i64 4] w10 fun r47 w48 => r47 = .bool q46 ∧ Sub w10 w48) ∧
                                      Q (.bool (q46 && (decide (n3 = 0)))) w10) ∧
                                    ((decide (n1 = 16)) = false →
                                      ((decide (n1 = 17)) = true →
                                        ∃ q49 : Bool, (Trip Try.prog 81 #[.int .i64 (x5.n : Int), .int .i64 1, .int .i64 4] w10 fun r50 w51 => r50 = .bool q49 ∧ Sub w10 w51) ∧
                                        Q (.bool (q49 && (decide (n3 = 0)))) w10) ∧
                                      ((decide (n1 = 17)) = false →
                                        ((decide (n1 = 19)) = true →
                                          ∃ q52 : Bool, ((decide ((x5.n : Int) = 1)) = true →
                                            (Trip Try.prog 81 #[.int .i64 n3, .int .i64 0, .int .i64 2] w10 fun r53 w54 => r53 = .bool q52 ∧ Sub w10 w54)) ∧
                                          Q (.bool ((decide ((x5.n : Int) = 1)) && q52)) w10) ∧
                                        ((decide (n1 = 19)) = false →
                                          ((decide (n1 = 20)) = true →
                                            ∃ n55 : Int, ((decide ((x5.n : Int) = 1)) = true →
                                              Wr .i64 (n_2 + 1) n55) ∧
                                            ∃ n56 : Int, ((decide ((x5.n : Int) = 1)) = true →
                                              Wr .i64 ((x1_4.n : Int) - 1) n56) ∧
                                            ∃ q57 : Bool, ((decide ((x5.n : Int) = 1)) = true →
                                              (Trip Try.prog 81 #[.int .i64 n3, .int .i64 n55, .int .i64 n56] w10 fun r58 w59 => r58 = .bool q57 ∧ Sub w10 w59)) ∧
                                            Q (.bool ((decide ((x5.n : Int) = 1)) && q57)) w10) ∧
                                          ((decide (n1 = 20)) = false →
                                            ((decide (n1 = 22)) = true →
                                              ∃ n60 : Int, ((decide ((x5.n : Int) = 0)) = true →
                                                Wr .i64 (n_2 + 1) n60) ∧
                                              ∃ n61 : Int, ((decide ((x5.n : Int) = 0)) = true →
                                                Wr .i64 ((x1_4.n : Int) - 1) n61) ∧
                                              ∃ q62 : Bool, ((decide ((x5.n : Int) = 0)) = true →
                                                (Trip Try.prog 81 #[.int .i64 n3, .int .i64 n60, .int .i64 n61] w10 fun r63 w64 => r63 = .bool q62 ∧ Sub w10 w64)) ∧
                                              Q (.bool ((decide ((x5.n : Int) = 0)) && q62)) w10) ∧
                                            ((decide (n1 = 22)) = false →
                                              ((decide (n1 = 21)) = true →
                                                Trip Try.prog 110 #[x0_0.val, .int .i64 n3] w10 fun r65 w66 =>
                                                  ∃ x67 : Sl, r65 = x67.val ∧
                                                  ∃ q68 : Bool, (((decide ((x5.n : Int) = 1)) && (decide ((x67.n : Int) > 0))) = true →
                                                    (Trip Try.prog 111 #[x6.val, .int .i64 (x67.n : Int), .int .i64 n_2, .int .i64 (x1_4.n : Int)] w66 fun r69 w70 => r69 = .bool q68 ∧ Sub w66 w70)) ∧
                                                  Q (.bool (((decide ((x5.n : Int) = 1)) && (decide ((x67.n : Int) > 0))) && q68)) w66) ∧
                                              ((decide (n1 = 21)) = false →
                                                Q (.bool false) w10)))))))))))))))))))))))
theorem of84 (x0_0 : Sl) (x0_1 : Sl) (x1_0 : Sl) (x1_1 : Sl) (n1_2 : Int) (n1_3 : Int) (x1_4 : Sl) (n_2 : Int) (v : World) (Q : Value → World → Prop) (h : vc84 x0_0 x0_1 x1_0 x1_1 n1_2 n1_3 x1_4 n_2 v Q) : Trip Try.prog 84 #[.agg #[x0_0.val, x0_1.val], .agg #[x1_0.val, x1_1.val, .int .i64 n1_2, .int .i64 n1_3, x1_4.val], .int .i64 n_2] v Q :=
  trip_of_eq (args := [.ag [.sl x0_0, .sl x0_1], .ag [.sl x1_0, .sl x1_1, .num .i64 n1_2, .num .i64 n1_3, .sl x1_4], .num .i64 n_2]) (A := ⟨[(4, [(9, .int .i64)], [])], [], [], [999999], [7, 11, 14, 17, 21, 24, 25, 26, 30, 31, 32, 38, 39, 40, 43, 44, 45, 46, 48, 56, 57, 58, 69, 70, 77, 78, 79, 80, 81, 82, 83, 84, 87, 88, 89, 91, 92, 93, 94, 95, 100, 103, 104, 105, 106, 107, 109, 111, 114, 115, 116, 118, 120, 121, 122, 123, 124, 125]⟩) Try.func84 (by kernel_rfl) (by kernel_rfl) (by kernel_rfl : vc84 x0_0 x0_1 x1_0 x1_1 n1_2 n1_3 x1_4 n_2 v Q = _) h

/-- impl.validSigs -/
def vc87 (x_0 : Sl) (x_1 : Sl) (v : World) (Q : Value → World → Prop) : Prop :=
  ∃ q1 : Bool, (Trip Try.prog 114 #[x_0.val] v fun r2 w3 => r2 = .bool q1 ∧ Sub v w3) ∧
  ((((!q1) || (decide ((x_1.n : Int) < 1))) || (decide ((x_1.n : Int) > 4))) = false →
    IxOk x_1 0) ∧
  ∃ x4 : Sl, ((((!q1) || (decide ((x_1.n : Int) < 1))) || (decide ((x_1.n : Int) > 4))) = false →
    v.cell? ((elA x_1 0 3).add 0) = some (x4.val)) ∧
  (((((!q1) || (decide ((x_1.n : Int) < 1))) || (decide ((x_1.n : Int) > 4))) || (decide ((x4.n : Int) > 0))) = false →
    IxOk x_1 0) ∧
  ∃ n5 : Int, (((((!q1) || (decide ((x_1.n : Int) < 1))) || (decide ((x_1.n : Int) > 4))) || (decide ((x4.n : Int) > 0))) = false →
    v.cell? ((elA x_1 0 3).add 2) = some (.int .i64 n5)) ∧
  ((((((!q1) || (decide ((x_1.n : Int) < 1))) || (decide ((x_1.n : Int) > 4))) || (decide ((x4.n : Int) > 0))) || (!decide (n5 = 0))) = true →
    Q (.bool false) v) ∧
  ((((((!q1) || (decide ((x_1.n : Int) < 1))) || (decide ((x_1.n : Int) > 4))) || (decide ((x4.n : Int) > 0))) || (!decide (n5 = 0))) = false →
    ∃ I6 : Int → World → Prop, ∃ m7 : Int → World → Nat, I6 0 v ∧
    ∀ n8 : Int, ∀ w9 : World, I6 n8 w9 →
    ((decide (n8 < (x_1.n : Int))) = true →
      IxOk x_1 n8 ∧
      ∃ x10 : Sl, ∃ x11 : Sl, ∃ n12 : Int, (w9.cell? ((elA x_1 n8 3).add 0) = some (x10.val) ∧
        w9.cell? ((elA x_1 n8 3).add 1) = some (x11.val) ∧
        w9.cell? ((elA x_1 n8 3).add 2) = some (.int .i64 n12)) ∧
      ∃ q13 : Bool, ((decide ((x10.n : Int) > 3)) = false →
        (Trip Try.prog 115 #[x_0.val, x10.val] w9 fun r14 w15 => r14 = .bool q13 ∧ Sub w9 w15)) ∧
      ∃ q16 : Bool, (((decide ((x10.n : Int) > 3)) || (!q13)) = false →
        (Trip Try.prog 116 #[x_0.val, .int .i64 n12] w9 fun r17 w18 => r17 = .bool q16 ∧ Sub w9 w18)) ∧
      ((((decide ((x10.n : Int) > 3)) || (!q13)) || (!q16)) = true →
        Q (.bool false) w9) ∧
      ((((decide ((x10.n : Int) > 3)) || (!q13)) || (!q16)) = false →
        ∃ I19 : Int → World → Prop, ∃ m20 : Int → World → Nat, I19 0 w9 ∧
        ∀ n21 : Int, ∀ w22 : World, I19 n21 w22 →
        ((decide (n21 < (x11.n : Int))) = true →
          IxOk x11 n21 ∧
          ∃ n23 : Int, w22.cell? ((elA x11 n21 1).add 0) = some (.int .i64 n23) ∧
          (((decide (n23 < 0)) || (decide (n23 ≥ (x10.n : Int)))) = false →
            IxOk x10 n23) ∧
          ∃ n24 : Int, (((decide (n23 < 0)) || (decide (n23 ≥ (x10.n : Int)))) = false →
            w22.cell? ((elA x10 n23 1).add 0) = some (.int .i64 n24)) ∧
          ∃ n25 : Int, ((decide (n21 > 0)) = true →
            (((decide (n23 < 0)) || (decide (n23 ≥ (x10.n : Int)))) || (decide (n24 = 0))) = false →
            Wr .i64 (n21 - 1) n25) ∧
          ((decide (n21 > 0)) = true →
            (((decide (n23 < 0)) || (decide (n23 ≥ (x10.n : Int)))) || (decide (n24 = 0))) = false →
            IxOk x11 n25) ∧
          ∃ n26 : Int, ((decide (n21 > 0)) = true →
            (((decide (n23 < 0)) || (decide (n23 ≥ (x10.n : Int)))) || (decide (n24 = 0))) = false →
            w22.cell? ((elA x11 n25 1).add 0) = some (.int .i64 n26)) ∧
          (((((decide (n23 < 0)) || (decide (n23 ≥ (x10.n : Int)))) || (decide (n24 = 0))) || ((decide (n21 > 0)) && (decide (n23 ≤ n26)))) = true →
            Q (.bool false) w22) ∧
          (((((decide (n23 < 0)) || (decide (n23 ≥ (x10.n : Int)))) || (decide (n24 = 0))) || ((decide (n21 > 0)) && (decide (n23 ≤ n26)))) = false →
            ∃ n27 : Int, Wr .i64 (n21 + 1) n27 ∧
            ((.sl x10 : SV) = .sl x10) ∧
            ((.sl x11 : SV) = .sl x11) ∧
            ((.num .i64 n12 : SV) = .num .i64 n12) ∧
            I19 n27 w22 ∧
            m20 n27 w22 < m20 n21 w22)) ∧
        ((decide (n21 < (x11.n : Int))) = false →
          ∃ n28 : Int, Wr .i64 (n8 + 1) n28 ∧
          I6 n28 w22 ∧
          m7 n28 w22 < m7 n8 w9))) ∧
    ((decide (n8 < (x_1.n : Int))) = false →
      Q (.bool true) w9))
theorem of87 (x_0 : Sl) (x_1 : Sl) (v : World) (Q : Value → World → Prop) (h : vc87 x_0 x_1 v Q) : Trip Try.prog 87 #[x_0.val, x_1.val] v Q :=
  trip_of_eq (args := [.sl x_0, .sl x_1]) (A := ⟨[(4, [(39, .int .i64)], []), (9, [(64, .int .i64)], [])], [], [], [], [7, 11, 14, 17, 21, 24, 25, 26, 30, 31, 32, 38, 39, 40, 43, 44, 45, 46, 48, 56, 57, 58, 69, 70, 77, 78, 79, 80, 81, 82, 83, 84, 87, 88, 89, 91, 92, 93, 94, 95, 100, 103, 104, 105, 106, 107, 109, 111, 114, 115, 116, 118, 120, 121, 122, 123, 124, 125]⟩) Try.func87 (by kernel_rfl) (by kernel_rfl) (by kernel_rfl : vc87 x_0 x_1 v Q = _) h

/-- impl.setsRegister -/
def vc88 (n_0 : Int) (v : World) (Q : Value → World → Prop) : Prop :=
  Q (.bool ((((decide (n_0 ≥ 0)) && (decide (n_0 ≤ 11))) || (decide (n_0 = 18))) || (decide (n_0 = 19)))) v
theorem of88 (n_0 : Int) (v : World) (Q : Value → World → Prop) (h : vc88 n_0 v Q) : Trip Try.prog 88 #[.int .i64 n_0] v Q :=
  trip_of_eq (args := [.num .i64 n_0]) (A := ⟨[], [], [], [], [7, 11, 14, 17, 21, 24, 25, 26, 30, 31, 32, 38, 39, 40, 43, 44, 45, 46, 48, 56, 57, 58, 69, 70, 77, 78, 79, 80, 81, 82, 83, 84, 87, 88, 89, 91, 92, 93, 94, 95, 100, 103, 104, 105, 106, 107, 109, 111, 114, 115, 116, 118, 120, 121, 122, 123, 124, 125]⟩) Try.func88 (by kernel_rfl) (by kernel_rfl) (by kernel_rfl : vc88 n_0 v Q = _) h

/-- (impl.signatures).instrValid$1 -/
def vc89 (n_0 : Int) (c_0 : Addr) (c_1 : Addr) (v : World) (Q : Value → World → Prop) : Prop :=
  ∃ n1 : Int, v.cell? (c_0.add 0) = some (.int .i64 n1) ∧
  ∃ x2 : Sl, ((decide (n_0 > n1)) = true →
    v.cell? (c_1.add 4) = some (x2.val)) ∧
  Q (.bool ((decide (n_0 > n1)) && (decide (n_0 < (x2.n : Int))))) v
theorem of89 (n_0 : Int) (c_0 : Addr) (c_1 : Addr) (v : World) (Q : Value → World → Prop) (h : vc89 n_0 c_0 c_1 v Q) : Trip Try.prog 89 #[.int .i64 n_0, .pointer (some (c_0.add 0)), .pointer (some (c_1.add 0))] v Q :=
  trip_of_eq (args := [.num .i64 n_0, .pt c_0 0, .pt c_1 0]) (A := ⟨[], [], [], [], [7, 11, 14, 17, 21, 24, 25, 26, 30, 31, 32, 38, 39, 40, 43, 44, 45, 46, 48, 56, 57, 58, 69, 70, 77, 78, 79, 80, 81, 82, 83, 84, 87, 88, 89, 91, 92, 93, 94, 95, 100, 103, 104, 105, 106, 107, 109, 111, 114, 115, 116, 118, 120, 121, 122, 123, 124, 125]⟩) Try.func89 (by kernel_rfl) (by kernel_rfl) (by kernel_rfl : vc89 n_0 c_0 c_1 v Q = _) h

/-- slices.ContainsFunc[[]int,int] -/
def vc90 (x_0 : Sl) (f_1 : Nat) (k1_0 : Addr) (v : World) (Q : Value → World → Prop) : Prop :=
  Trip Try.prog 117 #[x_0.val, .func (.func f_1) #[] #[.pointer (some (k1_0.add 0))]] v fun r1 w2 =>
    ∃ n3 : Int, r1 = .int .i64 n3 ∧
    Q (.bool (decide (n3 ≥ 0))) w2
theorem of90 (x_0 : Sl) (f_1 : Nat) (k1_0 : Addr) (v : World) (Q : Value → World → Prop) (h : vc90 x_0 f_1 k1_0 v Q) : Trip Try.prog 90 #[x_0.val, .func (.func f_1) #[] #[.pointer (some (k1_0.add 0))]] v Q :=
  trip_of_eq (args := [.sl x_0, .clo f_1 [.pt k1_0 0]]) (A := ⟨[], [], [], [], [7, 11, 14, 17, 21, 24, 25, 26, 30, 31, 32, 38, 39, 40, 43, 44, 45, 46, 48, 56, 57, 58, 69, 70, 77, 78, 79, 80, 81, 82, 83, 84, 87, 88, 89, 91, 92, 93, 94, 95, 100, 103, 104, 105, 106, 107, 109, 111, 114, 115, 116, 118, 120, 121, 122, 123, 124, 125]⟩) Try.func90 (by kernel_rfl) (by kernel_rfl) (by kernel_rfl : vc90 x_0 f_1 k1_0 v Q = _) h

/-- (impl.signatures).instrValid$2 -/
def vc91 (n_0 : Int) (c_0 : Addr) (v : World) (Q : Value → World → Prop) : Prop :=
  ∃ y1 : Vl, v.cell? (c_0.add 0) = some (y1.x) ∧
  ∃ g4 : Nat, ∃ cs5 : List Value, y1.x = .func (.func g4) #[] cs5.toArray ∧
  Trip Try.prog g4 (([.int .i64 n_0] : List Value) ++ cs5).toArray v fun r2 w3 =>
    ∃ q6 : Bool, r2 = .bool q6 ∧
    Q (.bool (!q6)) w3
theorem of91 (n_0 : Int) (c_0 : Addr) (v : World) (Q : Value → World → Prop) (h : vc91 n_0 c_0 v Q) : Trip Try.prog 91 #[.int .i64 n_0, .pointer (some (c_0.add 0))] v Q :=
  trip_of_eq (args := [.num .i64 n_0, .pt c_0 0]) (A := ⟨[], [], [], [], [7, 11, 14, 17, 21, 24, 25, 26, 30, 31, 32, 38, 39, 40, 43, 44, 45, 46, 48, 56, 57, 58, 69, 70, 77, 78, 79, 80, 81, 82, 83, 84, 87, 88, 89, 91, 92, 93, 94, 95, 100, 103, 104, 105, 106, 107, 109, 111, 114, 115, 116, 118, 120, 121, 122, 123, 124, 125]⟩) Try.func91 (by kernel_rfl) (by kernel_rfl) (by kernel_rfl : vc91 n_0 c_0 v Q = _) h

/-- (impl.signatures).numValid -/
def vc92 (x0_0 : Sl) (x0_1 : Sl) (n1_0 : Int) (n1_1 : Int) (n1_2 : Int) (n1_3 : Int) (x1_4 : Sl) (x1_5 : Sl) (f_2 : Nat) (k2_0 : Addr) (k2_1 : Addr) (v : World) (Q : Value → World → Prop) : Prop :=
  ((decide (n1_0 = 0)) = true →
    Q (.bool ((decide (n1_2 ≥ (-999))) && (decide (n1_2 ≤ 999)))) v) ∧
  ((decide (n1_0 = 0)) = false →
    ((decide (n1_0 = 6)) = true →
      ∃ n1 : Int, ((decide (n1_2 ≥ 0)) = true →
        (Trip Try.prog 118 #[x0_0.val] v fun r2 w3 => r2 = .int .i64 n1 ∧ Sub v w3)) ∧
      Q (.bool ((decide (n1_2 ≥ 0)) && (decide (n1_2 < n1)))) v) ∧
    ((decide (n1_0 = 6)) = false →
      ((decide (n1_0 = 9)) = true →
        Q (.bool ((decide (n1_2 ≥ 0)) && (decide (n1_2 < (x0_1.n : Int))))) v) ∧
      ((decide (n1_0 = 9)) = false →
        ((decide (n1_0 = 24)) = true →
          Q (.bool ((decide (n1_2 ≥ 0)) && (decide (n1_2 < (x0_1.n : Int))))) v) ∧
        ((decide (n1_0 = 24)) = false →
          ((decide (n1_0 = 10)) = true →
            (((decide (n1_2 ≥ 0)) && (decide (n1_2 < (x0_1.n : Int)))) = true →
              IxOk x0_1 n1_2) ∧
            ∃ x4 : Sl, (((decide (n1_2 ≥ 0)) && (decide (n1_2 < (x0_1.n : Int)))) = true →
              v.cell? ((elA x0_1 n1_2 3).add 1) = some (x4.val)) ∧
            Q (.bool (((decide (n1_2 ≥ 0)) && (decide (n1_2 < (x0_1.n : Int)))) && (decide ((x4.n : Int) = 0)))) v) ∧
          ((decide (n1_0 = 10)) = false →
            ((decide (n1_0 = 19)) = true →
              Q (.bool ((decide (n1_2 ≥ 0)) && (decide (n1_2 < 3)))) v) ∧
            ((decide (n1_0 = 19)) = false →
              ((decide (n1_0 = 20)) = true →
                Trip Try.prog f_2 #[.int .i64 n1_2, .pointer (some (k2_0.add 0)), .pointer (some (k2_1.add 0))] v fun r5 w6 =>
                  ∃ q7 : Bool, r5 = .bool q7 ∧
                  Q (.bool q7) w6) ∧
              ((decide (n1_0 = 20)) = false →
                ((decide (n1_0 = 22)) = true →
                  Trip Try.prog f_2 #[.int .i64 n1_2, .pointer (some (k2_0.add 0)), .pointer (some (k2_1.add 0))] v fun r8 w9 =>
                    ∃ q10 : Bool, r8 = .bool q10 ∧
                    Q (.bool q10) w9) ∧
                ((decide (n1_0 = 22)) = false →
                  ((decide (n1_0 = 21)) = true →
                    Trip Try.prog 119 #[x0_0.val, .int .i64 n1_2] v fun r11 w12 =>
                      ∃ x13 : Sl, r11 = x13.val ∧
                      Q (.bool ((decide ((x13.n : Int) > 0)) && (decide ((x1_5.n : Int) = (x13.n : Int))))) w12) ∧
                  ((decide (n1_0 = 21)) = false →
                    Q (.bool (decide (n1_2 = 0))) v)))))))))
theorem of92 (x0_0 : Sl) (x0_1 : Sl) (n1_0 : Int) (n1_1 : Int) (n1_2 : Int) (n1_3 : Int) (x1_4 : Sl) (x1_5 : Sl) (f_2 : Nat) (k2_0 : Addr) (k2_1 : Addr) (v : World) (Q : Value → World → Prop) (h : vc92 x0_0 x0_1 n1_0 n1_1 n1_2 n1_3 x1_4 x1_5 f_2 k2_0 k2_1 v Q) : Trip Try.prog 92 #[.agg #[x0_0.val, x0_1.val], .agg #[.int .i64 n1_0, .int .i64 n1_1, .int .i64 n1_2, .int .i64 n1_3, x1_4.val, x1_5.val], .func (.func f_2) #[] #[.pointer (some (k2_0.add 0)), .pointer (some (k2_1.add 0))]] v Q :=
  trip_of_eq (args := [.ag [.sl x0_0, .sl x0_1], .ag [.num .i64 n1_0, .num .i64 n1_1, .num .i64 n1_2, .num .i64 n1_3, .sl x1_4, .sl x1_5], .clo f_2 [.pt k2_0 0, .pt k2_1 0]]) (A := ⟨[], [], [], [999999], [7, 11, 14, 17, 21, 24, 25, 26, 30, 31, 32, 38, 39, 40, 43, 44, 45, 46, 48, 56, 57, 58, 69, 70, 77, 78, 79, 80, 81, 82, 83, 84, 87, 88, 89, 91, 92, 93, 94, 95, 100, 103, 104, 105, 106, 107, 109, 111, 114, 115, 116, 118, 120, 121, 122, 123, 124, 125]⟩) Try.func92 (by kernel_rfl) (by kernel_rfl) (by kernel_rfl : vc92 x0_0 x0_1 n1_0 n1_1 n1_2 n1_3 x1_4 x1_5 f_2 k2_0 k2_1 v Q = _) h

/-- (impl.signatures).argsOf -/
def vc93 (x0_0 : Sl) (x0_1 : Sl) (n1_0 : Int) (n1_1 : Int) (n1_2 : Int) (n1_3 : Int) (x1_4 : Sl) (x1_5 : Sl) (v : World) (Q : Value → World → Prop) : Prop :=
  ((decide (n1_0 = 0)) = true →
    Q (.tuple #[.int .i64 0, .int .i64 0]) v) ∧
  ((decide (n1_0 = 0)) = false →
    ((decide (n1_0 = 22)) = true →
      Q (.tuple #[.int .i64 0, .int .i64 0]) v) ∧
    ((decide (n1_0 = 22)) = false →
      ((decide (n1_0 = 1)) = true →
        Q (.tuple #[.int .i64 2, .int .i64 2]) v) ∧
      ((decide (n1_0 = 1)) = false →
        ((decide (n1_0 = 2)) = true →
          Q (.tuple #[.int .i64 2, .int .i64 2]) v) ∧
        ((decide (n1_0 = 2)) = false →
          ((decide (n1_0 = 3)) = true →
            Q (.tuple #[.int .i64 2, .int .i64 2]) v) ∧
          ((decide (n1_0 = 3)) = false →
            ((decide (n1_0 = 4)) = true →
              Q (.tuple #[.int .i64 2, .int .i64 2]) v) ∧
            ((decide (n1_0 = 4)) = false →
              ((decide (n1_0 = 11)) = true →
                Q (.tuple #[.int .i64 2, .int .i64 2]) v) ∧
              ((decide (n1_0 = 11)) = false →
                ((decide (n1_0 = 6)) = true →
                  ∃ x1 : Sl, (Trip Try.prog 120 #[x0_0.val, .int .i64 n1_2] v fun r2 w3 => r2 = x1.val ∧ Sub v w3) ∧
                  Q (.tuple #[.int .i64 (x1.n : Int), .int .i64 (x1.n : Int)]) v) ∧
                ((decide (n1_0 = 6)) = false →
                  ((decide (n1_0 = 9)) = true →
                    IxOk x0_1 n1_2 ∧
                    ∃ x4 : Sl, v.cell? ((elA x0_1 n1_2 3).add 0) = some (x4.val) ∧
                    Q (.tuple #[.int .i64 (x4.n : Int), .int .i64 (x4.n : Int)]) v) ∧
                  ((decide (n1_0 = 9)) = false →
                    ((decide (n1_0 = 24)) = true →
                      IxOk x0_1 n1_2 ∧
                      ∃ x5 : Sl, v.cell? ((elA x0_1 n1_2 3).add 0) = some (x5.val) ∧
                      Q (.tuple #[.int .i64 (x5.n : Int), .int .i64 (x5.n : Int)]) v) ∧
                    ((decide (n1_0 = 24)) = false →
                      ((decide (n1_0 = 10)) = true →
                        IxOk x0_1 n1_2 ∧
                        ∃ x6 : Sl, v.cell? ((elA x0_1 n1_2 3).add 0) = some (x6.val) ∧
                        ∃ n7 : Int, Wr .i64 ((x6.n : Int) - 1) n7 ∧
                        Q (.tuple #[.int .i64 n7, .int .i64 n7]) v) ∧
                      ((decide (n1_0 = 10)) = false →
                        ((decide (n1_0 = 16)) = true →
                          Q (.tuple #[.int .i64 1, .int .i64 4]) v) ∧
                        ((decide (n1_0 = 16)) = false →
                          ((decide (n1_0 = 17)) = true →
                            Q (.tuple #[.int .i64 1, .int .i64 4]) v) ∧
                          ((decide (n1_0 = 17)) = false →
                            Q (.tuple #[.int .i64 1, .int .i64 1]) v)))))))))))))
theorem of93 (x0_0 : Sl) (x0_1 : Sl) (n1_0 : Int) (n1_1 : Int) (n1_2 : Int) (n1_3 : Int) (x1_4 : Sl) (x1_5 : Sl) (v : World) (Q : Value → World → Prop) (h : vc93 x0_0 x0_1 n1_0 n1_1 n1_2 n1_3 x1_4 x1_5 v Q) : Trip Try.prog 93 #[.agg #[x0_0.val, x0_1.val], .agg #[.int .i64 n1_0, .int .i64 n1_1, .int .i64 n1_2, .int .i64 n1_3, x1_4.val, x1_5.val]] v Q :=
  trip_of_eq (args := [.ag [.sl x0_0, .sl x0_1], .ag [.num .i64 n1_0, .num .i64 n1_1, .num .i64 n1_2, .num .i64 n1_3, .sl x1_4, .sl x1_5]]) (A := ⟨[], [], [], [999999], [7, 11, 14, 17, 21, 24, 25, 26, 30, 31, 32, 38, 39, 40, 43, 44, 45, 46, 48, 56, 57, 58, 69, 70, 77, 78, 79, 80, 81, 82, 83, 84, 87, 88, 89, 91, 92, 93, 94, 95, 100, 103, 104, 105, 106, 107, 109, 111, 114, 115, 116, 118, 120, 121, 122, 123, 124, 125]⟩) Try.func93 (by kernel_rfl) (by kernel_rfl) (by kernel_rfl : vc93 x0_0 x0_1 n1_0 n1_1 n1_2 n1_3 x1_4 x1_5 v Q = _) h

/-- laws.eqConS -/
def vc94 (x_0 : Sl) (x_1 : Sl) (v : World) (Q : Value → World → Prop) : Prop :=
  ((!decide ((x_0.n : Int) = (x_1.n : Int))) = true →
    Q (.bool false) v) ∧
  ((!decide ((x_0.n : Int) = (x_1.n : Int))) = false →
    ∃ I1 : Int → World → Prop, ∃ m2 : Int → World → Nat, I1 0 v ∧
    ∀ n3 : Int, ∀ w4 : World, I1 n3 w4 →
    ((decide (n3 < (x_0.n : Int))) = true →
      IxOk x_0 n3 ∧
      ∃ x5 : Sl, w4.cell? ((elA x_0 n3 1).add 0) = some (x5.val) ∧
      IxOk x_1 n3 ∧
      ∃ x6 : Sl, w4.cell? ((elA x_1 n3 1).add 0) = some (x6.val) ∧
      ∃ q7 : Bool, (Trip Try.prog 121 #[.agg #[x5.val], .agg #[x6.val]] w4 fun r8 w9 => r8 = .bool q7 ∧ Sub w4 w9) ∧
      ((!q7) = true →
        Q (.bool false) w4) ∧
      ((!q7) = false →
        ∃ n10 : Int, Wr .i64 (n3 + 1) n10 ∧
        I1 n10 w4 ∧
        m2 n10 w4 < m2 n3 w4)) ∧
    ((decide (n3 < (x_0.n : Int))) = false →
      Q (.bool true) w4))
theorem of94 (x_0 : Sl) (x_1 : Sl) (v : World) (Q : Value → World → Prop) (h : vc94 x_0 x_1 v Q) : Trip Try.prog 94 #[x_0.val, x_1.val] v Q :=
  trip_of_eq (args := [.sl x_0, .sl x_1]) (A := ⟨[(4, [(5, .int .i64)], [])], [], [], [], [7, 11, 14, 17, 21, 24, 25, 26, 30, 31, 32, 38, 39, 40, 43, 44, 45, 46, 48, 56, 57, 58, 69, 70, 77, 78, 79, 80, 81, 82, 83, 84, 87, 88, 89, 91, 92, 93, 94, 95, 100, 103, 104, 105, 106, 107, 109, 111, 114, 115, 116, 118, 120, 121, 122, 123, 124, 125]⟩) Try.func94 (by kernel_rfl) (by kernel_rfl) (by kernel_rfl : vc94 x_0 x_1 v Q = _) h

/-- laws.eqInstrS -/
def vc95 (x_0 : Sl) (x_1 : Sl) (v : World) (Q : Value → World → Prop) : Prop :=
  ((!decide ((x_0.n : Int) = (x_1.n : Int))) = true →
    Q (.bool false) v) ∧
  ((!decide ((x_0.n : Int) = (x_1.n : Int))) = false →
    ∃ I1 : Int → World → Prop, ∃ m2 : Int → World → Nat, I1 0 v ∧
    ∀ n3 : Int, ∀ w4 : World, I1 n3 w4 →
    ((decide (n3 < (x_0.n : Int))) = true →
      IxOk x_0 n3 ∧
      ∃ n5 : Int, ∃ n6 : Int, ∃ n7 : Int, ∃ n8 : Int, ∃ x9 : Sl, ∃ x10 : Sl, (w4.cell? ((elA x_0 n3 6).add 0) = some (.int .i64 n5) ∧
        w4.cell? ((elA x_0 n3 6).add 1) = some (.int .i64 n6) ∧
        w4.cell? ((elA x_0 n3 6).add 2) = some (.int .i64 n7) ∧
        w4.cell? ((elA x_0 n3 6).add 3) = some (.int .i64 n8) ∧
        w4.cell? ((elA x_0 n3 6).add 4) = some (x9.val) ∧
        w4.cell? ((elA x_0 n3 6).add 5) = some (x10.val)) ∧
      IxOk x_1 n3 ∧
      ∃ n11 : Int, ∃ n12 : Int, ∃ n13 : Int, ∃ n14 : Int, ∃ x15 : Sl, ∃ x16 : Sl, (w4.cell? ((elA x_1 n3 6).add 0) = some (.int .i64 n11) ∧
        w4.cell? ((elA x_1 n3 6).add 1) = some (.int .i64 n12) ∧
        w4.cell? ((elA x_1 n3 6).add 2) = some (.int .i64 n13) ∧
        w4.cell? ((elA x_1 n3 6).add 3) = some (.int .i64 n14) ∧
        w4.cell? ((elA x_1 n3 6).add 4) = some (x15.val) ∧
        w4.cell? ((elA x_1 n3 6).add 5) = some (x16.val)) ∧
      ∃ q17 : Bool, (Trip Try.prog 122 #[.agg #[.int .i64 n5, .int .i64 n6, .int .i64 n7, .int .i64 n8, x9.val, x10.val], .agg #[.int .i64 n11, .int .i64 n12, .int .i64 n13, .int .i64 n14, x15.val, x16.val]] w4 fun r18 w19 => r18 = .bool q17 ∧ Sub w4 w19) ∧
      ((!q17) = true →
        Q (.bool false) w4) ∧
      ((!q17) = false →
        ∃ n20 : Int, Wr .i64 (n3 + 1) n20 ∧
        I1 n20 w4 ∧
        m2 n20 w4 < m2 n3 w4)) ∧
    ((decide (n3 < (x_0.n : Int))) = false →
      Q (.bool true) w4))
theorem of95 (x_0 : Sl) (x_1 : Sl) (v : World) (Q : Value → World → Prop) (h : vc95 x_0 x_1 v Q) : Trip Try.prog 95 #[x_0.val, x_1.val] v Q :=
  trip_of_eq (args := [.sl x_0, .sl x_1]) (A := ⟨[(4, [(5, .int .i64)], [])], [], [], [], [7, 11, 14, 17, 21, 24, 25, 26, 30, 31, 32, 38, 39, 40, 43, 44, 45, 46, 48, 56, 57, 58, 69, 70, 77, 78, 79, 80, 81, 82, 83, 84, 87, 88, 89, 91, 92, 93, 94, 95, 100, 103, 104, 105, 106, 107, 109, 111, 114, 115, 116, 118, 120, 121, 122, 123, 124, 125]⟩) Try.func95 (by kernel_rfl) (by kernel_rfl) (by kernel_rfl : vc95 x_0 x_1 v Q = _) h

/-- (*spec.source).number -/
def vc96 (a_0 : Addr) (v : World) (Q : Value → World → Prop) : Prop :=
  ∃ q1 : Bool, v.cell? (a_0.add 2) = some (.bool q1) ∧
  ∃ n2 : Int, (q1 = false →
    v.cell? (a_0.add 1) = some (.int .i64 n2)) ∧
  ∃ n3 : Int, (q1 = false →
    Wr .i64 (n2 + 2) n3) ∧
  ∃ x4 : Sl, (q1 = false →
    v.cell? (a_0.add 0) = some (x4.val)) ∧
  ((q1 || (decide (n3 > (x4.n : Int)))) = true →
    StoreAt v a_0 2 [.bool true] fun w5 =>
      Q (.int .i64 0) w5) ∧
  ((q1 || (decide (n3 > (x4.n : Int)))) = false →
    ∃ x6 : Sl, v.cell? (a_0.add 0) = some (x6.val) ∧
    ∃ n7 : Int, v.cell? (a_0.add 1) = some (.int .i64 n7) ∧
    IxOk x6 n7 ∧
    ∃ n8 : Int, v.cell? ((elA x6 n7 1).add 0) = some (.int .i64 n8) ∧
    ∃ x9 : Sl, v.cell? (a_0.add 0) = some (x9.val) ∧
    ∃ n10 : Int, v.cell? (a_0.add 1) = some (.int .i64 n10) ∧
    ∃ n11 : Int, Wr .i64 (n10 + 1) n11 ∧
    IxOk x9 n11 ∧
    ∃ n12 : Int, v.cell? ((elA x9 n11 1).add 0) = some (.int .i64 n12) ∧
    ∃ n13 : Int, v.cell? (a_0.add 1) = some (.int .i64 n13) ∧
    ∃ n14 : Int, Wr .i64 (n13 + 2) n14 ∧
    StoreAt v a_0 1 [.int .i64 n14] fun w15 =>
      ∃ q16 : Bool, (Trip Try.prog 81 #[.int .i64 n8, .int .i64 0, .int .i64 255] w15 fun r17 w18 => r17 = .bool q16 ∧ Sub w15 w18) ∧
      ∃ q19 : Bool, ((!q16) = false →
        (Trip Try.prog 81 #[.int .i64 n12, .int .i64 0, .int .i64 255] w15 fun r20 w21 => r20 = .bool q19 ∧ Sub w15 w21)) ∧
      (((!q16) || (!q19)) = true →
        StoreAt w15 a_0 2 [.bool true] fun w22 =>
          Q (.int .i64 0) w22) ∧
      (((!q16) || (!q19)) = false →
        ∃ n23 : Int, Wr .i64 (n8 * 256) n23 ∧
        ∃ n24 : Int, Wr .i64 (n23 + n12) n24 ∧
        ∃ n25 : Int, Wr .i64 (n24 - 32768) n25 ∧
        Q (.int .i64 n25) w15))
theorem of96 (a_0 : Addr) (v : World) (Q : Value → World → Prop) (h : vc96 a_0 v Q) : Trip Try.prog 96 #[.pointer (some (a_0.add 0))] v Q :=
  trip_of_eq (args := [.pt a_0 0]) (A := ⟨[], [], [], [], [7, 11, 14, 17, 21, 24, 25, 26, 30, 31, 32, 38, 39, 40, 43, 44, 45, 46, 48, 56, 57, 58, 69, 70, 77, 78, 79, 80, 81, 82, 83, 84, 87, 88, 89, 91, 92, 93, 94, 95, 100, 103, 104, 105, 106, 107, 109, 111, 114, 115, 116, 118, 120, 121, 122, 123, 124, 125]⟩) Try.func96 (by kernel_rfl) (by kernel_rfl) (by kernel_rfl : vc96 a_0 v Q = _) h

/-- (*spec.source).numbers -/
def vc97 (a_0 : Addr) (v : World) (Q : Value → World → Prop) : Prop :=
  StepT Try.prog (Instr.buildSlice 35 0 #[]) v fun r1 w2 =>
    ∃ x3 : Sl, r1 = x3.val ∧
    Trip Try.prog 64 #[.pointer (some (a_0.add 0))] w2 fun r4 w5 =>
      ∃ n6 : Int, r4 = .int .i64 n6 ∧
      ∃ I7 : Sl → Int → World → Prop, ∃ m8 : Sl → Int → World → Nat, I7 x3 0 w5 ∧
      ∀ x9 : Sl, ∀ n10 : Int, ∀ w11 : World, I7 x9 n10 w11 →
      ((decide (n10 < n6)) = true →
        Trip Try.prog 96 #[.pointer (some (a_0.add 0))] w11 fun r12 w13 =>
          ∃ n14 : Int, r12 = .int .i64 n14 ∧
          StepT Try.prog (Instr.buildSlice 35 1 #[(0, (.int .i64 n14))]) w13 fun r15 w16 =>
            ∃ x17 : Sl, r15 = x17.val ∧
            StepT Try.prog (Builtin.append_ #[35, 35] 35 #[(x9.val), (x17.val)]) w16 fun r18 w19 =>
              ∃ x20 : Sl, r18 = x20.val ∧
              ∃ n21 : Int, Wr .i64 (n10 + 1) n21 ∧
              I7 x20 n21 w19 ∧
              m8 x20 n21 w19 < m8 x9 n10 w11) ∧
      ((decide (n10 < n6)) = false →
        Q (x9.val) w11)
theorem of97 (a_0 : Addr) (v : World) (Q : Value → World → Prop) (h : vc97 a_0 v Q) : Trip Try.prog 97 #[.pointer (some (a_0.add 0))] v Q :=
  trip_of_eq (args := [.pt a_0 0]) (A := ⟨[(4, [(3, .sl), (5, .int .i64)], [])], [], [], [], [7, 11, 14, 17, 21, 24, 25, 26, 30, 31, 32, 38, 39, 40, 43, 44, 45, 46, 48, 56, 57, 58, 69, 70, 77, 78, 79, 80, 81, 82, 83, 84, 87, 88, 89, 91, 92, 93, 94, 95, 100, 103, 104, 105, 106, 107, 109, 111, 114, 115, 116, 118, 120, 121, 122, 123, 124, 125]⟩) Try.func97 (by kernel_rfl) (by kernel_rfl) (by kernel_rfl : vc97 a_0 v Q = _) h

/-- (*spec.source).instr -/
def vc98 (a_0 : Addr) (v : World) (Q : Value → World → Prop) : Prop :=
  Trip Try.prog 96 #[.pointer (some (a_0.add 0))] v fun r1 w2 =>
    ∃ n3 : Int, r1 = .int .i64 n3 ∧
    Trip Try.prog 96 #[.pointer (some (a_0.add 0))] w2 fun r4 w5 =>
      ∃ n6 : Int, r4 = .int .i64 n6 ∧
      Trip Try.prog 96 #[.pointer (some (a_0.add 0))] w5 fun r7 w8 =>
        ∃ n9 : Int, r7 = .int .i64 n9 ∧
        Trip Try.prog 96 #[.pointer (some (a_0.add 0))] w8 fun r10 w11 =>
          ∃ n12 : Int, r10 = .int .i64 n12 ∧
          Trip Try.prog 97 #[.pointer (some (a_0.add 0))] w11 fun r13 w14 =>
            ∃ x15 : Sl, r13 = x15.val ∧
            Trip Try.prog 97 #[.pointer (some (a_0.add 0))] w14 fun r16 w17 =>
              ∃ x18 : Sl, r16 = x18.val ∧
              Q (.agg #[.int .i64 n3, .int .i64 n6, .int .i64 n9, .int .i64 n12, x15.val, x18.val]) w17
theorem of98 (a_0 : Addr) (v : World) (Q : Value → World → Prop) (h : vc98 a_0 v Q) : Trip Try.prog 98 #[.pointer (some (a_0.add 0))] v Q :=
  trip_of_eq (args := [.pt a_0 0]) (A := ⟨[], [], [], [], [7, 11, 14, 17, 21, 24, 25, 26, 30, 31, 32, 38, 39, 40, 43, 44, 45, 46, 48, 56, 57, 58, 69, 70, 77, 78, 79, 80, 81, 82, 83, 84, 87, 88, 89, 91, 92, 93, 94, 95, 100, 103, 104, 105, 106, 107, 109, 111, 114, 115, 116, 118, 120, 121, 122, 123, 124, 125]⟩) Try.func98 (by kernel_rfl) (by kernel_rfl) (by kernel_rfl : vc98 a_0 v Q = _) h

/-- spec.validDecl -/
def vc105 (x_0 : Sl) (n_1 : Int) (v : World) (Q : Value → World → Prop) : Prop :=
  IxOk x_0 n_1 ∧
  ∃ n1 : Int, ∃ n2 : Int, ∃ x3 : Sl, (v.cell? ((elA x_0 n_1 3).add 0) = some (.int .i64 n1) ∧
    v.cell? ((elA x_0 n_1 3).add 1) = some (.int .i64 n2) ∧
    v.cell? ((elA x_0 n_1 3).add 2) = some (x3.val)) ∧
  ((decide ((x3.n : Int) > 0)) = true →
    ((((decide ((x3.n : Int) > 3)) || (!decide (n1 = 0))) || (!decide (n2 = 0))) = true →
      Q (.bool false) v) ∧
    ((((decide ((x3.n : Int) > 3)) || (!decide (n1 = 0))) || (!decide (n2 = 0))) = false →
      ∃ I4 : Int → World → Prop, ∃ m5 : Int → World → Nat, I4 0 v ∧
      ∀ n6 : Int, ∀ w7 : World, I4 n6 w7 →
      ((decide (n6 < (x3.n : Int))) = true →
        IxOk x3 n6 ∧
        ∃ x8 : Sl, w7.cell? ((elA x3 n6 1).add 0) = some (x8.val) ∧
        ((decide ((x8.n : Int) > 3)) = false →
          IxOk x3 n6) ∧
        ∃ x9 : Sl, ((decide ((x8.n : Int) > 3)) = false →
          w7.cell? ((elA x3 n6 1).add 0) = some (x9.val)) ∧
        ∃ q10 : Bool, ((decide ((x8.n : Int) > 3)) = false →
          (Trip Try.prog 82 #[x_0.val, x9.val] w7 fun r11 w12 => r11 = .bool q10 ∧ Sub w7 w12)) ∧
        (((decide ((x8.n : Int) > 3)) || (!q10)) = true →
          Q (.bool false) w7) ∧
        (((decide ((x8.n : Int) > 3)) || (!q10)) = false →
          ∃ n13 : Int, Wr .i64 (n6 + 1) n13 ∧
          ((.num .i64 n1 : SV) = .num .i64 n1) ∧
          ((.num .i64 n2 : SV) = .num .i64 n2) ∧
          ((.sl x3 : SV) = .sl x3) ∧
          I4 n13 w7 ∧
          m5 n13 w7 < m5 n6 w7)) ∧
      ((decide (n6 < (x3.n : Int))) = false →
        Q (.bool true) w7))) ∧
  ((decide ((x3.n : Int) > 0)) = false →
    ∃ I14 : Int → World → Prop, ∃ m15 : Int → World → Nat, I14 0 v ∧
    ∀ n16 : Int, ∀ w17 : World, I14 n16 w17 →
    ((decide (n16 < n_1)) = true →
      IxOk x_0 n16 ∧
      ∃ x18 : Sl, w17.cell? ((elA x_0 n16 3).add 2) = some (x18.val) ∧
      ((decide ((x18.n : Int) = 0)) = true →
        IxOk x_0 n16) ∧
      ∃ n19 : Int, ((decide ((x18.n : Int) = 0)) = true →
        w17.cell? ((elA x_0 n16 3).add 0) = some (.int .i64 n19)) ∧
      (((decide ((x18.n : Int) = 0)) && (decide (n19 = n1))) = true →
        IxOk x_0 n16) ∧
      ∃ n20 : Int, (((decide ((x18.n : Int) = 0)) && (decide (n19 = n1))) = true →
        w17.cell? ((elA x_0 n16 3).add 1) = some (.int .i64 n20)) ∧
      ((((decide ((x18.n : Int) = 0)) && (decide (n19 = n1))) && (decide (n20 = n2))) = true →
        Q (.bool false) w17) ∧
      ((((decide ((x18.n : Int) = 0)) && (decide (n19 = n1))) && (decide (n20 = n2))) = false →
        ∃ n21 : Int, Wr .i64 (n16 + 1) n21 ∧
        ((.num .i64 n1 : SV) = .num .i64 n1) ∧
        ((.num .i64 n2 : SV) = .num .i64 n2) ∧
        ((.sl x3 : SV) = .sl x3) ∧
        I14 n21 w17 ∧
        m15 n21 w17 < m15 n16 w17)) ∧
    ((decide (n16 < n_1)) = false →
      ∃ q22 : Bool, (Trip Try.prog 81 #[.int .i64 n1, .int .i64 0, .int .i64 (x_0.n : Int)] w17 fun r23 w24 => r23 = .bool q22 ∧ Sub w17 w24) ∧
      ∃ q25 : Bool, (q22 = true →
        (Trip Try.prog 81 #[.int .i64 n2, .int .i64 0, .int .i64 (x_0.n : Int)] w17 fun r26 w27 => r26 = .bool q25 ∧ Sub w17 w27)) ∧
      Q (.bool (q22 && q25)) w17))
theorem of105 (x_0 : Sl) (n_1 : Int) (v : World) (Q : Value → World → Prop) (h : vc105 x_0 n_1 v Q) : Trip Try.prog 105 #[x_0.val, .int .i64 n_1] v Q :=
  trip_of_eq (args := [.sl x_0, .num .i64 n_1]) (A := ⟨[(6, [(6, .int .i64)], []), (12, [(7, .int .i64)], [])], [], [], [], [7, 11, 14, 17, 21, 24, 25, 26, 30, 31, 32, 38, 39, 40, 43, 44, 45, 46, 48, 56, 57, 58, 69, 70, 77, 78, 79, 80, 81, 82, 83, 84, 87, 88, 89, 91, 92, 93, 94, 95, 100, 103, 104, 105, 106, 107, 109, 111, 114, 115, 116, 118, 120, 121, 122, 123, 124, 125]⟩) Try.func105 (by kernel_rfl) (by kernel_rfl) (by kernel_rfl : vc105 x_0 n_1 v Q = _) h

/-- spec.sets -/
def vc106 (n_0 : Int) (v : World) (Q : Value → World → Prop) : Prop :=
  ∃ q1 : Bool, (Trip Try.prog 123 #[.int .i64 n_0] v fun r2 w3 => r2 = .bool q1 ∧ Sub v w3) ∧
  Q (.bool ((((q1 && (!decide (n_0 = 7))) && (!decide (n_0 = 8))) || (decide (n_0 = 18))) || (decide (n_0 = 19)))) v
theorem of106 (n_0 : Int) (v : World) (Q : Value → World → Prop) (h : vc106 n_0 v Q) : Trip Try.prog 106 #[.int .i64 n_0] v Q :=
  trip_of_eq (args := [.num .i64 n_0]) (A := ⟨[], [], [], [], [7, 11, 14, 17, 21, 24, 25, 26, 30, 31, 32, 38, 39, 40, 43, 44, 45, 46, 48, 56, 57, 58, 69, 70, 77, 78, 79, 80, 81, 82, 83, 84, 87, 88, 89, 91, 92, 93, 94, 95, 100, 103, 104, 105, 106, 107, 109, 111, 114, 115, 116, 118, 120, 121, 122, 123, 124, 125]⟩) Try.func106 (by kernel_rfl) (by kernel_rfl) (by kernel_rfl : vc106 n_0 v Q = _) h

/-- spec.conType -/
def vc107 (x_0 : Sl) (n_1 : Int) (v : World) (Q : Value → World → Prop) : Prop :=
  ∃ I1 : Int → World → Prop, ∃ m2 : Int → World → Nat, I1 0 v ∧
  ∀ n3 : Int, ∀ w4 : World, I1 n3 w4 →
  ((decide (n3 < (x_0.n : Int))) = true →
    ∃ n5 : Int, (Trip Try.prog 124 #[x_0.val, .int .i64 n3] w4 fun r6 w7 => r6 = .int .i64 n5 ∧ Sub w4 w7) ∧
    IxOk x_0 n3 ∧
    ∃ x8 : Sl, w4.cell? ((elA x_0 n3 3).add 2) = some (x8.val) ∧
    ∃ n9 : Int, Wr .i64 (n5 + (x8.n : Int)) n9 ∧
    ∃ n10 : Int, Wr .i64 (n9 - 1) n10 ∧
    ∃ q11 : Bool, (Trip Try.prog 81 #[.int .i64 n_1, .int .i64 n5, .int .i64 n10] w4 fun r12 w13 => r12 = .bool q11 ∧ Sub w4 w13) ∧
    (q11 = true →
      ∃ n14 : Int, Wr .i64 (n3 + 1) n14 ∧
      Q (.int .i64 n14) w4) ∧
    (q11 = false →
      ∃ n15 : Int, Wr .i64 (n3 + 1) n15 ∧
      I1 n15 w4 ∧
      m2 n15 w4 < m2 n3 w4)) ∧
  ((decide (n3 < (x_0.n : Int))) = false →
    Q (.int .i64 (-1)) w4)
theorem of107 (x_0 : Sl) (n_1 : Int) (v : World) (Q : Value → World → Prop) (h : vc107 x_0 n_1 v Q) : Trip Try.prog 107 #[x_0.val, .int .i64 n_1] v Q :=
  trip_of_eq (args := [.sl x_0, .num .i64 n_1]) (A := ⟨[(2, [(5, .int .i64)], [])], [], [], [], [7, 11, 14, 17, 21, 24, 25, 26, 30, 31, 32, 38, 39, 40, 43, 44, 45, 46, 48, 56, 57, 58, 69, 70, 77, 78, 79, 80, 81, 82, 83, 84, 87, 88, 89, 91, 92, 93, 94, 95, 100, 103, 104, 105, 106, 107, 109, 111, 114, 115, 116, 118, 120, 121, 122, 123, 124, 125]⟩) Try.func107 (by kernel_rfl) (by kernel_rfl) (by kernel_rfl : vc107 x_0 n_1 v Q = _) h

/-- spec.conFields -/
def vc108 (x_0 : Sl) (n_1 : Int) (v : World) (Q : Value → World → Prop) : Prop :=
  ∃ n1 : Int, (Trip Try.prog 107 #[x_0.val, .int .i64 n_1] v fun r2 w3 => r2 = .int .i64 n1 ∧ Sub v w3) ∧
  ((decide (n1 < 1)) = true →
    StepT Try.prog (Instr.buildSlice 35 0 #[]) v fun r4 w5 =>
      ∃ x6 : Sl, r4 = x6.val ∧
      Q (x6.val) w5) ∧
  ((decide (n1 < 1)) = false →
    ∃ n7 : Int, Wr .i64 (n1 - 1) n7 ∧
    IxOk x_0 n7 ∧
    ∃ x8 : Sl, v.cell? ((elA x_0 n7 3).add 2) = some (x8.val) ∧
    ∃ n9 : Int, Wr .i64 (n1 - 1) n9 ∧
    ∃ n10 : Int, (Trip Try.prog 124 #[x_0.val, .int .i64 n9] v fun r11 w12 => r11 = .int .i64 n10 ∧ Sub v w12) ∧
    ∃ n13 : Int, Wr .i64 (n_1 - n10) n13 ∧
    IxOk x8 n13 ∧
    ∃ x14 : Sl, v.cell? ((elA x8 n13 1).add 0) = some (x14.val) ∧
    Q (x14.val) v)
theorem of108 (x_0 : Sl) (n_1 : Int) (v : World) (Q : Value → World → Prop) (h : vc108 x_0 n_1 v Q) : Trip Try.prog 108 #[x_0.val, .int .i64 n_1] v Q :=
  trip_of_eq (args := [.sl x_0, .num .i64 n_1]) (A := ⟨[], [], [], [], [7, 11, 14, 17, 21, 24, 25, 26, 30, 31, 32, 38, 39, 40, 43, 44, 45, 46, 48, 56, 57, 58, 69, 70, 77, 78, 79, 80, 81, 82, 83, 84, 87, 88, 89, 91, 92, 93, 94, 95, 100, 103, 104, 105, 106, 107, 109, 111, 114, 115, 116, 118, 120, 121, 122, 123, 124, 125]⟩) Try.func108 (by kernel_rfl) (by kernel_rfl) (by kernel_rfl : vc108 x_0 n_1 v Q = _) h

/-- spec.procWith -/
def vc109 (x0_0 : Sl) (x0_1 : Sl) (n_1 : Int) (n_2 : Int) (n_3 : Int) (v : World) (Q : Value → World → Prop) : Prop :=
  ∃ n1 : Int, Wr .i64 ((x0_1.n : Int) - 1) n1 ∧
  ∃ q2 : Bool, (Trip Try.prog 81 #[.int .i64 n_1, .int .i64 0, .int .i64 n1] v fun r3 w4 => r3 = .bool q2 ∧ Sub v w4) ∧
  (q2 = true →
    IxOk x0_1 n_1) ∧
  ∃ x5 : Sl, (q2 = true →
    v.cell? ((elA x0_1 n_1 5).add 0) = some (x5.val)) ∧
  ∃ n6 : Int, (q2 = true →
    Wr .i64 (n_2 + n_3) n6) ∧
  Q (.bool (q2 && (decide ((x5.n : Int) = n6)))) v
theorem of109 (x0_0 : Sl) (x0_1 : Sl) (n_1 : Int) (n_2 : Int) (n_3 : Int) (v : World) (Q : Value → World → Prop) (h : vc109 x0_0 x0_1 n_1 n_2 n_3 v Q) : Trip Try.prog 109 #[.agg #[x0_0.val, x0_1.val], .int .i64 n_1, .int .i64 n_2, .int .i64 n_3] v Q :=
  trip_of_eq (args := [.ag [.sl x0_0, .sl x0_1], .num .i64 n_1, .num .i64 n_2, .num .i64 n_3]) (A := ⟨[], [], [], [], [7, 11, 14, 17, 21, 24, 25, 26, 30, 31, 32, 38, 39, 40, 43, 44, 45, 46, 48, 56, 57, 58, 69, 70, 77, 78, 79, 80, 81, 82, 83, 84, 87, 88, 89, 91, 92, 93, 94, 95, 100, 103, 104, 105, 106, 107, 109, 111, 114, 115, 116, 118, 120, 121, 122, 123, 124, 125]⟩) Try.func109 (by kernel_rfl) (by kernel_rfl) (by kernel_rfl : vc109 x0_0 x0_1 n_1 n_2 n_3 v Q = _) h

/-- spec.consOf -/
def vc110 (x_0 : Sl) (n_1 : Int) (v : World) (Q : Value → World → Prop) : Prop :=
  StepT Try.prog (Instr.buildSlice 35 0 #[]) v fun r1 w2 =>
    ∃ x3 : Sl, r1 = x3.val ∧
    ∃ q4 : Bool, (Trip Try.prog 81 #[.int .i64 n_1, .int .i64 1, .int .i64 (x_0.n : Int)] w2 fun r5 w6 => r5 = .bool q4 ∧ Sub w2 w6) ∧
    ((!q4) = true →
      Q (x3.val) w2) ∧
    ((!q4) = false →
      ∃ I7 : Sl → Int → World → Prop, ∃ m8 : Sl → Int → World → Nat, I7 x3 0 w2 ∧
      ∀ x9 : Sl, ∀ n10 : Int, ∀ w11 : World, I7 x9 n10 w11 →
      ∃ n12 : Int, Wr .i64 (n_1 - 1) n12 ∧
      IxOk x_0 n12 ∧
      ∃ x13 : Sl, w11.cell? ((elA x_0 n12 3).add 2) = some (x13.val) ∧
      ((decide (n10 < (x13.n : Int))) = true →
        ∃ n14 : Int, Wr .i64 (n_1 - 1) n14 ∧
        ∃ n15 : Int, (Trip Try.prog 124 #[x_0.val, .int .i64 n14] w11 fun r16 w17 => r16 = .int .i64 n15 ∧ Sub w11 w17) ∧
        ∃ n18 : Int, Wr .i64 (n15 + n10) n18 ∧
        StepT Try.prog (Instr.buildSlice 35 1 #[(0, (.int .i64 n18))]) w11 fun r19 w20 =>
          ∃ x21 : Sl, r19 = x21.val ∧
          StepT Try.prog (Builtin.append_ #[35, 35] 35 #[(x9.val), (x21.val)]) w20 fun r22 w23 =>
            ∃ x24 : Sl, r22 = x24.val ∧
            ∃ n25 : Int, Wr .i64 (n10 + 1) n25 ∧
            I7 x24 n25 w23 ∧
            m8 x24 n25 w23 < m8 x9 n10 w11) ∧
      ((decide (n10 < (x13.n : Int))) = false →
        Q (x9.val) w11))
theorem of110 (x_0 : Sl) (n_1 : Int) (v : World) (Q : Value → World → Prop) (h : vc110 x_0 n_1 v Q) : Trip Try.prog 110 #[x_0.val, .int .i64 n_1] v Q :=
  trip_of_eq (args := [.sl x_0, .num .i64 n_1]) (A := ⟨[(5, [(5, .sl), (6, .int .i64)], [])], [], [], [], [7, 11, 14, 17, 21, 24, 25, 26, 30, 31, 32, 38, 39, 40, 43, 44, 45, 46, 48, 56, 57, 58, 69, 70, 77, 78, 79, 80, 81, 82, 83, 84, 87, 88, 89, 91, 92, 93, 94, 95, 100, 103, 104, 105, 106, 107, 109, 111, 114, 115, 116, 118, 120, 121, 122, 123, 124, 125]⟩) Try.func110 (by kernel_rfl) (by kernel_rfl) (by kernel_rfl : vc110 x_0 n_1 v Q = _) h

/-- spec.validJumps -/
def vc111 (x_0 : Sl) (n_1 : Int) (n_2 : Int) (n_3 : Int) (v : World) (Q : Value → World → Prop) : Prop :=
  ((!decide ((x_0.n : Int) = n_1)) = true →
    Q (.bool false) v) ∧
  ((!decide ((x_0.n : Int) = n_1)) = false →
    ∃ I1 : Int → World → Prop, ∃ m2 : Int → World → Nat, I1 0 v ∧
    ∀ n3 : Int, ∀ w4 : World, I1 n3 w4 →
    ((decide (n3 < n_1)) = true →
      IxOk x_0 n3 ∧
      ∃ n5 : Int, w4.cell? ((elA x_0 n3 1).add 0) = some (.int .i64 n5) ∧
      ∃ n6 : Int, Wr .i64 (n_2 + 1) n6 ∧
      ∃ n7 : Int, Wr .i64 (n_3 - 1) n7 ∧
      ∃ q8 : Bool, (Trip Try.prog 81 #[.int .i64 n5, .int .i64 n6, .int .i64 n7] w4 fun r9 w10 => r9 = .bool q8 ∧ Sub w4 w10) ∧
      ((!q8) = true →
        Q (.bool false) w4) ∧
      ((!q8) = false →
        ∃ n11 : Int, Wr .i64 (n3 + 1) n11 ∧
        I1 n11 w4 ∧
        m2 n11 w4 < m2 n3 w4)) ∧
    ((decide (n3 < n_1)) = false →
      Q (.bool true) w4))
theorem of111 (x_0 : Sl) (n_1 : Int) (n_2 : Int) (n_3 : Int) (v : World) (Q : Value → World → Prop) (h : vc111 x_0 n_1 n_2 n_3 v Q) : Trip Try.prog 111 #[x_0.val, .int .i64 n_1, .int .i64 n_2, .int .i64 n_3] v Q :=
  trip_of_eq (args := [.sl x_0, .num .i64 n_1, .num .i64 n_2, .num .i64 n_3]) (A := ⟨[(4, [(9, .int .i64)], [])], [], [], [], [7, 11, 14, 17, 21, 24, 25, 26, 30, 31, 32, 38, 39, 40, 43, 44, 45, 46, 48, 56, 57, 58, 69, 70, 77, 78, 79, 80, 81, 82, 83, 84, 87, 88, 89, 91, 92, 93, 94, 95, 100, 103, 104, 105, 106, 107, 109, 111, 114, 115, 116, 118, 120, 121, 122, 123, 124, 125]⟩) Try.func111 (by kernel_rfl) (by kernel_rfl) (by kernel_rfl : vc111 x_0 n_1 n_2 n_3 v Q = _) h

/-- impl.ValidTypes -/
def vc114 (x_0 : Sl) (v : World) (Q : Value → World → Prop) : Prop :=
  ((decide ((x_0.n : Int) > 4)) = true →
    Q (.bool false) v) ∧
  ((decide ((x_0.n : Int) > 4)) = false →
    ∃ I1 : Int → World → Prop, ∃ m2 : Int → World → Nat, I1 0 v ∧
    ∀ n3 : Int, ∀ w4 : World, I1 n3 w4 →
    ((decide (n3 < (x_0.n : Int))) = true →
      IxOk x_0 n3 ∧
      ∃ n5 : Int, ∃ n6 : Int, ∃ x7 : Sl, (w4.cell? ((elA x_0 n3 3).add 0) = some (.int .i64 n5) ∧
        w4.cell? ((elA x_0 n3 3).add 1) = some (.int .i64 n6) ∧
        w4.cell? ((elA x_0 n3 3).add 2) = some (x7.val)) ∧
      ∃ q8 : Bool, (Trip Try.prog 116 #[x_0.val, .int .i64 n5] w4 fun r9 w10 => r9 = .bool q8 ∧ Sub w4 w10) ∧
      ∃ q11 : Bool, ((!q8) = false →
        (Trip Try.prog 116 #[x_0.val, .int .i64 n6] w4 fun r12 w13 => r12 = .bool q11 ∧ Sub w4 w13)) ∧
      (((((!q8) || (!q11)) || (decide ((x7.n : Int) > 3))) || ((decide ((x7.n : Int) > 0)) && ((!decide (n5 = 0)) || (!decide (n6 = 0))))) = true →
        Q (.bool false) w4) ∧
      (((((!q8) || (!q11)) || (decide ((x7.n : Int) > 3))) || ((decide ((x7.n : Int) > 0)) && ((!decide (n5 = 0)) || (!decide (n6 = 0))))) = false →
        ∃ I14 : Int → World → Prop, ∃ m15 : Int → World → Nat, I14 0 w4 ∧
        ∀ n16 : Int, ∀ w17 : World, I14 n16 w17 →
        ((decide (n16 < (x7.n : Int))) = true →
          IxOk x7 n16 ∧
          ∃ x18 : Sl, w17.cell? ((elA x7 n16 1).add 0) = some (x18.val) ∧
          ∃ q19 : Bool, ((decide ((x18.n : Int) > 3)) = false →
            (Trip Try.prog 115 #[x_0.val, x18.val] w17 fun r20 w21 => r20 = .bool q19 ∧ Sub w17 w21)) ∧
          (((decide ((x18.n : Int) > 3)) || (!q19)) = true →
            Q (.bool false) w17) ∧
          (((decide ((x18.n : Int) > 3)) || (!q19)) = false →
            ∃ n22 : Int, Wr .i64 (n16 + 1) n22 ∧
            ((.num .i64 n5 : SV) = .num .i64 n5) ∧
            ((.num .i64 n6 : SV) = .num .i64 n6) ∧
            ((.sl x7 : SV) = .sl x7) ∧
            I14 n22 w17 ∧
            m15 n22 w17 < m15 n16 w17)) ∧
        ((decide (n16 < (x7.n : Int))) = false →
          CutOk x_0 0 n3 ∧
          ∃ I23 : Int → World → Prop, ∃ m24 : Int → World → Nat, I23 0 w17 ∧
          ∀ n25 : Int, ∀ w26 : World, I23 n25 w26 →
          ((decide (n25 < ((x_0.cut 0 n3 3).n : Int))) = true →
            IxOk (x_0.cut 0 n3 3) n25 ∧
            ∃ n27 : Int, ∃ n28 : Int, ∃ x29 : Sl, (w26.cell? ((elA (x_0.cut 0 n3 3) n25 3).add 0) = some (.int .i64 n27) ∧
              w26.cell? ((elA (x_0.cut 0 n3 3) n25 3).add 1) = some (.int .i64 n28) ∧
              w26.cell? ((elA (x_0.cut 0 n3 3) n25 3).add 2) = some (x29.val)) ∧
            (((((decide ((x7.n : Int) = 0)) && (decide ((x29.n : Int) = 0))) && (decide (n27 = n5))) && (decide (n28 = n6))) = true →
              Q (.bool false) w26) ∧
            (((((decide ((x7.n : Int) = 0)) && (decide ((x29.n : Int) = 0))) && (decide (n27 = n5))) && (decide (n28 = n6))) = false →
              ∃ n30 : Int, Wr .i64 (n25 + 1) n30 ∧
              ((.num .i64 n5 : SV) = .num .i64 n5) ∧
              ((.num .i64 n6 : SV) = .num .i64 n6) ∧
              ((.sl x7 : SV) = .sl x7) ∧
              I23 n30 w26 ∧
              m24 n30 w26 < m24 n25 w26)) ∧
          ((decide (n25 < ((x_0.cut 0 n3 3).n : Int))) = false →
            ∃ n31 : Int, Wr .i64 (n3 + 1) n31 ∧
            I1 n31 w26 ∧
            m2 n31 w26 < m2 n3 w4)))) ∧
    ((decide (n3 < (x_0.n : Int))) = false →
      Q (.bool true) w4))
theorem of114 (x_0 : Sl) (v : World) (Q : Value → World → Prop) (h : vc114 x_0 v Q) : Trip Try.prog 114 #[x_0.val] v Q :=
  trip_of_eq (args := [.sl x_0]) (A := ⟨[(4, [(14, .int .i64)], []), (9, [(56, .int .i64)], []), (15, [(76, .int .i64)], [])], [], [], [], [7, 11, 14, 17, 21, 24, 25, 26, 30, 31, 32, 38, 39, 40, 43, 44, 45, 46, 48, 56, 57, 58, 69, 70, 77, 78, 79, 80, 81, 82, 83, 84, 87, 88, 89, 91, 92, 93, 94, 95, 100, 103, 104, 105, 106, 107, 109, 111, 114, 115, 116, 118, 120, 121, 122, 123, 124, 125]⟩) Try.func114 (by kernel_rfl) (by kernel_rfl) (by kernel_rfl : vc114 x_0 v Q = _) h

/-- impl.allTypes -/
def vc115 (x_0 : Sl) (x_1 : Sl) (v : World) (Q : Value → World → Prop) : Prop :=
  ∃ I1 : Int → World → Prop, ∃ m2 : Int → World → Nat, I1 0 v ∧
  ∀ n3 : Int, ∀ w4 : World, I1 n3 w4 →
  ((decide (n3 < (x_1.n : Int))) = true →
    IxOk x_1 n3 ∧
    ∃ n5 : Int, w4.cell? ((elA x_1 n3 1).add 0) = some (.int .i64 n5) ∧
    ∃ q6 : Bool, (Trip Try.prog 116 #[x_0.val, .int .i64 n5] w4 fun r7 w8 => r7 = .bool q6 ∧ Sub w4 w8) ∧
    ((!q6) = true →
      Q (.bool false) w4) ∧
    ((!q6) = false →
      ∃ n9 : Int, Wr .i64 (n3 + 1) n9 ∧
      I1 n9 w4 ∧
      m2 n9 w4 < m2 n3 w4)) ∧
  ((decide (n3 < (x_1.n : Int))) = false →
    Q (.bool true) w4)
theorem of115 (x_0 : Sl) (x_1 : Sl) (v : World) (Q : Value → World → Prop) (h : vc115 x_0 x_1 v Q) : Trip Try.prog 115 #[x_0.val, x_1.val] v Q :=
  trip_of_eq (args := [.sl x_0, .sl x_1]) (A := ⟨[(2, [(9, .int .i64)], [])], [], [], [], [7, 11, 14, 17, 21, 24, 25, 26, 30, 31, 32, 38, 39, 40, 43, 44, 45, 46, 48, 56, 57, 58, 69, 70, 77, 78, 79, 80, 81, 82, 83, 84, 87, 88, 89, 91, 92, 93, 94, 95, 100, 103, 104, 105, 106, 107, 109, 111, 114, 115, 116, 118, 120, 121, 122, 123, 124, 125]⟩) Try.func115 (by kernel_rfl) (by kernel_rfl) (by kernel_rfl : vc115 x_0 x_1 v Q = _) h

/-- impl.isType -/
def vc116 (x_0 : Sl) (n_1 : Int) (v : World) (Q : Value → World → Prop) : Prop :=
  Q (.bool ((decide (n_1 ≥ 0)) && (decide (n_1 ≤ (x_0.n : Int))))) v
theorem of116 (x_0 : Sl) (n_1 : Int) (v : World) (Q : Value → World → Prop) (h : vc116 x_0 n_1 v Q) : Trip Try.prog 116 #[x_0.val, .int .i64 n_1] v Q :=
  trip_of_eq (args := [.sl x_0, .num .i64 n_1]) (A := ⟨[], [], [], [], [7, 11, 14, 17, 21, 24, 25, 26, 30, 31, 32, 38, 39, 40, 43, 44, 45, 46, 48, 56, 57, 58, 69, 70, 77, 78, 79, 80, 81, 82, 83, 84, 87, 88, 89, 91, 92, 93, 94, 95, 100, 103, 104, 105, 106, 107, 109, 111, 114, 115, 116, 118, 120, 121, 122, 123, 124, 125]⟩) Try.func116 (by kernel_rfl) (by kernel_rfl) (by kernel_rfl : vc116 x_0 n_1 v Q = _) h

/-- slices.IndexFunc[[]int,int] -/
def vc117 (x_0 : Sl) (f_1 : Nat) (k1_0 : Addr) (v : World) (Q : Value → World → Prop) : Prop :=
  ∃ I1 : Int → World → Prop, ∃ m2 : Int → World → Nat, I1 0 v ∧
  ∀ n3 : Int, ∀ w4 : World, I1 n3 w4 →
  ((decide (n3 < (x_0.n : Int))) = true →
    IxOk x_0 n3 ∧
    ∃ n5 : Int, w4.cell? ((elA x_0 n3 1).add 0) = some (.int .i64 n5) ∧
    Trip Try.prog f_1 #[.int .i64 n5, .pointer (some (k1_0.add 0))] w4 fun r6 w7 =>
      ∃ q8 : Bool, r6 = .bool q8 ∧
      (q8 = true →
        Q (.int .i64 n3) w7) ∧
      (q8 = false →
        ∃ n9 : Int, Wr .i64 (n3 + 1) n9 ∧
        I1 n9 w7 ∧
        m2 n9 w7 < m2 n3 w4)) ∧
  ((decide (n3 < (x_0.n : Int))) = false →
    Q (.int .i64 (-1)) w4)
theorem of117 (x_0 : Sl) (f_1 : Nat) (k1_0 : Addr) (v : World) (Q : Value → World → Prop) (h : vc117 x_0 f_1 k1_0 v Q) : Trip Try.prog 117 #[x_0.val, .func (.func f_1) #[] #[.pointer (some (k1_0.add 0))]] v Q :=
  trip_of_eq (args := [.sl x_0, .clo f_1 [.pt k1_0 0]]) (A := ⟨[(2, [(8, .int .i64)], [])], [], [], [], [7, 11, 14, 17, 21, 24, 25, 26, 30, 31, 32, 38, 39, 40, 43, 44, 45, 46, 48, 56, 57, 58, 69, 70, 77, 78, 79, 80, 81, 82, 83, 84, 87, 88, 89, 91, 92, 93, 94, 95, 100, 103, 104, 105, 106, 107, 109, 111, 114, 115, 116, 118, 120, 121, 122, 123, 124, 125]⟩) Try.func117 (by kernel_rfl) (by kernel_rfl) (by kernel_rfl : vc117 x_0 f_1 k1_0 v Q = _) h

/-- impl.conCount -/
def vc118 (x_0 : Sl) (v : World) (Q : Value → World → Prop) : Prop :=
  ∃ I1 : Int → Int → World → Prop, ∃ m2 : Int → Int → World → Nat, I1 0 0 v ∧
  ∀ n3 : Int, ∀ n4 : Int, ∀ w5 : World, I1 n3 n4 w5 →
  ((decide (n4 < (x_0.n : Int))) = true →
    IxOk x_0 n4 ∧
    ∃ n6 : Int, ∃ n7 : Int, ∃ x8 : Sl, (w5.cell? ((elA x_0 n4 3).add 0) = some (.int .i64 n6) ∧
      w5.cell? ((elA x_0 n4 3).add 1) = some (.int .i64 n7) ∧
      w5.cell? ((elA x_0 n4 3).add 2) = some (x8.val)) ∧
    ∃ n9 : Int, Wr .i64 (n3 + (x8.n : Int)) n9 ∧
    ∃ n10 : Int, Wr .i64 (n4 + 1) n10 ∧
    I1 n9 n10 w5 ∧
    m2 n9 n10 w5 < m2 n3 n4 w5) ∧
  ((decide (n4 < (x_0.n : Int))) = false →
    Q (.int .i64 n3) w5)
theorem of118 (x_0 : Sl) (v : World) (Q : Value → World → Prop) (h : vc118 x_0 v Q) : Trip Try.prog 118 #[x_0.val] v Q :=
  trip_of_eq (args := [.sl x_0]) (A := ⟨[(3, [(3, .int .i64), (8, .int .i64)], [])], [], [], [], [7, 11, 14, 17, 21, 24, 25, 26, 30, 31, 32, 38, 39, 40, 43, 44, 45, 46, 48, 56, 57, 58, 69, 70, 77, 78, 79, 80, 81, 82, 83, 84, 87, 88, 89, 91, 92, 93, 94, 95, 100, 103, 104, 105, 106, 107, 109, 111, 114, 115, 116, 118, 120, 121, 122, 123, 124, 125]⟩) Try.func118 (by kernel_rfl) (by kernel_rfl) (by kernel_rfl : vc118 x_0 v Q = _) h

/-- impl.consOf -/
def vc119 (x_0 : Sl) (n_1 : Int) (v : World) (Q : Value → World → Prop) : Prop :=
  (((decide (n_1 < 1)) || (decide (n_1 > (x_0.n : Int)))) = true →
    Q (.slice none 0 0) v) ∧
  (((decide (n_1 < 1)) || (decide (n_1 > (x_0.n : Int)))) = false →
    ∃ n1 : Int, Wr .i64 (n_1 - 1) n1 ∧
    CutOk x_0 0 n1 ∧
    ∃ n2 : Int, (Trip Try.prog 118 #[(x_0.cut 0 n1 3).val] v fun r3 w4 => r3 = .int .i64 n2 ∧ Sub v w4) ∧
    ∃ n5 : Int, Wr .i64 (n_1 - 1) n5 ∧
    IxOk x_0 n5 ∧
    ∃ x6 : Sl, v.cell? ((elA x_0 n5 3).add 2) = some (x6.val) ∧
    ∃ I7 : Sl → Int → World → Prop, ∃ m8 : Sl → Int → World → Nat, I7 (Sl.mk none 0 0) 0 v ∧
    ∀ x9 : Sl, ∀ n10 : Int, ∀ w11 : World, I7 x9 n10 w11 →
    ((decide (n10 < (x6.n : Int))) = true →
      ∃ n12 : Int, Wr .i64 (n2 + n10) n12 ∧
      StepT Try.prog (Instr.buildSlice 35 1 #[(0, (.int .i64 n12))]) w11 fun r13 w14 =>
        ∃ x15 : Sl, r13 = x15.val ∧
        StepT Try.prog (Builtin.append_ #[35, 35] 35 #[(x9.val), (x15.val)]) w14 fun r16 w17 =>
          ∃ x18 : Sl, r16 = x18.val ∧
          ∃ n19 : Int, Wr .i64 (n10 + 1) n19 ∧
          I7 x18 n19 w17 ∧
          m8 x18 n19 w17 < m8 x9 n10 w11) ∧
    ((decide (n10 < (x6.n : Int))) = false →
      Q (x9.val) w11))
theorem of119 (x_0 : Sl) (n_1 : Int) (v : World) (Q : Value → World → Prop) (h : vc119 x_0 n_1 v Q) : Trip Try.prog 119 #[x_0.val, .int .i64 n_1] v Q :=
  trip_of_eq (args := [.sl x_0, .num .i64 n_1]) (A := ⟨[(6, [(6, .sl), (28, .int .i64)], [])], [], [], [], [7, 11, 14, 17, 21, 24, 25, 26, 30, 31, 32, 38, 39, 40, 43, 44, 45, 46, 48, 56, 57, 58, 69, 70, 77, 78, 79, 80, 81, 82, 83, 84, 87, 88, 89, 91, 92, 93, 94, 95, 100, 103, 104, 105, 106, 107, 109, 111, 114, 115, 116, 118, 120, 121, 122, 123, 124, 125]⟩) Try.func119 (by kernel_rfl) (by kernel_rfl) (by kernel_rfl : vc119 x_0 n_1 v Q = _) h

/-- impl.fieldsOf -/
def vc120 (x_0 : Sl) (n_1 : Int) (v : World) (Q : Value → World → Prop) : Prop :=
  ∃ n1 : Int, ∃ x2 : Sl, (Trip Try.prog 125 #[x_0.val, .int .i64 n_1] v fun r3 w4 => r3 = .tuple #[.int .i64 n1, .agg #[x2.val]] ∧ Sub v w4) ∧
  Q (x2.val) v
theorem of120 (x_0 : Sl) (n_1 : Int) (v : World) (Q : Value → World → Prop) (h : vc120 x_0 n_1 v Q) : Trip Try.prog 120 #[x_0.val, .int .i64 n_1] v Q :=
  trip_of_eq (args := [.sl x_0, .num .i64 n_1]) (A := ⟨[], [], [], [], [7, 11, 14, 17, 21, 24, 25, 26, 30, 31, 32, 38, 39, 40, 43, 44, 45, 46, 48, 56, 57, 58, 69, 70, 77, 78, 79, 80, 81, 82, 83, 84, 87, 88, 89, 91, 92, 93, 94, 95, 100, 103, 104, 105, 106, 107, 109, 111, 114, 115, 116, 118, 120, 121, 122, 123, 124, 125]⟩) Try.func120 (by kernel_rfl) (by kernel_rfl) (by kernel_rfl : vc120 x_0 n_1 v Q = _) h

/-- laws.eqCon -/
def vc121 (x0_0 : Sl) (x1_0 : Sl) (v : World) (Q : Value → World → Prop) : Prop :=
  ∃ q1 : Bool, (Trip Try.prog 14 #[x0_0.val, x1_0.val] v fun r2 w3 => r2 = .bool q1 ∧ Sub v w3) ∧
  ((!q1) = true →
    Q (.bool false) v) ∧
  ((!q1) = false →
    Q (.bool true) v)
theorem of121 (x0_0 : Sl) (x1_0 : Sl) (v : World) (Q : Value → World → Prop) (h : vc121 x0_0 x1_0 v Q) : Trip Try.prog 121 #[.agg #[x0_0.val], .agg #[x1_0.val]] v Q :=
  trip_of_eq (args := [.ag [.sl x0_0], .ag [.sl x1_0]]) (A := ⟨[], [], [], [], [7, 11, 14, 17, 21, 24, 25, 26, 30, 31, 32, 38, 39, 40, 43, 44, 45, 46, 48, 56, 57, 58, 69, 70, 77, 78, 79, 80, 81, 82, 83, 84, 87, 88, 89, 91, 92, 93, 94, 95, 100, 103, 104, 105, 106, 107, 109, 111, 114, 115, 116, 118, 120, 121, 122, 123, 124, 125]⟩) Try.func121 (by kernel_rfl) (by kernel_rfl) (by kernel_rfl : vc121 x0_0 x1_0 v Q = _) h

/-- laws.eqInstr -/
def vc122 (n0_0 : Int) (n0_1 : Int) (n0_2 : Int) (n0_3 : Int) (x0_4 : Sl) (x0_5 : Sl) (n1_0 : Int) (n1_1 : Int) (n1_2 : Int) (n1_3 : Int) (x1_4 : Sl) (x1_5 : Sl) (v : World) (Q : Value → World → Prop) : Prop :=
  ((!decide (n0_0 = n1_0)) = true →
    Q (.bool false) v) ∧
  ((!decide (n0_0 = n1_0)) = false →
    ((!decide (n0_1 = n1_1)) = true →
      Q (.bool false) v) ∧
    ((!decide (n0_1 = n1_1)) = false →
      ((!decide (n0_2 = n1_2)) = true →
        Q (.bool false) v) ∧
      ((!decide (n0_2 = n1_2)) = false →
        ((!decide (n0_3 = n1_3)) = true →
          Q (.bool false) v) ∧
        ((!decide (n0_3 = n1_3)) = false →
          ∃ q1 : Bool, (Trip Try.prog 14 #[x0_4.val, x1_4.val] v fun r2 w3 => r2 = .bool q1 ∧ Sub v w3) ∧
          ((!q1) = true →
            Q (.bool false) v) ∧
          ((!q1) = false →
            ∃ q4 : Bool, (Trip Try.prog 14 #[x0_5.val, x1_5.val] v fun r5 w6 => r5 = .bool q4 ∧ Sub v w6) ∧
            ((!q4) = true →
              Q (.bool false) v) ∧
            ((!q4) = false →
              Q (.bool true) v))))))
theorem of122 (n0_0 : Int) (n0_1 : Int) (n0_2 : Int) (n0_3 : Int) (x0_4 : Sl) (x0_5 : Sl) (n1_0 : Int) (n1_1 : Int) (n1_2 : Int) (n1_3 : Int) (x1_4 : Sl) (x1_5 : Sl) (v : World) (Q : Value → World → Prop) (h : vc122 n0_0 n0_1 n0_2 n0_3 x0_4 x0_5 n1_0 n1_1 n1_2 n1_3 x1_4 x1_5 v Q) : Trip Try.prog 122 #[.agg #[.int .i64 n0_0, .int .i64 n0_1, .int .i64 n0_2, .int .i64 n0_3, x0_4.val, x0_5.val], .agg #[.int .i64 n1_0, .int .i64 n1_1, .int .i64 n1_2, .int .i64 n1_3, x1_4.val, x1_5.val]] v Q :=
  trip_of_eq (args := [.ag [.num .i64 n0_0, .num .i64 n0_1, .num .i64 n0_2, .num .i64 n0_3, .sl x0_4, .sl x0_5], .ag [.num .i64 n1_0, .num .i64 n1_1, .num .i64 n1_2, .num .i64 n1_3, .sl x1_4, .sl x1_5]]) (A := ⟨[], [], [], [], [7, 11, 14, 17, 21, 24, 25, 26, 30, 31, 32, 38, 39, 40, 43, 44, 45, 46, 48, 56, 57, 58, 69, 70, 77, 78, 79, 80, 81, 82, 83, 84, 87, 88, 89, 91, 92, 93, 94, 95, 100, 103, 104, 105, 106, 107, 109, 111, 114, 115, 116, 118, 120, 121, 122, 123, 124, 125]⟩) Try.func122 (by kernel_rfl) (by kernel_rfl) (by kernel_rfl : vc122 n0_0 n0_1 n0_2 n0_3 x0_4 x0_5 n1_0 n1_1 n1_2 n1_3 x1_4 x1_5 v Q = _) h

/-- spec.defines -/
def vc123 (n_0 : Int) (v : World) (Q : Value → World → Prop) : Prop :=
  ∃ q1 : Bool, (Trip Try.prog 81 #[.int .i64 n_0, .int .i64 0, .int .i64 11] v fun r2 w3 => r2 = .bool q1 ∧ Sub v w3) ∧
  Q (.bool q1) v
theorem of123 (n_0 : Int) (v : World) (Q : Value → World → Prop) (h : vc123 n_0 v Q) : Trip Try.prog 123 #[.int .i64 n_0] v Q :=
  trip_of_eq (args := [.num .i64 n_0]) (A := ⟨[], [], [], [], [7, 11, 14, 17, 21, 24, 25, 26, 30, 31, 32, 38, 39, 40, 43, 44, 45, 46, 48, 56, 57, 58, 69, 70, 77, 78, 79, 80, 81, 82, 83, 84, 87, 88, 89, 91, 92, 93, 94, 95, 100, 103, 104, 105, 106, 107, 109, 111, 114, 115, 116, 118, 120, 121, 122, 123, 124, 125]⟩) Try.func123 (by kernel_rfl) (by kernel_rfl) (by kernel_rfl : vc123 n_0 v Q = _) h

/-- spec.firstCon -/
def vc124 (x_0 : Sl) (n_1 : Int) (v : World) (Q : Value → World → Prop) : Prop :=
  ∃ I1 : Int → Int → World → Prop, ∃ m2 : Int → Int → World → Nat, I1 0 0 v ∧
  ∀ n3 : Int, ∀ n4 : Int, ∀ w5 : World, I1 n3 n4 w5 →
  ((decide (n4 < n_1)) = true →
    IxOk x_0 n4 ∧
    ∃ x6 : Sl, w5.cell? ((elA x_0 n4 3).add 2) = some (x6.val) ∧
    ∃ n7 : Int, Wr .i64 (n3 + (x6.n : Int)) n7 ∧
    ∃ n8 : Int, Wr .i64 (n4 + 1) n8 ∧
    I1 n7 n8 w5 ∧
    m2 n7 n8 w5 < m2 n3 n4 w5) ∧
  ((decide (n4 < n_1)) = false →
    Q (.int .i64 n3) w5)
theorem of124 (x_0 : Sl) (n_1 : Int) (v : World) (Q : Value → World → Prop) (h : vc124 x_0 n_1 v Q) : Trip Try.prog 124 #[x_0.val, .int .i64 n_1] v Q :=
  trip_of_eq (args := [.sl x_0, .num .i64 n_1]) (A := ⟨[(3, [(5, .int .i64), (6, .int .i64)], [])], [], [], [], [7, 11, 14, 17, 21, 24, 25, 26, 30, 31, 32, 38, 39, 40, 43, 44, 45, 46, 48, 56, 57, 58, 69, 70, 77, 78, 79, 80, 81, 82, 83, 84, 87, 88, 89, 91, 92, 93, 94, 95, 100, 103, 104, 105, 106, 107, 109, 111, 114, 115, 116, 118, 120, 121, 122, 123, 124, 125]⟩) Try.func124 (by kernel_rfl) (by kernel_rfl) (by kernel_rfl : vc124 x_0 n_1 v Q = _) h

/-- impl.conAt -/
def vc125 (x_0 : Sl) (n_1 : Int) (v : World) (Q : Value → World → Prop) : Prop :=
  ∃ I1 : Int → Int → World → Prop, ∃ m2 : Int → Int → World → Nat, I1 n_1 0 v ∧
  ∀ n3 : Int, ∀ n4 : Int, ∀ w5 : World, I1 n3 n4 w5 →
  ((decide (n4 < (x_0.n : Int))) = true →
    IxOk x_0 n4 ∧
    ∃ n6 : Int, ∃ n7 : Int, ∃ x8 : Sl, (w5.cell? ((elA x_0 n4 3).add 0) = some (.int .i64 n6) ∧
      w5.cell? ((elA x_0 n4 3).add 1) = some (.int .i64 n7) ∧
      w5.cell? ((elA x_0 n4 3).add 2) = some (x8.val)) ∧
    (((decide (n3 ≥ 0)) && (decide (n3 < (x8.n : Int)))) = true →
      ∃ n9 : Int, Wr .i64 (n4 + 1) n9 ∧
      IxOk x8 n3 ∧
      ∃ x10 : Sl, w5.cell? ((elA x8 n3 1).add 0) = some (x10.val) ∧
      Q (.tuple #[.int .i64 n9, .agg #[x10.val]]) w5) ∧
    (((decide (n3 ≥ 0)) && (decide (n3 < (x8.n : Int)))) = false →
      ∃ n11 : Int, Wr .i64 (n3 - (x8.n : Int)) n11 ∧
      ∃ n12 : Int, Wr .i64 (n4 + 1) n12 ∧
      ((.sl (Sl.mk none 0 0) : SV) = .sl (Sl.mk none 0 0)) ∧
      I1 n11 n12 w5 ∧
      m2 n11 n12 w5 < m2 n3 n4 w5)) ∧
  ((decide (n4 < (x_0.n : Int))) = false →
    Q (.tuple #[.int .i64 (-1), .agg #[.slice none 0 0]]) w5)
theorem of125 (x_0 : Sl) (n_1 : Int) (v : World) (Q : Value → World → Prop) (h : vc125 x_0 n_1 v Q) : Trip Try.prog 125 #[x_0.val, .int .i64 n_1] v Q :=
  trip_of_eq (args := [.sl x_0, .num .i64 n_1]) (A := ⟨[(2, [(1, .int .i64), (10, .int .i64)], [])], [], [(5, [])], [], [7, 11, 14, 17, 21, 24, 25, 26, 30, 31, 32, 38, 39, 40, 43, 44, 45, 46, 48, 56, 57, 58, 69, 70, 77, 78, 79, 80, 81, 82, 83, 84, 87, 88, 89, 91, 92, 93, 94, 95, 100, 103, 104, 105, 106, 107, 109, 111, 114, 115, 116, 118, 120, 121, 122, 123, 124, 125]⟩) Try.func125 (by kernel_rfl) (by kernel_rfl) (by kernel_rfl : vc125 x_0 n_1 v Q = _) h

-- STOP 141 (impl.Instr).nexts: 'NoneType' object is not subscriptable
-- STOP 142 (impl.signatures).armFields: 'NoneType' object is not subscriptable
end Go.Vc
