/- Part of the proofs about the heaps and memories: a law is joined in the text whose name ends in W and the law. -/
import Derived.Test.YtjdgknhdphmgiaaEVcFn
import Derived.Test.YtjdgknhdphmgiaaProg
import Derived.KernelRfl
namespace Go.Vc
open Go Go.Proofs
set_option linter.all false
/-- laws.FnExactTailCalls -/
def vc6 (x0_0 : Sl) (x0_1 : Sl) (v : World) (Q : Value → World → Prop) : Prop :=
  ∃ n1 : Int, (Trip Try.prog 7 #[.agg #[x0_0.val, x0_1.val], .int .i64 1048576] v fun r2 w3 => r2 = .int .i64 n1 ∧ Sub v w3) ∧
  ((decide (n1 < 0)) = true →
    Q (.bool true) v) ∧
  ((decide (n1 < 0)) = false →
    Trip Try.prog 9 #[.agg #[x0_0.val, x0_1.val]] v fun r4 w5 =>
      ∃ x6 : Sl, ∃ x7 : Sl, r4 = .agg #[x6.val, x7.val] ∧
      Trip Try.prog 22 #[.agg #[x6.val, x7.val]] w5 fun r8 w9 =>
        ∃ x10 : Sl, ∃ x11 : Sl, ∃ q12 : Bool, r8 = .tuple #[.agg #[x10.val, x11.val], .bool q12] ∧
        Trip Try.prog 9 #[.agg #[x0_0.val, x0_1.val]] w9 fun r13 w14 =>
          ∃ x15 : Sl, ∃ x16 : Sl, r13 = .agg #[x15.val, x16.val] ∧
          Trip Try.prog 23 #[.agg #[x15.val, x16.val]] w14 fun r17 w18 =>
            ∃ x19 : Sl, ∃ x20 : Sl, ∃ q21 : Bool, r17 = .tuple #[.agg #[x19.val, x20.val], .bool q21] ∧
            ∃ q22 : Bool, (Trip Try.prog 11 #[.agg #[x19.val, x20.val], .agg #[x10.val, x11.val]] w18 fun r23 w24 => r23 = .bool q22 ∧ Sub w18 w24) ∧
            (((!q22) || (!(q21 == q12))) = true →
              Q (.bool false) w18) ∧
            (((!q22) || (!(q21 == q12))) = false →
              Trip Try.prog 9 #[.agg #[x0_0.val, x0_1.val]] w18 fun r25 w26 =>
                ∃ x27 : Sl, ∃ x28 : Sl, r25 = .agg #[x27.val, x28.val] ∧
                Sub w18 w26 ∧
                ∃ q29 : Bool, (Trip Try.prog 11 #[.agg #[x15.val, x16.val], .agg #[x27.val, x28.val]] w26 fun r30 w31 => r30 = .bool q29 ∧ Sub w26 w31) ∧
                ((!q29) = true →
                  Q (.bool false) w26) ∧
                ((!q29) = false →
                  Trip Try.prog 15 #[.agg #[x15.val, x16.val], .int .i64 1] w26 fun r32 w33 =>
                    ∃ n34 : Int, r32 = .int .i64 n34 ∧
                    ∃ q35 : Bool, ((decide (n34 < 0)) = false →
                      (Trip Try.prog 11 #[.agg #[x19.val, x20.val], .agg #[x10.val, x11.val]] w33 fun r36 w37 => r36 = .bool q35 ∧ Sub w33 w37)) ∧
                    ((((decide (n34 < 0)) || (!q35)) || (!(q21 == q12))) = true →
                      Q (.bool false) w33) ∧
                    ((((decide (n34 < 0)) || (!q35)) || (!(q21 == q12))) = false →
                      Trip Try.prog 15 #[.agg #[x19.val, x20.val], .int .i64 1] w33 fun r38 w39 =>
                        ∃ n40 : Int, r38 = .int .i64 n40 ∧
                        ∃ n41 : Int, (Trip Try.prog 21 #[.agg #[x19.val, x20.val], .int .i64 1] w39 fun r42 w43 => r42 = .int .i64 n41 ∧ Sub w39 w43) ∧
                        ((decide (n41 < 0)) = true →
                          Q (.bool false) w39) ∧
                        ((decide (n41 < 0)) = false →
                          ((!decide (n41 = n40)) = true →
                            Q (.bool false) w39) ∧
                          ((!decide (n41 = n40)) = false →
                            Trip Try.prog 9 #[.agg #[x0_0.val, x0_1.val]] w39 fun r44 w45 =>
                              ∃ x46 : Sl, ∃ x47 : Sl, r44 = .agg #[x46.val, x47.val] ∧
                              Trip Try.prog 23 #[.agg #[x46.val, x47.val]] w45 fun r48 w49 =>
                                ∃ x50 : Sl, ∃ x51 : Sl, ∃ q52 : Bool, r48 = .tuple #[.agg #[x50.val, x51.val], .bool q52] ∧
                                ∃ q53 : Bool, (Trip Try.prog 11 #[.agg #[x50.val, x51.val], .agg #[x10.val, x11.val]] w49 fun r54 w55 => r54 = .bool q53 ∧ Sub w49 w55) ∧
                                (((!q53) || (!(q52 == q12))) = true →
                                  Q (.bool false) w49) ∧
                                (((!q53) || (!(q52 == q12))) = false →
                                  ∃ n56 : Int, (Trip Try.prog 21 #[.agg #[x19.val, x20.val], .int .i64 1] w49 fun r57 w58 => r57 = .int .i64 n56 ∧ Sub w49 w58) ∧
                                  ((decide (n56 < 0)) = true →
                                    Q (.bool false) w49) ∧
                                  ((decide (n56 < 0)) = false →
                                    ((!decide (n56 = n40)) = true →
                                      Q (.bool false) w49) ∧
                                    ((!decide (n56 = n40)) = false →
                                      Q (.bool true) w49)))))))))
theorem of6 (x0_0 : Sl) (x0_1 : Sl) (v : World) (Q : Value → World → Prop) (h : vc6 x0_0 x0_1 v Q) : Trip Try.prog 6 #[.agg #[x0_0.val, x0_1.val]] v Q :=
  trip_of_eq (args := [.ag [.sl x0_0, .sl x0_1]]) (A := ⟨[], [], [(10, [2])], [], [7, 11, 14, 17, 21, 24, 25, 26, 30, 31, 32, 38, 39, 40, 43, 44, 45, 46, 48, 56, 57, 58, 69, 70, 77, 78, 79, 80, 81, 82, 83, 84, 87, 88, 89, 91, 92, 93, 94, 95, 100, 103, 104, 105, 106, 107, 109, 111, 114, 115, 116, 118, 120, 121, 122, 123, 124, 125]⟩) Try.func6 (by kernel_rfl) (by kernel_rfl) (by kernel_rfl : vc6 x0_0 x0_1 v Q = _) h

/-- laws.szImage -/
def vc7 (x0_0 : Sl) (x0_1 : Sl) (n_1 : Int) (v : World) (Q : Value → World → Prop) : Prop :=
  ∃ n1 : Int, (Trip Try.prog 24 #[x0_0.val, .int .i64 n_1] v fun r2 w3 => r2 = .int .i64 n1 ∧ Sub v w3) ∧
  ((decide (n1 < 0)) = true →
    Q (.int .i64 (-1)) v) ∧
  ((decide (n1 < 0)) = false →
    ∃ n4 : Int, (Trip Try.prog 25 #[x0_1.val, .int .i64 n1] v fun r5 w6 => r5 = .int .i64 n4 ∧ Sub v w6) ∧
    ((decide (n4 < 0)) = true →
      Q (.int .i64 (-1)) v) ∧
    ((decide (n4 < 0)) = false →
      Q (.int .i64 n4) v))
theorem of7 (x0_0 : Sl) (x0_1 : Sl) (n_1 : Int) (v : World) (Q : Value → World → Prop) (h : vc7 x0_0 x0_1 n_1 v Q) : Trip Try.prog 7 #[.agg #[x0_0.val, x0_1.val], .int .i64 n_1] v Q :=
  trip_of_eq (args := [.ag [.sl x0_0, .sl x0_1], .num .i64 n_1]) (A := ⟨[], [], [], [], [7, 11, 14, 17, 21, 24, 25, 26, 30, 31, 32, 38, 39, 40, 43, 44, 45, 46, 48, 56, 57, 58, 69, 70, 77, 78, 79, 80, 81, 82, 83, 84, 87, 88, 89, 91, 92, 93, 94, 95, 100, 103, 104, 105, 106, 107, 109, 111, 114, 115, 116, 118, 120, 121, 122, 123, 124, 125]⟩) Try.func7 (by kernel_rfl) (by kernel_rfl) (by kernel_rfl : vc7 x0_0 x0_1 n_1 v Q = _) h

/-- laws.toImage -/
def vc9 (x0_0 : Sl) (x0_1 : Sl) (v : World) (Q : Value → World → Prop) : Prop :=
  Trip Try.prog 28 #[x0_0.val] v fun r1 w2 =>
    ∃ x3 : Sl, r1 = x3.val ∧
    Trip Try.prog 29 #[x0_1.val] w2 fun r4 w5 =>
      ∃ x6 : Sl, r4 = x6.val ∧
      Q (.agg #[x3.val, x6.val]) w5
theorem of9 (x0_0 : Sl) (x0_1 : Sl) (v : World) (Q : Value → World → Prop) (h : vc9 x0_0 x0_1 v Q) : Trip Try.prog 9 #[.agg #[x0_0.val, x0_1.val]] v Q :=
  trip_of_eq (args := [.ag [.sl x0_0, .sl x0_1]]) (A := ⟨[], [], [], [], [7, 11, 14, 17, 21, 24, 25, 26, 30, 31, 32, 38, 39, 40, 43, 44, 45, 46, 48, 56, 57, 58, 69, 70, 77, 78, 79, 80, 81, 82, 83, 84, 87, 88, 89, 91, 92, 93, 94, 95, 100, 103, 104, 105, 106, 107, 109, 111, 114, 115, 116, 118, 120, 121, 122, 123, 124, 125]⟩) Try.func9 (by kernel_rfl) (by kernel_rfl) (by kernel_rfl : vc9 x0_0 x0_1 v Q = _) h

/-- laws.eqImage -/
def vc11 (x0_0 : Sl) (x0_1 : Sl) (x1_0 : Sl) (x1_1 : Sl) (v : World) (Q : Value → World → Prop) : Prop :=
  ∃ q1 : Bool, (Trip Try.prog 31 #[x0_0.val, x1_0.val] v fun r2 w3 => r2 = .bool q1 ∧ Sub v w3) ∧
  ((!q1) = true →
    Q (.bool false) v) ∧
  ((!q1) = false →
    ∃ q4 : Bool, (Trip Try.prog 32 #[x0_1.val, x1_1.val] v fun r5 w6 => r5 = .bool q4 ∧ Sub v w6) ∧
    ((!q4) = true →
      Q (.bool false) v) ∧
    ((!q4) = false →
      Q (.bool true) v))
theorem of11 (x0_0 : Sl) (x0_1 : Sl) (x1_0 : Sl) (x1_1 : Sl) (v : World) (Q : Value → World → Prop) (h : vc11 x0_0 x0_1 x1_0 x1_1 v Q) : Trip Try.prog 11 #[.agg #[x0_0.val, x0_1.val], .agg #[x1_0.val, x1_1.val]] v Q :=
  trip_of_eq (args := [.ag [.sl x0_0, .sl x0_1], .ag [.sl x1_0, .sl x1_1]]) (A := ⟨[], [], [], [], [7, 11, 14, 17, 21, 24, 25, 26, 30, 31, 32, 38, 39, 40, 43, 44, 45, 46, 48, 56, 57, 58, 69, 70, 77, 78, 79, 80, 81, 82, 83, 84, 87, 88, 89, 91, 92, 93, 94, 95, 100, 103, 104, 105, 106, 107, 109, 111, 114, 115, 116, 118, 120, 121, 122, 123, 124, 125]⟩) Try.func11 (by kernel_rfl) (by kernel_rfl) (by kernel_rfl : vc11 x0_0 x0_1 x1_0 x1_1 v Q = _) h

/-- laws.eqIntS -/
def vc14 (x_0 : Sl) (x_1 : Sl) (v : World) (Q : Value → World → Prop) : Prop :=
  ((!decide ((x_0.n : Int) = (x_1.n : Int))) = true →
    Q (.bool false) v) ∧
  ((!decide ((x_0.n : Int) = (x_1.n : Int))) = false →
    ∃ I1 : Int → World → Prop, ∃ m2 : Int → World → Nat, I1 0 v ∧
    ∀ n3 : Int, ∀ w4 : World, I1 n3 w4 →
    ((decide (n3 < (x_0.n : Int))) = true →
      IxOk x_0 n3 ∧
      ∃ n5 : Int, w4.cell? ((elA x_0 n3 1).add 0) = some (.int .i64 n5) ∧
      IxOk x_1 n3 ∧
      ∃ n6 : Int, w4.cell? ((elA x_1 n3 1).add 0) = some (.int .i64 n6) ∧
      ((!decide (n5 = n6)) = true →
        Q (.bool false) w4) ∧
      ((!decide (n5 = n6)) = false →
        ∃ n7 : Int, Wr .i64 (n3 + 1) n7 ∧
        I1 n7 w4 ∧
        m2 n7 w4 < m2 n3 w4)) ∧
    ((decide (n3 < (x_0.n : Int))) = false →
      Q (.bool true) w4))
theorem of14 (x_0 : Sl) (x_1 : Sl) (v : World) (Q : Value → World → Prop) (h : vc14 x_0 x_1 v Q) : Trip Try.prog 14 #[x_0.val, x_1.val] v Q :=
  trip_of_eq (args := [.sl x_0, .sl x_1]) (A := ⟨[(4, [(5, .int .i64)], [])], [], [], [], [7, 11, 14, 17, 21, 24, 25, 26, 30, 31, 32, 38, 39, 40, 43, 44, 45, 46, 48, 56, 57, 58, 69, 70, 77, 78, 79, 80, 81, 82, 83, 84, 87, 88, 89, 91, 92, 93, 94, 95, 100, 103, 104, 105, 106, 107, 109, 111, 114, 115, 116, 118, 120, 121, 122, 123, 124, 125]⟩) Try.func14 (by kernel_rfl) (by kernel_rfl) (by kernel_rfl : vc14 x_0 x_1 v Q = _) h

/-- laws.markImage -/
def vc15 (x0_0 : Sl) (x0_1 : Sl) (n_1 : Int) (v : World) (Q : Value → World → Prop) : Prop :=
  Trip Try.prog 34 #[x0_0.val, .int .i64 n_1] v fun r1 w2 =>
    ∃ n3 : Int, r1 = .int .i64 n3 ∧
    Trip Try.prog 35 #[x0_1.val, .int .i64 n3] w2 fun r4 w5 =>
      ∃ n6 : Int, r4 = .int .i64 n6 ∧
      Q (.int .i64 n6) w5
theorem of15 (x0_0 : Sl) (x0_1 : Sl) (n_1 : Int) (v : World) (Q : Value → World → Prop) (h : vc15 x0_0 x0_1 n_1 v Q) : Trip Try.prog 15 #[.agg #[x0_0.val, x0_1.val], .int .i64 n_1] v Q :=
  trip_of_eq (args := [.ag [.sl x0_0, .sl x0_1], .num .i64 n_1]) (A := ⟨[], [], [], [], [7, 11, 14, 17, 21, 24, 25, 26, 30, 31, 32, 38, 39, 40, 43, 44, 45, 46, 48, 56, 57, 58, 69, 70, 77, 78, 79, 80, 81, 82, 83, 84, 87, 88, 89, 91, 92, 93, 94, 95, 100, 103, 104, 105, 106, 107, 109, 111, 114, 115, 116, 118, 120, 121, 122, 123, 124, 125]⟩) Try.func15 (by kernel_rfl) (by kernel_rfl) (by kernel_rfl : vc15 x0_0 x0_1 n_1 v Q = _) h

/-- laws.markIntS -/
def vc16 (x_0 : Sl) (n_1 : Int) (v : World) (Q : Value → World → Prop) : Prop :=
  ∃ I1 : Int → Int → World → Prop, ∃ m2 : Int → Int → World → Nat, I1 n_1 0 v ∧
  ∀ n3 : Int, ∀ n4 : Int, ∀ w5 : World, I1 n3 n4 w5 →
  ((decide (n4 < (x_0.n : Int))) = true →
    IxOk x_0 n4 ∧
    StoreAt w5 (elA x_0 n4 1) 0 [.int .i64 n3] fun w6 =>
      ∃ n7 : Int, Wr .i64 (n3 + 1) n7 ∧
      ∃ n8 : Int, Wr .i64 (n4 + 1) n8 ∧
      I1 n7 n8 w6 ∧
      m2 n7 n8 w6 < m2 n3 n4 w5) ∧
  ((decide (n4 < (x_0.n : Int))) = false →
    Q (.int .i64 n3) w5)
theorem of16 (x_0 : Sl) (n_1 : Int) (v : World) (Q : Value → World → Prop) (h : vc16 x_0 n_1 v Q) : Trip Try.prog 16 #[x_0.val, .int .i64 n_1] v Q :=
  trip_of_eq (args := [.sl x_0, .num .i64 n_1]) (A := ⟨[(2, [(1, .int .i64), (5, .int .i64)], [])], [], [], [], [7, 11, 14, 17, 21, 24, 25, 26, 30, 31, 32, 38, 39, 40, 43, 44, 45, 46, 48, 56, 57, 58, 69, 70, 77, 78, 79, 80, 81, 82, 83, 84, 87, 88, 89, 91, 92, 93, 94, 95, 100, 103, 104, 105, 106, 107, 109, 111, 114, 115, 116, 118, 120, 121, 122, 123, 124, 125]⟩) Try.func16 (by kernel_rfl) (by kernel_rfl) (by kernel_rfl : vc16 x_0 n_1 v Q = _) h

/-- laws.heldIntS -/
def vc17 (x_0 : Sl) (n_1 : Int) (v : World) (Q : Value → World → Prop) : Prop :=
  ∃ I1 : Int → Int → World → Prop, ∃ m2 : Int → Int → World → Nat, I1 n_1 0 v ∧
  ∀ n3 : Int, ∀ n4 : Int, ∀ w5 : World, I1 n3 n4 w5 →
  ((decide (n4 < (x_0.n : Int))) = true →
    IxOk x_0 n4 ∧
    ∃ n6 : Int, w5.cell? ((elA x_0 n4 1).add 0) = some (.int .i64 n6) ∧
    ((!decide (n6 = n3)) = true →
      Q (.int .i64 (-1)) w5) ∧
    ((!decide (n6 = n3)) = false →
      ∃ n7 : Int, Wr .i64 (n3 + 1) n7 ∧
      ∃ n8 : Int, Wr .i64 (n4 + 1) n8 ∧
      I1 n7 n8 w5 ∧
      m2 n7 n8 w5 < m2 n3 n4 w5)) ∧
  ((decide (n4 < (x_0.n : Int))) = false →
    Q (.int .i64 n3) w5)
theorem of17 (x_0 : Sl) (n_1 : Int) (v : World) (Q : Value → World → Prop) (h : vc17 x_0 n_1 v Q) : Trip Try.prog 17 #[x_0.val, .int .i64 n_1] v Q :=
  trip_of_eq (args := [.sl x_0, .num .i64 n_1]) (A := ⟨[(2, [(1, .int .i64), (5, .int .i64)], [])], [], [], [], [7, 11, 14, 17, 21, 24, 25, 26, 30, 31, 32, 38, 39, 40, 43, 44, 45, 46, 48, 56, 57, 58, 69, 70, 77, 78, 79, 80, 81, 82, 83, 84, 87, 88, 89, 91, 92, 93, 94, 95, 100, 103, 104, 105, 106, 107, 109, 111, 114, 115, 116, 118, 120, 121, 122, 123, 124, 125]⟩) Try.func17 (by kernel_rfl) (by kernel_rfl) (by kernel_rfl : vc17 x_0 n_1 v Q = _) h

/-- laws.toIntS -/
def vc19 (x_0 : Sl) (v : World) (Q : Value → World → Prop) : Prop :=
  StepT Try.prog (Instr.makeSlice 35 (.int .i64 (x_0.n : Int)) (.int .i64 (x_0.n : Int))) v fun r1 w2 =>
    ∃ x3 : Sl, r1 = x3.val ∧
    ∃ I4 : Int → World → Prop, ∃ m5 : Int → World → Nat, I4 0 w2 ∧
    ∀ n6 : Int, ∀ w7 : World, I4 n6 w7 →
    ((decide (n6 < (x_0.n : Int))) = true →
      IxOk x_0 n6 ∧
      ∃ n8 : Int, w7.cell? ((elA x_0 n6 1).add 0) = some (.int .i64 n8) ∧
      IxOk x3 n6 ∧
      StoreAt w7 (elA x3 n6 1) 0 [.int .i64 n8] fun w9 =>
        ∃ n10 : Int, Wr .i64 (n6 + 1) n10 ∧
        I4 n10 w9 ∧
        m5 n10 w9 < m5 n6 w7) ∧
    ((decide (n6 < (x_0.n : Int))) = false →
      Q (x3.val) w7)
theorem of19 (x_0 : Sl) (v : World) (Q : Value → World → Prop) (h : vc19 x_0 v Q) : Trip Try.prog 19 #[x_0.val] v Q :=
  trip_of_eq (args := [.sl x_0]) (A := ⟨[(3, [(4, .int .i64)], [])], [], [], [], [7, 11, 14, 17, 21, 24, 25, 26, 30, 31, 32, 38, 39, 40, 43, 44, 45, 46, 48, 56, 57, 58, 69, 70, 77, 78, 79, 80, 81, 82, 83, 84, 87, 88, 89, 91, 92, 93, 94, 95, 100, 103, 104, 105, 106, 107, 109, 111, 114, 115, 116, 118, 120, 121, 122, 123, 124, 125]⟩) Try.func19 (by kernel_rfl) (by kernel_rfl) (by kernel_rfl : vc19 x_0 v Q = _) h

/-- laws.heldImage -/
def vc21 (x0_0 : Sl) (x0_1 : Sl) (n_1 : Int) (v : World) (Q : Value → World → Prop) : Prop :=
  ∃ n1 : Int, (Trip Try.prog 39 #[x0_0.val, .int .i64 n_1] v fun r2 w3 => r2 = .int .i64 n1 ∧ Sub v w3) ∧
  ((decide (n1 < 0)) = true →
    Q (.int .i64 (-1)) v) ∧
  ((decide (n1 < 0)) = false →
    ∃ n4 : Int, (Trip Try.prog 40 #[x0_1.val, .int .i64 n1] v fun r5 w6 => r5 = .int .i64 n4 ∧ Sub v w6) ∧
    ((decide (n4 < 0)) = true →
      Q (.int .i64 (-1)) v) ∧
    ((decide (n4 < 0)) = false →
      Q (.int .i64 n4) v))
theorem of21 (x0_0 : Sl) (x0_1 : Sl) (n_1 : Int) (v : World) (Q : Value → World → Prop) (h : vc21 x0_0 x0_1 n_1 v Q) : Trip Try.prog 21 #[.agg #[x0_0.val, x0_1.val], .int .i64 n_1] v Q :=
  trip_of_eq (args := [.ag [.sl x0_0, .sl x0_1], .num .i64 n_1]) (A := ⟨[], [], [], [], [7, 11, 14, 17, 21, 24, 25, 26, 30, 31, 32, 38, 39, 40, 43, 44, 45, 46, 48, 56, 57, 58, 69, 70, 77, 78, 79, 80, 81, 82, 83, 84, 87, 88, 89, 91, 92, 93, 94, 95, 100, 103, 104, 105, 106, 107, 109, 111, 114, 115, 116, 118, 120, 121, 122, 123, 124, 125]⟩) Try.func21 (by kernel_rfl) (by kernel_rfl) (by kernel_rfl : vc21 x0_0 x0_1 n_1 v Q = _) h

/-- spec.TailCalls -/
def vc22 (x0_0 : Sl) (x0_1 : Sl) (v : World) (Q : Value → World → Prop) : Prop :=
  ∃ q1 : Bool, (Trip Try.prog 26 #[.agg #[x0_0.val, x0_1.val]] v fun r2 w3 => r2 = .bool q1 ∧ Sub v w3) ∧
  ((!q1) = true →
    Q (.tuple #[.agg #[.slice none 0 0, .slice none 0 0], .bool false]) v) ∧
  ((!q1) = false →
    Trip Try.prog 41 #[.agg #[x0_0.val, x0_1.val]] v fun r4 w5 =>
      ∃ x6 : Sl, ∃ x7 : Sl, r4 = .agg #[x6.val, x7.val] ∧
      Q (.tuple #[.agg #[x6.val, x7.val], .bool true]) w5)
theorem of22 (x0_0 : Sl) (x0_1 : Sl) (v : World) (Q : Value → World → Prop) (h : vc22 x0_0 x0_1 v Q) : Trip Try.prog 22 #[.agg #[x0_0.val, x0_1.val]] v Q :=
  trip_of_eq (args := [.ag [.sl x0_0, .sl x0_1]]) (A := ⟨[], [], [], [], [7, 11, 14, 17, 21, 24, 25, 26, 30, 31, 32, 38, 39, 40, 43, 44, 45, 46, 48, 56, 57, 58, 69, 70, 77, 78, 79, 80, 81, 82, 83, 84, 87, 88, 89, 91, 92, 93, 94, 95, 100, 103, 104, 105, 106, 107, 109, 111, 114, 115, 116, 118, 120, 121, 122, 123, 124, 125]⟩) Try.func22 (by kernel_rfl) (by kernel_rfl) (by kernel_rfl : vc22 x0_0 x0_1 v Q = _) h

/-- impl.TailCalls -/
def vc23 (x0_0 : Sl) (x0_1 : Sl) (v : World) (Q : Value → World → Prop) : Prop :=
  ∃ q1 : Bool, (Trip Try.prog 30 #[.agg #[x0_0.val, x0_1.val]] v fun r2 w3 => r2 = .bool q1 ∧ Sub v w3) ∧
  ((!q1) = true →
    Q (.tuple #[.agg #[.slice none 0 0, .slice none 0 0], .bool false]) v) ∧
  ((!q1) = false →
    Trip Try.prog 42 #[.agg #[x0_0.val, x0_1.val]] v fun r4 w5 =>
      ∃ x6 : Sl, ∃ x7 : Sl, r4 = .agg #[x6.val, x7.val] ∧
      ∃ I8 : Int → World → Prop, ∃ m9 : Int → World → Nat, I8 0 w5 ∧
      ∀ n10 : Int, ∀ w11 : World, I8 n10 w11 →
      ((decide (n10 < (x7.n : Int))) = true →
        IxOk x7 n10 ∧
        ∃ x12 : Sl, ∃ x13 : Sl, ∃ n14 : Int, ∃ n15 : Int, ∃ x16 : Sl, (w11.cell? ((elA x7 n10 5).add 0) = some (x12.val) ∧
          w11.cell? ((elA x7 n10 5).add 1) = some (x13.val) ∧
          w11.cell? ((elA x7 n10 5).add 2) = some (.int .i64 n14) ∧
          w11.cell? ((elA x7 n10 5).add 3) = some (.int .i64 n15) ∧
          w11.cell? ((elA x7 n10 5).add 4) = some (x16.val)) ∧
        ∃ I17 : Int → World → Prop, ∃ m18 : Int → World → Nat, I17 0 w11 ∧
        ∀ n19 : Int, ∀ w20 : World, I17 n19 w20 →
        ((decide (n19 < (x16.n : Int))) = true →
          IxOk x16 n19 ∧
          ∃ n21 : Int, ∃ n22 : Int, ∃ n23 : Int, ∃ n24 : Int, ∃ x25 : Sl, ∃ x26 : Sl, (w20.cell? ((elA x16 n19 6).add 0) = some (.int .i64 n21) ∧
            w20.cell? ((elA x16 n19 6).add 1) = some (.int .i64 n22) ∧
            w20.cell? ((elA x16 n19 6).add 2) = some (.int .i64 n23) ∧
            w20.cell? ((elA x16 n19 6).add 3) = some (.int .i64 n24) ∧
            w20.cell? ((elA x16 n19 6).add 4) = some (x25.val) ∧
            w20.cell? ((elA x16 n19 6).add 5) = some (x26.val)) ∧
          ∃ n27 : Int, ((decide (n21 = 9)) = true →
            Wr .i64 (n19 + 1) n27) ∧
          ∃ q28 : Bool, ((decide (n21 = 9)) = true →
            (Trip Try.prog 43 #[x16.val, .int .i64 n27, .int .i64 n22] w20 fun r29 w30 => r29 = .bool q28 ∧ Sub w20 w30)) ∧
          (((decide (n21 = 9)) && q28) = true →
            IxOk x16 n19 ∧
            ((StoreAt w20 (elA x16 n19 6) 0 [.int .i64 24] fun w31 =>
                  IxOk x16 n19 ∧
                  StoreAt w31 (elA x16 n19 6) 1 [.int .i64 0] fun w32 =>
                    ∃ n33 : Int, Wr .i64 (n19 + 1) n33 ∧
                    ((.sl x0_0 : SV) = .sl x0_0) ∧
                    ((.sl x0_1 : SV) = .sl x0_1) ∧
                    ((.sl (Sl.mk none 0 0) : SV) = .sl (Sl.mk none 0 0)) ∧
                    ((.sl (Sl.mk none 0 0) : SV) = .sl (Sl.mk none 0 0)) ∧
                    ((.sl x6 : SV) = .sl x6) ∧
                    ((.sl x7 : SV) = .sl x7) ∧
                    ((.sl x12 : SV) = .sl x12) ∧
                    ((.sl x13 : SV) = .sl x13) ∧
                    ((.num .i64 n14 : SV) = .num .i64 n14) ∧
                    ((.num .i64 n15 : SV) = .num .i64 n15) ∧
                    ((.sl x16 : SV) = .sl x16) ∧
                    I17 n33 w32 ∧
                    m18 n33 w32 < m18 n19 w20) ∧
              StoreAt w20 (elA x16 n19 6) 0 [.int .i64 24] fun w34 =>
                IxOk x16 n19 ∧
                StoreAt w34 (elA x16 n19 6) 1 [.int .i64 0] fun w35 =>
                  ∃ n36 : Int, Wr .i64 (n19 + 1) n36 ∧
                  ((.sl x0_0 : SV) = .sl x0_0) ∧
                  ((.sl x0_1 : SV) = .sl x0_1) ∧
                  ((.sl (Sl.mk none 0 0) : SV) = .sl (Sl.mk none 0 0)) ∧
                  ((.sl (Sl.mk none 0 0) : SV) = .sl (Sl.mk none 0 0)) ∧
                  ((.sl x6 : SV) = .sl x6) ∧
                  ((.sl x7 : SV) = .sl x7) ∧
                  ((.sl x12 : SV) = .sl x12) ∧
                  ((.sl x13 : SV) = .sl x13) ∧
                  ((.num .i64 n14 : SV) = .num .i64 n14) ∧
                  ((.num .i64 n15 : SV) = .num .i64 n15) ∧
                  ((.sl x16 : SV) = .sl x16) ∧
                  I17 n36 w35 ∧
                  m18 n36 w35 < m18 n19 w20) ∧
            StoreAt w20 (elA x16 n19 6) 0 [.int .i64 24] fun w37 =>
              IxOk x16 n19 ∧
              StoreAt w37 (elA x16 n19 6) 1 [.int .i64 0] fun w38 =>
                ∃ n39 : Int, Wr .i64 (n19 + 1) n39 ∧
                ((.sl x0_0 : SV) = .sl x0_0) ∧
                ((.sl x0_1 : SV) = .sl x0_1) ∧
                ((.sl (Sl.mk none 0 0) : SV) = .sl (Sl.mk none 0 0)) ∧
                ((.sl (Sl.mk none 0 0) : SV) = .sl (Sl.mk none 0 0)) ∧
                ((.sl x6 : SV) = .sl x6) ∧
                ((.sl x7 : SV) = .sl x7) ∧
                ((.sl x12 : SV) = .sl x12) ∧
                ((.sl x13 : SV) = .sl x13) ∧
                ((.num .i64 n14 : SV) = .num .i64 n14) ∧
                ((.num .i64 n15 : SV) = .num .i64 n15) ∧
                ((.sl x16 : SV) = .sl x16) ∧
                I17 n39 w38 ∧
                m18 n39 w38 < m18 n19 w20) ∧
          (((decide (n21 = 9)) && q28) = false →
            ∃ n40 : Int, Wr .i64 (n19 + 1) n40 ∧
            ((.sl x0_0 : SV) = .sl x0_0) ∧
            ((.sl x0_1 : SV) = .sl x0_1) ∧
            ((.sl (Sl.mk none 0 0) : SV) = .sl (Sl.mk none 0 0)) ∧
            ((.sl (Sl.mk none 0 0) : SV) = .sl (Sl.mk none 0 0)) ∧
            ((.sl x6 : SV) = .sl x6) ∧
            ((.sl x7 : SV) = .sl x7) ∧
            ((.sl x12 : SV) = .sl x12) ∧
            ((.sl x13 : SV) = .sl x13) ∧
            ((.num .i64 n14 : SV) = .num .i64 n14) ∧
            ((.num .i64 n15 : SV) = .num .i64 n15) ∧
            ((.sl x16 : SV) = .sl x16) ∧
            I17 n40 w20 ∧
            m18 n40 w20 < m18 n19 w20)) ∧
        ((decide (n19 < (x16.n : Int))) = false →
          ∃ n41 : Int, Wr .i64 (n10 + 1) n41 ∧
          ((.sl x0_0 : SV) = .sl x0_0) ∧
          ((.sl x0_1 : SV) = .sl x0_1) ∧
          ((.sl (Sl.mk none 0 0) : SV) = .sl (Sl.mk none 0 0)) ∧
          ((.sl (Sl.mk none 0 0) : SV) = .sl (Sl.mk none 0 0)) ∧
          ((.sl x6 : SV) = .sl x6) ∧
          ((.sl x7 : SV) = .sl x7) ∧
          I8 n41 w20 ∧
          m9 n41 w20 < m9 n10 w11)) ∧
      ((decide (n10 < (x7.n : Int))) = false →
        Q (.tuple #[.agg #[x6.val, x7.val], .bool true]) w11))
theorem of23 (x0_0 : Sl) (x0_1 : Sl) (v : World) (Q : Value → World → Prop) (h : vc23 x0_0 x0_1 v Q) : Trip Try.prog 23 #[.agg #[x0_0.val, x0_1.val]] v Q :=
  trip_of_eq (args := [.ag [.sl x0_0, .sl x0_1]]) (A := ⟨[(5, [(18, .int .i64)], []), (8, [(25, .int .i64)], [])], [], [(11, [])], [], [7, 11, 14, 17, 21, 24, 25, 26, 30, 31, 32, 38, 39, 40, 43, 44, 45, 46, 48, 56, 57, 58, 69, 70, 77, 78, 79, 80, 81, 82, 83, 84, 87, 88, 89, 91, 92, 93, 94, 95, 100, 103, 104, 105, 106, 107, 109, 111, 114, 115, 116, 118, 120, 121, 122, 123, 124, 125]⟩) Try.func23 (by kernel_rfl) (by kernel_rfl) (by kernel_rfl : vc23 x0_0 x0_1 v Q = _) h

/-- laws.szDeclS -/
def vc24 (x_0 : Sl) (n_1 : Int) (v : World) (Q : Value → World → Prop) : Prop :=
  ∃ n1 : Int, Wr .i64 (n_1 - (x_0.n : Int)) n1 ∧
  ((decide (n1 < 0)) = true →
    Q (.int .i64 (-1)) v) ∧
  ((decide (n1 < 0)) = false →
    ∃ I2 : Int → Int → World → Prop, ∃ m3 : Int → Int → World → Nat, I2 n1 0 v ∧
    ∀ n4 : Int, ∀ n5 : Int, ∀ w6 : World, I2 n4 n5 w6 →
    ((decide (n5 < (x_0.n : Int))) = true →
      IxOk x_0 n5 ∧
      ∃ n7 : Int, ∃ n8 : Int, ∃ x9 : Sl, (w6.cell? ((elA x_0 n5 3).add 0) = some (.int .i64 n7) ∧
        w6.cell? ((elA x_0 n5 3).add 1) = some (.int .i64 n8) ∧
        w6.cell? ((elA x_0 n5 3).add 2) = some (x9.val)) ∧
      ∃ n10 : Int, (Trip Try.prog 44 #[.agg #[.int .i64 n7, .int .i64 n8, x9.val], .int .i64 n4] w6 fun r11 w12 => r11 = .int .i64 n10 ∧ Sub w6 w12) ∧
      ((decide (n10 < 0)) = true →
        Q (.int .i64 (-1)) w6) ∧
      ((decide (n10 < 0)) = false →
        ∃ n13 : Int, Wr .i64 (n5 + 1) n13 ∧
        I2 n10 n13 w6 ∧
        m3 n10 n13 w6 < m3 n4 n5 w6)) ∧
    ((decide (n5 < (x_0.n : Int))) = false →
      Q (.int .i64 n4) w6))
theorem of24 (x_0 : Sl) (n_1 : Int) (v : World) (Q : Value → World → Prop) (h : vc24 x_0 n_1 v Q) : Trip Try.prog 24 #[x_0.val, .int .i64 n_1] v Q :=
  trip_of_eq (args := [.sl x_0, .num .i64 n_1]) (A := ⟨[(5, [(1, .int .i64), (5, .int .i64)], [])], [], [], [], [7, 11, 14, 17, 21, 24, 25, 26, 30, 31, 32, 38, 39, 40, 43, 44, 45, 46, 48, 56, 57, 58, 69, 70, 77, 78, 79, 80, 81, 82, 83, 84, 87, 88, 89, 91, 92, 93, 94, 95, 100, 103, 104, 105, 106, 107, 109, 111, 114, 115, 116, 118, 120, 121, 122, 123, 124, 125]⟩) Try.func24 (by kernel_rfl) (by kernel_rfl) (by kernel_rfl : vc24 x_0 n_1 v Q = _) h

/-- laws.szProcS -/
def vc25 (x_0 : Sl) (n_1 : Int) (v : World) (Q : Value → World → Prop) : Prop :=
  ∃ n1 : Int, Wr .i64 (n_1 - (x_0.n : Int)) n1 ∧
  ((decide (n1 < 0)) = true →
    Q (.int .i64 (-1)) v) ∧
  ((decide (n1 < 0)) = false →
    ∃ I2 : Int → Int → World → Prop, ∃ m3 : Int → Int → World → Nat, I2 n1 0 v ∧
    ∀ n4 : Int, ∀ n5 : Int, ∀ w6 : World, I2 n4 n5 w6 →
    ((decide (n5 < (x_0.n : Int))) = true →
      IxOk x_0 n5 ∧
      ∃ x7 : Sl, ∃ x8 : Sl, ∃ n9 : Int, ∃ n10 : Int, ∃ x11 : Sl, (w6.cell? ((elA x_0 n5 5).add 0) = some (x7.val) ∧
        w6.cell? ((elA x_0 n5 5).add 1) = some (x8.val) ∧
        w6.cell? ((elA x_0 n5 5).add 2) = some (.int .i64 n9) ∧
        w6.cell? ((elA x_0 n5 5).add 3) = some (.int .i64 n10) ∧
        w6.cell? ((elA x_0 n5 5).add 4) = some (x11.val)) ∧
      ∃ n12 : Int, (Trip Try.prog 45 #[.agg #[x7.val, x8.val, .int .i64 n9, .int .i64 n10, x11.val], .int .i64 n4] w6 fun r13 w14 => r13 = .int .i64 n12 ∧ Sub w6 w14) ∧
      ((decide (n12 < 0)) = true →
        Q (.int .i64 (-1)) w6) ∧
      ((decide (n12 < 0)) = false →
        ∃ n15 : Int, Wr .i64 (n5 + 1) n15 ∧
        I2 n12 n15 w6 ∧
        m3 n12 n15 w6 < m3 n4 n5 w6)) ∧
    ((decide (n5 < (x_0.n : Int))) = false →
      Q (.int .i64 n4) w6))
theorem of25 (x_0 : Sl) (n_1 : Int) (v : World) (Q : Value → World → Prop) (h : vc25 x_0 n_1 v Q) : Trip Try.prog 25 #[x_0.val, .int .i64 n_1] v Q :=
  trip_of_eq (args := [.sl x_0, .num .i64 n_1]) (A := ⟨[(5, [(1, .int .i64), (5, .int .i64)], [])], [], [], [], [7, 11, 14, 17, 21, 24, 25, 26, 30, 31, 32, 38, 39, 40, 43, 44, 45, 46, 48, 56, 57, 58, 69, 70, 77, 78, 79, 80, 81, 82, 83, 84, 87, 88, 89, 91, 92, 93, 94, 95, 100, 103, 104, 105, 106, 107, 109, 111, 114, 115, 116, 118, 120, 121, 122, 123, 124, 125]⟩) Try.func25 (by kernel_rfl) (by kernel_rfl) (by kernel_rfl : vc25 x_0 n_1 v Q = _) h

/-- spec.validImage -/
def vc26 (x0_0 : Sl) (x0_1 : Sl) (v : World) (Q : Value → World → Prop) : Prop :=
  ((decide ((x0_1.n : Int) > 4)) = false →
    Trip Try.prog 47 #[.agg #[x0_0.val, x0_1.val]] v fun r1 w2 =>
      ∃ x3 : Sl, ∃ x4 : Sl, r1 = .agg #[x3.val, x4.val] ∧
      ∃ q5 : Bool, (Trip Try.prog 46 #[.agg #[x3.val, x4.val]] w2 fun r6 w7 => r6 = .bool q5 ∧ Sub w2 w7) ∧
      ((!q5) = true →
        Q (.bool false) w2) ∧
      ((!q5) = false →
        ∃ I8 : Int → World → Prop, ∃ m9 : Int → World → Nat, I8 0 w2 ∧
        ∀ n10 : Int, ∀ w11 : World, I8 n10 w11 →
        ((decide (n10 < (x0_1.n : Int))) = true →
          IxOk x0_1 n10 ∧
          ∃ x12 : Sl, ∃ x13 : Sl, ∃ n14 : Int, ∃ n15 : Int, ∃ x16 : Sl, (w11.cell? ((elA x0_1 n10 5).add 0) = some (x12.val) ∧
            w11.cell? ((elA x0_1 n10 5).add 1) = some (x13.val) ∧
            w11.cell? ((elA x0_1 n10 5).add 2) = some (.int .i64 n14) ∧
            w11.cell? ((elA x0_1 n10 5).add 3) = some (.int .i64 n15) ∧
            w11.cell? ((elA x0_1 n10 5).add 4) = some (x16.val)) ∧
          ∃ q17 : Bool, (Trip Try.prog 48 #[.agg #[x0_0.val, x0_1.val], .agg #[x12.val, x13.val, .int .i64 n14, .int .i64 n15, x16.val]] w11 fun r18 w19 => r18 = .bool q17 ∧ Sub w11 w19) ∧
          ((!q17) = true →
            Q (.bool false) w11) ∧
          ((!q17) = false →
            ∃ n20 : Int, Wr .i64 (n10 + 1) n20 ∧
            ((.sl x0_0 : SV) = .sl x0_0) ∧
            ((.sl x0_1 : SV) = .sl x0_1) ∧
            I8 n20 w11 ∧
            m9 n20 w11 < m9 n10 w11)) ∧
        ((decide (n10 < (x0_1.n : Int))) = false →
          Q (.bool true) w11))) ∧
  ((decide ((x0_1.n : Int) > 4)) = true →
    Q (.bool false) v)
theorem of26 (x0_0 : Sl) (x0_1 : Sl) (v : World) (Q : Value → World → Prop) (h : vc26 x0_0 x0_1 v Q) : Trip Try.prog 26 #[.agg #[x0_0.val, x0_1.val]] v Q :=
  trip_of_eq (args := [.ag [.sl x0_0, .sl x0_1]]) (A := ⟨[(4, [(3, .int .i64)], [])], [], [], [], [7, 11, 14, 17, 21, 24, 25, 26, 30, 31, 32, 38, 39, 40, 43, 44, 45, 46, 48, 56, 57, 58, 69, 70, 77, 78, 79, 80, 81, 82, 83, 84, 87, 88, 89, 91, 92, 93, 94, 95, 100, 103, 104, 105, 106, 107, 109, 111, 114, 115, 116, 118, 120, 121, 122, 123, 124, 125]⟩) Try.func26 (by kernel_rfl) (by kernel_rfl) (by kernel_rfl : vc26 x0_0 x0_1 v Q = _) h

/-- laws.toDeclS -/
def vc28 (x_0 : Sl) (v : World) (Q : Value → World → Prop) : Prop :=
  StepT Try.prog (Instr.makeSlice 28 (.int .i64 (x_0.n : Int)) (.int .i64 (x_0.n : Int))) v fun r1 w2 =>
    ∃ x3 : Sl, r1 = x3.val ∧
    ∃ I4 : Int → World → Prop, ∃ m5 : Int → World → Nat, I4 0 w2 ∧
    ∀ n6 : Int, ∀ w7 : World, I4 n6 w7 →
    ((decide (n6 < (x_0.n : Int))) = true →
      IxOk x_0 n6 ∧
      ∃ n8 : Int, ∃ n9 : Int, ∃ x10 : Sl, (w7.cell? ((elA x_0 n6 3).add 0) = some (.int .i64 n8) ∧
        w7.cell? ((elA x_0 n6 3).add 1) = some (.int .i64 n9) ∧
        w7.cell? ((elA x_0 n6 3).add 2) = some (x10.val)) ∧
      Trip Try.prog 53 #[.agg #[.int .i64 n8, .int .i64 n9, x10.val]] w7 fun r11 w12 =>
        ∃ n13 : Int, ∃ n14 : Int, ∃ x15 : Sl, r11 = .agg #[.int .i64 n13, .int .i64 n14, x15.val] ∧
        IxOk x3 n6 ∧
        StoreAt w12 (elA x3 n6 3) 0 [.int .i64 n13, .int .i64 n14, x15.val] fun w16 =>
          ∃ n17 : Int, Wr .i64 (n6 + 1) n17 ∧
          I4 n17 w16 ∧
          m5 n17 w16 < m5 n6 w7) ∧
    ((decide (n6 < (x_0.n : Int))) = false →
      Q (x3.val) w7)
theorem of28 (x_0 : Sl) (v : World) (Q : Value → World → Prop) (h : vc28 x_0 v Q) : Trip Try.prog 28 #[x_0.val] v Q :=
  trip_of_eq (args := [.sl x_0]) (A := ⟨[(3, [(4, .int .i64)], [])], [], [], [], [7, 11, 14, 17, 21, 24, 25, 26, 30, 31, 32, 38, 39, 40, 43, 44, 45, 46, 48, 56, 57, 58, 69, 70, 77, 78, 79, 80, 81, 82, 83, 84, 87, 88, 89, 91, 92, 93, 94, 95, 100, 103, 104, 105, 106, 107, 109, 111, 114, 115, 116, 118, 120, 121, 122, 123, 124, 125]⟩) Try.func28 (by kernel_rfl) (by kernel_rfl) (by kernel_rfl : vc28 x_0 v Q = _) h

/-- laws.toProcS -/
def vc29 (x_0 : Sl) (v : World) (Q : Value → World → Prop) : Prop :=
  StepT Try.prog (Instr.makeSlice 29 (.int .i64 (x_0.n : Int)) (.int .i64 (x_0.n : Int))) v fun r1 w2 =>
    ∃ x3 : Sl, r1 = x3.val ∧
    ∃ I4 : Int → World → Prop, ∃ m5 : Int → World → Nat, I4 0 w2 ∧
    ∀ n6 : Int, ∀ w7 : World, I4 n6 w7 →
    ((decide (n6 < (x_0.n : Int))) = true →
      IxOk x_0 n6 ∧
      ∃ x8 : Sl, ∃ x9 : Sl, ∃ n10 : Int, ∃ n11 : Int, ∃ x12 : Sl, (w7.cell? ((elA x_0 n6 5).add 0) = some (x8.val) ∧
        w7.cell? ((elA x_0 n6 5).add 1) = some (x9.val) ∧
        w7.cell? ((elA x_0 n6 5).add 2) = some (.int .i64 n10) ∧
        w7.cell? ((elA x_0 n6 5).add 3) = some (.int .i64 n11) ∧
        w7.cell? ((elA x_0 n6 5).add 4) = some (x12.val)) ∧
      Trip Try.prog 54 #[.agg #[x8.val, x9.val, .int .i64 n10, .int .i64 n11, x12.val]] w7 fun r13 w14 =>
        ∃ x15 : Sl, ∃ x16 : Sl, ∃ n17 : Int, ∃ n18 : Int, ∃ x19 : Sl, r13 = .agg #[x15.val, x16.val, .int .i64 n17, .int .i64 n18, x19.val] ∧
        IxOk x3 n6 ∧
        StoreAt w14 (elA x3 n6 5) 0 [x15.val, x16.val, .int .i64 n17, .int .i64 n18, x19.val] fun w20 =>
          ∃ n21 : Int, Wr .i64 (n6 + 1) n21 ∧
          I4 n21 w20 ∧
          m5 n21 w20 < m5 n6 w7) ∧
    ((decide (n6 < (x_0.n : Int))) = false →
      Q (x3.val) w7)
theorem of29 (x_0 : Sl) (v : World) (Q : Value → World → Prop) (h : vc29 x_0 v Q) : Trip Try.prog 29 #[x_0.val] v Q :=
  trip_of_eq (args := [.sl x_0]) (A := ⟨[(3, [(4, .int .i64)], [])], [], [], [], [7, 11, 14, 17, 21, 24, 25, 26, 30, 31, 32, 38, 39, 40, 43, 44, 45, 46, 48, 56, 57, 58, 69, 70, 77, 78, 79, 80, 81, 82, 83, 84, 87, 88, 89, 91, 92, 93, 94, 95, 100, 103, 104, 105, 106, 107, 109, 111, 114, 115, 116, 118, 120, 121, 122, 123, 124, 125]⟩) Try.func29 (by kernel_rfl) (by kernel_rfl) (by kernel_rfl : vc29 x_0 v Q = _) h

/-- impl.ValidImage -/
def vc30 (x0_0 : Sl) (x0_1 : Sl) (v : World) (Q : Value → World → Prop) : Prop :=
  Trip Try.prog 55 #[.agg #[x0_0.val, x0_1.val]] v fun r1 w2 =>
    ∃ x3 : Sl, ∃ x4 : Sl, ∃ q5 : Bool, r1 = .tuple #[.agg #[x3.val, x4.val], .bool q5] ∧
    ((!q5) = true →
      Q (.bool false) w2) ∧
    ((!q5) = false →
      ∃ I6 : Int → World → Prop, ∃ m7 : Int → World → Nat, I6 0 w2 ∧
      ∀ n8 : Int, ∀ w9 : World, I6 n8 w9 →
      ((decide (n8 < (x0_1.n : Int))) = true →
        IxOk x0_1 n8 ∧
        ∃ x10 : Sl, ∃ x11 : Sl, ∃ n12 : Int, ∃ n13 : Int, ∃ x14 : Sl, (w9.cell? ((elA x0_1 n8 5).add 0) = some (x10.val) ∧
          w9.cell? ((elA x0_1 n8 5).add 1) = some (x11.val) ∧
          w9.cell? ((elA x0_1 n8 5).add 2) = some (.int .i64 n12) ∧
          w9.cell? ((elA x0_1 n8 5).add 3) = some (.int .i64 n13) ∧
          w9.cell? ((elA x0_1 n8 5).add 4) = some (x14.val)) ∧
        ∃ n15 : Int, PureT Try.prog (Builtin.max_ #[3, 3] 3 #[(.int .i64 1), (.int .i64 (x10.n : Int))]) w9 (.int .i64 n15) ∧
        (((((decide (n13 < n15)) || (decide (n13 > 2000))) || (decide ((x14.n : Int) < 1))) || (decide ((x14.n : Int) > 2000))) = true →
          Q (.bool false) w9) ∧
        (((((decide (n13 < n15)) || (decide (n13 > 2000))) || (decide ((x14.n : Int) < 1))) || (decide ((x14.n : Int) > 2000))) = false →
          ∃ n16 : Int, Wr .i64 ((x14.n : Int) - 1) n16 ∧
          IxOk x14 n16 ∧
          ∃ n17 : Int, w9.cell? ((elA x14 n16 6).add 0) = some (.int .i64 n17) ∧
          (((!decide (n17 = 23)) && (!decide (n17 = 24))) = true →
            Q (.bool false) w9) ∧
          (((!decide (n17 = 23)) && (!decide (n17 = 24))) = false →
            ∃ I18 : Int → World → Prop, ∃ m19 : Int → World → Nat, I18 0 w9 ∧
            ∀ n20 : Int, ∀ w21 : World, I18 n20 w21 →
            ((decide (n20 < (x14.n : Int))) = true →
              IxOk x14 n20 ∧
              ∃ n22 : Int, ∃ n23 : Int, ∃ n24 : Int, ∃ n25 : Int, ∃ x26 : Sl, ∃ x27 : Sl, (w21.cell? ((elA x14 n20 6).add 0) = some (.int .i64 n22) ∧
                w21.cell? ((elA x14 n20 6).add 1) = some (.int .i64 n23) ∧
                w21.cell? ((elA x14 n20 6).add 2) = some (.int .i64 n24) ∧
                w21.cell? ((elA x14 n20 6).add 3) = some (.int .i64 n25) ∧
                w21.cell? ((elA x14 n20 6).add 4) = some (x26.val) ∧
                w21.cell? ((elA x14 n20 6).add 5) = some (x27.val)) ∧
              ∃ q28 : Bool, (Trip Try.prog 56 #[.agg #[x3.val, x4.val], .agg #[x10.val, x11.val, .int .i64 n12, .int .i64 n13, x14.val], .int .i64 n20, .agg #[.int .i64 n22, .int .i64 n23, .int .i64 n24, .int .i64 n25, x26.val, x27.val]] w21 fun r29 w30 => r29 = .bool q28 ∧ Sub w21 w30) ∧
              ((!q28) = true →
                Q (.bool false) w21) ∧
              ((!q28) = false →
                ∃ n31 : Int, Wr .i64 (n20 + 1) n31 ∧
                ((.sl x0_0 : SV) = .sl x0_0) ∧
                ((.sl x0_1 : SV) = .sl x0_1) ∧
                ((.sl x3 : SV) = .sl x3) ∧
                ((.sl x4 : SV) = .sl x4) ∧
                ((.sl x10 : SV) = .sl x10) ∧
                ((.sl x11 : SV) = .sl x11) ∧
                ((.num .i64 n12 : SV) = .num .i64 n12) ∧
                ((.num .i64 n13 : SV) = .num .i64 n13) ∧
                ((.sl x14 : SV) = .sl x14) ∧
                I18 n31 w21 ∧
                m19 n31 w21 < m19 n20 w21)) ∧
            ((decide (n20 < (x14.n : Int))) = false →
              ∃ n32 : Int, Wr .i64 (n8 + 1) n32 ∧
              ((.sl x0_0 : SV) = .sl x0_0) ∧
              ((.sl x0_1 : SV) = .sl x0_1) ∧
              ((.sl x3 : SV) = .sl x3) ∧
              ((.sl x4 : SV) = .sl x4) ∧
              I6 n32 w21 ∧
              m7 n32 w21 < m7 n8 w9)))) ∧
      ((decide (n8 < (x0_1.n : Int))) = false →
        Q (.bool true) w9))
theorem of30 (x0_0 : Sl) (x0_1 : Sl) (v : World) (Q : Value → World → Prop) (h : vc30 x0_0 x0_1 v Q) : Trip Try.prog 30 #[.agg #[x0_0.val, x0_1.val]] v Q :=
  trip_of_eq (args := [.ag [.sl x0_0, .sl x0_1]]) (A := ⟨[(5, [(20, .int .i64)], []), (13, [(66, .int .i64)], [])], [], [], [], [7, 11, 14, 17, 21, 24, 25, 26, 30, 31, 32, 38, 39, 40, 43, 44, 45, 46, 48, 56, 57, 58, 69, 70, 77, 78, 79, 80, 81, 82, 83, 84, 87, 88, 89, 91, 92, 93, 94, 95, 100, 103, 104, 105, 106, 107, 109, 111, 114, 115, 116, 118, 120, 121, 122, 123, 124, 125]⟩) Try.func30 (by kernel_rfl) (by kernel_rfl) (by kernel_rfl : vc30 x0_0 x0_1 v Q = _) h

/-- laws.eqDeclS -/
def vc31 (x_0 : Sl) (x_1 : Sl) (v : World) (Q : Value → World → Prop) : Prop :=
  ((!decide ((x_0.n : Int) = (x_1.n : Int))) = true →
    Q (.bool false) v) ∧
  ((!decide ((x_0.n : Int) = (x_1.n : Int))) = false →
    ∃ I1 : Int → World → Prop, ∃ m2 : Int → World → Nat, I1 0 v ∧
    ∀ n3 : Int, ∀ w4 : World, I1 n3 w4 →
    ((decide (n3 < (x_0.n : Int))) = true →
      IxOk x_0 n3 ∧
      ∃ n5 : Int, ∃ n6 : Int, ∃ x7 : Sl, (w4.cell? ((elA x_0 n3 3).add 0) = some (.int .i64 n5) ∧
        w4.cell? ((elA x_0 n3 3).add 1) = some (.int .i64 n6) ∧
        w4.cell? ((elA x_0 n3 3).add 2) = some (x7.val)) ∧
      IxOk x_1 n3 ∧
      ∃ n8 : Int, ∃ n9 : Int, ∃ x10 : Sl, (w4.cell? ((elA x_1 n3 3).add 0) = some (.int .i64 n8) ∧
        w4.cell? ((elA x_1 n3 3).add 1) = some (.int .i64 n9) ∧
        w4.cell? ((elA x_1 n3 3).add 2) = some (x10.val)) ∧
      ∃ q11 : Bool, (Trip Try.prog 57 #[.agg #[.int .i64 n5, .int .i64 n6, x7.val], .agg #[.int .i64 n8, .int .i64 n9, x10.val]] w4 fun r12 w13 => r12 = .bool q11 ∧ Sub w4 w13) ∧
      ((!q11) = true →
        Q (.bool false) w4) ∧
      ((!q11) = false →
        ∃ n14 : Int, Wr .i64 (n3 + 1) n14 ∧
        I1 n14 w4 ∧
        m2 n14 w4 < m2 n3 w4)) ∧
    ((decide (n3 < (x_0.n : Int))) = false →
      Q (.bool true) w4))
theorem of31 (x_0 : Sl) (x_1 : Sl) (v : World) (Q : Value → World → Prop) (h : vc31 x_0 x_1 v Q) : Trip Try.prog 31 #[x_0.val, x_1.val] v Q :=
  trip_of_eq (args := [.sl x_0, .sl x_1]) (A := ⟨[(4, [(5, .int .i64)], [])], [], [], [], [7, 11, 14, 17, 21, 24, 25, 26, 30, 31, 32, 38, 39, 40, 43, 44, 45, 46, 48, 56, 57, 58, 69, 70, 77, 78, 79, 80, 81, 82, 83, 84, 87, 88, 89, 91, 92, 93, 94, 95, 100, 103, 104, 105, 106, 107, 109, 111, 114, 115, 116, 118, 120, 121, 122, 123, 124, 125]⟩) Try.func31 (by kernel_rfl) (by kernel_rfl) (by kernel_rfl : vc31 x_0 x_1 v Q = _) h

/-- laws.eqProcS -/
def vc32 (x_0 : Sl) (x_1 : Sl) (v : World) (Q : Value → World → Prop) : Prop :=
  ((!decide ((x_0.n : Int) = (x_1.n : Int))) = true →
    Q (.bool false) v) ∧
  ((!decide ((x_0.n : Int) = (x_1.n : Int))) = false →
    ∃ I1 : Int → World → Prop, ∃ m2 : Int → World → Nat, I1 0 v ∧
    ∀ n3 : Int, ∀ w4 : World, I1 n3 w4 →
    ((decide (n3 < (x_0.n : Int))) = true →
      IxOk x_0 n3 ∧
      ∃ x5 : Sl, ∃ x6 : Sl, ∃ n7 : Int, ∃ n8 : Int, ∃ x9 : Sl, (w4.cell? ((elA x_0 n3 5).add 0) = some (x5.val) ∧
        w4.cell? ((elA x_0 n3 5).add 1) = some (x6.val) ∧
        w4.cell? ((elA x_0 n3 5).add 2) = some (.int .i64 n7) ∧
        w4.cell? ((elA x_0 n3 5).add 3) = some (.int .i64 n8) ∧
        w4.cell? ((elA x_0 n3 5).add 4) = some (x9.val)) ∧
      IxOk x_1 n3 ∧
      ∃ x10 : Sl, ∃ x11 : Sl, ∃ n12 : Int, ∃ n13 : Int, ∃ x14 : Sl, (w4.cell? ((elA x_1 n3 5).add 0) = some (x10.val) ∧
        w4.cell? ((elA x_1 n3 5).add 1) = some (x11.val) ∧
        w4.cell? ((elA x_1 n3 5).add 2) = some (.int .i64 n12) ∧
        w4.cell? ((elA x_1 n3 5).add 3) = some (.int .i64 n13) ∧
        w4.cell? ((elA x_1 n3 5).add 4) = some (x14.val)) ∧
      ∃ q15 : Bool, (Trip Try.prog 58 #[.agg #[x5.val, x6.val, .int .i64 n7, .int .i64 n8, x9.val], .agg #[x10.val, x11.val, .int .i64 n12, .int .i64 n13, x14.val]] w4 fun r16 w17 => r16 = .bool q15 ∧ Sub w4 w17) ∧
      ((!q15) = true →
        Q (.bool false) w4) ∧
      ((!q15) = false →
        ∃ n18 : Int, Wr .i64 (n3 + 1) n18 ∧
        I1 n18 w4 ∧
        m2 n18 w4 < m2 n3 w4)) ∧
    ((decide (n3 < (x_0.n : Int))) = false →
      Q (.bool true) w4))
theorem of32 (x_0 : Sl) (x_1 : Sl) (v : World) (Q : Value → World → Prop) (h : vc32 x_0 x_1 v Q) : Trip Try.prog 32 #[x_0.val, x_1.val] v Q :=
  trip_of_eq (args := [.sl x_0, .sl x_1]) (A := ⟨[(4, [(5, .int .i64)], [])], [], [], [], [7, 11, 14, 17, 21, 24, 25, 26, 30, 31, 32, 38, 39, 40, 43, 44, 45, 46, 48, 56, 57, 58, 69, 70, 77, 78, 79, 80, 81, 82, 83, 84, 87, 88, 89, 91, 92, 93, 94, 95, 100, 103, 104, 105, 106, 107, 109, 111, 114, 115, 116, 118, 120, 121, 122, 123, 124, 125]⟩) Try.func32 (by kernel_rfl) (by kernel_rfl) (by kernel_rfl : vc32 x_0 x_1 v Q = _) h

/-- laws.markDeclS -/
def vc34 (x_0 : Sl) (n_1 : Int) (v : World) (Q : Value → World → Prop) : Prop :=
  ∃ I1 : Int → Int → World → Prop, ∃ m2 : Int → Int → World → Nat, I1 n_1 0 v ∧
  ∀ n3 : Int, ∀ n4 : Int, ∀ w5 : World, I1 n3 n4 w5 →
  ((decide (n4 < (x_0.n : Int))) = true →
    IxOk x_0 n4 ∧
    StoreAt w5 (elA x_0 n4 3) 0 [.int .i64 n3] fun w6 =>
      ∃ n7 : Int, Wr .i64 (n3 + 1) n7 ∧
      IxOk x_0 n4 ∧
      StoreAt w6 (elA x_0 n4 3) 1 [.int .i64 n7] fun w8 =>
        ∃ n9 : Int, Wr .i64 (n7 + 1) n9 ∧
        IxOk x_0 n4 ∧
        ∃ x10 : Sl, w8.cell? ((elA x_0 n4 3).add 2) = some (x10.val) ∧
        Trip Try.prog 61 #[x10.val, .int .i64 n9] w8 fun r11 w12 =>
          ∃ n13 : Int, r11 = .int .i64 n13 ∧
          ∃ n14 : Int, Wr .i64 (n4 + 1) n14 ∧
          I1 n13 n14 w12 ∧
          m2 n13 n14 w12 < m2 n3 n4 w5) ∧
  ((decide (n4 < (x_0.n : Int))) = false →
    Q (.int .i64 n3) w5)
theorem of34 (x_0 : Sl) (n_1 : Int) (v : World) (Q : Value → World → Prop) (h : vc34 x_0 n_1 v Q) : Trip Try.prog 34 #[x_0.val, .int .i64 n_1] v Q :=
  trip_of_eq (args := [.sl x_0, .num .i64 n_1]) (A := ⟨[(2, [(1, .int .i64), (5, .int .i64)], [])], [], [], [], [7, 11, 14, 17, 21, 24, 25, 26, 30, 31, 32, 38, 39, 40, 43, 44, 45, 46, 48, 56, 57, 58, 69, 70, 77, 78, 79, 80, 81, 82, 83, 84, 87, 88, 89, 91, 92, 93, 94, 95, 100, 103, 104, 105, 106, 107, 109, 111, 114, 115, 116, 118, 120, 121, 122, 123, 124, 125]⟩) Try.func34 (by kernel_rfl) (by kernel_rfl) (by kernel_rfl : vc34 x_0 n_1 v Q = _) h

/-- laws.markProcS -/
def vc35 (x_0 : Sl) (n_1 : Int) (v : World) (Q : Value → World → Prop) : Prop :=
  ∃ I1 : Int → Int → World → Prop, ∃ m2 : Int → Int → World → Nat, I1 n_1 0 v ∧
  ∀ n3 : Int, ∀ n4 : Int, ∀ w5 : World, I1 n3 n4 w5 →
  ((decide (n4 < (x_0.n : Int))) = true →
    IxOk x_0 n4 ∧
    ∃ x6 : Sl, w5.cell? ((elA x_0 n4 5).add 0) = some (x6.val) ∧
    Trip Try.prog 16 #[x6.val, .int .i64 n3] w5 fun r7 w8 =>
      ∃ n9 : Int, r7 = .int .i64 n9 ∧
      IxOk x_0 n4 ∧
      ∃ x10 : Sl, w8.cell? ((elA x_0 n4 5).add 1) = some (x10.val) ∧
      Trip Try.prog 16 #[x10.val, .int .i64 n9] w8 fun r11 w12 =>
        ∃ n13 : Int, r11 = .int .i64 n13 ∧
        IxOk x_0 n4 ∧
        StoreAt w12 (elA x_0 n4 5) 2 [.int .i64 n13] fun w14 =>
          ∃ n15 : Int, Wr .i64 (n13 + 1) n15 ∧
          IxOk x_0 n4 ∧
          StoreAt w14 (elA x_0 n4 5) 3 [.int .i64 n15] fun w16 =>
            ∃ n17 : Int, Wr .i64 (n15 + 1) n17 ∧
            IxOk x_0 n4 ∧
            ∃ x18 : Sl, w16.cell? ((elA x_0 n4 5).add 4) = some (x18.val) ∧
            Trip Try.prog 62 #[x18.val, .int .i64 n17] w16 fun r19 w20 =>
              ∃ n21 : Int, r19 = .int .i64 n21 ∧
              ∃ n22 : Int, Wr .i64 (n4 + 1) n22 ∧
              I1 n21 n22 w20 ∧
              m2 n21 n22 w20 < m2 n3 n4 w5) ∧
  ((decide (n4 < (x_0.n : Int))) = false →
    Q (.int .i64 n3) w5)
theorem of35 (x_0 : Sl) (n_1 : Int) (v : World) (Q : Value → World → Prop) (h : vc35 x_0 n_1 v Q) : Trip Try.prog 35 #[x_0.val, .int .i64 n_1] v Q :=
  trip_of_eq (args := [.sl x_0, .num .i64 n_1]) (A := ⟨[(2, [(1, .int .i64), (5, .int .i64)], [])], [], [], [], [7, 11, 14, 17, 21, 24, 25, 26, 30, 31, 32, 38, 39, 40, 43, 44, 45, 46, 48, 56, 57, 58, 69, 70, 77, 78, 79, 80, 81, 82, 83, 84, 87, 88, 89, 91, 92, 93, 94, 95, 100, 103, 104, 105, 106, 107, 109, 111, 114, 115, 116, 118, 120, 121, 122, 123, 124, 125]⟩) Try.func35 (by kernel_rfl) (by kernel_rfl) (by kernel_rfl : vc35 x_0 n_1 v Q = _) h

/-- laws.heldDeclS -/
def vc39 (x_0 : Sl) (n_1 : Int) (v : World) (Q : Value → World → Prop) : Prop :=
  ∃ I1 : Int → Int → World → Prop, ∃ m2 : Int → Int → World → Nat, I1 n_1 0 v ∧
  ∀ n3 : Int, ∀ n4 : Int, ∀ w5 : World, I1 n3 n4 w5 →
  ((decide (n4 < (x_0.n : Int))) = true →
    IxOk x_0 n4 ∧
    ∃ n6 : Int, w5.cell? ((elA x_0 n4 3).add 0) = some (.int .i64 n6) ∧
    ((!decide (n6 = n3)) = true →
      Q (.int .i64 (-1)) w5) ∧
    ((!decide (n6 = n3)) = false →
      ∃ n7 : Int, Wr .i64 (n3 + 1) n7 ∧
      IxOk x_0 n4 ∧
      ∃ n8 : Int, w5.cell? ((elA x_0 n4 3).add 1) = some (.int .i64 n8) ∧
      ((!decide (n8 = n7)) = true →
        Q (.int .i64 (-1)) w5) ∧
      ((!decide (n8 = n7)) = false →
        ∃ n9 : Int, Wr .i64 (n7 + 1) n9 ∧
        IxOk x_0 n4 ∧
        ∃ x10 : Sl, w5.cell? ((elA x_0 n4 3).add 2) = some (x10.val) ∧
        ∃ n11 : Int, (Trip Try.prog 69 #[x10.val, .int .i64 n9] w5 fun r12 w13 => r12 = .int .i64 n11 ∧ Sub w5 w13) ∧
        ((decide (n11 < 0)) = true →
          Q (.int .i64 (-1)) w5) ∧
        ((decide (n11 < 0)) = false →
          ∃ n14 : Int, Wr .i64 (n4 + 1) n14 ∧
          I1 n11 n14 w5 ∧
          m2 n11 n14 w5 < m2 n3 n4 w5)))) ∧
  ((decide (n4 < (x_0.n : Int))) = false →
    Q (.int .i64 n3) w5)
theorem of39 (x_0 : Sl) (n_1 : Int) (v : World) (Q : Value → World → Prop) (h : vc39 x_0 n_1 v Q) : Trip Try.prog 39 #[x_0.val, .int .i64 n_1] v Q :=
  trip_of_eq (args := [.sl x_0, .num .i64 n_1]) (A := ⟨[(2, [(1, .int .i64), (5, .int .i64)], [])], [], [], [], [7, 11, 14, 17, 21, 24, 25, 26, 30, 31, 32, 38, 39, 40, 43, 44, 45, 46, 48, 56, 57, 58, 69, 70, 77, 78, 79, 80, 81, 82, 83, 84, 87, 88, 89, 91, 92, 93, 94, 95, 100, 103, 104, 105, 106, 107, 109, 111, 114, 115, 116, 118, 120, 121, 122, 123, 124, 125]⟩) Try.func39 (by kernel_rfl) (by kernel_rfl) (by kernel_rfl : vc39 x_0 n_1 v Q = _) h

/-- laws.heldProcS -/
def vc40 (x_0 : Sl) (n_1 : Int) (v : World) (Q : Value → World → Prop) : Prop :=
  ∃ I1 : Int → Int → World → Prop, ∃ m2 : Int → Int → World → Nat, I1 n_1 0 v ∧
  ∀ n3 : Int, ∀ n4 : Int, ∀ w5 : World, I1 n3 n4 w5 →
  ((decide (n4 < (x_0.n : Int))) = true →
    IxOk x_0 n4 ∧
    ∃ x6 : Sl, w5.cell? ((elA x_0 n4 5).add 0) = some (x6.val) ∧
    ∃ n7 : Int, (Trip Try.prog 17 #[x6.val, .int .i64 n3] w5 fun r8 w9 => r8 = .int .i64 n7 ∧ Sub w5 w9) ∧
    ((decide (n7 < 0)) = true →
      Q (.int .i64 (-1)) w5) ∧
    ((decide (n7 < 0)) = false →
      IxOk x_0 n4 ∧
      ∃ x10 : Sl, w5.cell? ((elA x_0 n4 5).add 1) = some (x10.val) ∧
      ∃ n11 : Int, (Trip Try.prog 17 #[x10.val, .int .i64 n7] w5 fun r12 w13 => r12 = .int .i64 n11 ∧ Sub w5 w13) ∧
      ((decide (n11 < 0)) = true →
        Q (.int .i64 (-1)) w5) ∧
      ((decide (n11 < 0)) = false →
        IxOk x_0 n4 ∧
        ∃ n14 : Int, w5.cell? ((elA x_0 n4 5).add 2) = some (.int .i64 n14) ∧
        ((!decide (n14 = n11)) = true →
          Q (.int .i64 (-1)) w5) ∧
        ((!decide (n14 = n11)) = false →
          ∃ n15 : Int, Wr .i64 (n11 + 1) n15 ∧
          IxOk x_0 n4 ∧
          ∃ n16 : Int, w5.cell? ((elA x_0 n4 5).add 3) = some (.int .i64 n16) ∧
          ((!decide (n16 = n15)) = true →
            Q (.int .i64 (-1)) w5) ∧
          ((!decide (n16 = n15)) = false →
            ∃ n17 : Int, Wr .i64 (n15 + 1) n17 ∧
            IxOk x_0 n4 ∧
            ∃ x18 : Sl, w5.cell? ((elA x_0 n4 5).add 4) = some (x18.val) ∧
            ∃ n19 : Int, (Trip Try.prog 70 #[x18.val, .int .i64 n17] w5 fun r20 w21 => r20 = .int .i64 n19 ∧ Sub w5 w21) ∧
            ((decide (n19 < 0)) = true →
              Q (.int .i64 (-1)) w5) ∧
            ((decide (n19 < 0)) = false →
              ∃ n22 : Int, Wr .i64 (n4 + 1) n22 ∧
              I1 n19 n22 w5 ∧
              m2 n19 n22 w5 < m2 n3 n4 w5)))))) ∧
  ((decide (n4 < (x_0.n : Int))) = false →
    Q (.int .i64 n3) w5)
theorem of40 (x_0 : Sl) (n_1 : Int) (v : World) (Q : Value → World → Prop) (h : vc40 x_0 n_1 v Q) : Trip Try.prog 40 #[x_0.val, .int .i64 n_1] v Q :=
  trip_of_eq (args := [.sl x_0, .num .i64 n_1]) (A := ⟨[(2, [(1, .int .i64), (5, .int .i64)], [])], [], [], [], [7, 11, 14, 17, 21, 24, 25, 26, 30, 31, 32, 38, 39, 40, 43, 44, 45, 46, 48, 56, 57, 58, 69, 70, 77, 78, 79, 80, 81, 82, 83, 84, 87, 88, 89, 91, 92, 93, 94, 95, 100, 103, 104, 105, 106, 107, 109, 111, 114, 115, 116, 118, 120, 121, 122, 123, 124, 125]⟩) Try.func40 (by kernel_rfl) (by kernel_rfl) (by kernel_rfl : vc40 x_0 n_1 v Q = _) h

/-- spec.tailCalls -/
def vc41 (x0_0 : Sl) (x0_1 : Sl) (v : World) (Q : Value → World → Prop) : Prop :=
  Trip Try.prog 71 #[x0_0.val] v fun r1 w2 =>
    ∃ x3 : Sl, r1 = x3.val ∧
    StepT Try.prog (Instr.buildSlice 29 0 #[]) w2 fun r4 w5 =>
      ∃ x6 : Sl, r4 = x6.val ∧
      ∃ I7 : Int → Sl → World → Prop, ∃ m8 : Int → Sl → World → Nat, I7 0 x6 w5 ∧
      ∀ n9 : Int, ∀ x10 : Sl, ∀ w11 : World, I7 n9 x10 w11 →
      ((decide (n9 < (x0_1.n : Int))) = true →
        IxOk x0_1 n9 ∧
        ∃ x12 : Sl, ∃ x13 : Sl, ∃ n14 : Int, ∃ n15 : Int, ∃ x16 : Sl, (w11.cell? ((elA x0_1 n9 5).add 0) = some (x12.val) ∧
          w11.cell? ((elA x0_1 n9 5).add 1) = some (x13.val) ∧
          w11.cell? ((elA x0_1 n9 5).add 2) = some (.int .i64 n14) ∧
          w11.cell? ((elA x0_1 n9 5).add 3) = some (.int .i64 n15) ∧
          w11.cell? ((elA x0_1 n9 5).add 4) = some (x16.val)) ∧
        Trip Try.prog 72 #[x12.val] w11 fun r17 w18 =>
          ∃ x19 : Sl, r17 = x19.val ∧
          Sub w11 w18 ∧
          Trip Try.prog 72 #[x13.val] w18 fun r20 w21 =>
            ∃ x22 : Sl, r20 = x22.val ∧
            Sub w18 w21 ∧
            Trip Try.prog 73 #[x16.val] w21 fun r23 w24 =>
              ∃ x25 : Sl, r23 = x25.val ∧
              Sub w21 w24 ∧
              StepT Try.prog (Instr.buildSlice 29 1 #[(0, (.agg #[x19.val, x22.val, .int .i64 n14, .int .i64 n15, x25.val]))]) w24 fun r26 w27 =>
                ∃ x28 : Sl, r26 = x28.val ∧
                Sub w24 w27 ∧
                StepT Try.prog (Builtin.append_ #[29, 29] 29 #[(x10.val), (x28.val)]) w27 fun r29 w30 =>
                  ∃ x31 : Sl, r29 = x31.val ∧
                  ∃ n32 : Int, Wr .i64 (n9 + 1) n32 ∧
                  ((.sl x0_0 : SV) = .sl x0_0) ∧
                  ((.sl x0_1 : SV) = .sl x0_1) ∧
                  ((.sl (Sl.mk none 0 0) : SV) = .sl (Sl.mk none 0 0)) ∧
                  ((.sl (Sl.mk none 0 0) : SV) = .sl (Sl.mk none 0 0)) ∧
                  ((.sl x3 : SV) = .sl x3) ∧
                  I7 n32 x31 w30 ∧
                  m8 n32 x31 w30 < m8 n9 x10 w11) ∧
      ((decide (n9 < (x0_1.n : Int))) = false →
        Q (.agg #[x3.val, x10.val]) w11)
theorem of41 (x0_0 : Sl) (x0_1 : Sl) (v : World) (Q : Value → World → Prop) (h : vc41 x0_0 x0_1 v Q) : Trip Try.prog 41 #[.agg #[x0_0.val, x0_1.val]] v Q :=
  trip_of_eq (args := [.ag [.sl x0_0, .sl x0_1]]) (A := ⟨[(3, [(4, .int .i64)], [(2, 1, .sl)])], [], [(6, [4, 7, 14, 16])], [], [7, 11, 14, 17, 21, 24, 25, 26, 30, 31, 32, 38, 39, 40, 43, 44, 45, 46, 48, 56, 57, 58, 69, 70, 77, 78, 79, 80, 81, 82, 83, 84, 87, 88, 89, 91, 92, 93, 94, 95, 100, 103, 104, 105, 106, 107, 109, 111, 114, 115, 116, 118, 120, 121, 122, 123, 124, 125]⟩) Try.func41 (by kernel_rfl) (by kernel_rfl) (by kernel_rfl : vc41 x0_0 x0_1 v Q = _) h

/-- (impl.Image).clone -/
def vc42 (x0_0 : Sl) (x0_1 : Sl) (v : World) (Q : Value → World → Prop) : Prop :=
  Trip Try.prog 74 #[x0_0.val] v fun r1 w2 =>
    ∃ x3 : Sl, r1 = x3.val ∧
    ∃ I4 : Int → Sl → World → Prop, ∃ m5 : Int → Sl → World → Nat, I4 0 (Sl.mk none 0 0) w2 ∧
    ∀ n6 : Int, ∀ x7 : Sl, ∀ w8 : World, I4 n6 x7 w8 →
    ((decide (n6 < (x0_1.n : Int))) = true →
      IxOk x0_1 n6 ∧
      ∃ x9 : Sl, ∃ x10 : Sl, ∃ n11 : Int, ∃ n12 : Int, ∃ x13 : Sl, (w8.cell? ((elA x0_1 n6 5).add 0) = some (x9.val) ∧
        w8.cell? ((elA x0_1 n6 5).add 1) = some (x10.val) ∧
        w8.cell? ((elA x0_1 n6 5).add 2) = some (.int .i64 n11) ∧
        w8.cell? ((elA x0_1 n6 5).add 3) = some (.int .i64 n12) ∧
        w8.cell? ((elA x0_1 n6 5).add 4) = some (x13.val)) ∧
      Trip Try.prog 75 #[x9.val] w8 fun r14 w15 =>
        ∃ x16 : Sl, r14 = x16.val ∧
        Sub w8 w15 ∧
        Trip Try.prog 75 #[x10.val] w15 fun r17 w18 =>
          ∃ x19 : Sl, r17 = x19.val ∧
          Sub w15 w18 ∧
          Trip Try.prog 76 #[x13.val] w18 fun r20 w21 =>
            ∃ x22 : Sl, r20 = x22.val ∧
            Sub w18 w21 ∧
            ∃ I23 : Int → World → Prop, ∃ m24 : Int → World → Nat, I23 0 w21 ∧
            ∀ n25 : Int, ∀ w26 : World, I23 n25 w26 →
            ((decide (n25 < (x22.n : Int))) = true →
              IxOk x22 n25 ∧
              ∃ n27 : Int, ∃ n28 : Int, ∃ n29 : Int, ∃ n30 : Int, ∃ x31 : Sl, ∃ x32 : Sl, (w26.cell? ((elA x22 n25 6).add 0) = some (.int .i64 n27) ∧
                w26.cell? ((elA x22 n25 6).add 1) = some (.int .i64 n28) ∧
                w26.cell? ((elA x22 n25 6).add 2) = some (.int .i64 n29) ∧
                w26.cell? ((elA x22 n25 6).add 3) = some (.int .i64 n30) ∧
                w26.cell? ((elA x22 n25 6).add 4) = some (x31.val) ∧
                w26.cell? ((elA x22 n25 6).add 5) = some (x32.val)) ∧
              ((Trip Try.prog 75 #[x31.val] w26 fun r33 w34 =>
                    ∃ x35 : Sl, r33 = x35.val ∧
                    Sub w26 w34 ∧
                    Trip Try.prog 75 #[x32.val] w34 fun r36 w37 =>
                      ∃ x38 : Sl, r36 = x38.val ∧
                      Sub w34 w37 ∧
                      IxOk x22 n25 ∧
                      StoreAt w37 (elA x22 n25 6) 4 [x35.val] fun w39 =>
                        IxOk x22 n25 ∧
                        StoreAt w39 (elA x22 n25 6) 5 [x38.val] fun w40 =>
                          ∃ n41 : Int, Wr .i64 (n25 + 1) n41 ∧
                          ((.sl x0_0 : SV) = .sl x0_0) ∧
                          ((.sl x0_1 : SV) = .sl x0_1) ∧
                          ((.sl (Sl.mk none 0 0) : SV) = .sl (Sl.mk none 0 0)) ∧
                          ((.sl (Sl.mk none 0 0) : SV) = .sl (Sl.mk none 0 0)) ∧
                          ((.sl x3 : SV) = .sl x3) ∧
                          ((.sl x7 : SV) = .sl x7) ∧
                          ((.sl x16 : SV) = .sl x16) ∧
                          ((.sl x19 : SV) = .sl x19) ∧
                          ((.num .i64 n11 : SV) = .num .i64 n11) ∧
                          ((.num .i64 n12 : SV) = .num .i64 n12) ∧
                          ((.sl x22 : SV) = .sl x22) ∧
                          I23 n41 w40 ∧
                          m24 n41 w40 < m24 n25 w26) ∧
                Trip Try.prog 75 #[x31.val] w26 fun r42 w43 =>
                  ∃ x44 : Sl, r42 = x44.val ∧
                  Sub w26 w43 ∧
                  (Trip Try.prog 75 #[x32.val] w43 fun r45 w46 =>
                      ∃ x47 : Sl, r45 = x47.val ∧
                      Sub w43 w46 ∧
                      IxOk x22 n25 ∧
                      StoreAt w46 (elA x22 n25 6) 4 [x44.val] fun w48 =>
                        IxOk x22 n25 ∧
                        StoreAt w48 (elA x22 n25 6) 5 [x47.val] fun w49 =>
                          ∃ n50 : Int, Wr .i64 (n25 + 1) n50 ∧
                          ((.sl x0_0 : SV) = .sl x0_0) ∧
                          ((.sl x0_1 : SV) = .sl x0_1) ∧
                          ((.sl (Sl.mk none 0 0) : SV) = .sl (Sl.mk none 0 0)) ∧
                          ((.sl (Sl.mk none 0 0) : SV) = .sl (Sl.mk none 0 0)) ∧
                          ((.sl x3 : SV) = .sl x3) ∧
                          ((.sl x7 : SV) = .sl x7) ∧
                          ((.sl x16 : SV) = .sl x16) ∧
                          ((.sl x19 : SV) = .sl x19) ∧
                          ((.num .i64 n11 : SV) = .num .i64 n11) ∧
                          ((.num .i64 n12 : SV) = .num .i64 n12) ∧
                          ((.sl x22 : SV) = .sl x22) ∧
                          I23 n50 w49 ∧
                          m24 n50 w49 < m24 n25 w26) ∧
                  Trip Try.prog 75 #[x32.val] w43 fun r51 w52 =>
                    ∃ x53 : Sl, r51 = x53.val ∧
                    Sub w43 w52 ∧
                    IxOk x22 n25 ∧
                    (StoreAt w52 (elA x22 n25 6) 4 [x44.val] fun w54 =>
                        IxOk x22 n25 ∧
                        StoreAt w54 (elA x22 n25 6) 5 [x53.val] fun w55 =>
                          ∃ n56 : Int, Wr .i64 (n25 + 1) n56 ∧
                          ((.sl x0_0 : SV) = .sl x0_0) ∧
                          ((.sl x0_1 : SV) = .sl x0_1) ∧
                          ((.sl (Sl.mk none 0 0) : SV) = .sl (Sl.mk none 0 0)) ∧
                          ((.sl (Sl.mk none 0 0) : SV) = .sl (Sl.mk none 0 0)) ∧
                          ((.sl x3 : SV) = .sl x3) ∧
                          ((.sl x7 : SV) = .sl x7) ∧
                          ((.sl x16 : SV) = .sl x16) ∧
                          ((.sl x19 : SV) = .sl x19) ∧
                          ((.num .i64 n11 : SV) = .num .i64 n11) ∧
                          ((.num .i64 n12 : SV) = .num .i64 n12) ∧
                          ((.sl x22 : SV) = .sl x22) ∧
                          I23 n56 w55 ∧
                          m24 n56 w55 < m24 n25 w26) ∧
                    StoreAt w52 (elA x22 n25 6) 4 [x44.val] fun w57 =>
                      IxOk x22 n25 ∧
                      StoreAt w57 (elA x22 n25 6) 5 [x53.val] fun w58 =>
                        ∃ n59 : Int, Wr .i64 (n25 + 1) n59 ∧
                        ((.sl x0_0 : SV) = .sl x0_0) ∧
                        ((.sl x0_1 : SV) = .sl x0_1) ∧
                        ((.sl (Sl.mk none 0 0) : SV) = .sl (Sl.mk none 0 0)) ∧
                        ((.sl (Sl.mk none 0 0) : SV) = .sl (Sl.mk none 0 0)) ∧
                        ((.sl x3 : SV) = .sl x3) ∧
                        ((.sl x7 : SV) = .sl x7) ∧
                        ((.sl x16 : SV) = .sl x16) ∧
                        ((.sl x19 : SV) = .sl x19) ∧
                        ((.num .i64 n11 : SV) = .num .i64 n11) ∧
                        ((.num .i64 n12 : SV) = .num .i64 n12) ∧
                        ((.sl x22 : SV) = .sl x22) ∧
                        I23 n59 w58 ∧
                        m24 n59 w58 < m24 n25 w26) ∧
              Trip Try.prog 75 #[x31.val] w26 fun r60 w61 =>
                ∃ x62 : Sl, r60 = x62.val ∧
                Sub w26 w61 ∧
                ((Trip Try.prog 75 #[x32.val] w61 fun r63 w64 =>
                      ∃ x65 : Sl, r63 = x65.val ∧
                      Sub w61 w64 ∧
                      IxOk x22 n25 ∧
                      StoreAt w64 (elA x22 n25 6) 4 [x62.val] fun w66 =>
                        IxOk x22 n25 ∧
                        StoreAt w66 (elA x22 n25 6) 5 [x65.val] fun w67 =>
                          ∃ n68 : Int, Wr .i64 (n25 + 1) n68 ∧
                          ((.sl x0_0 : SV) = .sl x0_0) ∧
                          ((.sl x0_1 : SV) = .sl x0_1) ∧
                          ((.sl (Sl.mk none 0 0) : SV) = .sl (Sl.mk none 0 0)) ∧
                          ((.sl (Sl.mk none 0 0) : SV) = .sl (Sl.mk none 0 0)) ∧
                          ((.sl x3 : SV) = .sl x3) ∧
                          ((.sl x7 : SV) = .sl x7) ∧
                          ((.sl x16 : SV) = .sl x16) ∧
                          ((.sl x19 : SV) = .sl x19) ∧
                          ((.num .i64 n11 : SV) = .num .i64 n11) ∧
                          ((.num .i64 n12 : SV) = .num .i64 n12) ∧
                          ((.sl x22 : SV) = .sl x22) ∧
                          I23 n68 w67 ∧
                          m24 n68 w67 < m24 n25 w26) ∧
                  Trip Try.prog 75 #[x32.val] w61 fun r69 w70 =>
                    ∃ x71 : Sl, r69 = x71.val ∧
                    Sub w61 w70 ∧
                    IxOk x22 n25 ∧
                    (StoreAt w70 (elA x22 n25 6) 4 [x62.val] fun w72 =>
                        IxOk x22 n25 ∧
                        StoreAt w72 (elA x22 n25 6) 5 [x71.val] fun w73 =>
                          ∃ n74 : Int, Wr .i64 (n25 + 1) n74 ∧
                          ((.sl x0_0 : SV) = .sl x0_0) ∧
                          ((.sl x0_1 : SV) = .sl x0_1) ∧
                          ((.sl (Sl.mk none 0 0) : SV) = .sl (Sl.mk none 0 0)) ∧
                          ((.sl (Sl.mk none 0 0) : SV) = .sl (Sl.mk none 0 0)) ∧
                          ((.sl x3 : SV) = .sl x3) ∧
                          ((.sl x7 : SV) = .sl x7) ∧
                          ((.sl x16 : SV) = .sl x16) ∧
                          ((.sl x19 : SV) = .sl x19) ∧
                          ((.num .i64 n11 : SV) = .num .i64 n11) ∧
                          ((.num .i64 n12 : SV) = .num .i64 n12) ∧
                          ((.sl x22 : SV) = .sl x22) ∧
                          I23 n74 w73 ∧
                          m24 n74 w73 < m24 n25 w26) ∧
                    StoreAt w70 (elA x22 n25 6) 4 [x62.val] fun w75 =>
                      IxOk x22 n25 ∧
                      StoreAt w75 (elA x22 n25 6) 5 [x71.val] fun w76 =>
                        ∃ n77 : Int, Wr .i64 (n25 + 1) n77 ∧
                        ((.sl x0_0 : SV) = .sl x0_0) ∧
                        ((.sl x0_1 : SV) = .sl x0_1) ∧
                        ((.sl (Sl.mk none 0 0) : SV) = .sl (Sl.mk none 0 0)) ∧
                        ((.sl (Sl.mk none 0 0) : SV) = .sl (Sl.mk none 0 0)) ∧
                        ((.sl x3 : SV) = .sl x3) ∧
                        ((.sl x7 : SV) = .sl x7) ∧
                        ((.sl x16 : SV) = .sl x16) ∧
                        ((.sl x19 : SV) = .sl x19) ∧
                        ((.num .i64 n11 : SV) = .num .i64 n11) ∧
                        ((.num .i64 n12 : SV) = .num .i64 n12) ∧
                        ((.sl x22 : SV) = .sl x22) ∧
                        I23 n77 w76 ∧
                        m24 n77 w76 < m24 n25 w26) ∧
                Trip Try.prog 75 #[x32.val] w61 fun r78 w79 =>
                  ∃ x80 : Sl, r78 = x80.val ∧
                  Sub w61 w79 ∧
                  IxOk x22 n25 ∧
                  ((StoreAt w79 (elA x22 n25 6) 4 [x62.val] fun w81 =>
                        IxOk x22 n25 ∧
                        StoreAt w81 (elA x22 n25 6) 5 [x80.val] fun w82 =>
                          ∃ n83 : Int, Wr .i64 (n25 + 1) n83 ∧
                          ((.sl x0_0 : SV) = .sl x0_0) ∧
                          ((.sl x0_1 : SV) = .sl x0_1) ∧
                          ((.sl (Sl.mk none 0 0) : SV) = .sl (Sl.mk none 0 0)) ∧
                          ((.sl (Sl.mk none 0 0) : SV) = .sl (Sl.mk none 0 0)) ∧
                          ((.sl x3 : SV) = .sl x3) ∧
                          ((.sl x7 : SV) = .sl x7) ∧
                          ((.sl x16 : SV) = .sl x16) ∧
                          ((.sl x19 : SV) = .sl x19) ∧
                          ((.num .i64 n11 : SV) = .num .i64 n11) ∧
                          ((.num .i64 n12 : SV) = .num .i64 n12) ∧
                          ((.sl x22 : SV) = .sl x22) ∧
                          I23 n83 w82 ∧
                          m24 n83 w82 < m24 n25 w26) ∧
                    StoreAt w79 (elA x22 n25 6) 4 [x62.val] fun w84 =>
                      IxOk x22 n25 ∧
                      StoreAt w84 (elA x22 n25 6) 5 [x80.val] fun w85 =>
                        ∃ n86 : Int, Wr .i64 (n25 + 1) n86 ∧
                        ((.sl x0_0 : SV) = .sl x0_0) ∧
                        ((.sl x0_1 : SV) = .sl x0_1) ∧
                        ((.sl (Sl.mk none 0 0) : SV) = .sl (Sl.mk none 0 0)) ∧
                        ((.sl (Sl.mk none 0 0) : SV) = .sl (Sl.mk none 0 0)) ∧
                        ((.sl x3 : SV) = .sl x3) ∧
                        ((.sl x7 : SV) = .sl x7) ∧
                        ((.sl x16 : SV) = .sl x16) ∧
                        ((.sl x19 : SV) = .sl x19) ∧
                        ((.num .i64 n11 : SV) = .num .i64 n11) ∧
                        ((.num .i64 n12 : SV) = .num .i64 n12) ∧
                        ((.sl x22 : SV) = .sl x22) ∧
                        I23 n86 w85 ∧
                        m24 n86 w85 < m24 n25 w26) ∧
                  StoreAt w79 (elA x22 n25 6) 4 [x62.val] fun w87 =>
                    IxOk x22 n25 ∧
                    StoreAt w87 (elA x22 n25 6) 5 [x80.val] fun w88 =>
                      ∃ n89 : Int, Wr .i64 (n25 + 1) n89 ∧
                      ((.sl x0_0 : SV) = .sl x0_0) ∧
                      ((.sl x0_1 : SV) = .sl x0_1) ∧
                      ((.sl (Sl.mk none 0 0) : SV) = .sl (Sl.mk none 0 0)) ∧
                      ((.sl (Sl.mk none 0 0) : SV) = .sl (Sl.mk none 0 0)) ∧
                      ((.sl x3 : SV) = .sl x3) ∧
                      ((.sl x7 : SV) = .sl x7) ∧
                      ((.sl x16 : SV) = .sl x16) ∧
                      ((.sl x19 : SV) = .sl x19) ∧
                      ((.num .i64 n11 : SV) = .num .i64 n11) ∧
                      ((.num .i64 n12 : SV) = .num .i64 n12) ∧
                      ((.sl x22 : SV) = .sl x22) ∧
                      I23 n89 w88 ∧
                      m24 n89 w88 < m24 n25 w26) ∧
            ((decide (n25 < (x22.n : Int))) = false →
              StepT Try.prog (Instr.buildSlice 29 1 #[(0, (.agg #[x16.val, x19.val, .int .i64 n11, .int .i64 n12, x22.val]))]) w26 fun r90 w91 =>
                ∃ x92 : Sl, r90 = x92.val ∧
                StepT Try.prog (Builtin.append_ #[29, 29] 29 #[(x7.val), (x92.val)]) w91 fun r93 w94 =>
                  ∃ x95 : Sl, r93 = x95.val ∧
                  ∃ n96 : Int, Wr .i64 (n6 + 1) n96 ∧
                  ((.sl x0_0 : SV) = .sl x0_0) ∧
                  ((.sl x0_1 : SV) = .sl x0_1) ∧
                  ((.sl (Sl.mk none 0 0) : SV) = .sl (Sl.mk none 0 0)) ∧
                  ((.sl (Sl.mk none 0 0) : SV) = .sl (Sl.mk none 0 0)) ∧
                  ((.sl x3 : SV) = .sl x3) ∧
                  I4 n96 x95 w94 ∧
                  m5 n96 x95 w94 < m5 n6 x7 w8)) ∧
    ((decide (n6 < (x0_1.n : Int))) = false →
      Q (.agg #[x3.val, x7.val]) w8)
theorem of42 (x0_0 : Sl) (x0_1 : Sl) (v : World) (Q : Value → World → Prop) (h : vc42 x0_0 x0_1 v Q) : Trip Try.prog 42 #[.agg #[x0_0.val, x0_1.val]] v Q :=
  trip_of_eq (args := [.ag [.sl x0_0, .sl x0_1]]) (A := ⟨[(3, [(15, .int .i64)], [(2, 1, .sl)]), (7, [(34, .int .i64)], [])], [], [(5, [2, 5, 8]), (9, [8, 11])], [], [7, 11, 14, 17, 21, 24, 25, 26, 30, 31, 32, 38, 39, 40, 43, 44, 45, 46, 48, 56, 57, 58, 69, 70, 77, 78, 79, 80, 81, 82, 83, 84, 87, 88, 89, 91, 92, 93, 94, 95, 100, 103, 104, 105, 106, 107, 109, 111, 114, 115, 116, 118, 120, 121, 122, 123, 124, 125]⟩) Try.func42 (by kernel_rfl) (by kernel_rfl) (by kernel_rfl : vc42 x0_0 x0_1 v Q = _) h

/-- impl.bringsBack -/
def vc43 (x_0 : Sl) (n_1 : Int) (n_2 : Int) (v : World) (Q : Value → World → Prop) : Prop :=
  ∃ I1 : Int → Int → World → Prop, ∃ m2 : Int → Int → World → Nat, I1 n_1 n_2 v ∧
  ∀ n3 : Int, ∀ n4 : Int, ∀ w5 : World, I1 n3 n4 w5 →
  IxOk x_0 n3 ∧
  ∃ n6 : Int, ∃ n7 : Int, ∃ n8 : Int, ∃ n9 : Int, ∃ x10 : Sl, ∃ x11 : Sl, (w5.cell? ((elA x_0 n3 6).add 0) = some (.int .i64 n6) ∧
    w5.cell? ((elA x_0 n3 6).add 1) = some (.int .i64 n7) ∧
    w5.cell? ((elA x_0 n3 6).add 2) = some (.int .i64 n8) ∧
    w5.cell? ((elA x_0 n3 6).add 3) = some (.int .i64 n9) ∧
    w5.cell? ((elA x_0 n3 6).add 4) = some (x10.val) ∧
    w5.cell? ((elA x_0 n3 6).add 5) = some (x11.val)) ∧
  ((decide (n6 = 22)) = true →
    I1 n8 n4 w5 ∧
    m2 n8 n4 w5 < m2 n3 n4 w5) ∧
  ((decide (n6 = 22)) = false →
    ((decide (n6 = 18)) = true →
      IxOk x10 0) ∧
    ∃ n12 : Int, ((decide (n6 = 18)) = true →
      w5.cell? ((elA x10 0 1).add 0) = some (.int .i64 n12)) ∧
    (((decide (n6 = 18)) && (decide (n12 = n4))) = true →
      ∃ n13 : Int, Wr .i64 (n3 + 1) n13 ∧
      I1 n13 n7 w5 ∧
      m2 n13 n7 w5 < m2 n3 n4 w5) ∧
    (((decide (n6 = 18)) && (decide (n12 = n4))) = false →
      ((decide (n6 = 23)) = true →
        IxOk x10 0) ∧
      ∃ n14 : Int, ((decide (n6 = 23)) = true →
        w5.cell? ((elA x10 0 1).add 0) = some (.int .i64 n14)) ∧
      Q (.bool ((decide (n6 = 23)) && (decide (n14 = n4)))) w5))
theorem of43 (x_0 : Sl) (n_1 : Int) (n_2 : Int) (v : World) (Q : Value → World → Prop) (h : vc43 x_0 n_1 n_2 v Q) : Trip Try.prog 43 #[x_0.val, .int .i64 n_1, .int .i64 n_2] v Q :=
  trip_of_eq (args := [.sl x_0, .num .i64 n_1, .num .i64 n_2]) (A := ⟨[(1, [(1, .int .i64), (2, .int .i64)], [])], [], [], [], [7, 11, 14, 17, 21, 24, 25, 26, 30, 31, 32, 38, 39, 40, 43, 44, 45, 46, 48, 56, 57, 58, 69, 70, 77, 78, 79, 80, 81, 82, 83, 84, 87, 88, 89, 91, 92, 93, 94, 95, 100, 103, 104, 105, 106, 107, 109, 111, 114, 115, 116, 118, 120, 121, 122, 123, 124, 125]⟩) Try.func43 (by kernel_rfl) (by kernel_rfl) (by kernel_rfl : vc43 x_0 n_1 n_2 v Q = _) h

/-- laws.szDecl -/
def vc44 (n0_0 : Int) (n0_1 : Int) (x0_2 : Sl) (n_1 : Int) (v : World) (Q : Value → World → Prop) : Prop :=
  ∃ n1 : Int, (Trip Try.prog 77 #[x0_2.val, .int .i64 n_1] v fun r2 w3 => r2 = .int .i64 n1 ∧ Sub v w3) ∧
  ((decide (n1 < 0)) = true →
    Q (.int .i64 (-1)) v) ∧
  ((decide (n1 < 0)) = false →
    Q (.int .i64 n1) v)
theorem of44 (n0_0 : Int) (n0_1 : Int) (x0_2 : Sl) (n_1 : Int) (v : World) (Q : Value → World → Prop) (h : vc44 n0_0 n0_1 x0_2 n_1 v Q) : Trip Try.prog 44 #[.agg #[.int .i64 n0_0, .int .i64 n0_1, x0_2.val], .int .i64 n_1] v Q :=
  trip_of_eq (args := [.ag [.num .i64 n0_0, .num .i64 n0_1, .sl x0_2], .num .i64 n_1]) (A := ⟨[], [], [], [], [7, 11, 14, 17, 21, 24, 25, 26, 30, 31, 32, 38, 39, 40, 43, 44, 45, 46, 48, 56, 57, 58, 69, 70, 77, 78, 79, 80, 81, 82, 83, 84, 87, 88, 89, 91, 92, 93, 94, 95, 100, 103, 104, 105, 106, 107, 109, 111, 114, 115, 116, 118, 120, 121, 122, 123, 124, 125]⟩) Try.func44 (by kernel_rfl) (by kernel_rfl) (by kernel_rfl : vc44 n0_0 n0_1 x0_2 n_1 v Q = _) h

/-- laws.szProc -/
def vc45 (x0_0 : Sl) (x0_1 : Sl) (n0_2 : Int) (n0_3 : Int) (x0_4 : Sl) (n_1 : Int) (v : World) (Q : Value → World → Prop) : Prop :=
  ∃ n1 : Int, (Trip Try.prog 78 #[x0_0.val, .int .i64 n_1] v fun r2 w3 => r2 = .int .i64 n1 ∧ Sub v w3) ∧
  ((decide (n1 < 0)) = true →
    Q (.int .i64 (-1)) v) ∧
  ((decide (n1 < 0)) = false →
    ∃ n4 : Int, (Trip Try.prog 78 #[x0_1.val, .int .i64 n1] v fun r5 w6 => r5 = .int .i64 n4 ∧ Sub v w6) ∧
    ((decide (n4 < 0)) = true →
      Q (.int .i64 (-1)) v) ∧
    ((decide (n4 < 0)) = false →
      ∃ n7 : Int, (Trip Try.prog 79 #[x0_4.val, .int .i64 n4] v fun r8 w9 => r8 = .int .i64 n7 ∧ Sub v w9) ∧
      ((decide (n7 < 0)) = true →
        Q (.int .i64 (-1)) v) ∧
      ((decide (n7 < 0)) = false →
        Q (.int .i64 n7) v)))
theorem of45 (x0_0 : Sl) (x0_1 : Sl) (n0_2 : Int) (n0_3 : Int) (x0_4 : Sl) (n_1 : Int) (v : World) (Q : Value → World → Prop) (h : vc45 x0_0 x0_1 n0_2 n0_3 x0_4 n_1 v Q) : Trip Try.prog 45 #[.agg #[x0_0.val, x0_1.val, .int .i64 n0_2, .int .i64 n0_3, x0_4.val], .int .i64 n_1] v Q :=
  trip_of_eq (args := [.ag [.sl x0_0, .sl x0_1, .num .i64 n0_2, .num .i64 n0_3, .sl x0_4], .num .i64 n_1]) (A := ⟨[], [], [], [], [7, 11, 14, 17, 21, 24, 25, 26, 30, 31, 32, 38, 39, 40, 43, 44, 45, 46, 48, 56, 57, 58, 69, 70, 77, 78, 79, 80, 81, 82, 83, 84, 87, 88, 89, 91, 92, 93, 94, 95, 100, 103, 104, 105, 106, 107, 109, 111, 114, 115, 116, 118, 120, 121, 122, 123, 124, 125]⟩) Try.func45 (by kernel_rfl) (by kernel_rfl) (by kernel_rfl : vc45 x0_0 x0_1 n0_2 n0_3 x0_4 n_1 v Q = _) h

/-- spec.validSigs -/
def vc46 (x0_0 : Sl) (x0_1 : Sl) (v : World) (Q : Value → World → Prop) : Prop :=
  ∃ q1 : Bool, (Trip Try.prog 80 #[x0_0.val] v fun r2 w3 => r2 = .bool q1 ∧ Sub v w3) ∧
  ∃ q4 : Bool, ((!q1) = false →
    (Trip Try.prog 81 #[.int .i64 (x0_1.n : Int), .int .i64 1, .int .i64 4] v fun r5 w6 => r5 = .bool q4 ∧ Sub v w6)) ∧
  (((!q1) || (!q4)) = true →
    Q (.bool false) v) ∧
  (((!q1) || (!q4)) = false →
    ∃ I7 : Int → World → Prop, ∃ m8 : Int → World → Nat, I7 0 v ∧
    ∀ n9 : Int, ∀ w10 : World, I7 n9 w10 →
    ((decide (n9 < (x0_1.n : Int))) = true →
      IxOk x0_1 n9 ∧
      ∃ x11 : Sl, ∃ n12 : Int, ∃ n13 : Int, ∃ n14 : Int, ∃ x15 : Sl, (w10.cell? ((elA x0_1 n9 5).add 0) = some (x11.val) ∧
        w10.cell? ((elA x0_1 n9 5).add 1) = some (.int .i64 n12) ∧
        w10.cell? ((elA x0_1 n9 5).add 2) = some (.int .i64 n13) ∧
        w10.cell? ((elA x0_1 n9 5).add 3) = some (.int .i64 n14) ∧
        w10.cell? ((elA x0_1 n9 5).add 4) = some (x15.val)) ∧
      ∃ q16 : Bool, ((decide ((x11.n : Int) > 3)) = false →
        (Trip Try.prog 82 #[x0_0.val, x11.val] w10 fun r17 w18 => r17 = .bool q16 ∧ Sub w10 w18)) ∧
      ∃ q19 : Bool, (((decide ((x11.n : Int) > 3)) || (!q16)) = false →
        (Trip Try.prog 81 #[.int .i64 n12, .int .i64 0, .int .i64 (x0_0.n : Int)] w10 fun r20 w21 => r20 = .bool q19 ∧ Sub w10 w21)) ∧
      ((((decide ((x11.n : Int) > 3)) || (!q16)) || (!q19)) = true →
        Q (.bool false) w10) ∧
      ((((decide ((x11.n : Int) > 3)) || (!q16)) || (!q19)) = false →
        ∃ n22 : Int, Wr .i64 (n9 + 1) n22 ∧
        ((.sl x0_0 : SV) = .sl x0_0) ∧
        ((.sl x0_1 : SV) = .sl x0_1) ∧
        I7 n22 w10 ∧
        m8 n22 w10 < m8 n9 w10)) ∧
    ((decide (n9 < (x0_1.n : Int))) = false →
      IxOk x0_1 0 ∧
      ∃ x23 : Sl, w10.cell? ((elA x0_1 0 5).add 0) = some (x23.val) ∧
      ((decide ((x23.n : Int) = 0)) = true →
        IxOk x0_1 0) ∧
      ∃ n24 : Int, ((decide ((x23.n : Int) = 0)) = true →
        w10.cell? ((elA x0_1 0 5).add 1) = some (.int .i64 n24)) ∧
      Q (.bool ((decide ((x23.n : Int) = 0)) && (decide (n24 = 0)))) w10))
theorem of46 (x0_0 : Sl) (x0_1 : Sl) (v : World) (Q : Value → World → Prop) (h : vc46 x0_0 x0_1 v Q) : Trip Try.prog 46 #[.agg #[x0_0.val, x0_1.val]] v Q :=
  trip_of_eq (args := [.ag [.sl x0_0, .sl x0_1]]) (A := ⟨[(4, [(3, .int .i64)], [])], [], [], [], [7, 11, 14, 17, 21, 24, 25, 26, 30, 31, 32, 38, 39, 40, 43, 44, 45, 46, 48, 56, 57, 58, 69, 70, 77, 78, 79, 80, 81, 82, 83, 84, 87, 88, 89, 91, 92, 93, 94, 95, 100, 103, 104, 105, 106, 107, 109, 111, 114, 115, 116, 118, 120, 121, 122, 123, 124, 125]⟩) Try.func46 (by kernel_rfl) (by kernel_rfl) (by kernel_rfl : vc46 x0_0 x0_1 v Q = _) h

/-- spec.sigsOfImage -/
def vc47 (x0_0 : Sl) (x0_1 : Sl) (v : World) (Q : Value → World → Prop) : Prop :=
  StepT Try.prog (Instr.buildSlice 79 0 #[]) v fun r1 w2 =>
    ∃ x3 : Sl, r1 = x3.val ∧
    ∃ I4 : Int → Sl → World → Prop, ∃ m5 : Int → Sl → World → Nat, I4 0 x3 w2 ∧
    ∀ n6 : Int, ∀ x7 : Sl, ∀ w8 : World, I4 n6 x7 w8 →
    ((decide (n6 < (x0_1.n : Int))) = true →
      IxOk x0_1 n6 ∧
      ∃ x9 : Sl, w8.cell? ((elA x0_1 n6 5).add 0) = some (x9.val) ∧
      IxOk x0_1 n6 ∧
      ∃ n10 : Int, w8.cell? ((elA x0_1 n6 5).add 2) = some (.int .i64 n10) ∧
      StepT Try.prog (Instr.buildSlice 79 1 #[(0, (.agg #[x9.val, .int .i64 n10, .int .i64 0, .int .i64 0, .slice none 0 0]))]) w8 fun r11 w12 =>
        ∃ x13 : Sl, r11 = x13.val ∧
        Sub w8 w12 ∧
        StepT Try.prog (Builtin.append_ #[79, 79] 79 #[(x7.val), (x13.val)]) w12 fun r14 w15 =>
          ∃ x16 : Sl, r14 = x16.val ∧
          ∃ n17 : Int, Wr .i64 (n6 + 1) n17 ∧
          ((.sl x0_0 : SV) = .sl x0_0) ∧
          ((.sl x0_1 : SV) = .sl x0_1) ∧
          ((.sl (Sl.mk none 0 0) : SV) = .sl (Sl.mk none 0 0)) ∧
          ((.sl (Sl.mk none 0 0) : SV) = .sl (Sl.mk none 0 0)) ∧
          ((.sl x0_0 : SV) = .sl x0_0) ∧
          I4 n17 x16 w15 ∧
          m5 n17 x16 w15 < m5 n6 x7 w8) ∧
    ((decide (n6 < (x0_1.n : Int))) = false →
      Q (.agg #[x0_0.val, x7.val]) w8)
theorem of47 (x0_0 : Sl) (x0_1 : Sl) (v : World) (Q : Value → World → Prop) (h : vc47 x0_0 x0_1 v Q) : Trip Try.prog 47 #[.agg #[x0_0.val, x0_1.val]] v Q :=
  trip_of_eq (args := [.ag [.sl x0_0, .sl x0_1]]) (A := ⟨[(3, [(4, .int .i64)], [(2, 1, .sl)])], [], [(5, [15])], [], [7, 11, 14, 17, 21, 24, 25, 26, 30, 31, 32, 38, 39, 40, 43, 44, 45, 46, 48, 56, 57, 58, 69, 70, 77, 78, 79, 80, 81, 82, 83, 84, 87, 88, 89, 91, 92, 93, 94, 95, 100, 103, 104, 105, 106, 107, 109, 111, 114, 115, 116, 118, 120, 121, 122, 123, 124, 125]⟩) Try.func47 (by kernel_rfl) (by kernel_rfl) (by kernel_rfl : vc47 x0_0 x0_1 v Q = _) h

/-- spec.validProc -/
def vc48 (x0_0 : Sl) (x0_1 : Sl) (x1_0 : Sl) (x1_1 : Sl) (n1_2 : Int) (n1_3 : Int) (x1_4 : Sl) (v : World) (Q : Value → World → Prop) : Prop :=
  ∃ q1 : Bool, (Trip Try.prog 83 #[x1_0.val, x1_1.val] v fun r2 w3 => r2 = .bool q1 ∧ Sub v w3) ∧
  ∃ n4 : Int, ((!q1) = false →
    PureT Try.prog (Builtin.max_ #[3, 3] 3 #[(.int .i64 1), (.int .i64 (x1_0.n : Int))]) v (.int .i64 n4)) ∧
  ∃ q5 : Bool, ((!q1) = false →
    (Trip Try.prog 81 #[.int .i64 n1_3, .int .i64 n4, .int .i64 2000] v fun r6 w7 => r6 = .bool q5 ∧ Sub v w7)) ∧
  ∃ q8 : Bool, (((!q1) || (!q5)) = false →
    (Trip Try.prog 81 #[.int .i64 (x1_4.n : Int), .int .i64 1, .int .i64 2000] v fun r9 w10 => r9 = .bool q8 ∧ Sub v w10)) ∧
  ((((!q1) || (!q5)) || (!q8)) = true →
    Q (.bool false) v) ∧
  ((((!q1) || (!q5)) || (!q8)) = false →
    ∃ I11 : Int → World → Prop, ∃ m12 : Int → World → Nat, I11 0 v ∧
    ∀ n13 : Int, ∀ w14 : World, I11 n13 w14 →
    ((decide (n13 < (x1_4.n : Int))) = true →
      ∃ q15 : Bool, (Trip Try.prog 84 #[.agg #[x0_0.val, x0_1.val], .agg #[x1_0.val, x1_1.val, .int .i64 n1_2, .int .i64 n1_3, x1_4.val], .int .i64 n13] w14 fun r16 w17 => r16 = .bool q15 ∧ Sub w14 w17) ∧
      ((!q15) = true →
        Q (.bool false) w14) ∧
      ((!q15) = false →
        ∃ n18 : Int, Wr .i64 (n13 + 1) n18 ∧
        ((.sl x0_0 : SV) = .sl x0_0) ∧
        ((.sl x0_1 : SV) = .sl x0_1) ∧
        ((.sl x1_0 : SV) = .sl x1_0) ∧
        ((.sl x1_1 : SV) = .sl x1_1) ∧
        ((.num .i64 n1_2 : SV) = .num .i64 n1_2) ∧
        ((.num .i64 n1_3 : SV) = .num .i64 n1_3) ∧
        ((.sl x1_4 : SV) = .sl x1_4) ∧
        I11 n18 w14 ∧
        m12 n18 w14 < m12 n13 w14)) ∧
    ((decide (n13 < (x1_4.n : Int))) = false →
      ∃ n19 : Int, Wr .i64 ((x1_4.n : Int) - 1) n19 ∧
      IxOk x1_4 n19 ∧
      ∃ n20 : Int, w14.cell? ((elA x1_4 n19 6).add 0) = some (.int .i64 n20) ∧
      ∃ n21 : Int, ((decide (n20 = 23)) = false →
        Wr .i64 ((x1_4.n : Int) - 1) n21) ∧
      ((decide (n20 = 23)) = false →
        IxOk x1_4 n21) ∧
      ∃ n22 : Int, ((decide (n20 = 23)) = false →
        w14.cell? ((elA x1_4 n21 6).add 0) = some (.int .i64 n22)) ∧
      Q (.bool ((decide (n20 = 23)) || (decide (n22 = 24)))) w14))
theorem of48 (x0_0 : Sl) (x0_1 : Sl) (x1_0 : Sl) (x1_1 : Sl) (n1_2 : Int) (n1_3 : Int) (x1_4 : Sl) (v : World) (Q : Value → World → Prop) (h : vc48 x0_0 x0_1 x1_0 x1_1 n1_2 n1_3 x1_4 v Q) : Trip Try.prog 48 #[.agg #[x0_0.val, x0_1.val], .agg #[x1_0.val, x1_1.val, .int .i64 n1_2, .int .i64 n1_3, x1_4.val]] v Q :=
  trip_of_eq (args := [.ag [.sl x0_0, .sl x0_1], .ag [.sl x1_0, .sl x1_1, .num .i64 n1_2, .num .i64 n1_3, .sl x1_4]]) (A := ⟨[(5, [(6, .int .i64)], [])], [], [], [], [7, 11, 14, 17, 21, 24, 25, 26, 30, 31, 32, 38, 39, 40, 43, 44, 45, 46, 48, 56, 57, 58, 69, 70, 77, 78, 79, 80, 81, 82, 83, 84, 87, 88, 89, 91, 92, 93, 94, 95, 100, 103, 104, 105, 106, 107, 109, 111, 114, 115, 116, 118, 120, 121, 122, 123, 124, 125]⟩) Try.func48 (by kernel_rfl) (by kernel_rfl) (by kernel_rfl : vc48 x0_0 x0_1 x1_0 x1_1 n1_2 n1_3 x1_4 v Q = _) h

/-- laws.toDecl -/
def vc53 (n0_0 : Int) (n0_1 : Int) (x0_2 : Sl) (v : World) (Q : Value → World → Prop) : Prop :=
  Trip Try.prog 85 #[x0_2.val] v fun r1 w2 =>
    ∃ x3 : Sl, r1 = x3.val ∧
    Q (.agg #[.int .i64 n0_0, .int .i64 n0_1, x3.val]) w2
theorem of53 (n0_0 : Int) (n0_1 : Int) (x0_2 : Sl) (v : World) (Q : Value → World → Prop) (h : vc53 n0_0 n0_1 x0_2 v Q) : Trip Try.prog 53 #[.agg #[.int .i64 n0_0, .int .i64 n0_1, x0_2.val]] v Q :=
  trip_of_eq (args := [.ag [.num .i64 n0_0, .num .i64 n0_1, .sl x0_2]]) (A := ⟨[], [], [], [], [7, 11, 14, 17, 21, 24, 25, 26, 30, 31, 32, 38, 39, 40, 43, 44, 45, 46, 48, 56, 57, 58, 69, 70, 77, 78, 79, 80, 81, 82, 83, 84, 87, 88, 89, 91, 92, 93, 94, 95, 100, 103, 104, 105, 106, 107, 109, 111, 114, 115, 116, 118, 120, 121, 122, 123, 124, 125]⟩) Try.func53 (by kernel_rfl) (by kernel_rfl) (by kernel_rfl : vc53 n0_0 n0_1 x0_2 v Q = _) h

/-- laws.toProc -/
def vc54 (x0_0 : Sl) (x0_1 : Sl) (n0_2 : Int) (n0_3 : Int) (x0_4 : Sl) (v : World) (Q : Value → World → Prop) : Prop :=
  Trip Try.prog 19 #[x0_0.val] v fun r1 w2 =>
    ∃ x3 : Sl, r1 = x3.val ∧
    Trip Try.prog 19 #[x0_1.val] w2 fun r4 w5 =>
      ∃ x6 : Sl, r4 = x6.val ∧
      Trip Try.prog 86 #[x0_4.val] w5 fun r7 w8 =>
        ∃ x9 : Sl, r7 = x9.val ∧
        Q (.agg #[x3.val, x6.val, .int .i64 n0_2, .int .i64 n0_3, x9.val]) w8
theorem of54 (x0_0 : Sl) (x0_1 : Sl) (n0_2 : Int) (n0_3 : Int) (x0_4 : Sl) (v : World) (Q : Value → World → Prop) (h : vc54 x0_0 x0_1 n0_2 n0_3 x0_4 v Q) : Trip Try.prog 54 #[.agg #[x0_0.val, x0_1.val, .int .i64 n0_2, .int .i64 n0_3, x0_4.val]] v Q :=
  trip_of_eq (args := [.ag [.sl x0_0, .sl x0_1, .num .i64 n0_2, .num .i64 n0_3, .sl x0_4]]) (A := ⟨[], [], [], [], [7, 11, 14, 17, 21, 24, 25, 26, 30, 31, 32, 38, 39, 40, 43, 44, 45, 46, 48, 56, 57, 58, 69, 70, 77, 78, 79, 80, 81, 82, 83, 84, 87, 88, 89, 91, 92, 93, 94, 95, 100, 103, 104, 105, 106, 107, 109, 111, 114, 115, 116, 118, 120, 121, 122, 123, 124, 125]⟩) Try.func54 (by kernel_rfl) (by kernel_rfl) (by kernel_rfl : vc54 x0_0 x0_1 n0_2 n0_3 x0_4 v Q = _) h

/-- impl.imageSigs -/
def vc55 (x0_0 : Sl) (x0_1 : Sl) (v : World) (Q : Value → World → Prop) : Prop :=
  ((decide ((x0_1.n : Int) > 4)) = true →
    Q (.tuple #[.agg #[.slice none 0 0, .slice none 0 0], .bool false]) v) ∧
  ((decide ((x0_1.n : Int) > 4)) = false →
    ∃ I1 : Int → Sl → World → Prop, ∃ m2 : Int → Sl → World → Nat, I1 0 (Sl.mk none 0 0) v ∧
    ∀ n3 : Int, ∀ x4 : Sl, ∀ w5 : World, I1 n3 x4 w5 →
    ((decide (n3 < (x0_1.n : Int))) = true →
      IxOk x0_1 n3 ∧
      ∃ x6 : Sl, ∃ x7 : Sl, ∃ n8 : Int, ∃ n9 : Int, ∃ x10 : Sl, (w5.cell? ((elA x0_1 n3 5).add 0) = some (x6.val) ∧
        w5.cell? ((elA x0_1 n3 5).add 1) = some (x7.val) ∧
        w5.cell? ((elA x0_1 n3 5).add 2) = some (.int .i64 n8) ∧
        w5.cell? ((elA x0_1 n3 5).add 3) = some (.int .i64 n9) ∧
        w5.cell? ((elA x0_1 n3 5).add 4) = some (x10.val)) ∧
      StepT Try.prog (Instr.buildSlice 93 1 #[(0, (.agg #[x6.val, x7.val, .int .i64 n8]))]) w5 fun r11 w12 =>
        ∃ x13 : Sl, r11 = x13.val ∧
        StepT Try.prog (Builtin.append_ #[93, 93] 93 #[(x4.val), (x13.val)]) w12 fun r14 w15 =>
          ∃ x16 : Sl, r14 = x16.val ∧
          ∃ n17 : Int, Wr .i64 (n3 + 1) n17 ∧
          ((.sl x0_0 : SV) = .sl x0_0) ∧
          ((.sl x0_1 : SV) = .sl x0_1) ∧
          ((.sl (Sl.mk none 0 0) : SV) = .sl (Sl.mk none 0 0)) ∧
          ((.sl (Sl.mk none 0 0) : SV) = .sl (Sl.mk none 0 0)) ∧
          ((.sl x0_0 : SV) = .sl x0_0) ∧
          I1 n17 x16 w15 ∧
          m2 n17 x16 w15 < m2 n3 x4 w5) ∧
    ((decide (n3 < (x0_1.n : Int))) = false →
      ∃ q18 : Bool, (Trip Try.prog 87 #[x0_0.val, x4.val] w5 fun r19 w20 => r19 = .bool q18 ∧ Sub w5 w20) ∧
      Q (.tuple #[.agg #[x0_0.val, x4.val], .bool q18]) w5))
theorem of55 (x0_0 : Sl) (x0_1 : Sl) (v : World) (Q : Value → World → Prop) (h : vc55 x0_0 x0_1 v Q) : Trip Try.prog 55 #[.agg #[x0_0.val, x0_1.val]] v Q :=
  trip_of_eq (args := [.ag [.sl x0_0, .sl x0_1]]) (A := ⟨[(5, [(18, .int .i64)], [(2, 1, .sl)])], [], [(9, [])], [], [7, 11, 14, 17, 21, 24, 25, 26, 30, 31, 32, 38, 39, 40, 43, 44, 45, 46, 48, 56, 57, 58, 69, 70, 77, 78, 79, 80, 81, 82, 83, 84, 87, 88, 89, 91, 92, 93, 94, 95, 100, 103, 104, 105, 106, 107, 109, 111, 114, 115, 116, 118, 120, 121, 122, 123, 124, 125]⟩) Try.func55 (by kernel_rfl) (by kernel_rfl) (by kernel_rfl : vc55 x0_0 x0_1 v Q = _) h

/-- (impl.signatures).instrValid -/
def vc56 (x0_0 : Sl) (x0_1 : Sl) (x1_0 : Sl) (x1_1 : Sl) (n1_2 : Int) (n1_3 : Int) (x1_4 : Sl) (n_2 : Int) (n3_0 : Int) (n3_1 : Int) (n3_2 : Int) (n3_3 : Int) (x3_4 : Sl) (x3_5 : Sl) (v : World) (Q : Value → World → Prop) : Prop :=
  NewAt v (.cells #[x1_0.val, x1_1.val, .int .i64 n1_2, .int .i64 n1_3, x1_4.val] 66 (0, 0)) fun a1 w2 =>
    NewAt w2 (.cells #[.int .i64 n_2] 3 (0, 0)) fun a3 w4 =>
      (((((((decide (n3_0 < 0)) || (decide (n3_0 > 24))) || (decide (n3_0 = 7))) || (decide (n3_0 = 8))) || (decide (n3_0 = 12))) || (decide (n3_0 = 13))) = true →
        Q (.bool false) w4) ∧
      (((((((decide (n3_0 < 0)) || (decide (n3_0 > 24))) || (decide (n3_0 = 7))) || (decide (n3_0 = 8))) || (decide (n3_0 = 12))) || (decide (n3_0 = 13))) = false →
        ∃ n5 : Int, ((decide (n3_1 < 0)) = false →
          w4.cell? (a1.add 3) = some (.int .i64 n5)) ∧
        ∃ q6 : Bool, ((!decide (n3_1 = 0)) = true →
          ((decide (n3_1 < 0)) || (decide (n3_1 ≥ n5))) = false →
          (Trip Try.prog 88 #[.int .i64 n3_0] w4 fun r7 w8 => r7 = .bool q6 ∧ Sub w4 w8)) ∧
        ∃ n9 : Int, (((((decide (n3_1 < 0)) || (decide (n3_1 ≥ n5))) || ((!decide (n3_1 = 0)) && (!q6))) || (decide (n3_3 < 0))) = false →
          w4.cell? (a1.add 3) = some (.int .i64 n9)) ∧
        (((((((decide (n3_1 < 0)) || (decide (n3_1 ≥ n5))) || ((!decide (n3_1 = 0)) && (!q6))) || (decide (n3_3 < 0))) || (decide (n3_3 > n9))) || ((!decide (n3_3 = 0)) && (!decide (n3_0 = 6)))) = true →
          Q (.bool false) w4) ∧
        (((((((decide (n3_1 < 0)) || (decide (n3_1 ≥ n5))) || ((!decide (n3_1 = 0)) && (!q6))) || (decide (n3_3 < 0))) || (decide (n3_3 > n9))) || ((!decide (n3_3 = 0)) && (!decide (n3_0 = 6)))) = false →
          ∃ I10 : Int → World → Prop, ∃ m11 : Int → World → Nat, I10 0 w4 ∧
          ∀ n12 : Int, ∀ w13 : World, I10 n12 w13 →
          ((decide (n12 < (x3_4.n : Int))) = true →
            IxOk x3_4 n12 ∧
            ∃ n14 : Int, w13.cell? ((elA x3_4 n12 1).add 0) = some (.int .i64 n14) ∧
            ∃ n15 : Int, ((decide (n14 < 0)) = false →
              w13.cell? (a1.add 3) = some (.int .i64 n15)) ∧
            (((decide (n14 < 0)) || (decide (n14 ≥ n15))) = true →
              Q (.bool false) w13) ∧
            (((decide (n14 < 0)) || (decide (n14 ≥ n15))) = false →
              ∃ n16 : Int, Wr .i64 (n12 + 1) n16 ∧
              ((.sl x0_0 : SV) = .sl x0_0) ∧
              ((.sl x0_1 : SV) = .sl x0_1) ∧
              ((.num .i64 n3_0 : SV) = .num .i64 n3_0) ∧
              ((.num .i64 n3_1 : SV) = .num .i64 n3_1) ∧
              ((.num .i64 n3_2 : SV) = .num .i64 n3_2) ∧
              ((.num .i64 n3_3 : SV) = .num .i64 n3_3) ∧
              ((.sl x3_4 : SV) = .sl x3_4) ∧
              ((.sl x3_5 : SV) = .sl x3_5) ∧
              I10 n16 w13 ∧
              m11 n16 w13 < m11 n12 w13)) ∧
          ((decide (n12 < (x3_4.n : Int))) = false →
            NewAt w13 (.cells #[(Vl.mk Value.nilFunc rfl).x] 132 (0, 0)) fun a17 w18 =>
              StoreAt w18 a17 0 [(Vl.mk (.func (.func 89) #[] #[.pointer (some (a3.add 0)), .pointer (some (a1.add 0))]) rfl).x] fun w19 =>
                (((decide ((x3_5.n : Int) > 0)) && (!decide (n3_0 = 21))) = false →
                  Trip Try.prog 90 #[x3_5.val, .func (.func 91) #[] #[.pointer (some (a17.add 0))]] w19 fun r20 w21 =>
                    ∃ q22 : Bool, r20 = .bool q22 ∧
                    (q22 = true →
                      Q (.bool false) w21) ∧
                    (q22 = false →
                      ∃ y23 : Vl, w21.cell? (a17.add 0) = some (y23.x) ∧
                      ∃ q24 : Bool, (Trip Try.prog 92 #[.agg #[x0_0.val, x0_1.val], .agg #[.int .i64 n3_0, .int .i64 n3_1, .int .i64 n3_2, .int .i64 n3_3, x3_4.val, x3_5.val], y23.x] w21 fun r25 w26 => r25 = .bool q24 ∧ Sub w21 w26) ∧
                      ((!q24) = true →
                        Q (.bool false) w21) ∧
                      ((!q24) = false →
                        ∃ n27 : Int, ∃ n28 : Int, (Trip Try.prog 93 #[.agg #[x0_0.val, x0_1.val], .agg #[.int .i64 n3_0, .int .i64 n3_1, .int .i64 n3_2, .int .i64 n3_3, x3_4.val, x3_5.val]] w21 fun r29 w30 => r29 = .tuple #[.int .i64 n27, .int .i64 n28] ∧ Sub w21 w30) ∧
                        Q (.bool ((decide ((x3_4.n : Int) ≥ n27)) && (decide ((x3_4.n : Int) ≤ n28)))) w21))) ∧
                (((decide ((x3_5.n : Int) > 0)) && (!decide (n3_0 = 21))) = true →
                  Q (.bool false) w19))))
theorem of56 (x0_0 : Sl) (x0_1 : Sl) (x1_0 : Sl) (x1_1 : Sl) (n1_2 : Int) (n1_3 : Int) (x1_4 : Sl) (n_2 : Int) (n3_0 : Int) (n3_1 : Int) (n3_2 : Int) (n3_3 : Int) (x3_4 : Sl) (x3_5 : Sl) (v : World) (Q : Value → World → Prop) (h : vc56 x0_0 x0_1 x1_0 x1_1 n1_2 n1_3 x1_4 n_2 n3_0 n3_1 n3_2 n3_3 x3_4 x3_5 v Q) : Trip Try.prog 56 #[.agg #[x0_0.val, x0_1.val], .agg #[x1_0.val, x1_1.val, .int .i64 n1_2, .int .i64 n1_3, x1_4.val], .int .i64 n_2, .agg #[.int .i64 n3_0, .int .i64 n3_1, .int .i64 n3_2, .int .i64 n3_3, x3_4.val, x3_5.val]] v Q :=
  trip_of_eq (args := [.ag [.sl x0_0, .sl x0_1], .ag [.sl x1_0, .sl x1_1, .num .i64 n1_2, .num .i64 n1_3, .sl x1_4], .num .i64 n_2, .ag [.num .i64 n3_0, .num .i64 n3_1, .num .i64 n3_2, .num .i64 n3_3, .sl x3_4, .sl x3_5]]) (A := ⟨[(6, [(88, .int .i64)], [])], [], [], [5, 6, 11], [7, 11, 14, 17, 21, 24, 25, 26, 30, 31, 32, 38, 39, 40, 43, 44, 45, 46, 48, 56, 57, 58, 69, 70, 77, 78, 79, 80, 81, 82, 83, 84, 87, 88, 89, 91, 92, 93, 94, 95, 100, 103, 104, 105, 106, 107, 109, 111, 114, 115, 116, 118, 120, 121, 122, 123, 124, 125]⟩) Try.func56 (by kernel_rfl) (by kernel_rfl) (by kernel_rfl : vc56 x0_0 x0_1 x1_0 x1_1 n1_2 n1_3 x1_4 n_2 n3_0 n3_1 n3_2 n3_3 x3_4 x3_5 v Q = _) h

/-- laws.eqDecl -/
def vc57 (n0_0 : Int) (n0_1 : Int) (x0_2 : Sl) (n1_0 : Int) (n1_1 : Int) (x1_2 : Sl) (v : World) (Q : Value → World → Prop) : Prop :=
  ((!decide (n0_0 = n1_0)) = true →
    Q (.bool false) v) ∧
  ((!decide (n0_0 = n1_0)) = false →
    ((!decide (n0_1 = n1_1)) = true →
      Q (.bool false) v) ∧
    ((!decide (n0_1 = n1_1)) = false →
      ∃ q1 : Bool, (Trip Try.prog 94 #[x0_2.val, x1_2.val] v fun r2 w3 => r2 = .bool q1 ∧ Sub v w3) ∧
      ((!q1) = true →
        Q (.bool false) v) ∧
      ((!q1) = false →
        Q (.bool true) v)))
theorem of57 (n0_0 : Int) (n0_1 : Int) (x0_2 : Sl) (n1_0 : Int) (n1_1 : Int) (x1_2 : Sl) (v : World) (Q : Value → World → Prop) (h : vc57 n0_0 n0_1 x0_2 n1_0 n1_1 x1_2 v Q) : Trip Try.prog 57 #[.agg #[.int .i64 n0_0, .int .i64 n0_1, x0_2.val], .agg #[.int .i64 n1_0, .int .i64 n1_1, x1_2.val]] v Q :=
  trip_of_eq (args := [.ag [.num .i64 n0_0, .num .i64 n0_1, .sl x0_2], .ag [.num .i64 n1_0, .num .i64 n1_1, .sl x1_2]]) (A := ⟨[], [], [], [], [7, 11, 14, 17, 21, 24, 25, 26, 30, 31, 32, 38, 39, 40, 43, 44, 45, 46, 48, 56, 57, 58, 69, 70, 77, 78, 79, 80, 81, 82, 83, 84, 87, 88, 89, 91, 92, 93, 94, 95, 100, 103, 104, 105, 106, 107, 109, 111, 114, 115, 116, 118, 120, 121, 122, 123, 124, 125]⟩) Try.func57 (by kernel_rfl) (by kernel_rfl) (by kernel_rfl : vc57 n0_0 n0_1 x0_2 n1_0 n1_1 x1_2 v Q = _) h

/-- laws.eqProc -/
def vc58 (x0_0 : Sl) (x0_1 : Sl) (n0_2 : Int) (n0_3 : Int) (x0_4 : Sl) (x1_0 : Sl) (x1_1 : Sl) (n1_2 : Int) (n1_3 : Int) (x1_4 : Sl) (v : World) (Q : Value → World → Prop) : Prop :=
  ∃ q1 : Bool, (Trip Try.prog 14 #[x0_0.val, x1_0.val] v fun r2 w3 => r2 = .bool q1 ∧ Sub v w3) ∧
  ((!q1) = true →
    Q (.bool false) v) ∧
  ((!q1) = false →
    ∃ q4 : Bool, (Trip Try.prog 14 #[x0_1.val, x1_1.val] v fun r5 w6 => r5 = .bool q4 ∧ Sub v w6) ∧
    ((!q4) = true →
      Q (.bool false) v) ∧
    ((!q4) = false →
      ((!decide (n0_2 = n1_2)) = true →
        Q (.bool false) v) ∧
      ((!decide (n0_2 = n1_2)) = false →
        ((!decide (n0_3 = n1_3)) = true →
          Q (.bool false) v) ∧
        ((!decide (n0_3 = n1_3)) = false →
          ∃ q7 : Bool, (Trip Try.prog 95 #[x0_4.val, x1_4.val] v fun r8 w9 => r8 = .bool q7 ∧ Sub v w9) ∧
          ((!q7) = true →
            Q (.bool false) v) ∧
          ((!q7) = false →
            Q (.bool true) v)))))
theorem of58 (x0_0 : Sl) (x0_1 : Sl) (n0_2 : Int) (n0_3 : Int) (x0_4 : Sl) (x1_0 : Sl) (x1_1 : Sl) (n1_2 : Int) (n1_3 : Int) (x1_4 : Sl) (v : World) (Q : Value → World → Prop) (h : vc58 x0_0 x0_1 n0_2 n0_3 x0_4 x1_0 x1_1 n1_2 n1_3 x1_4 v Q) : Trip Try.prog 58 #[.agg #[x0_0.val, x0_1.val, .int .i64 n0_2, .int .i64 n0_3, x0_4.val], .agg #[x1_0.val, x1_1.val, .int .i64 n1_2, .int .i64 n1_3, x1_4.val]] v Q :=
  trip_of_eq (args := [.ag [.sl x0_0, .sl x0_1, .num .i64 n0_2, .num .i64 n0_3, .sl x0_4], .ag [.sl x1_0, .sl x1_1, .num .i64 n1_2, .num .i64 n1_3, .sl x1_4]]) (A := ⟨[], [], [], [], [7, 11, 14, 17, 21, 24, 25, 26, 30, 31, 32, 38, 39, 40, 43, 44, 45, 46, 48, 56, 57, 58, 69, 70, 77, 78, 79, 80, 81, 82, 83, 84, 87, 88, 89, 91, 92, 93, 94, 95, 100, 103, 104, 105, 106, 107, 109, 111, 114, 115, 116, 118, 120, 121, 122, 123, 124, 125]⟩) Try.func58 (by kernel_rfl) (by kernel_rfl) (by kernel_rfl : vc58 x0_0 x0_1 n0_2 n0_3 x0_4 x1_0 x1_1 n1_2 n1_3 x1_4 v Q = _) h

/-- laws.markConS -/
def vc61 (x_0 : Sl) (n_1 : Int) (v : World) (Q : Value → World → Prop) : Prop :=
  ∃ I1 : Int → Int → World → Prop, ∃ m2 : Int → Int → World → Nat, I1 n_1 0 v ∧
  ∀ n3 : Int, ∀ n4 : Int, ∀ w5 : World, I1 n3 n4 w5 →
  ((decide (n4 < (x_0.n : Int))) = true →
    IxOk x_0 n4 ∧
    ∃ x6 : Sl, w5.cell? ((elA x_0 n4 1).add 0) = some (x6.val) ∧
    Trip Try.prog 16 #[x6.val, .int .i64 n3] w5 fun r7 w8 =>
      ∃ n9 : Int, r7 = .int .i64 n9 ∧
      ∃ n10 : Int, Wr .i64 (n4 + 1) n10 ∧
      I1 n9 n10 w8 ∧
      m2 n9 n10 w8 < m2 n3 n4 w5) ∧
  ((decide (n4 < (x_0.n : Int))) = false →
    Q (.int .i64 n3) w5)
theorem of61 (x_0 : Sl) (n_1 : Int) (v : World) (Q : Value → World → Prop) (h : vc61 x_0 n_1 v Q) : Trip Try.prog 61 #[x_0.val, .int .i64 n_1] v Q :=
  trip_of_eq (args := [.sl x_0, .num .i64 n_1]) (A := ⟨[(2, [(1, .int .i64), (5, .int .i64)], [])], [], [], [], [7, 11, 14, 17, 21, 24, 25, 26, 30, 31, 32, 38, 39, 40, 43, 44, 45, 46, 48, 56, 57, 58, 69, 70, 77, 78, 79, 80, 81, 82, 83, 84, 87, 88, 89, 91, 92, 93, 94, 95, 100, 103, 104, 105, 106, 107, 109, 111, 114, 115, 116, 118, 120, 121, 122, 123, 124, 125]⟩) Try.func61 (by kernel_rfl) (by kernel_rfl) (by kernel_rfl : vc61 x_0 n_1 v Q = _) h

/-- laws.markInstrS -/
def vc62 (x_0 : Sl) (n_1 : Int) (v : World) (Q : Value → World → Prop) : Prop :=
  ∃ I1 : Int → Int → World → Prop, ∃ m2 : Int → Int → World → Nat, I1 n_1 0 v ∧
  ∀ n3 : Int, ∀ n4 : Int, ∀ w5 : World, I1 n3 n4 w5 →
  ((decide (n4 < (x_0.n : Int))) = true →
    IxOk x_0 n4 ∧
    StoreAt w5 (elA x_0 n4 6) 0 [.int .i64 n3] fun w6 =>
      ∃ n7 : Int, Wr .i64 (n3 + 1) n7 ∧
      IxOk x_0 n4 ∧
      StoreAt w6 (elA x_0 n4 6) 1 [.int .i64 n7] fun w8 =>
        ∃ n9 : Int, Wr .i64 (n7 + 1) n9 ∧
        IxOk x_0 n4 ∧
        StoreAt w8 (elA x_0 n4 6) 2 [.int .i64 n9] fun w10 =>
          ∃ n11 : Int, Wr .i64 (n9 + 1) n11 ∧
          IxOk x_0 n4 ∧
          StoreAt w10 (elA x_0 n4 6) 3 [.int .i64 n11] fun w12 =>
            ∃ n13 : Int, Wr .i64 (n11 + 1) n13 ∧
            IxOk x_0 n4 ∧
            ∃ x14 : Sl, w12.cell? ((elA x_0 n4 6).add 4) = some (x14.val) ∧
            Trip Try.prog 16 #[x14.val, .int .i64 n13] w12 fun r15 w16 =>
              ∃ n17 : Int, r15 = .int .i64 n17 ∧
              IxOk x_0 n4 ∧
              ∃ x18 : Sl, w16.cell? ((elA x_0 n4 6).add 5) = some (x18.val) ∧
              Trip Try.prog 16 #[x18.val, .int .i64 n17] w16 fun r19 w20 =>
                ∃ n21 : Int, r19 = .int .i64 n21 ∧
                ∃ n22 : Int, Wr .i64 (n4 + 1) n22 ∧
                I1 n21 n22 w20 ∧
                m2 n21 n22 w20 < m2 n3 n4 w5) ∧
  ((decide (n4 < (x_0.n : Int))) = false →
    Q (.int .i64 n3) w5)
theorem of62 (x_0 : Sl) (n_1 : Int) (v : World) (Q : Value → World → Prop) (h : vc62 x_0 n_1 v Q) : Trip Try.prog 62 #[x_0.val, .int .i64 n_1] v Q :=
  trip_of_eq (args := [.sl x_0, .num .i64 n_1]) (A := ⟨[(2, [(1, .int .i64), (5, .int .i64)], [])], [], [], [], [7, 11, 14, 17, 21, 24, 25, 26, 30, 31, 32, 38, 39, 40, 43, 44, 45, 46, 48, 56, 57, 58, 69, 70, 77, 78, 79, 80, 81, 82, 83, 84, 87, 88, 89, 91, 92, 93, 94, 95, 100, 103, 104, 105, 106, 107, 109, 111, 114, 115, 116, 118, 120, 121, 122, 123, 124, 125]⟩) Try.func62 (by kernel_rfl) (by kernel_rfl) (by kernel_rfl : vc62 x_0 n_1 v Q = _) h

/-- laws.heldConS -/
def vc69 (x_0 : Sl) (n_1 : Int) (v : World) (Q : Value → World → Prop) : Prop :=
  ∃ I1 : Int → Int → World → Prop, ∃ m2 : Int → Int → World → Nat, I1 n_1 0 v ∧
  ∀ n3 : Int, ∀ n4 : Int, ∀ w5 : World, I1 n3 n4 w5 →
  ((decide (n4 < (x_0.n : Int))) = true →
    IxOk x_0 n4 ∧
    ∃ x6 : Sl, w5.cell? ((elA x_0 n4 1).add 0) = some (x6.val) ∧
    ∃ n7 : Int, (Trip Try.prog 17 #[x6.val, .int .i64 n3] w5 fun r8 w9 => r8 = .int .i64 n7 ∧ Sub w5 w9) ∧
    ((decide (n7 < 0)) = true →
      Q (.int .i64 (-1)) w5) ∧
    ((decide (n7 < 0)) = false →
      ∃ n10 : Int, Wr .i64 (n4 + 1) n10 ∧
      I1 n7 n10 w5 ∧
      m2 n7 n10 w5 < m2 n3 n4 w5)) ∧
  ((decide (n4 < (x_0.n : Int))) = false →
    Q (.int .i64 n3) w5)
theorem of69 (x_0 : Sl) (n_1 : Int) (v : World) (Q : Value → World → Prop) (h : vc69 x_0 n_1 v Q) : Trip Try.prog 69 #[x_0.val, .int .i64 n_1] v Q :=
  trip_of_eq (args := [.sl x_0, .num .i64 n_1]) (A := ⟨[(2, [(1, .int .i64), (5, .int .i64)], [])], [], [], [], [7, 11, 14, 17, 21, 24, 25, 26, 30, 31, 32, 38, 39, 40, 43, 44, 45, 46, 48, 56, 57, 58, 69, 70, 77, 78, 79, 80, 81, 82, 83, 84, 87, 88, 89, 91, 92, 93, 94, 95, 100, 103, 104, 105, 106, 107, 109, 111, 114, 115, 116, 118, 120, 121, 122, 123, 124, 125]⟩) Try.func69 (by kernel_rfl) (by kernel_rfl) (by kernel_rfl : vc69 x_0 n_1 v Q = _) h

/-- laws.heldInstrS -/
def vc70 (x_0 : Sl) (n_1 : Int) (v : World) (Q : Value → World → Prop) : Prop :=
  ∃ I1 : Int → Int → World → Prop, ∃ m2 : Int → Int → World → Nat, I1 n_1 0 v ∧
  ∀ n3 : Int, ∀ n4 : Int, ∀ w5 : World, I1 n3 n4 w5 →
  ((decide (n4 < (x_0.n : Int))) = true →
    IxOk x_0 n4 ∧
    ∃ n6 : Int, w5.cell? ((elA x_0 n4 6).add 0) = some (.int .i64 n6) ∧
    ((!decide (n6 = n3)) = true →
      Q (.int .i64 (-1)) w5) ∧
    ((!decide (n6 = n3)) = false →
      ∃ n7 : Int, Wr .i64 (n3 + 1) n7 ∧
      IxOk x_0 n4 ∧
      ∃ n8 : Int, w5.cell? ((elA x_0 n4 6).add 1) = some (.int .i64 n8) ∧
      ((!decide (n8 = n7)) = true →
        Q (.int .i64 (-1)) w5) ∧
      ((!decide (n8 = n7)) = false →
        ∃ n9 : Int, Wr .i64 (n7 + 1) n9 ∧
        IxOk x_0 n4 ∧
        ∃ n10 : Int, w5.cell? ((elA x_0 n4 6).add 2) = some (.int .i64 n10) ∧
        ((!decide (n10 = n9)) = true →
          Q (.int .i64 (-1)) w5) ∧
        ((!decide (n10 = n9)) = false →
          ∃ n11 : Int, Wr .i64 (n9 + 1) n11 ∧
          IxOk x_0 n4 ∧
          ∃ n12 : Int, w5.cell? ((elA x_0 n4 6).add 3) = some (.int .i64 n12) ∧
          ((!decide (n12 = n11)) = true →
            Q (.int .i64 (-1)) w5) ∧
          ((!decide (n12 = n11)) = false →
            ∃ n13 : Int, Wr .i64 (n11 + 1) n13 ∧
            IxOk x_0 n4 ∧
            ∃ x14 : Sl, w5.cell? ((elA x_0 n4 6).add 4) = some (x14.val) ∧
            ∃ n15 : Int, (Trip Try.prog 17 #[x14.val, .int .i64 n13] w5 fun r16 w17 => r16 = .int .i64 n15 ∧ Sub w5 w17) ∧
            ((decide (n15 < 0)) = true →
              Q (.int .i64 (-1)) w5) ∧
            ((decide (n15 < 0)) = false →
              IxOk x_0 n4 ∧
              ∃ x18 : Sl, w5.cell? ((elA x_0 n4 6).add 5) = some (x18.val) ∧
              ∃ n19 : Int, (Trip Try.prog 17 #[x18.val, .int .i64 n15] w5 fun r20 w21 => r20 = .int .i64 n19 ∧ Sub w5 w21) ∧
              ((decide (n19 < 0)) = true →
                Q (.int .i64 (-1)) w5) ∧
              ((decide (n19 < 0)) = false →
                ∃ n22 : Int, Wr .i64 (n4 + 1) n22 ∧
                I1 n19 n22 w5 ∧
                m2 n19 n22 w5 < m2 n3 n4 w5))))))) ∧
  ((decide (n4 < (x_0.n : Int))) = false →
    Q (.int .i64 n3) w5)
theorem of70 (x_0 : Sl) (n_1 : Int) (v : World) (Q : Value → World → Prop) (h : vc70 x_0 n_1 v Q) : Trip Try.prog 70 #[x_0.val, .int .i64 n_1] v Q :=
  trip_of_eq (args := [.sl x_0, .num .i64 n_1]) (A := ⟨[(2, [(1, .int .i64), (5, .int .i64)], [])], [], [], [], [7, 11, 14, 17, 21, 24, 25, 26, 30, 31, 32, 38, 39, 40, 43, 44, 45, 46, 48, 56, 57, 58, 69, 70, 77, 78, 79, 80, 81, 82, 83, 84, 87, 88, 89, 91, 92, 93, 94, 95, 100, 103, 104, 105, 106, 107, 109, 111, 114, 115, 116, 118, 120, 121, 122, 123, 124, 125]⟩) Try.func70 (by kernel_rfl) (by kernel_rfl) (by kernel_rfl : vc70 x_0 n_1 v Q = _) h

/-- spec.copyDecls -/
def vc71 (x_0 : Sl) (v : World) (Q : Value → World → Prop) : Prop :=
  StepT Try.prog (Instr.buildSlice 28 0 #[]) v fun r1 w2 =>
    ∃ x3 : Sl, r1 = x3.val ∧
    ∃ I4 : Sl → Int → World → Prop, ∃ m5 : Sl → Int → World → Nat, I4 x3 0 w2 ∧
    ∀ x6 : Sl, ∀ n7 : Int, ∀ w8 : World, I4 x6 n7 w8 →
    ((decide (n7 < (x_0.n : Int))) = true →
      StepT Try.prog (Instr.buildSlice 88 0 #[]) w8 fun r9 w10 =>
        ∃ x11 : Sl, r9 = x11.val ∧
        ∃ I12 : Sl → Int → World → Prop, ∃ m13 : Sl → Int → World → Nat, I12 x11 0 w10 ∧
        ∀ x14 : Sl, ∀ n15 : Int, ∀ w16 : World, I12 x14 n15 w16 →
        IxOk x_0 n7 ∧
        ∃ x17 : Sl, w16.cell? ((elA x_0 n7 3).add 2) = some (x17.val) ∧
        ((decide (n15 < (x17.n : Int))) = true →
          IxOk x_0 n7 ∧
          ∃ x18 : Sl, w16.cell? ((elA x_0 n7 3).add 2) = some (x18.val) ∧
          IxOk x18 n15 ∧
          ∃ x19 : Sl, w16.cell? ((elA x18 n15 1).add 0) = some (x19.val) ∧
          Trip Try.prog 72 #[x19.val] w16 fun r20 w21 =>
            ∃ x22 : Sl, r20 = x22.val ∧
            StepT Try.prog (Instr.buildSlice 88 1 #[(0, (.agg #[x22.val]))]) w21 fun r23 w24 =>
              ∃ x25 : Sl, r23 = x25.val ∧
              StepT Try.prog (Builtin.append_ #[88, 88] 88 #[(x14.val), (x25.val)]) w24 fun r26 w27 =>
                ∃ x28 : Sl, r26 = x28.val ∧
                ∃ n29 : Int, Wr .i64 (n15 + 1) n29 ∧
                I12 x28 n29 w27 ∧
                m13 x28 n29 w27 < m13 x14 n15 w16) ∧
        ((decide (n15 < (x17.n : Int))) = false →
          IxOk x_0 n7 ∧
          ∃ n30 : Int, w16.cell? ((elA x_0 n7 3).add 0) = some (.int .i64 n30) ∧
          IxOk x_0 n7 ∧
          ∃ n31 : Int, w16.cell? ((elA x_0 n7 3).add 1) = some (.int .i64 n31) ∧
          StepT Try.prog (Instr.buildSlice 28 1 #[(0, (.agg #[.int .i64 n30, .int .i64 n31, x14.val]))]) w16 fun r32 w33 =>
            ∃ x34 : Sl, r32 = x34.val ∧
            StepT Try.prog (Builtin.append_ #[28, 28] 28 #[(x6.val), (x34.val)]) w33 fun r35 w36 =>
              ∃ x37 : Sl, r35 = x37.val ∧
              ∃ n38 : Int, Wr .i64 (n7 + 1) n38 ∧
              I4 x37 n38 w36 ∧
              m5 x37 n38 w36 < m5 x6 n7 w8)) ∧
    ((decide (n7 < (x_0.n : Int))) = false →
      Q (x6.val) w8)
theorem of71 (x_0 : Sl) (v : World) (Q : Value → World → Prop) (h : vc71 x_0 v Q) : Trip Try.prog 71 #[x_0.val] v Q :=
  trip_of_eq (args := [.sl x_0]) (A := ⟨[(3, [(3, .sl), (4, .int .i64)], []), (7, [(5, .sl), (6, .int .i64)], [])], [], [(10, [])], [], [7, 11, 14, 17, 21, 24, 25, 26, 30, 31, 32, 38, 39, 40, 43, 44, 45, 46, 48, 56, 57, 58, 69, 70, 77, 78, 79, 80, 81, 82, 83, 84, 87, 88, 89, 91, 92, 93, 94, 95, 100, 103, 104, 105, 106, 107, 109, 111, 114, 115, 116, 118, 120, 121, 122, 123, 124, 125]⟩) Try.func71 (by kernel_rfl) (by kernel_rfl) (by kernel_rfl : vc71 x_0 v Q = _) h

/-- spec.copyInts -/
def vc72 (x_0 : Sl) (v : World) (Q : Value → World → Prop) : Prop :=
  StepT Try.prog (Instr.buildSlice 35 0 #[]) v fun r1 w2 =>
    ∃ x3 : Sl, r1 = x3.val ∧
    StepT Try.prog (Builtin.append_ #[35, 35] 35 #[(x3.val), (x_0.val)]) w2 fun r4 w5 =>
      ∃ x6 : Sl, r4 = x6.val ∧
      Q (x6.val) w5
theorem of72 (x_0 : Sl) (v : World) (Q : Value → World → Prop) (h : vc72 x_0 v Q) : Trip Try.prog 72 #[x_0.val] v Q :=
  trip_of_eq (args := [.sl x_0]) (A := ⟨[], [], [], [], [7, 11, 14, 17, 21, 24, 25, 26, 30, 31, 32, 38, 39, 40, 43, 44, 45, 46, 48, 56, 57, 58, 69, 70, 77, 78, 79, 80, 81, 82, 83, 84, 87, 88, 89, 91, 92, 93, 94, 95, 100, 103, 104, 105, 106, 107, 109, 111, 114, 115, 116, 118, 120, 121, 122, 123, 124, 125]⟩) Try.func72 (by kernel_rfl) (by kernel_rfl) (by kernel_rfl : vc72 x_0 v Q = _) h

/-- spec.tailCode -/
def vc73 (x_0 : Sl) (v : World) (Q : Value → World → Prop) : Prop :=
  StepT Try.prog (Instr.buildSlice 64 0 #[]) v fun r1 w2 =>
    ∃ x3 : Sl, r1 = x3.val ∧
    ∃ I4 : Sl → Int → World → Prop, ∃ m5 : Sl → Int → World → Nat, I4 x3 0 w2 ∧
    ∀ x6 : Sl, ∀ n7 : Int, ∀ w8 : World, I4 x6 n7 w8 →
    ((decide (n7 < (x_0.n : Int))) = true →
      IxOk x_0 n7 ∧
      ∃ n9 : Int, ∃ n10 : Int, ∃ n11 : Int, ∃ n12 : Int, ∃ x13 : Sl, ∃ x14 : Sl, (w8.cell? ((elA x_0 n7 6).add 0) = some (.int .i64 n9) ∧
        w8.cell? ((elA x_0 n7 6).add 1) = some (.int .i64 n10) ∧
        w8.cell? ((elA x_0 n7 6).add 2) = some (.int .i64 n11) ∧
        w8.cell? ((elA x_0 n7 6).add 3) = some (.int .i64 n12) ∧
        w8.cell? ((elA x_0 n7 6).add 4) = some (x13.val) ∧
        w8.cell? ((elA x_0 n7 6).add 5) = some (x14.val)) ∧
      Trip Try.prog 99 #[.agg #[.int .i64 n9, .int .i64 n10, .int .i64 n11, .int .i64 n12, x13.val, x14.val]] w8 fun r15 w16 =>
        ∃ n17 : Int, ∃ n18 : Int, ∃ n19 : Int, ∃ n20 : Int, ∃ x21 : Sl, ∃ x22 : Sl, r15 = .agg #[.int .i64 n17, .int .i64 n18, .int .i64 n19, .int .i64 n20, x21.val, x22.val] ∧
        ∃ n23 : Int, ((decide (n17 = 9)) = true →
          Wr .i64 (n7 + 1) n23) ∧
        ∃ q24 : Bool, ((decide (n17 = 9)) = true →
          (Trip Try.prog 100 #[x_0.val, .int .i64 n23, .int .i64 n18] w16 fun r25 w26 => r25 = .bool q24 ∧ Sub w16 w26)) ∧
        (((decide (n17 = 9)) && q24) = true →
          StepT Try.prog (Instr.buildSlice 64 1 #[(0, (.agg #[.int .i64 24, .int .i64 0, .int .i64 n19, .int .i64 0, x21.val, x22.val]))]) w16 fun r27 w28 =>
            ∃ x29 : Sl, r27 = x29.val ∧
            StepT Try.prog (Builtin.append_ #[64, 64] 64 #[(x6.val), (x29.val)]) w28 fun r30 w31 =>
              ∃ x32 : Sl, r30 = x32.val ∧
              ∃ n33 : Int, Wr .i64 (n7 + 1) n33 ∧
              I4 x32 n33 w31 ∧
              m5 x32 n33 w31 < m5 x6 n7 w8) ∧
        (((decide (n17 = 9)) && q24) = false →
          StepT Try.prog (Instr.buildSlice 64 1 #[(0, (.agg #[.int .i64 n17, .int .i64 n18, .int .i64 n19, .int .i64 n20, x21.val, x22.val]))]) w16 fun r34 w35 =>
            ∃ x36 : Sl, r34 = x36.val ∧
            StepT Try.prog (Builtin.append_ #[64, 64] 64 #[(x6.val), (x36.val)]) w35 fun r37 w38 =>
              ∃ x39 : Sl, r37 = x39.val ∧
              ∃ n40 : Int, Wr .i64 (n7 + 1) n40 ∧
              I4 x39 n40 w38 ∧
              m5 x39 n40 w38 < m5 x6 n7 w8)) ∧
    ((decide (n7 < (x_0.n : Int))) = false →
      Q (x6.val) w8)
theorem of73 (x_0 : Sl) (v : World) (Q : Value → World → Prop) (h : vc73 x_0 v Q) : Trip Try.prog 73 #[x_0.val] v Q :=
  trip_of_eq (args := [.sl x_0]) (A := ⟨[(3, [(3, .sl), (4, .int .i64)], [])], [], [], [], [7, 11, 14, 17, 21, 24, 25, 26, 30, 31, 32, 38, 39, 40, 43, 44, 45, 46, 48, 56, 57, 58, 69, 70, 77, 78, 79, 80, 81, 82, 83, 84, 87, 88, 89, 91, 92, 93, 94, 95, 100, 103, 104, 105, 106, 107, 109, 111, 114, 115, 116, 118, 120, 121, 122, 123, 124, 125]⟩) Try.func73 (by kernel_rfl) (by kernel_rfl) (by kernel_rfl : vc73 x_0 v Q = _) h

/-- impl.cloneDecls -/
def vc74 (x_0 : Sl) (v : World) (Q : Value → World → Prop) : Prop :=
  Trip Try.prog 101 #[x_0.val] v fun r1 w2 =>
    ∃ x3 : Sl, r1 = x3.val ∧
    ∃ I4 : Int → World → Prop, ∃ m5 : Int → World → Nat, I4 0 w2 ∧
    ∀ n6 : Int, ∀ w7 : World, I4 n6 w7 →
    ((decide (n6 < (x3.n : Int))) = true →
      IxOk x3 n6 ∧
      ∃ n8 : Int, ∃ n9 : Int, ∃ x10 : Sl, (w7.cell? ((elA x3 n6 3).add 0) = some (.int .i64 n8) ∧
        w7.cell? ((elA x3 n6 3).add 1) = some (.int .i64 n9) ∧
        w7.cell? ((elA x3 n6 3).add 2) = some (x10.val)) ∧
      Trip Try.prog 102 #[x10.val] w7 fun r11 w12 =>
        ∃ x13 : Sl, r11 = x13.val ∧
        IxOk x3 n6 ∧
        StoreAt w12 (elA x3 n6 3) 2 [x13.val] fun w14 =>
          ∃ I15 : Int → World → Prop, ∃ m16 : Int → World → Nat, I15 0 w14 ∧
          ∀ n17 : Int, ∀ w18 : World, I15 n17 w18 →
          ((decide (n17 < (x10.n : Int))) = true →
            IxOk x10 n17 ∧
            ∃ x19 : Sl, w18.cell? ((elA x10 n17 1).add 0) = some (x19.val) ∧
            IxOk x3 n6 ∧
            ∃ x20 : Sl, w18.cell? ((elA x3 n6 3).add 2) = some (x20.val) ∧
            Trip Try.prog 75 #[x19.val] w18 fun r21 w22 =>
              ∃ x23 : Sl, r21 = x23.val ∧
              Sub w18 w22 ∧
              IxOk x20 n17 ∧
              StoreAt w22 (elA x20 n17 1) 0 [x23.val] fun w24 =>
                ∃ n25 : Int, Wr .i64 (n17 + 1) n25 ∧
                ((.num .i64 n8 : SV) = .num .i64 n8) ∧
                ((.num .i64 n9 : SV) = .num .i64 n9) ∧
                ((.sl x10 : SV) = .sl x10) ∧
                I15 n25 w24 ∧
                m16 n25 w24 < m16 n17 w18) ∧
          ((decide (n17 < (x10.n : Int))) = false →
            ∃ n26 : Int, Wr .i64 (n6 + 1) n26 ∧
            I4 n26 w18 ∧
            m5 n26 w18 < m5 n6 w7)) ∧
    ((decide (n6 < (x3.n : Int))) = false →
      Q (x3.val) w7)
theorem of74 (x_0 : Sl) (v : World) (Q : Value → World → Prop) (h : vc74 x_0 v Q) : Trip Try.prog 74 #[x_0.val] v Q :=
  trip_of_eq (args := [.sl x_0]) (A := ⟨[(3, [(12, .int .i64)], []), (7, [(27, .int .i64)], [])], [], [(9, [8])], [], [7, 11, 14, 17, 21, 24, 25, 26, 30, 31, 32, 38, 39, 40, 43, 44, 45, 46, 48, 56, 57, 58, 69, 70, 77, 78, 79, 80, 81, 82, 83, 84, 87, 88, 89, 91, 92, 93, 94, 95, 100, 103, 104, 105, 106, 107, 109, 111, 114, 115, 116, 118, 120, 121, 122, 123, 124, 125]⟩) Try.func74 (by kernel_rfl) (by kernel_rfl) (by kernel_rfl : vc74 x_0 v Q = _) h

/-- slices.Clone[[]int,int] -/
def vc75 (x_0 : Sl) (v : World) (Q : Value → World → Prop) : Prop :=
  ∃ q1 : Bool, PureT Try.prog (do eqGuard .eql 35 (.tmp 3) (.const (.slice none 0 0)) (x_0.val) (.slice none 0 0); binOp .eql 35 (x_0.val) (.slice none 0 0)) v (.bool q1) ∧
  (q1 = true →
    Q (.slice none 0 0) v) ∧
  (q1 = false →
    StepT Try.prog (Instr.buildSlice 35 0 #[]) v fun r2 w3 =>
      ∃ x4 : Sl, r2 = x4.val ∧
      StepT Try.prog (Builtin.append_ #[35, 35] 35 #[(x4.val), (x_0.val)]) w3 fun r5 w6 =>
        ∃ x7 : Sl, r5 = x7.val ∧
        Q (x7.val) w6)
theorem of75 (x_0 : Sl) (v : World) (Q : Value → World → Prop) (h : vc75 x_0 v Q) : Trip Try.prog 75 #[x_0.val] v Q :=
  trip_of_eq (args := [.sl x_0]) (A := ⟨[], [], [], [], [7, 11, 14, 17, 21, 24, 25, 26, 30, 31, 32, 38, 39, 40, 43, 44, 45, 46, 48, 56, 57, 58, 69, 70, 77, 78, 79, 80, 81, 82, 83, 84, 87, 88, 89, 91, 92, 93, 94, 95, 100, 103, 104, 105, 106, 107, 109, 111, 114, 115, 116, 118, 120, 121, 122, 123, 124, 125]⟩) Try.func75 (by kernel_rfl) (by kernel_rfl) (by kernel_rfl : vc75 x_0 v Q = _) h

/-- slices.Clone[[]impl.Instr,impl.Instr] -/
def vc76 (x_0 : Sl) (v : World) (Q : Value → World → Prop) : Prop :=
  ∃ q1 : Bool, PureT Try.prog (do eqGuard .eql 64 (.tmp 3) (.const (.slice none 0 0)) (x_0.val) (.slice none 0 0); binOp .eql 64 (x_0.val) (.slice none 0 0)) v (.bool q1) ∧
  (q1 = true →
    Q (.slice none 0 0) v) ∧
  (q1 = false →
    StepT Try.prog (Instr.buildSlice 64 0 #[]) v fun r2 w3 =>
      ∃ x4 : Sl, r2 = x4.val ∧
      StepT Try.prog (Builtin.append_ #[64, 64] 64 #[(x4.val), (x_0.val)]) w3 fun r5 w6 =>
        ∃ x7 : Sl, r5 = x7.val ∧
        Q (x7.val) w6)
theorem of76 (x_0 : Sl) (v : World) (Q : Value → World → Prop) (h : vc76 x_0 v Q) : Trip Try.prog 76 #[x_0.val] v Q :=
  trip_of_eq (args := [.sl x_0]) (A := ⟨[], [], [], [], [7, 11, 14, 17, 21, 24, 25, 26, 30, 31, 32, 38, 39, 40, 43, 44, 45, 46, 48, 56, 57, 58, 69, 70, 77, 78, 79, 80, 81, 82, 83, 84, 87, 88, 89, 91, 92, 93, 94, 95, 100, 103, 104, 105, 106, 107, 109, 111, 114, 115, 116, 118, 120, 121, 122, 123, 124, 125]⟩) Try.func76 (by kernel_rfl) (by kernel_rfl) (by kernel_rfl : vc76 x_0 v Q = _) h

/-- laws.szConS -/
def vc77 (x_0 : Sl) (n_1 : Int) (v : World) (Q : Value → World → Prop) : Prop :=
  ∃ n1 : Int, Wr .i64 (n_1 - (x_0.n : Int)) n1 ∧
  ((decide (n1 < 0)) = true →
    Q (.int .i64 (-1)) v) ∧
  ((decide (n1 < 0)) = false →
    ∃ I2 : Int → Int → World → Prop, ∃ m3 : Int → Int → World → Nat, I2 n1 0 v ∧
    ∀ n4 : Int, ∀ n5 : Int, ∀ w6 : World, I2 n4 n5 w6 →
    ((decide (n5 < (x_0.n : Int))) = true →
      IxOk x_0 n5 ∧
      ∃ x7 : Sl, w6.cell? ((elA x_0 n5 1).add 0) = some (x7.val) ∧
      ∃ n8 : Int, (Trip Try.prog 103 #[.agg #[x7.val], .int .i64 n4] w6 fun r9 w10 => r9 = .int .i64 n8 ∧ Sub w6 w10) ∧
      ((decide (n8 < 0)) = true →
        Q (.int .i64 (-1)) w6) ∧
      ((decide (n8 < 0)) = false →
        ∃ n11 : Int, Wr .i64 (n5 + 1) n11 ∧
        I2 n8 n11 w6 ∧
        m3 n8 n11 w6 < m3 n4 n5 w6)) ∧
    ((decide (n5 < (x_0.n : Int))) = false →
      Q (.int .i64 n4) w6))
theorem of77 (x_0 : Sl) (n_1 : Int) (v : World) (Q : Value → World → Prop) (h : vc77 x_0 n_1 v Q) : Trip Try.prog 77 #[x_0.val, .int .i64 n_1] v Q :=
  trip_of_eq (args := [.sl x_0, .num .i64 n_1]) (A := ⟨[(5, [(1, .int .i64), (5, .int .i64)], [])], [], [], [], [7, 11, 14, 17, 21, 24, 25, 26, 30, 31, 32, 38, 39, 40, 43, 44, 45, 46, 48, 56, 57, 58, 69, 70, 77, 78, 79, 80, 81, 82, 83, 84, 87, 88, 89, 91, 92, 93, 94, 95, 100, 103, 104, 105, 106, 107, 109, 111, 114, 115, 116, 118, 120, 121, 122, 123, 124, 125]⟩) Try.func77 (by kernel_rfl) (by kernel_rfl) (by kernel_rfl : vc77 x_0 n_1 v Q = _) h

/-- laws.szIntS -/
def vc78 (x_0 : Sl) (n_1 : Int) (v : World) (Q : Value → World → Prop) : Prop :=
  ∃ n1 : Int, Wr .i64 (n_1 - (x_0.n : Int)) n1 ∧
  ((decide (n1 < 0)) = true →
    Q (.int .i64 (-1)) v) ∧
  ((decide (n1 < 0)) = false →
    Q (.int .i64 n1) v)
theorem of78 (x_0 : Sl) (n_1 : Int) (v : World) (Q : Value → World → Prop) (h : vc78 x_0 n_1 v Q) : Trip Try.prog 78 #[x_0.val, .int .i64 n_1] v Q :=
  trip_of_eq (args := [.sl x_0, .num .i64 n_1]) (A := ⟨[], [], [], [], [7, 11, 14, 17, 21, 24, 25, 26, 30, 31, 32, 38, 39, 40, 43, 44, 45, 46, 48, 56, 57, 58, 69, 70, 77, 78, 79, 80, 81, 82, 83, 84, 87, 88, 89, 91, 92, 93, 94, 95, 100, 103, 104, 105, 106, 107, 109, 111, 114, 115, 116, 118, 120, 121, 122, 123, 124, 125]⟩) Try.func78 (by kernel_rfl) (by kernel_rfl) (by kernel_rfl : vc78 x_0 n_1 v Q = _) h

/-- laws.szInstrS -/
def vc79 (x_0 : Sl) (n_1 : Int) (v : World) (Q : Value → World → Prop) : Prop :=
  ∃ n1 : Int, Wr .i64 (n_1 - (x_0.n : Int)) n1 ∧
  ((decide (n1 < 0)) = true →
    Q (.int .i64 (-1)) v) ∧
  ((decide (n1 < 0)) = false →
    ∃ I2 : Int → Int → World → Prop, ∃ m3 : Int → Int → World → Nat, I2 n1 0 v ∧
    ∀ n4 : Int, ∀ n5 : Int, ∀ w6 : World, I2 n4 n5 w6 →
    ((decide (n5 < (x_0.n : Int))) = true →
      IxOk x_0 n5 ∧
      ∃ n7 : Int, ∃ n8 : Int, ∃ n9 : Int, ∃ n10 : Int, ∃ x11 : Sl, ∃ x12 : Sl, (w6.cell? ((elA x_0 n5 6).add 0) = some (.int .i64 n7) ∧
        w6.cell? ((elA x_0 n5 6).add 1) = some (.int .i64 n8) ∧
        w6.cell? ((elA x_0 n5 6).add 2) = some (.int .i64 n9) ∧
        w6.cell? ((elA x_0 n5 6).add 3) = some (.int .i64 n10) ∧
        w6.cell? ((elA x_0 n5 6).add 4) = some (x11.val) ∧
        w6.cell? ((elA x_0 n5 6).add 5) = some (x12.val)) ∧
      ∃ n13 : Int, (Trip Try.prog 104 #[.agg #[.int .i64 n7, .int .i64 n8, .int .i64 n9, .int .i64 n10, x11.val, x12.val], .int .i64 n4] w6 fun r14 w15 => r14 = .int .i64 n13 ∧ Sub w6 w15) ∧
      ((decide (n13 < 0)) = true →
        Q (.int .i64 (-1)) w6) ∧
      ((decide (n13 < 0)) = false →
        ∃ n16 : Int, Wr .i64 (n5 + 1) n16 ∧
        I2 n13 n16 w6 ∧
        m3 n13 n16 w6 < m3 n4 n5 w6)) ∧
    ((decide (n5 < (x_0.n : Int))) = false →
      Q (.int .i64 n4) w6))
theorem of79 (x_0 : Sl) (n_1 : Int) (v : World) (Q : Value → World → Prop) (h : vc79 x_0 n_1 v Q) : Trip Try.prog 79 #[x_0.val, .int .i64 n_1] v Q :=
  trip_of_eq (args := [.sl x_0, .num .i64 n_1]) (A := ⟨[(5, [(1, .int .i64), (5, .int .i64)], [])], [], [], [], [7, 11, 14, 17, 21, 24, 25, 26, 30, 31, 32, 38, 39, 40, 43, 44, 45, 46, 48, 56, 57, 58, 69, 70, 77, 78, 79, 80, 81, 82, 83, 84, 87, 88, 89, 91, 92, 93, 94, 95, 100, 103, 104, 105, 106, 107, 109, 111, 114, 115, 116, 118, 120, 121, 122, 123, 124, 125]⟩) Try.func79 (by kernel_rfl) (by kernel_rfl) (by kernel_rfl : vc79 x_0 n_1 v Q = _) h

/-- spec.validTypes -/
def vc80 (x_0 : Sl) (v : World) (Q : Value → World → Prop) : Prop :=
  ((decide ((x_0.n : Int) > 4)) = true →
    Q (.bool false) v) ∧
  ((decide ((x_0.n : Int) > 4)) = false →
    ∃ I1 : Int → World → Prop, ∃ m2 : Int → World → Nat, I1 0 v ∧
    ∀ n3 : Int, ∀ w4 : World, I1 n3 w4 →
    ((decide (n3 < (x_0.n : Int))) = true →
      ∃ q5 : Bool, (Trip Try.prog 105 #[x_0.val, .int .i64 n3] w4 fun r6 w7 => r6 = .bool q5 ∧ Sub w4 w7) ∧
      ((!q5) = true →
        Q (.bool false) w4) ∧
      ((!q5) = false →
        ∃ n8 : Int, Wr .i64 (n3 + 1) n8 ∧
        I1 n8 w4 ∧
        m2 n8 w4 < m2 n3 w4)) ∧
    ((decide (n3 < (x_0.n : Int))) = false →
      Q (.bool true) w4))
theorem of80 (x_0 : Sl) (v : World) (Q : Value → World → Prop) (h : vc80 x_0 v Q) : Trip Try.prog 80 #[x_0.val] v Q :=
  trip_of_eq (args := [.sl x_0]) (A := ⟨[(4, [(3, .int .i64)], [])], [], [], [], [7, 11, 14, 17, 21, 24, 25, 26, 30, 31, 32, 38, 39, 40, 43, 44, 45, 46, 48, 56, 57, 58, 69, 70, 77, 78, 79, 80, 81, 82, 83, 84, 87, 88, 89, 91, 92, 93, 94, 95, 100, 103, 104, 105, 106, 107, 109, 111, 114, 115, 116, 118, 120, 121, 122, 123, 124, 125]⟩) Try.func80 (by kernel_rfl) (by kernel_rfl) (by kernel_rfl : vc80 x_0 v Q = _) h

/-- spec.inRange -/
def vc81 (n_0 : Int) (n_1 : Int) (n_2 : Int) (v : World) (Q : Value → World → Prop) : Prop :=
  Q (.bool ((decide (n_1 ≤ n_0)) && (decide (n_0 ≤ n_2)))) v
theorem of81 (n_0 : Int) (n_1 : Int) (n_2 : Int) (v : World) (Q : Value → World → Prop) (h : vc81 n_0 n_1 n_2 v Q) : Trip Try.prog 81 #[.int .i64 n_0, .int .i64 n_1, .int .i64 n_2] v Q :=
  trip_of_eq (args := [.num .i64 n_0, .num .i64 n_1, .num .i64 n_2]) (A := ⟨[], [], [], [], [7, 11, 14, 17, 21, 24, 25, 26, 30, 31, 32, 38, 39, 40, 43, 44, 45, 46, 48, 56, 57, 58, 69, 70, 77, 78, 79, 80, 81, 82, 83, 84, 87, 88, 89, 91, 92, 93, 94, 95, 100, 103, 104, 105, 106, 107, 109, 111, 114, 115, 116, 118, 120, 121, 122, 123, 124, 125]⟩) Try.func81 (by kernel_rfl) (by kernel_rfl) (by kernel_rfl : vc81 n_0 n_1 n_2 v Q = _) h

/-- spec.allTypes -/
def vc82 (x_0 : Sl) (x_1 : Sl) (v : World) (Q : Value → World → Prop) : Prop :=
  ∃ I1 : Int → World → Prop, ∃ m2 : Int → World → Nat, I1 0 v ∧
  ∀ n3 : Int, ∀ w4 : World, I1 n3 w4 →
  ((decide (n3 < (x_1.n : Int))) = true →
    IxOk x_1 n3 ∧
    ∃ n5 : Int, w4.cell? ((elA x_1 n3 1).add 0) = some (.int .i64 n5) ∧
    ∃ q6 : Bool, (Trip Try.prog 81 #[.int .i64 n5, .int .i64 0, .int .i64 (x_0.n : Int)] w4 fun r7 w8 => r7 = .bool q6 ∧ Sub w4 w8) ∧
    ((!q6) = true →
      Q (.bool false) w4) ∧
    ((!q6) = false →
      ∃ n9 : Int, Wr .i64 (n3 + 1) n9 ∧
      I1 n9 w4 ∧
      m2 n9 w4 < m2 n3 w4)) ∧
  ((decide (n3 < (x_1.n : Int))) = false →
    Q (.bool true) w4)
theorem of82 (x_0 : Sl) (x_1 : Sl) (v : World) (Q : Value → World → Prop) (h : vc82 x_0 x_1 v Q) : Trip Try.prog 82 #[x_0.val, x_1.val] v Q :=
  trip_of_eq (args := [.sl x_0, .sl x_1]) (A := ⟨[(2, [(5, .int .i64)], [])], [], [], [], [7, 11, 14, 17, 21, 24, 25, 26, 30, 31, 32, 38, 39, 40, 43, 44, 45, 46, 48, 56, 57, 58, 69, 70, 77, 78, 79, 80, 81, 82, 83, 84, 87, 88, 89, 91, 92, 93, 94, 95, 100, 103, 104, 105, 106, 107, 109, 111, 114, 115, 116, 118, 120, 121, 122, 123, 124, 125]⟩) Try.func82 (by kernel_rfl) (by kernel_rfl) (by kernel_rfl : vc82 x_0 x_1 v Q = _) h

/-- spec.validLent -/
def vc83 (x_0 : Sl) (x_1 : Sl) (v : World) (Q : Value → World → Prop) : Prop :=
  ∃ I1 : Int → World → Prop, ∃ m2 : Int → World → Nat, I1 0 v ∧
  ∀ n3 : Int, ∀ w4 : World, I1 n3 w4 →
  ((decide (n3 < (x_1.n : Int))) = true →
    IxOk x_1 n3 ∧
    ∃ n5 : Int, w4.cell? ((elA x_1 n3 1).add 0) = some (.int .i64 n5) ∧
    ∃ n6 : Int, Wr .i64 ((x_0.n : Int) - 1) n6 ∧
    ∃ q7 : Bool, (Trip Try.prog 81 #[.int .i64 n5, .int .i64 0, .int .i64 n6] w4 fun r8 w9 => r8 = .bool q7 ∧ Sub w4 w9) ∧
    ((!q7) = false →
      IxOk x_1 n3) ∧
    ∃ n10 : Int, ((!q7) = false →
      w4.cell? ((elA x_1 n3 1).add 0) = some (.int .i64 n10)) ∧
    ((!q7) = false →
      IxOk x_0 n10) ∧
    ∃ n11 : Int, ((!q7) = false →
      w4.cell? ((elA x_0 n10 1).add 0) = some (.int .i64 n11)) ∧
    ((decide (n3 > 0)) = true →
      ((!q7) || (decide (n11 = 0))) = false →
      IxOk x_1 n3) ∧
    ∃ n12 : Int, ((decide (n3 > 0)) = true →
      ((!q7) || (decide (n11 = 0))) = false →
      w4.cell? ((elA x_1 n3 1).add 0) = some (.int .i64 n12)) ∧
    ∃ n13 : Int, ((decide (n3 > 0)) = true →
      ((!q7) || (decide (n11 = 0))) = false →
      Wr .i64 (n3 - 1) n13) ∧
    ((decide (n3 > 0)) = true →
      ((!q7) || (decide (n11 = 0))) = false →
      IxOk x_1 n13) ∧
    ∃ n14 : Int, ((decide (n3 > 0)) = true →
      ((!q7) || (decide (n11 = 0))) = false →
      w4.cell? ((elA x_1 n13 1).add 0) = some (.int .i64 n14)) ∧
    ((((!q7) || (decide (n11 = 0))) || ((decide (n3 > 0)) && (decide (n12 ≤ n14)))) = true →
      Q (.bool false) w4) ∧
    ((((!q7) || (decide (n11 = 0))) || ((decide (n3 > 0)) && (decide (n12 ≤ n14)))) = false →
      ∃ n15 : Int, Wr .i64 (n3 + 1) n15 ∧
      I1 n15 w4 ∧
      m2 n15 w4 < m2 n3 w4)) ∧
  ((decide (n3 < (x_1.n : Int))) = false →
    Q (.bool true) w4)
theorem of83 (x_0 : Sl) (x_1 : Sl) (v : World) (Q : Value → World → Prop) (h : vc83 x_0 x_1 v Q) : Trip Try.prog 83 #[x_0.val, x_1.val] v Q :=
  trip_of_eq (args := [.sl x_0, .sl x_1]) (A := ⟨[(2, [(5, .int .i64)], [])], [], [], [], [7, 11, 14, 17, 21, 24, 25, 26, 30, 31, 32, 38, 39, 40, 43, 44, 45, 46, 48, 56, 57, 58, 69, 70, 77, 78, 79, 80, 81, 82, 83, 84, 87, 88, 89, 91, 92, 93, 94, 95, 100, 103, 104, 105, 106, 107, 109, 111, 114, 115, 116, 118, 120, 121, 122, 123, 124, 125]⟩) Try.func83 (by kernel_rfl) (by kernel_rfl) (by kernel_rfl : vc83 x_0 x_1 v Q = _) h

/-- spec.validInstr -/
def vc84 (x0_0 : Sl) (x0_1 : Sl) (x1_0 : Sl) (x1_1 : Sl) (n1_2 : Int) (n1_3 : Int) (x1_4 : Sl) (n_2 : Int) (v : World) (Q : Value → World → Prop) : Prop :=
  IxOk x1_4 n_2 ∧
  ∃ n1 : Int, ∃ n2 : Int, ∃ n3 : Int, ∃ n4 : Int, ∃ x5 : Sl, ∃ x6 : Sl, (v.cell? ((elA x1_4 n_2 6).add 0) = some (.int .i64 n1) ∧
    v.cell? ((elA x1_4 n_2 6).add 1) = some (.int .i64 n2) ∧
    v.cell? ((elA x1_4 n_2 6).add 2) = some (.int .i64 n3) ∧
    v.cell? ((elA x1_4 n_2 6).add 3) = some (.int .i64 n4) ∧
    v.cell? ((elA x1_4 n_2 6).add 4) = some (x5.val) ∧
    v.cell? ((elA x1_4 n_2 6).add 5) = some (x6.val)) ∧
  ∃ I7 : Int → World → Prop, ∃ m8 : Int → World → Nat, I7 0 v ∧
  ∀ n9 : Int, ∀ w10 : World, I7 n9 w10 →
  ((decide (n9 < (x5.n : Int))) = true →
    IxOk x5 n9 ∧
    ∃ n11 : Int, w10.cell? ((elA x5 n9 1).add 0) = some (.int .i64 n11) ∧
    ∃ n12 : Int, Wr .i64 (n1_3 - 1) n12 ∧
    ∃ q13 : Bool, (Trip Try.prog 81 #[.int .i64 n11, .int .i64 0, .int .i64 n12] w10 fun r14 w15 => r14 = .bool q13 ∧ Sub w10 w15) ∧
    ((!q13) = true →
      Q (.bool false) w10) ∧
    ((!q13) = false →
      ∃ n16 : Int, Wr .i64 (n9 + 1) n16 ∧
      ((.sl x0_0 : SV) = .sl x0_0) ∧
      ((.sl x0_1 : SV) = .sl x0_1) ∧
      ((.sl x1_0 : SV) = .sl x1_0) ∧
      ((.sl x1_1 : SV) = .sl x1_1) ∧
      ((.num .i64 n1_2 : SV) = .num .i64 n1_2) ∧
      ((.num .i64 n1_3 : SV) = .num .i64 n1_3) ∧
      ((.sl x1_4 : SV) = .sl x1_4) ∧
      ((.num .i64 n1 : SV) = .num .i64 n1) ∧
      ((.num .i64 n2 : SV) = .num .i64 n2) ∧
      ((.num .i64 n3 : SV) = .num .i64 n3) ∧
      ((.num .i64 n4 : SV) = .num .i64 n4) ∧
      ((.sl x5 : SV) = .sl x5) ∧
      ((.sl x6 : SV) = .sl x6) ∧
      I7 n16 w10 ∧
      m8 n16 w10 < m8 n9 w10)) ∧
  ((decide (n9 < (x5.n : Int))) = false →
    ∃ n17 : Int, Wr .i64 (n1_3 - 1) n17 ∧
    ∃ q18 : Bool, (Trip Try.prog 81 #[.int .i64 n2, .int .i64 0, .int .i64 n17] w10 fun r19 w20 => r19 = .bool q18 ∧ Sub w10 w20) ∧
    ∃ q21 : Bool, ((!decide (n2 = 0)) = true →
      (!q18) = false →
      (Trip Try.prog 106 #[.int .i64 n1] w10 fun r22 w23 => r22 = .bool q21 ∧ Sub w10 w23)) ∧
    (((((!q18) || ((!decide (n2 = 0)) && (!q21))) || ((!decide (n4 = 0)) && (!decide (n1 = 6)))) || ((!decide (n1 = 21)) && (decide ((x6.n : Int) > 0)))) = true →
      Q (.bool false) w10) ∧
    (((((!q18) || ((!decide (n2 = 0)) && (!q21))) || ((!decide (n4 = 0)) && (!decide (n1 = 6)))) || ((!decide (n1 = 21)) && (decide ((x6.n : Int) > 0)))) = false →
      ((decide (n1 = 0)) = true →
        ∃ q24 : Bool, ((decide ((x5.n : Int) = 0)) = true →
          (Trip Try.prog 81 #[.int .i64 n3, .int .i64 (-999), .int .i64 999] w10 fun r25 w26 => r25 = .bool q24 ∧ Sub w10 w26)) ∧
        Q (.bool ((decide ((x5.n : Int) = 0)) && q24)) w10) ∧
      ((decide (n1 = 0)) = false →
        ((decide (n1 = 1)) = true →
          Q (.bool ((decide ((x5.n : Int) = 2)) && (decide (n3 = 0)))) w10) ∧
        ((decide (n1 = 1)) = false →
          ((decide (n1 = 2)) = true →
            Q (.bool ((decide ((x5.n : Int) = 2)) && (decide (n3 = 0)))) w10) ∧
          ((decide (n1 = 2)) = false →
            ((decide (n1 = 3)) = true →
              Q (.bool ((decide ((x5.n : Int) = 2)) && (decide (n3 = 0)))) w10) ∧
            ((decide (n1 = 3)) = false →
              ((decide (n1 = 4)) = true →
                Q (.bool ((decide ((x5.n : Int) = 2)) && (decide (n3 = 0)))) w10) ∧
              ((decide (n1 = 4)) = false →
                ((decide (n1 = 11)) = true →
                  Q (.bool ((decide ((x5.n : Int) = 2)) && (decide (n3 = 0)))) w10) ∧
                ((decide (n1 = 11)) = false →
                  ((decide (n1 = 5)) = true →
                    Q (.bool ((decide ((x5.n : Int) = 1)) && (decide (n3 = 0)))) w10) ∧
                  ((decide (n1 = 5)) = false →
                    ((decide (n1 = 14)) = true →
                      Q (.bool ((decide ((x5.n : Int) = 1)) && (decide (n3 = 0)))) w10) ∧
                    ((decide (n1 = 14)) = false →
                      ((decide (n1 = 15)) = true →
                        Q (.bool ((decide ((x5.n : Int) = 1)) && (decide (n3 = 0)))) w10) ∧
                      ((decide (n1 = 15)) = false →
                        ((decide (n1 = 18)) = true →
                          Q (.bool ((decide ((x5.n : Int) = 1)) && (decide (n3 = 0)))) w10) ∧
                        ((decide (n1 = 18)) = false →
                          ((decide (n1 = 23)) = true →
                            Q (.bool ((decide ((x5.n : Int) = 1)) && (decide (n3 = 0)))) w10) ∧
                          ((decide (n1 = 23)) = false →
                            ((decide (n1 = 6)) = true →
                              ∃ n27 : Int, (Trip Try.prog 107 #[x0_0.val, .int .i64 n3] w10 fun r28 w29 => r28 = .int .i64 n27 ∧ Sub w10 w29) ∧
                              ((decide (n27 > 0)) = true →
                                Trip Try.prog 108 #[x0_0.val, .int .i64 n3] w10 fun r30 w31 =>
                                  ∃ x32 : Sl, r30 = x32.val ∧
                                  ∃ q33 : Bool, ((decide ((x5.n : Int) = (x32.n : Int))) = true →
                                    (Trip Try.prog 81 #[.int .i64 n4, .int .i64 0, .int .i64 n1_3] w31 fun r34 w35 => r34 = .bool q33 ∧ Sub w31 w35)) ∧
                                  Q (.bool ((decide ((x5.n : Int) = (x32.n : Int))) && q33)) w31) ∧
                              ((decide (n27 > 0)) = false →
                                Q (.bool false) w10)) ∧
                            ((decide (n1 = 6)) = false →
                              ((decide (n1 = 9)) = true →
                                ∃ q36 : Bool, (Trip Try.prog 109 #[.agg #[x0_0.val, x0_1.val], .int .i64 n3, .int .i64 (x5.n : Int), .int .i64 0] w10 fun r37 w38 => r37 = .bool q36 ∧ Sub w10 w38) ∧
                                Q (.bool q36) w10) ∧
                              ((decide (n1 = 9)) = false →
                                ((decide (n1 = 24)) = true →
                                  ∃ q39 : Bool, (Trip Try.prog 109 #[.agg #[x0_0.val, x0_1.val], .int .i64 n3, .int .i64 (x5.n : Int), .int .i64 0] w10 fun r40 w41 => r40 = .bool q39 ∧ Sub w10 w41) ∧
                                  Q (.bool q39) w10) ∧
                                ((decide (n1 = 24)) = false →
                                  ((decide (n1 = 10)) = true →
                                    ∃ q42 : Bool, (Trip Try.prog 109 #[.agg #[x0_0.val, x0_1.val], .int .i64 n3, .int .i64 (x5.n : Int), .int .i64 1] w10 fun r43 w44 => r43 = .bool q42 ∧ Sub w10 w44) ∧
                                    (q42 = true →
                                      IxOk x0_1 n3) ∧
                                    ∃ x45 : Sl, (q42 = true →
                                      w10.cell? ((elA x0_1 n3 5).add 1) = some (x45.val)) ∧
                                    Q (.bool (q42 && (decide ((x45.n : Int) = 0)))) w10) ∧
                                  ((decide (n1 = 10)) = false →
                                    ((decide (n1 = 16)) = true →
                                      ∃ q46 : Bool, (Trip Try.prog 81 #[.int .i64 (x5.n : Int), .int .i64 1, .int .i64 4] w10 fun r47 w48 => r47 = .bool q46 ∧ Sub w10 w48) ∧
                                      Q (.bool (q46 && (decide (n3 = 0)))) w10) ∧
                                    ((decide (n1 = 16)) = false →
                                      ((decide (n1 = 17)) = true →
                                        ∃ q49 : Bool, (Trip Try.prog 81 #[.int .i64 (x5.n : Int), .int .i64 1, .int .i64 4] w10 fun r50 w51 => r50 = .bool q49 ∧ Sub w10 w51) ∧
                                        Q (.bool (q49 && (decide (n3 = 0)))) w10) ∧
                                      ((decide (n1 = 17)) = false →
                                        ((decide (n1 = 19)) = true →
                                          ∃ q52 : Bool, ((decide ((x5.n : Int) = 1)) = true →
                                            (Trip Try.prog 81 #[.int .i64 n3, .int .i64 0, .int .i64 2] w10 fun r53 w54 => r53 = .bool q52 ∧ Sub w10 w54)) ∧
                                          Q (.bool ((decide ((x5.n : Int) = 1)) && q52)) w10) ∧
                                        ((decide (n1 = 19)) = false →
                                          ((decide (n1 = 20)) = true →
                                            ∃ n55 : Int, ((decide ((x5.n : Int) = 1)) = true →
                                              Wr .i64 (n_2 + 1) n55) ∧
                                            ∃ n56 : Int, ((decide ((x5.n : Int) = 1)) = true →
                                              Wr .i64 ((x1_4.n : Int) - 1) n56) ∧
                                            ∃ q57 : Bool, ((decide ((x5.n : Int) = 1)) = true →
                                              (Trip Try.prog 81 #[.int .i64 n3, .int .i64 n55, .int .i64 n56] w10 fun r58 w59 => r58 = .bool q57 ∧ Sub w10 w59)) ∧
                                            Q (.bool ((decide ((x5.n : Int) = 1)) && q57)) w10) ∧
                                          ((decide (n1 = 20)) = false →
                                            ((decide (n1 = 22)) = true →
                                              ∃ n60 : Int, ((decide ((x5.n : Int) = 0)) = true →
                                                Wr .i64 (n_2 + 1) n60) ∧
                                              ∃ n61 : Int, ((decide ((x5.n : Int) = 0)) = true →
                                                Wr .i64 ((x1_4.n : Int) - 1) n61) ∧
                                              ∃ q62 : Bool, ((decide ((x5.n : Int) = 0)) = true →
                                                (Trip Try.prog 81 #[.int .i64 n3, .int .i64 n60, .int .i64 n61] w10 fun r63 w64 => r63 = .bool q62 ∧ Sub w10 w64)) ∧
                                              Q (.bool ((decide ((x5.n : Int) = 0)) && q62)) w10) ∧
                                            ((decide (n1 = 22)) = false →
                                              ((decide (n1 = 21)) = true →
                                                Trip Try.prog 110 #[x0_0.val, .int .i64 n3] w10 fun r65 w66 =>
                                                  ∃ x67 : Sl, r65 = x67.val ∧
                                                  ∃ q68 : Bool, (((decide ((x5.n : Int) = 1)) && (decide ((x67.n : Int) > 0))) = true →
                                                    (Trip Try.prog 111 #[x6.val, .int .i64 (x67.n : Int), .int .i64 n_2, .int .i64 (x1_4.n : Int)] w66 fun r69 w70 => r69 = .bool q68 ∧ Sub w66 w70)) ∧
                                                  Q (.bool (((decide ((x5.n : Int) = 1)) && (decide ((x67.n : Int) > 0))) && q68)) w66) ∧
                                              ((decide (n1 = 21)) = false →
                                                Q (.bool false) w10)))))))))))))))))))))))
theorem of84 (x0_0 : Sl) (x0_1 : Sl) (x1_0 : Sl) (x1_1 : Sl) (n1_2 : Int) (n1_3 : Int) (x1_4 : Sl) (n_2 : Int) (v : World) (Q : Value → World → Prop) (h : vc84 x0_0 x0_1 x1_0 x1_1 n1_2 n1_3 x1_4 n_2 v Q) : Trip Try.prog 84 #[.agg #[x0_0.val, x0_1.val], .agg #[x1_0.val, x1_1.val, .int .i64 n1_2, .int .i64 n1_3, x1_4.val], .int .i64 n_2] v Q :=
  trip_of_eq (args := [.ag [.sl x0_0, .sl x0_1], .ag [.sl x1_0, .sl x1_1, .num .i64 n1_2, .num .i64 n1_3, .sl x1_4], .num .i64 n_2]) (A := ⟨[(4, [(9, .int .i64)], [])], [], [], [999999], [7, 11, 14, 17, 21, 24, 25, 26, 30, 31, 32, 38, 39, 40, 43, 44, 45, 46, 48, 56, 57, 58, 69, 70, 77, 78, 79, 80, 81, 82, 83, 84, 87, 88, 89, 91, 92, 93, 94, 95, 100, 103, 104, 105, 106, 107, 109, 111, 114, 115, 116, 118, 120, 121, 122, 123, 124, 125]⟩) Try.func84 (by kernel_rfl) (by kernel_rfl) (by kernel_rfl : vc84 x0_0 x0_1 x1_0 x1_1 n1_2 n1_3 x1_4 n_2 v Q = _) h

/-- laws.toConS -/
def vc85 (x_0 : Sl) (v : World) (Q : Value → World → Prop) : Prop :=
  StepT Try.prog (Instr.makeSlice 88 (.int .i64 (x_0.n : Int)) (.int .i64 (x_0.n : Int))) v fun r1 w2 =>
    ∃ x3 : Sl, r1 = x3.val ∧
    ∃ I4 : Int → World → Prop, ∃ m5 : Int → World → Nat, I4 0 w2 ∧
    ∀ n6 : Int, ∀ w7 : World, I4 n6 w7 →
    ((decide (n6 < (x_0.n : Int))) = true →
      IxOk x_0 n6 ∧
      ∃ x8 : Sl, w7.cell? ((elA x_0 n6 1).add 0) = some (x8.val) ∧
      Trip Try.prog 112 #[.agg #[x8.val]] w7 fun r9 w10 =>
        ∃ x11 : Sl, r9 = .agg #[x11.val] ∧
        IxOk x3 n6 ∧
        StoreAt w10 (elA x3 n6 1) 0 [x11.val] fun w12 =>
          ∃ n13 : Int, Wr .i64 (n6 + 1) n13 ∧
          I4 n13 w12 ∧
          m5 n13 w12 < m5 n6 w7) ∧
    ((decide (n6 < (x_0.n : Int))) = false →
      Q (x3.val) w7)
theorem of85 (x_0 : Sl) (v : World) (Q : Value → World → Prop) (h : vc85 x_0 v Q) : Trip Try.prog 85 #[x_0.val] v Q :=
  trip_of_eq (args := [.sl x_0]) (A := ⟨[(3, [(4, .int .i64)], [])], [], [], [], [7, 11, 14, 17, 21, 24, 25, 26, 30, 31, 32, 38, 39, 40, 43, 44, 45, 46, 48, 56, 57, 58, 69, 70, 77, 78, 79, 80, 81, 82, 83, 84, 87, 88, 89, 91, 92, 93, 94, 95, 100, 103, 104, 105, 106, 107, 109, 111, 114, 115, 116, 118, 120, 121, 122, 123, 124, 125]⟩) Try.func85 (by kernel_rfl) (by kernel_rfl) (by kernel_rfl : vc85 x_0 v Q = _) h

/-- laws.toInstrS -/
def vc86 (x_0 : Sl) (v : World) (Q : Value → World → Prop) : Prop :=
  StepT Try.prog (Instr.makeSlice 64 (.int .i64 (x_0.n : Int)) (.int .i64 (x_0.n : Int))) v fun r1 w2 =>
    ∃ x3 : Sl, r1 = x3.val ∧
    ∃ I4 : Int → World → Prop, ∃ m5 : Int → World → Nat, I4 0 w2 ∧
    ∀ n6 : Int, ∀ w7 : World, I4 n6 w7 →
    ((decide (n6 < (x_0.n : Int))) = true →
      IxOk x_0 n6 ∧
      ∃ n8 : Int, ∃ n9 : Int, ∃ n10 : Int, ∃ n11 : Int, ∃ x12 : Sl, ∃ x13 : Sl, (w7.cell? ((elA x_0 n6 6).add 0) = some (.int .i64 n8) ∧
        w7.cell? ((elA x_0 n6 6).add 1) = some (.int .i64 n9) ∧
        w7.cell? ((elA x_0 n6 6).add 2) = some (.int .i64 n10) ∧
        w7.cell? ((elA x_0 n6 6).add 3) = some (.int .i64 n11) ∧
        w7.cell? ((elA x_0 n6 6).add 4) = some (x12.val) ∧
        w7.cell? ((elA x_0 n6 6).add 5) = some (x13.val)) ∧
      Trip Try.prog 113 #[.agg #[.int .i64 n8, .int .i64 n9, .int .i64 n10, .int .i64 n11, x12.val, x13.val]] w7 fun r14 w15 =>
        ∃ n16 : Int, ∃ n17 : Int, ∃ n18 : Int, ∃ n19 : Int, ∃ x20 : Sl, ∃ x21 : Sl, r14 = .agg #[.int .i64 n16, .int .i64 n17, .int .i64 n18, .int .i64 n19, x20.val, x21.val] ∧
        IxOk x3 n6 ∧
        StoreAt w15 (elA x3 n6 6) 0 [.int .i64 n16, .int .i64 n17, .int .i64 n18, .int .i64 n19, x20.val, x21.val] fun w22 =>
          ∃ n23 : Int, Wr .i64 (n6 + 1) n23 ∧
          I4 n23 w22 ∧
          m5 n23 w22 < m5 n6 w7) ∧
    ((decide (n6 < (x_0.n : Int))) = false →
      Q (x3.val) w7)
theorem of86 (x_0 : Sl) (v : World) (Q : Value → World → Prop) (h : vc86 x_0 v Q) : Trip Try.prog 86 #[x_0.val] v Q :=
  trip_of_eq (args := [.sl x_0]) (A := ⟨[(3, [(4, .int .i64)], [])], [], [], [], [7, 11, 14, 17, 21, 24, 25, 26, 30, 31, 32, 38, 39, 40, 43, 44, 45, 46, 48, 56, 57, 58, 69, 70, 77, 78, 79, 80, 81, 82, 83, 84, 87, 88, 89, 91, 92, 93, 94, 95, 100, 103, 104, 105, 106, 107, 109, 111, 114, 115, 116, 118, 120, 121, 122, 123, 124, 125]⟩) Try.func86 (by kernel_rfl) (by kernel_rfl) (by kernel_rfl : vc86 x_0 v Q = _) h

/-- impl.validSigs -/
def vc87 (x_0 : Sl) (x_1 : Sl) (v : World) (Q : Value → World → Prop) : Prop :=
  ∃ q1 : Bool, (Trip Try.prog 114 #[x_0.val] v fun r2 w3 => r2 = .bool q1 ∧ Sub v w3) ∧
  ((((!q1) || (decide ((x_1.n : Int) < 1))) || (decide ((x_1.n : Int) > 4))) = false →
    IxOk x_1 0) ∧
  ∃ x4 : Sl, ((((!q1) || (decide ((x_1.n : Int) < 1))) || (decide ((x_1.n : Int) > 4))) = false →
    v.cell? ((elA x_1 0 3).add 0) = some (x4.val)) ∧
  (((((!q1) || (decide ((x_1.n : Int) < 1))) || (decide ((x_1.n : Int) > 4))) || (decide ((x4.n : Int) > 0))) = false →
    IxOk x_1 0) ∧
  ∃ n5 : Int, (((((!q1) || (decide ((x_1.n : Int) < 1))) || (decide ((x_1.n : Int) > 4))) || (decide ((x4.n : Int) > 0))) = false →
    v.cell? ((elA x_1 0 3).add 2) = some (.int .i64 n5)) ∧
  ((((((!q1) || (decide ((x_1.n : Int) < 1))) || (decide ((x_1.n : Int) > 4))) || (decide ((x4.n : Int) > 0))) || (!decide (n5 = 0))) = true →
    Q (.bool false) v) ∧
  ((((((!q1) || (decide ((x_1.n : Int) < 1))) || (decide ((x_1.n : Int) > 4))) || (decide ((x4.n : Int) > 0))) || (!decide (n5 = 0))) = false →
    ∃ I6 : Int → World → Prop, ∃ m7 : Int → World → Nat, I6 0 v ∧
    ∀ n8 : Int, ∀ w9 : World, I6 n8 w9 →
    ((decide (n8 < (x_1.n : Int))) = true →
      IxOk x_1 n8 ∧
      ∃ x10 : Sl, ∃ x11 : Sl, ∃ n12 : Int, (w9.cell? ((elA x_1 n8 3).add 0) = some (x10.val) ∧
        w9.cell? ((elA x_1 n8 3).add 1) = some (x11.val) ∧
        w9.cell? ((elA x_1 n8 3).add 2) = some (.int .i64 n12)) ∧
      ∃ q13 : Bool, ((decide ((x10.n : Int) > 3)) = false →
        (Trip Try.prog 115 #[x_0.val, x10.val] w9 fun r14 w15 => r14 = .bool q13 ∧ Sub w9 w15)) ∧
      ∃ q16 : Bool, (((decide ((x10.n : Int) > 3)) || (!q13)) = false →
        (Trip Try.prog 116 #[x_0.val, .int .i64 n12] w9 fun r17 w18 => r17 = .bool q16 ∧ Sub w9 w18)) ∧
      ((((decide ((x10.n : Int) > 3)) || (!q13)) || (!q16)) = true →
        Q (.bool false) w9) ∧
      ((((decide ((x10.n : Int) > 3)) || (!q13)) || (!q16)) = false →
        ∃ I19 : Int → World → Prop, ∃ m20 : Int → World → Nat, I19 0 w9 ∧
        ∀ n21 : Int, ∀ w22 : World, I19 n21 w22 →
        ((decide (n21 < (x11.n : Int))) = true →
          IxOk x11 n21 ∧
          ∃ n23 : Int, w22.cell? ((elA x11 n21 1).add 0) = some (.int .i64 n23) ∧
          (((decide (n23 < 0)) || (decide (n23 ≥ (x10.n : Int)))) = false →
            IxOk x10 n23) ∧
          ∃ n24 : Int, (((decide (n23 < 0)) || (decide (n23 ≥ (x10.n : Int)))) = false →
            w22.cell? ((elA x10 n23 1).add 0) = some (.int .i64 n24)) ∧
          ∃ n25 : Int, ((decide (n21 > 0)) = true →
            (((decide (n23 < 0)) || (decide (n23 ≥ (x10.n : Int)))) || (decide (n24 = 0))) = false →
            Wr .i64 (n21 - 1) n25) ∧
          ((decide (n21 > 0)) = true →
            (((decide (n23 < 0)) || (decide (n23 ≥ (x10.n : Int)))) || (decide (n24 = 0))) = false →
            IxOk x11 n25) ∧
          ∃ n26 : Int, ((decide (n21 > 0)) = true →
            (((decide (n23 < 0)) || (decide (n23 ≥ (x10.n : Int)))) || (decide (n24 = 0))) = false →
            w22.cell? ((elA x11 n25 1).add 0) = some (.int .i64 n26)) ∧
          (((((decide (n23 < 0)) || (decide (n23 ≥ (x10.n : Int)))) || (decide (n24 = 0))) || ((decide (n21 > 0)) && (decide (n23 ≤ n26)))) = true →
            Q (.bool false) w22) ∧
          (((((decide (n23 < 0)) || (decide (n23 ≥ (x10.n : Int)))) || (decide (n24 = 0))) || ((decide (n21 > 0)) && (decide (n23 ≤ n26)))) = false →
            ∃ n27 : Int, Wr .i64 (n21 + 1) n27 ∧
            ((.sl x10 : SV) = .sl x10) ∧
            ((.sl x11 : SV) = .sl x11) ∧
            ((.num .i64 n12 : SV) = .num .i64 n12) ∧
            I19 n27 w22 ∧
            m20 n27 w22 < m20 n21 w22)) ∧
        ((decide (n21 < (x11.n : Int))) = false →
          ∃ n28 : Int, Wr .i64 (n8 + 1) n28 ∧
          I6 n28 w22 ∧
          m7 n28 w22 < m7 n8 w9))) ∧
    ((decide (n8 < (x_1.n : Int))) = false →
      Q (.bool true) w9))
theorem of87 (x_0 : Sl) (x_1 : Sl) (v : World) (Q : Value → World → Prop) (h : vc87 x_0 x_1 v Q) : Trip Try.prog 87 #[x_0.val, x_1.val] v Q :=
  trip_of_eq (args := [.sl x_0, .sl x_1]) (A := ⟨[(4, [(39, .int .i64)], []), (9, [(64, .int .i64)], [])], [], [], [], [7, 11, 14, 17, 21, 24, 25, 26, 30, 31, 32, 38, 39, 40, 43, 44, 45, 46, 48, 56, 57, 58, 69, 70, 77, 78, 79, 80, 81, 82, 83, 84, 87, 88, 89, 91, 92, 93, 94, 95, 100, 103, 104, 105, 106, 107, 109, 111, 114, 115, 116, 118, 120, 121, 122, 123, 124, 125]⟩) Try.func87 (by kernel_rfl) (by kernel_rfl) (by kernel_rfl : vc87 x_0 x_1 v Q = _) h

/-- impl.setsRegister -/
def vc88 (n_0 : Int) (v : World) (Q : Value → World → Prop) : Prop :=
  Q (.bool ((((decide (n_0 ≥ 0)) && (decide (n_0 ≤ 11))) || (decide (n_0 = 18))) || (decide (n_0 = 19)))) v
theorem of88 (n_0 : Int) (v : World) (Q : Value → World → Prop) (h : vc88 n_0 v Q) : Trip Try.prog 88 #[.int .i64 n_0] v Q :=
  trip_of_eq (args := [.num .i64 n_0]) (A := ⟨[], [], [], [], [7, 11, 14, 17, 21, 24, 25, 26, 30, 31, 32, 38, 39, 40, 43, 44, 45, 46, 48, 56, 57, 58, 69, 70, 77, 78, 79, 80, 81, 82, 83, 84, 87, 88, 89, 91, 92, 93, 94, 95, 100, 103, 104, 105, 106, 107, 109, 111, 114, 115, 116, 118, 120, 121, 122, 123, 124, 125]⟩) Try.func88 (by kernel_rfl) (by kernel_rfl) (by kernel_rfl : vc88 n_0 v Q = _) h

/-- (impl.signatures).instrValid$1 -/
def vc89 (n_0 : Int) (c_0 : Addr) (c_1 : Addr) (v : World) (Q : Value → World → Prop) : Prop :=
  ∃ n1 : Int, v.cell? (c_0.add 0) = some (.int .i64 n1) ∧
  ∃ x2 : Sl, ((decide (n_0 > n1)) = true →
    v.cell? (c_1.add 4) = some (x2.val)) ∧
  Q (.bool ((decide (n_0 > n1)) && (decide (n_0 < (x2.n : Int))))) v
theorem of89 (n_0 : Int) (c_0 : Addr) (c_1 : Addr) (v : World) (Q : Value → World → Prop) (h : vc89 n_0 c_0 c_1 v Q) : Trip Try.prog 89 #[.int .i64 n_0, .pointer (some (c_0.add 0)), .pointer (some (c_1.add 0))] v Q :=
  trip_of_eq (args := [.num .i64 n_0, .pt c_0 0, .pt c_1 0]) (A := ⟨[], [], [], [], [7, 11, 14, 17, 21, 24, 25, 26, 30, 31, 32, 38, 39, 40, 43, 44, 45, 46, 48, 56, 57, 58, 69, 70, 77, 78, 79, 80, 81, 82, 83, 84, 87, 88, 89, 91, 92, 93, 94, 95, 100, 103, 104, 105, 106, 107, 109, 111, 114, 115, 116, 118, 120, 121, 122, 123, 124, 125]⟩) Try.func89 (by kernel_rfl) (by kernel_rfl) (by kernel_rfl : vc89 n_0 c_0 c_1 v Q = _) h

/-- slices.ContainsFunc[[]int,int] -/
def vc90 (x_0 : Sl) (f_1 : Nat) (k1_0 : Addr) (v : World) (Q : Value → World → Prop) : Prop :=
  Trip Try.prog 117 #[x_0.val, .func (.func f_1) #[] #[.pointer (some (k1_0.add 0))]] v fun r1 w2 =>
    ∃ n3 : Int, r1 = .int .i64 n3 ∧
    Q (.bool (decide (n3 ≥ 0))) w2
theorem of90 (x_0 : Sl) (f_1 : Nat) (k1_0 : Addr) (v : World) (Q : Value → World → Prop) (h : vc90 x_0 f_1 k1_0 v Q) : Trip Try.prog 90 #[x_0.val, .func (.func f_1) #[] #[.pointer (some (k1_0.add 0))]] v Q :=
  trip_of_eq (args := [.sl x_0, .clo f_1 [.pt k1_0 0]]) (A := ⟨[], [], [], [], [7, 11, 14, 17, 21, 24, 25, 26, 30, 31, 32, 38, 39, 40, 43, 44, 45, 46, 48, 56, 57, 58, 69, 70, 77, 78, 79, 80, 81, 82, 83, 84, 87, 88, 89, 91, 92, 93, 94, 95, 100, 103, 104, 105, 106, 107, 109, 111, 114, 115, 116, 118, 120, 121, 122, 123, 124, 125]⟩) Try.func90 (by kernel_rfl) (by kernel_rfl) (by kernel_rfl : vc90 x_0 f_1 k1_0 v Q = _) h

/-- (impl.signatures).instrValid$2 -/
def vc91 (n_0 : Int) (c_0 : Addr) (v : World) (Q : Value → World → Prop) : Prop :=
  ∃ y1 : Vl, v.cell? (c_0.add 0) = some (y1.x) ∧
  ∃ g4 : Nat, ∃ cs5 : List Value, y1.x = .func (.func g4) #[] cs5.toArray ∧
  Trip Try.prog g4 (([.int .i64 n_0] : List Value) ++ cs5).toArray v fun r2 w3 =>
    ∃ q6 : Bool, r2 = .bool q6 ∧
    Q (.bool (!q6)) w3
theorem of91 (n_0 : Int) (c_0 : Addr) (v : World) (Q : Value → World → Prop) (h : vc91 n_0 c_0 v Q) : Trip Try.prog 91 #[.int .i64 n_0, .pointer (some (c_0.add 0))] v Q :=
  trip_of_eq (args := [.num .i64 n_0, .pt c_0 0]) (A := ⟨[], [], [], [], [7, 11, 14, 17, 21, 24, 25, 26, 30, 31, 32, 38, 39, 40, 43, 44, 45, 46, 48, 56, 57, 58, 69, 70, 77, 78, 79, 80, 81, 82, 83, 84, 87, 88, 89, 91, 92, 93, 94, 95, 100, 103, 104, 105, 106, 107, 109, 111, 114, 115, 116, 118, 120, 121, 122, 123, 124, 125]⟩) Try.func91 (by kernel_rfl) (by kernel_rfl) (by kernel_rfl : vc91 n_0 c_0 v Q = _) h

/-- (impl.signatures).numValid -/
def vc92 (x0_0 : Sl) (x0_1 : Sl) (n1_0 : Int) (n1_1 : Int) (n1_2 : Int) (n1_3 : Int) (x1_4 : Sl) (x1_5 : Sl) (f_2 : Nat) (k2_0 : Addr) (k2_1 : Addr) (v : World) (Q : Value → World → Prop) : Prop :=
  ((decide (n1_0 = 0)) = true →
    Q (.bool ((decide (n1_2 ≥ (-999))) && (decide (n1_2 ≤ 999)))) v) ∧
  ((decide (n1_0 = 0)) = false →
    ((decide (n1_0 = 6)) = true →
      ∃ n1 : Int, ((decide (n1_2 ≥ 0)) = true →
        (Trip Try.prog 118 #[x0_0.val] v fun r2 w3 => r2 = .int .i64 n1 ∧ Sub v w3)) ∧
      Q (.bool ((decide (n1_2 ≥ 0)) && (decide (n1_2 < n1)))) v) ∧
    ((decide (n1_0 = 6)) = false →
      ((decide (n1_0 = 9)) = true →
        Q (.bool ((decide (n1_2 ≥ 0)) && (decide (n1_2 < (x0_1.n : Int))))) v) ∧
      ((decide (n1_0 = 9)) = false →
        ((decide (n1_0 = 24)) = true →
          Q (.bool ((decide (n1_2 ≥ 0)) && (decide (n1_2 < (x0_1.n : Int))))) v) ∧
        ((decide (n1_0 = 24)) = false →
          ((decide (n1_0 = 10)) = true →
            (((decide (n1_2 ≥ 0)) && (decide (n1_2 < (x0_1.n : Int)))) = true →
              IxOk x0_1 n1_2) ∧
            ∃ x4 : Sl, (((decide (n1_2 ≥ 0)) && (decide (n1_2 < (x0_1.n : Int)))) = true →
              v.cell? ((elA x0_1 n1_2 3).add 1) = some (x4.val)) ∧
            Q (.bool (((decide (n1_2 ≥ 0)) && (decide (n1_2 < (x0_1.n : Int)))) && (decide ((x4.n : Int) = 0)))) v) ∧
          ((decide (n1_0 = 10)) = false →
            ((decide (n1_0 = 19)) = true →
              Q (.bool ((decide (n1_2 ≥ 0)) && (decide (n1_2 < 3)))) v) ∧
            ((decide (n1_0 = 19)) = false →
              ((decide (n1_0 = 20)) = true →
                Trip Try.prog f_2 #[.int .i64 n1_2, .pointer (some (k2_0.add 0)), .pointer (some (k2_1.add 0))] v fun r5 w6 =>
                  ∃ q7 : Bool, r5 = .bool q7 ∧
                  Q (.bool q7) w6) ∧
              ((decide (n1_0 = 20)) = false →
                ((decide (n1_0 = 22)) = true →
                  Trip Try.prog f_2 #[.int .i64 n1_2, .pointer (some (k2_0.add 0)), .pointer (some (k2_1.add 0))] v fun r8 w9 =>
                    ∃ q10 : Bool, r8 = .bool q10 ∧
                    Q (.bool q10) w9) ∧
                ((decide (n1_0 = 22)) = false →
                  ((decide (n1_0 = 21)) = true →
                    Trip Try.prog 119 #[x0_0.val, .int .i64 n1_2] v fun r11 w12 =>
                      ∃ x13 : Sl, r11 = x13.val ∧
                      Q (.bool ((decide ((x13.n : Int) > 0)) && (decide ((x1_5.n : Int) = (x13.n : Int))))) w12) ∧
                  ((decide (n1_0 = 21)) = false →
                    Q (.bool (decide (n1_2 = 0))) v)))))))))
theorem of92 (x0_0 : Sl) (x0_1 : Sl) (n1_0 : Int) (n1_1 : Int) (n1_2 : Int) (n1_3 : Int) (x1_4 : Sl) (x1_5 : Sl) (f_2 : Nat) (k2_0 : Addr) (k2_1 : Addr) (v : World) (Q : Value → World → Prop) (h : vc92 x0_0 x0_1 n1_0 n1_1 n1_2 n1_3 x1_4 x1_5 f_2 k2_0 k2_1 v Q) : Trip Try.prog 92 #[.agg #[x0_0.val, x0_1.val], .agg #[.int .i64 n1_0, .int .i64 n1_1, .int .i64 n1_2, .int .i64 n1_3, x1_4.val, x1_5.val], .func (.func f_2) #[] #[.pointer (some (k2_0.add 0)), .pointer (some (k2_1.add 0))]] v Q :=
  trip_of_eq (args := [.ag [.sl x0_0, .sl x0_1], .ag [.num .i64 n1_0, .num .i64 n1_1, .num .i64 n1_2, .num .i64 n1_3, .sl x1_4, .sl x1_5], .clo f_2 [.pt k2_0 0, .pt k2_1 0]]) (A := ⟨[], [], [], [999999], [7, 11, 14, 17, 21, 24, 25, 26, 30, 31, 32, 38, 39, 40, 43, 44, 45, 46, 48, 56, 57, 58, 69, 70, 77, 78, 79, 80, 81, 82, 83, 84, 87, 88, 89, 91, 92, 93, 94, 95, 100, 103, 104, 105, 106, 107, 109, 111, 114, 115, 116, 118, 120, 121, 122, 123, 124, 125]⟩) Try.func92 (by kernel_rfl) (by kernel_rfl) (by kernel_rfl : vc92 x0_0 x0_1 n1_0 n1_1 n1_2 n1_3 x1_4 x1_5 f_2 k2_0 k2_1 v Q = _) h

/-- (impl.signatures).argsOf -/
def vc93 (x0_0 : Sl) (x0_1 : Sl) (n1_0 : Int) (n1_1 : Int) (n1_2 : Int) (n1_3 : Int) (x1_4 : Sl) (x1_5 : Sl) (v : World) (Q : Value → World → Prop) : Prop :=
  ((decide (n1_0 = 0)) = true →
    Q (.tuple #[.int .i64 0, .int .i64 0]) v) ∧
  ((decide (n1_0 = 0)) = false →
    ((decide (n1_0 = 22)) = true →
      Q (.tuple #[.int .i64 0, .int .i64 0]) v) ∧
    ((decide (n1_0 = 22)) = false →
      ((decide (n1_0 = 1)) = true →
        Q (.tuple #[.int .i64 2, .int .i64 2]) v) ∧
      ((decide (n1_0 = 1)) = false →
        ((decide (n1_0 = 2)) = true →
          Q (.tuple #[.int .i64 2, .int .i64 2]) v) ∧
        ((decide (n1_0 = 2)) = false →
          ((decide (n1_0 = 3)) = true →
            Q (.tuple #[.int .i64 2, .int .i64 2]) v) ∧
          ((decide (n1_0 = 3)) = false →
            ((decide (n1_0 = 4)) = true →
              Q (.tuple #[.int .i64 2, .int .i64 2]) v) ∧
            ((decide (n1_0 = 4)) = false →
              ((decide (n1_0 = 11)) = true →
                Q (.tuple #[.int .i64 2, .int .i64 2]) v) ∧
              ((decide (n1_0 = 11)) = false →
                ((decide (n1_0 = 6)) = true →
                  ∃ x1 : Sl, (Trip Try.prog 120 #[x0_0.val, .int .i64 n1_2] v fun r2 w3 => r2 = x1.val ∧ Sub v w3) ∧
                  Q (.tuple #[.int .i64 (x1.n : Int), .int .i64 (x1.n : Int)]) v) ∧
                ((decide (n1_0 = 6)) = false →
                  ((decide (n1_0 = 9)) = true →
                    IxOk x0_1 n1_2 ∧
                    ∃ x4 : Sl, v.cell? ((elA x0_1 n1_2 3).add 0) = some (x4.val) ∧
                    Q (.tuple #[.int .i64 (x4.n : Int), .int .i64 (x4.n : Int)]) v) ∧
                  ((decide (n1_0 = 9)) = false →
                    ((decide (n1_0 = 24)) = true →
                      IxOk x0_1 n1_2 ∧
                      ∃ x5 : Sl, v.cell? ((elA x0_1 n1_2 3).add 0) = some (x5.val) ∧
                      Q (.tuple #[.int .i64 (x5.n : Int), .int .i64 (x5.n : Int)]) v) ∧
                    ((decide (n1_0 = 24)) = false →
                      ((decide (n1_0 = 10)) = true →
                        IxOk x0_1 n1_2 ∧
                        ∃ x6 : Sl, v.cell? ((elA x0_1 n1_2 3).add 0) = some (x6.val) ∧
                        ∃ n7 : Int, Wr .i64 ((x6.n : Int) - 1) n7 ∧
                        Q (.tuple #[.int .i64 n7, .int .i64 n7]) v) ∧
                      ((decide (n1_0 = 10)) = false →
                        ((decide (n1_0 = 16)) = true →
                          Q (.tuple #[.int .i64 1, .int .i64 4]) v) ∧
                        ((decide (n1_0 = 16)) = false →
                          ((decide (n1_0 = 17)) = true →
                            Q (.tuple #[.int .i64 1, .int .i64 4]) v) ∧
                          ((decide (n1_0 = 17)) = false →
                            Q (.tuple #[.int .i64 1, .int .i64 1]) v)))))))))))))
theorem of93 (x0_0 : Sl) (x0_1 : Sl) (n1_0 : Int) (n1_1 : Int) (n1_2 : Int) (n1_3 : Int) (x1_4 : Sl) (x1_5 : Sl) (v : World) (Q : Value → World → Prop) (h : vc93 x0_0 x0_1 n1_0 n1_1 n1_2 n1_3 x1_4 x1_5 v Q) : Trip Try.prog 93 #[.agg #[x0_0.val, x0_1.val], .agg #[.int .i64 n1_0, .int .i64 n1_1, .int .i64 n1_2, .int .i64 n1_3, x1_4.val, x1_5.val]] v Q :=
  trip_of_eq (args := [.ag [.sl x0_0, .sl x0_1], .ag [.num .i64 n1_0, .num .i64 n1_1, .num .i64 n1_2, .num .i64 n1_3, .sl x1_4, .sl x1_5]]) (A := ⟨[], [], [], [999999], [7, 11, 14, 17, 21, 24, 25, 26, 30, 31, 32, 38, 39, 40, 43, 44, 45, 46, 48, 56, 57, 58, 69, 70, 77, 78, 79, 80, 81, 82, 83, 84, 87, 88, 89, 91, 92, 93, 94, 95, 100, 103, 104, 105, 106, 107, 109, 111, 114, 115, 116, 118, 120, 121, 122, 123, 124, 125]⟩) Try.func93 (by kernel_rfl) (by kernel_rfl) (by kernel_rfl : vc93 x0_0 x0_1 n1_0 n1_1 n1_2 n1_3 x1_4 x1_5 v Q = _) h

/-- laws.eqConS -/
def vc94 (x_0 : Sl) (x_1 : Sl) (v : World) (Q : Value → World → Prop) : Prop :=
  ((!decide ((x_0.n : Int) = (x_1.n : Int))) = true →
    Q (.bool false) v) ∧
  ((!decide ((x_0.n : Int) = (x_1.n : Int))) = false →
    ∃ I1 : Int → World → Prop, ∃ m2 : Int → World → Nat, I1 0 v ∧
    ∀ n3 : Int, ∀ w4 : World, I1 n3 w4 →
    ((decide (n3 < (x_0.n : Int))) = true →
      IxOk x_0 n3 ∧
      ∃ x5 : Sl, w4.cell? ((elA x_0 n3 1).add 0) = some (x5.val) ∧
      IxOk x_1 n3 ∧
      ∃ x6 : Sl, w4.cell? ((elA x_1 n3 1).add 0) = some (x6.val) ∧
      ∃ q7 : Bool, (Trip Try.prog 121 #[.agg #[x5.val], .agg #[x6.val]] w4 fun r8 w9 => r8 = .bool q7 ∧ Sub w4 w9) ∧
      ((!q7) = true →
        Q (.bool false) w4) ∧
      ((!q7) = false →
        ∃ n10 : Int, Wr .i64 (n3 + 1) n10 ∧
        I1 n10 w4 ∧
        m2 n10 w4 < m2 n3 w4)) ∧
    ((decide (n3 < (x_0.n : Int))) = false →
      Q (.bool true) w4))
theorem of94 (x_0 : Sl) (x_1 : Sl) (v : World) (Q : Value → World → Prop) (h : vc94 x_0 x_1 v Q) : Trip Try.prog 94 #[x_0.val, x_1.val] v Q :=
  trip_of_eq (args := [.sl x_0, .sl x_1]) (A := ⟨[(4, [(5, .int .i64)], [])], [], [], [], [7, 11, 14, 17, 21, 24, 25, 26, 30, 31, 32, 38, 39, 40, 43, 44, 45, 46, 48, 56, 57, 58, 69, 70, 77, 78, 79, 80, 81, 82, 83, 84, 87, 88, 89, 91, 92, 93, 94, 95, 100, 103, 104, 105, 106, 107, 109, 111, 114, 115, 116, 118, 120, 121, 122, 123, 124, 125]⟩) Try.func94 (by kernel_rfl) (by kernel_rfl) (by kernel_rfl : vc94 x_0 x_1 v Q = _) h

/-- laws.eqInstrS -/
def vc95 (x_0 : Sl) (x_1 : Sl) (v : World) (Q : Value → World → Prop) : Prop :=
  ((!decide ((x_0.n : Int) = (x_1.n : Int))) = true →
    Q (.bool false) v) ∧
  ((!decide ((x_0.n : Int) = (x_1.n : Int))) = false →
    ∃ I1 : Int → World → Prop, ∃ m2 : Int → World → Nat, I1 0 v ∧
    ∀ n3 : Int, ∀ w4 : World, I1 n3 w4 →
    ((decide (n3 < (x_0.n : Int))) = true →
      IxOk x_0 n3 ∧
      ∃ n5 : Int, ∃ n6 : Int, ∃ n7 : Int, ∃ n8 : Int, ∃ x9 : Sl, ∃ x10 : Sl, (w4.cell? ((elA x_0 n3 6).add 0) = some (.int .i64 n5) ∧
        w4.cell? ((elA x_0 n3 6).add 1) = some (.int .i64 n6) ∧
        w4.cell? ((elA x_0 n3 6).add 2) = some (.int .i64 n7) ∧
        w4.cell? ((elA x_0 n3 6).add 3) = some (.int .i64 n8) ∧
        w4.cell? ((elA x_0 n3 6).add 4) = some (x9.val) ∧
        w4.cell? ((elA x_0 n3 6).add 5) = some (x10.val)) ∧
      IxOk x_1 n3 ∧
      ∃ n11 : Int, ∃ n12 : Int, ∃ n13 : Int, ∃ n14 : Int, ∃ x15 : Sl, ∃ x16 : Sl, (w4.cell? ((elA x_1 n3 6).add 0) = some (.int .i64 n11) ∧
        w4.cell? ((elA x_1 n3 6).add 1) = some (.int .i64 n12) ∧
        w4.cell? ((elA x_1 n3 6).add 2) = some (.int .i64 n13) ∧
        w4.cell? ((elA x_1 n3 6).add 3) = some (.int .i64 n14) ∧
        w4.cell? ((elA x_1 n3 6).add 4) = some (x15.val) ∧
        w4.cell? ((elA x_1 n3 6).add 5) = some (x16.val)) ∧
      ∃ q17 : Bool, (Trip Try.prog 122 #[.agg #[.int .i64 n5, .int .i64 n6, .int .i64 n7, .int .i64 n8, x9.val, x10.val], .agg #[.int .i64 n11, .int .i64 n12, .int .i64 n13, .int .i64 n14, x15.val, x16.val]] w4 fun r18 w19 => r18 = .bool q17 ∧ Sub w4 w19) ∧
      ((!q17) = true →
        Q (.bool false) w4) ∧
      ((!q17) = false →
        ∃ n20 : Int, Wr .i64 (n3 + 1) n20 ∧
        I1 n20 w4 ∧
        m2 n20 w4 < m2 n3 w4)) ∧
    ((decide (n3 < (x_0.n : Int))) = false →
      Q (.bool true) w4))
theorem of95 (x_0 : Sl) (x_1 : Sl) (v : World) (Q : Value → World → Prop) (h : vc95 x_0 x_1 v Q) : Trip Try.prog 95 #[x_0.val, x_1.val] v Q :=
  trip_of_eq (args := [.sl x_0, .sl x_1]) (A := ⟨[(4, [(5, .int .i64)], [])], [], [], [], [7, 11, 14, 17, 21, 24, 25, 26, 30, 31, 32, 38, 39, 40, 43, 44, 45, 46, 48, 56, 57, 58, 69, 70, 77, 78, 79, 80, 81, 82, 83, 84, 87, 88, 89, 91, 92, 93, 94, 95, 100, 103, 104, 105, 106, 107, 109, 111, 114, 115, 116, 118, 120, 121, 122, 123, 124, 125]⟩) Try.func95 (by kernel_rfl) (by kernel_rfl) (by kernel_rfl : vc95 x_0 x_1 v Q = _) h

/-- spec.copyInstr -/
def vc99 (n0_0 : Int) (n0_1 : Int) (n0_2 : Int) (n0_3 : Int) (x0_4 : Sl) (x0_5 : Sl) (v : World) (Q : Value → World → Prop) : Prop :=
  Trip Try.prog 72 #[x0_4.val] v fun r1 w2 =>
    ∃ x3 : Sl, r1 = x3.val ∧
    Sub v w2 ∧
    Trip Try.prog 72 #[x0_5.val] w2 fun r4 w5 =>
      ∃ x6 : Sl, r4 = x6.val ∧
      Sub w2 w5 ∧
      Q (.agg #[.int .i64 n0_0, .int .i64 n0_1, .int .i64 n0_2, .int .i64 n0_3, x3.val, x6.val]) w5
theorem of99 (n0_0 : Int) (n0_1 : Int) (n0_2 : Int) (n0_3 : Int) (x0_4 : Sl) (x0_5 : Sl) (v : World) (Q : Value → World → Prop) (h : vc99 n0_0 n0_1 n0_2 n0_3 x0_4 x0_5 v Q) : Trip Try.prog 99 #[.agg #[.int .i64 n0_0, .int .i64 n0_1, .int .i64 n0_2, .int .i64 n0_3, x0_4.val, x0_5.val]] v Q :=
  trip_of_eq (args := [.ag [.num .i64 n0_0, .num .i64 n0_1, .num .i64 n0_2, .num .i64 n0_3, .sl x0_4, .sl x0_5]]) (A := ⟨[], [], [(1, [10, 13])], [], [7, 11, 14, 17, 21, 24, 25, 26, 30, 31, 32, 38, 39, 40, 43, 44, 45, 46, 48, 56, 57, 58, 69, 70, 77, 78, 79, 80, 81, 82, 83, 84, 87, 88, 89, 91, 92, 93, 94, 95, 100, 103, 104, 105, 106, 107, 109, 111, 114, 115, 116, 118, 120, 121, 122, 123, 124, 125]⟩) Try.func99 (by kernel_rfl) (by kernel_rfl) (by kernel_rfl : vc99 n0_0 n0_1 n0_2 n0_3 x0_4 x0_5 v Q = _) h

/-- spec.returnsAt -/
def vc100 (x_0 : Sl) (n_1 : Int) (n_2 : Int) (v : World) (Q : Value → World → Prop) : Prop :=
  ∃ I1 : Int → Int → World → Prop, ∃ m2 : Int → Int → World → Nat, I1 n_1 n_2 v ∧
  ∀ n3 : Int, ∀ n4 : Int, ∀ w5 : World, I1 n3 n4 w5 →
  ((decide (n3 < (x_0.n : Int))) = true →
    IxOk x_0 n3 ∧
    ∃ n6 : Int, ∃ n7 : Int, ∃ n8 : Int, ∃ n9 : Int, ∃ x10 : Sl, ∃ x11 : Sl, (w5.cell? ((elA x_0 n3 6).add 0) = some (.int .i64 n6) ∧
      w5.cell? ((elA x_0 n3 6).add 1) = some (.int .i64 n7) ∧
      w5.cell? ((elA x_0 n3 6).add 2) = some (.int .i64 n8) ∧
      w5.cell? ((elA x_0 n3 6).add 3) = some (.int .i64 n9) ∧
      w5.cell? ((elA x_0 n3 6).add 4) = some (x10.val) ∧
      w5.cell? ((elA x_0 n3 6).add 5) = some (x11.val)) ∧
    ((decide (n6 = 18)) = true →
      IxOk x10 0) ∧
    ∃ n12 : Int, ((decide (n6 = 18)) = true →
      w5.cell? ((elA x10 0 1).add 0) = some (.int .i64 n12)) ∧
    (((decide (n6 = 18)) && (decide (n12 = n4))) = true →
      ∃ n13 : Int, Wr .i64 (n3 + 1) n13 ∧
      I1 n13 n7 w5 ∧
      m2 n13 n7 w5 < m2 n3 n4 w5) ∧
    (((decide (n6 = 18)) && (decide (n12 = n4))) = false →
      ((decide (n6 = 22)) = true →
        I1 n8 n4 w5 ∧
        m2 n8 n4 w5 < m2 n3 n4 w5) ∧
      ((decide (n6 = 22)) = false →
        ((decide (n6 = 23)) = true →
          IxOk x10 0) ∧
        ∃ n14 : Int, ((decide (n6 = 23)) = true →
          w5.cell? ((elA x10 0 1).add 0) = some (.int .i64 n14)) ∧
        Q (.bool ((decide (n6 = 23)) && (decide (n14 = n4)))) w5))) ∧
  ((decide (n3 < (x_0.n : Int))) = false →
    Q (.bool false) w5)
theorem of100 (x_0 : Sl) (n_1 : Int) (n_2 : Int) (v : World) (Q : Value → World → Prop) (h : vc100 x_0 n_1 n_2 v Q) : Trip Try.prog 100 #[x_0.val, .int .i64 n_1, .int .i64 n_2] v Q :=
  trip_of_eq (args := [.sl x_0, .num .i64 n_1, .num .i64 n_2]) (A := ⟨[(1, [(1, .int .i64), (2, .int .i64)], [])], [], [], [], [7, 11, 14, 17, 21, 24, 25, 26, 30, 31, 32, 38, 39, 40, 43, 44, 45, 46, 48, 56, 57, 58, 69, 70, 77, 78, 79, 80, 81, 82, 83, 84, 87, 88, 89, 91, 92, 93, 94, 95, 100, 103, 104, 105, 106, 107, 109, 111, 114, 115, 116, 118, 120, 121, 122, 123, 124, 125]⟩) Try.func100 (by kernel_rfl) (by kernel_rfl) (by kernel_rfl : vc100 x_0 n_1 n_2 v Q = _) h

/-- slices.Clone[[]impl.Decl,impl.Decl] -/
def vc101 (x_0 : Sl) (v : World) (Q : Value → World → Prop) : Prop :=
  ∃ q1 : Bool, PureT Try.prog (do eqGuard .eql 28 (.tmp 3) (.const (.slice none 0 0)) (x_0.val) (.slice none 0 0); binOp .eql 28 (x_0.val) (.slice none 0 0)) v (.bool q1) ∧
  (q1 = true →
    Q (.slice none 0 0) v) ∧
  (q1 = false →
    StepT Try.prog (Instr.buildSlice 28 0 #[]) v fun r2 w3 =>
      ∃ x4 : Sl, r2 = x4.val ∧
      StepT Try.prog (Builtin.append_ #[28, 28] 28 #[(x4.val), (x_0.val)]) w3 fun r5 w6 =>
        ∃ x7 : Sl, r5 = x7.val ∧
        Q (x7.val) w6)
theorem of101 (x_0 : Sl) (v : World) (Q : Value → World → Prop) (h : vc101 x_0 v Q) : Trip Try.prog 101 #[x_0.val] v Q :=
  trip_of_eq (args := [.sl x_0]) (A := ⟨[], [], [], [], [7, 11, 14, 17, 21, 24, 25, 26, 30, 31, 32, 38, 39, 40, 43, 44, 45, 46, 48, 56, 57, 58, 69, 70, 77, 78, 79, 80, 81, 82, 83, 84, 87, 88, 89, 91, 92, 93, 94, 95, 100, 103, 104, 105, 106, 107, 109, 111, 114, 115, 116, 118, 120, 121, 122, 123, 124, 125]⟩) Try.func101 (by kernel_rfl) (by kernel_rfl) (by kernel_rfl : vc101 x_0 v Q = _) h

/-- slices.Clone[[]impl.Con,impl.Con] -/
def vc102 (x_0 : Sl) (v : World) (Q : Value → World → Prop) : Prop :=
  ∃ q1 : Bool, PureT Try.prog (do eqGuard .eql 88 (.tmp 3) (.const (.slice none 0 0)) (x_0.val) (.slice none 0 0); binOp .eql 88 (x_0.val) (.slice none 0 0)) v (.bool q1) ∧
  (q1 = true →
    Q (.slice none 0 0) v) ∧
  (q1 = false →
    StepT Try.prog (Instr.buildSlice 88 0 #[]) v fun r2 w3 =>
      ∃ x4 : Sl, r2 = x4.val ∧
      StepT Try.prog (Builtin.append_ #[88, 88] 88 #[(x4.val), (x_0.val)]) w3 fun r5 w6 =>
        ∃ x7 : Sl, r5 = x7.val ∧
        Q (x7.val) w6)
theorem of102 (x_0 : Sl) (v : World) (Q : Value → World → Prop) (h : vc102 x_0 v Q) : Trip Try.prog 102 #[x_0.val] v Q :=
  trip_of_eq (args := [.sl x_0]) (A := ⟨[], [], [], [], [7, 11, 14, 17, 21, 24, 25, 26, 30, 31, 32, 38, 39, 40, 43, 44, 45, 46, 48, 56, 57, 58, 69, 70, 77, 78, 79, 80, 81, 82, 83, 84, 87, 88, 89, 91, 92, 93, 94, 95, 100, 103, 104, 105, 106, 107, 109, 111, 114, 115, 116, 118, 120, 121, 122, 123, 124, 125]⟩) Try.func102 (by kernel_rfl) (by kernel_rfl) (by kernel_rfl : vc102 x_0 v Q = _) h

/-- laws.szCon -/
def vc103 (x0_0 : Sl) (n_1 : Int) (v : World) (Q : Value → World → Prop) : Prop :=
  ∃ n1 : Int, (Trip Try.prog 78 #[x0_0.val, .int .i64 n_1] v fun r2 w3 => r2 = .int .i64 n1 ∧ Sub v w3) ∧
  ((decide (n1 < 0)) = true →
    Q (.int .i64 (-1)) v) ∧
  ((decide (n1 < 0)) = false →
    Q (.int .i64 n1) v)
theorem of103 (x0_0 : Sl) (n_1 : Int) (v : World) (Q : Value → World → Prop) (h : vc103 x0_0 n_1 v Q) : Trip Try.prog 103 #[.agg #[x0_0.val], .int .i64 n_1] v Q :=
  trip_of_eq (args := [.ag [.sl x0_0], .num .i64 n_1]) (A := ⟨[], [], [], [], [7, 11, 14, 17, 21, 24, 25, 26, 30, 31, 32, 38, 39, 40, 43, 44, 45, 46, 48, 56, 57, 58, 69, 70, 77, 78, 79, 80, 81, 82, 83, 84, 87, 88, 89, 91, 92, 93, 94, 95, 100, 103, 104, 105, 106, 107, 109, 111, 114, 115, 116, 118, 120, 121, 122, 123, 124, 125]⟩) Try.func103 (by kernel_rfl) (by kernel_rfl) (by kernel_rfl : vc103 x0_0 n_1 v Q = _) h

/-- laws.szInstr -/
def vc104 (n0_0 : Int) (n0_1 : Int) (n0_2 : Int) (n0_3 : Int) (x0_4 : Sl) (x0_5 : Sl) (n_1 : Int) (v : World) (Q : Value → World → Prop) : Prop :=
  ∃ n1 : Int, (Trip Try.prog 78 #[x0_4.val, .int .i64 n_1] v fun r2 w3 => r2 = .int .i64 n1 ∧ Sub v w3) ∧
  ((decide (n1 < 0)) = true →
    Q (.int .i64 (-1)) v) ∧
  ((decide (n1 < 0)) = false →
    ∃ n4 : Int, (Trip Try.prog 78 #[x0_5.val, .int .i64 n1] v fun r5 w6 => r5 = .int .i64 n4 ∧ Sub v w6) ∧
    ((decide (n4 < 0)) = true →
      Q (.int .i64 (-1)) v) ∧
    ((decide (n4 < 0)) = false →
      Q (.int .i64 n4) v))
theorem of104 (n0_0 : Int) (n0_1 : Int) (n0_2 : Int) (n0_3 : Int) (x0_4 : Sl) (x0_5 : Sl) (n_1 : Int) (v : World) (Q : Value → World → Prop) (h : vc104 n0_0 n0_1 n0_2 n0_3 x0_4 x0_5 n_1 v Q) : Trip Try.prog 104 #[.agg #[.int .i64 n0_0, .int .i64 n0_1, .int .i64 n0_2, .int .i64 n0_3, x0_4.val, x0_5.val], .int .i64 n_1] v Q :=
  trip_of_eq (args := [.ag [.num .i64 n0_0, .num .i64 n0_1, .num .i64 n0_2, .num .i64 n0_3, .sl x0_4, .sl x0_5], .num .i64 n_1]) (A := ⟨[], [], [], [], [7, 11, 14, 17, 21, 24, 25, 26, 30, 31, 32, 38, 39, 40, 43, 44, 45, 46, 48, 56, 57, 58, 69, 70, 77, 78, 79, 80, 81, 82, 83, 84, 87, 88, 89, 91, 92, 93, 94, 95, 100, 103, 104, 105, 106, 107, 109, 111, 114, 115, 116, 118, 120, 121, 122, 123, 124, 125]⟩) Try.func104 (by kernel_rfl) (by kernel_rfl) (by kernel_rfl : vc104 n0_0 n0_1 n0_2 n0_3 x0_4 x0_5 n_1 v Q = _) h

/-- spec.validDecl -/
def vc105 (x_0 : Sl) (n_1 : Int) (v : World) (Q : Value → World → Prop) : Prop :=
  IxOk x_0 n_1 ∧
  ∃ n1 : Int, ∃ n2 : Int, ∃ x3 : Sl, (v.cell? ((elA x_0 n_1 3).add 0) = some (.int .i64 n1) ∧
    v.cell? ((elA x_0 n_1 3).add 1) = some (.int .i64 n2) ∧
    v.cell? ((elA x_0 n_1 3).add 2) = some (x3.val)) ∧
  ((decide ((x3.n : Int) > 0)) = true →
    ((((decide ((x3.n : Int) > 3)) || (!decide (n1 = 0))) || (!decide (n2 = 0))) = true →
      Q (.bool false) v) ∧
    ((((decide ((x3.n : Int) > 3)) || (!decide (n1 = 0))) || (!decide (n2 = 0))) = false →
      ∃ I4 : Int → World → Prop, ∃ m5 : Int → World → Nat, I4 0 v ∧
      ∀ n6 : Int, ∀ w7 : World, I4 n6 w7 →
      ((decide (n6 < (x3.n : Int))) = true →
        IxOk x3 n6 ∧
        ∃ x8 : Sl, w7.cell? ((elA x3 n6 1).add 0) = some (x8.val) ∧
        ((decide ((x8.n : Int) > 3)) = false →
          IxOk x3 n6) ∧
        ∃ x9 : Sl, ((decide ((x8.n : Int) > 3)) = false →
          w7.cell? ((elA x3 n6 1).add 0) = some (x9.val)) ∧
        ∃ q10 : Bool, ((decide ((x8.n : Int) > 3)) = false →
          (Trip Try.prog 82 #[x_0.val, x9.val] w7 fun r11 w12 => r11 = .bool q10 ∧ Sub w7 w12)) ∧
        (((decide ((x8.n : Int) > 3)) || (!q10)) = true →
          Q (.bool false) w7) ∧
        (((decide ((x8.n : Int) > 3)) || (!q10)) = false →
          ∃ n13 : Int, Wr .i64 (n6 + 1) n13 ∧
          ((.num .i64 n1 : SV) = .num .i64 n1) ∧
          ((.num .i64 n2 : SV) = .num .i64 n2) ∧
          ((.sl x3 : SV) = .sl x3) ∧
          I4 n13 w7 ∧
          m5 n13 w7 < m5 n6 w7)) ∧
      ((decide (n6 < (x3.n : Int))) = false →
        Q (.bool true) w7))) ∧
  ((decide ((x3.n : Int) > 0)) = false →
    ∃ I14 : Int → World → Prop, ∃ m15 : Int → World → Nat, I14 0 v ∧
    ∀ n16 : Int, ∀ w17 : World, I14 n16 w17 →
    ((decide (n16 < n_1)) = true →
      IxOk x_0 n16 ∧
      ∃ x18 : Sl, w17.cell? ((elA x_0 n16 3).add 2) = some (x18.val) ∧
      ((decide ((x18.n : Int) = 0)) = true →
        IxOk x_0 n16) ∧
      ∃ n19 : Int, ((decide ((x18.n : Int) = 0)) = true →
        w17.cell? ((elA x_0 n16 3).add 0) = some (.int .i64 n19)) ∧
      (((decide ((x18.n : Int) = 0)) && (decide (n19 = n1))) = true →
        IxOk x_0 n16) ∧
      ∃ n20 : Int, (((decide ((x18.n : Int) = 0)) && (decide (n19 = n1))) = true →
        w17.cell? ((elA x_0 n16 3).add 1) = some (.int .i64 n20)) ∧
      ((((decide ((x18.n : Int) = 0)) && (decide (n19 = n1))) && (decide (n20 = n2))) = true →
        Q (.bool false) w17) ∧
      ((((decide ((x18.n : Int) = 0)) && (decide (n19 = n1))) && (decide (n20 = n2))) = false →
        ∃ n21 : Int, Wr .i64 (n16 + 1) n21 ∧
        ((.num .i64 n1 : SV) = .num .i64 n1) ∧
        ((.num .i64 n2 : SV) = .num .i64 n2) ∧
        ((.sl x3 : SV) = .sl x3) ∧
        I14 n21 w17 ∧
        m15 n21 w17 < m15 n16 w17)) ∧
    ((decide (n16 < n_1)) = false →
      ∃ q22 : Bool, (Trip Try.prog 81 #[.int .i64 n1, .int .i64 0, .int .i64 (x_0.n : Int)] w17 fun r23 w24 => r23 = .bool q22 ∧ Sub w17 w24) ∧
      ∃ q25 : Bool, (q22 = true →
        (Trip Try.prog 81 #[.int .i64 n2, .int .i64 0, .int .i64 (x_0.n : Int)] w17 fun r26 w27 => r26 = .bool q25 ∧ Sub w17 w27)) ∧
      Q (.bool (q22 && q25)) w17))
theorem of105 (x_0 : Sl) (n_1 : Int) (v : World) (Q : Value → World → Prop) (h : vc105 x_0 n_1 v Q) : Trip Try.prog 105 #[x_0.val, .int .i64 n_1] v Q :=
  trip_of_eq (args := [.sl x_0, .num .i64 n_1]) (A := ⟨[(6, [(6, .int .i64)], []), (12, [(7, .int .i64)], [])], [], [], [], [7, 11, 14, 17, 21, 24, 25, 26, 30, 31, 32, 38, 39, 40, 43, 44, 45, 46, 48, 56, 57, 58, 69, 70, 77, 78, 79, 80, 81, 82, 83, 84, 87, 88, 89, 91, 92, 93, 94, 95, 100, 103, 104, 105, 106, 107, 109, 111, 114, 115, 116, 118, 120, 121, 122, 123, 124, 125]⟩) Try.func105 (by kernel_rfl) (by kernel_rfl) (by kernel_rfl : vc105 x_0 n_1 v Q = _) h

/-- spec.sets -/
def vc106 (n_0 : Int) (v : World) (Q : Value → World → Prop) : Prop :=
  ∃ q1 : Bool, (Trip Try.prog 123 #[.int .i64 n_0] v fun r2 w3 => r2 = .bool q1 ∧ Sub v w3) ∧
  Q (.bool ((((q1 && (!decide (n_0 = 7))) && (!decide (n_0 = 8))) || (decide (n_0 = 18))) || (decide (n_0 = 19)))) v
theorem of106 (n_0 : Int) (v : World) (Q : Value → World → Prop) (h : vc106 n_0 v Q) : Trip Try.prog 106 #[.int .i64 n_0] v Q :=
  trip_of_eq (args := [.num .i64 n_0]) (A := ⟨[], [], [], [], [7, 11, 14, 17, 21, 24, 25, 26, 30, 31, 32, 38, 39, 40, 43, 44, 45, 46, 48, 56, 57, 58, 69, 70, 77, 78, 79, 80, 81, 82, 83, 84, 87, 88, 89, 91, 92, 93, 94, 95, 100, 103, 104, 105, 106, 107, 109, 111, 114, 115, 116, 118, 120, 121, 122, 123, 124, 125]⟩) Try.func106 (by kernel_rfl) (by kernel_rfl) (by kernel_rfl : vc106 n_0 v Q = _) h

/-- spec.conType -/
def vc107 (x_0 : Sl) (n_1 : Int) (v : World) (Q : Value → World → Prop) : Prop :=
  ∃ I1 : Int → World → Prop, ∃ m2 : Int → World → Nat, I1 0 v ∧
  ∀ n3 : Int, ∀ w4 : World, I1 n3 w4 →
  ((decide (n3 < (x_0.n : Int))) = true →
    ∃ n5 : Int, (Trip Try.prog 124 #[x_0.val, .int .i64 n3] w4 fun r6 w7 => r6 = .int .i64 n5 ∧ Sub w4 w7) ∧
    IxOk x_0 n3 ∧
    ∃ x8 : Sl, w4.cell? ((elA x_0 n3 3).add 2) = some (x8.val) ∧
    ∃ n9 : Int, Wr .i64 (n5 + (x8.n : Int)) n9 ∧
    ∃ n10 : Int, Wr .i64 (n9 - 1) n10 ∧
    ∃ q11 : Bool, (Trip Try.prog 81 #[.int .i64 n_1, .int .i64 n5, .int .i64 n10] w4 fun r12 w13 => r12 = .bool q11 ∧ Sub w4 w13) ∧
    (q11 = true →
      ∃ n14 : Int, Wr .i64 (n3 + 1) n14 ∧
      Q (.int .i64 n14) w4) ∧
    (q11 = false →
      ∃ n15 : Int, Wr .i64 (n3 + 1) n15 ∧
      I1 n15 w4 ∧
      m2 n15 w4 < m2 n3 w4)) ∧
  ((decide (n3 < (x_0.n : Int))) = false →
    Q (.int .i64 (-1)) w4)
theorem of107 (x_0 : Sl) (n_1 : Int) (v : World) (Q : Value → World → Prop) (h : vc107 x_0 n_1 v Q) : Trip Try.prog 107 #[x_0.val, .int .i64 n_1] v Q :=
  trip_of_eq (args := [.sl x_0, .num .i64 n_1]) (A := ⟨[(2, [(5, .int .i64)], [])], [], [], [], [7, 11, 14, 17, 21, 24, 25, 26, 30, 31, 32, 38, 39, 40, 43, 44, 45, 46, 48, 56, 57, 58, 69, 70, 77, 78, 79, 80, 81, 82, 83, 84, 87, 88, 89, 91, 92, 93, 94, 95, 100, 103, 104, 105, 106, 107, 109, 111, 114, 115, 116, 118, 120, 121, 122, 123, 124, 125]⟩) Try.func107 (by kernel_rfl) (by kernel_rfl) (by kernel_rfl : vc107 x_0 n_1 v Q = _) h

/-- spec.conFields -/
def vc108 (x_0 : Sl) (n_1 : Int) (v : World) (Q : Value → World → Prop) : Prop :=
  ∃ n1 : Int, (Trip Try.prog 107 #[x_0.val, .int .i64 n_1] v fun r2 w3 => r2 = .int .i64 n1 ∧ Sub v w3) ∧
  ((decide (n1 < 1)) = true →
    StepT Try.prog (Instr.buildSlice 35 0 #[]) v fun r4 w5 =>
      ∃ x6 : Sl, r4 = x6.val ∧
      Q (x6.val) w5) ∧
  ((decide (n1 < 1)) = false →
    ∃ n7 : Int, Wr .i64 (n1 - 1) n7 ∧
    IxOk x_0 n7 ∧
    ∃ x8 : Sl, v.cell? ((elA x_0 n7 3).add 2) = some (x8.val) ∧
    ∃ n9 : Int, Wr .i64 (n1 - 1) n9 ∧
    ∃ n10 : Int, (Trip Try.prog 124 #[x_0.val, .int .i64 n9] v fun r11 w12 => r11 = .int .i64 n10 ∧ Sub v w12) ∧
    ∃ n13 : Int, Wr .i64 (n_1 - n10) n13 ∧
    IxOk x8 n13 ∧
    ∃ x14 : Sl, v.cell? ((elA x8 n13 1).add 0) = some (x14.val) ∧
    Q (x14.val) v)
theorem of108 (x_0 : Sl) (n_1 : Int) (v : World) (Q : Value → World → Prop) (h : vc108 x_0 n_1 v Q) : Trip Try.prog 108 #[x_0.val, .int .i64 n_1] v Q :=
  trip_of_eq (args := [.sl x_0, .num .i64 n_1]) (A := ⟨[], [], [], [], [7, 11, 14, 17, 21, 24, 25, 26, 30, 31, 32, 38, 39, 40, 43, 44, 45, 46, 48, 56, 57, 58, 69, 70, 77, 78, 79, 80, 81, 82, 83, 84, 87, 88, 89, 91, 92, 93, 94, 95, 100, 103, 104, 105, 106, 107, 109, 111, 114, 115, 116, 118, 120, 121, 122, 123, 124, 125]⟩) Try.func108 (by kernel_rfl) (by kernel_rfl) (by kernel_rfl : vc108 x_0 n_1 v Q = _) h

/-- spec.procWith -/
def vc109 (x0_0 : Sl) (x0_1 : Sl) (n_1 : Int) (n_2 : Int) (n_3 : Int) (v : World) (Q : Value → World → Prop) : Prop :=
  ∃ n1 : Int, Wr .i64 ((x0_1.n : Int) - 1) n1 ∧
  ∃ q2 : Bool, (Trip Try.prog 81 #[.int .i64 n_1, .int .i64 0, .int .i64 n1] v fun r3 w4 => r3 = .bool q2 ∧ Sub v w4) ∧
  (q2 = true →
    IxOk x0_1 n_1) ∧
  ∃ x5 : Sl, (q2 = true →
    v.cell? ((elA x0_1 n_1 5).add 0) = some (x5.val)) ∧
  ∃ n6 : Int, (q2 = true →
    Wr .i64 (n_2 + n_3) n6) ∧
  Q (.bool (q2 && (decide ((x5.n : Int) = n6)))) v
theorem of109 (x0_0 : Sl) (x0_1 : Sl) (n_1 : Int) (n_2 : Int) (n_3 : Int) (v : World) (Q : Value → World → Prop) (h : vc109 x0_0 x0_1 n_1 n_2 n_3 v Q) : Trip Try.prog 109 #[.agg #[x0_0.val, x0_1.val], .int .i64 n_1, .int .i64 n_2, .int .i64 n_3] v Q :=
  trip_of_eq (args := [.ag [.sl x0_0, .sl x0_1], .num .i64 n_1, .num .i64 n_2, .num .i64 n_3]) (A := ⟨[], [], [], [], [7, 11, 14, 17, 21, 24, 25, 26, 30, 31, 32, 38, 39, 40, 43, 44, 45, 46, 48, 56, 57, 58, 69, 70, 77, 78, 79, 80, 81, 82, 83, 84, 87, 88, 89, 91, 92, 93, 94, 95, 100, 103, 104, 105, 106, 107, 109, 111, 114, 115, 116, 118, 120, 121, 122, 123, 124, 125]⟩) Try.func109 (by kernel_rfl) (by kernel_rfl) (by kernel_rfl : vc109 x0_0 x0_1 n_1 n_2 n_3 v Q = _) h

/-- spec.consOf -/
def vc110 (x_0 : Sl) (n_1 : Int) (v : World) (Q : Value → World → Prop) : Prop :=
  StepT Try.prog (Instr.buildSlice 35 0 #[]) v fun r1 w2 =>
    ∃ x3 : Sl, r1 = x3.val ∧
    ∃ q4 : Bool, (Trip Try.prog 81 #[.int .i64 n_1, .int .i64 1, .int .i64 (x_0.n : Int)] w2 fun r5 w6 => r5 = .bool q4 ∧ Sub w2 w6) ∧
    ((!q4) = true →
      Q (x3.val) w2) ∧
    ((!q4) = false →
      ∃ I7 : Sl → Int → World → Prop, ∃ m8 : Sl → Int → World → Nat, I7 x3 0 w2 ∧
      ∀ x9 : Sl, ∀ n10 : Int, ∀ w11 : World, I7 x9 n10 w11 →
      ∃ n12 : Int, Wr .i64 (n_1 - 1) n12 ∧
      IxOk x_0 n12 ∧
      ∃ x13 : Sl, w11.cell? ((elA x_0 n12 3).add 2) = some (x13.val) ∧
      ((decide (n10 < (x13.n : Int))) = true →
        ∃ n14 : Int, Wr .i64 (n_1 - 1) n14 ∧
        ∃ n15 : Int, (Trip Try.prog 124 #[x_0.val, .int .i64 n14] w11 fun r16 w17 => r16 = .int .i64 n15 ∧ Sub w11 w17) ∧
        ∃ n18 : Int, Wr .i64 (n15 + n10) n18 ∧
        StepT Try.prog (Instr.buildSlice 35 1 #[(0, (.int .i64 n18))]) w11 fun r19 w20 =>
          ∃ x21 : Sl, r19 = x21.val ∧
          StepT Try.prog (Builtin.append_ #[35, 35] 35 #[(x9.val), (x21.val)]) w20 fun r22 w23 =>
            ∃ x24 : Sl, r22 = x24.val ∧
            ∃ n25 : Int, Wr .i64 (n10 + 1) n25 ∧
            I7 x24 n25 w23 ∧
            m8 x24 n25 w23 < m8 x9 n10 w11) ∧
      ((decide (n10 < (x13.n : Int))) = false →
        Q (x9.val) w11))
theorem of110 (x_0 : Sl) (n_1 : Int) (v : World) (Q : Value → World → Prop) (h : vc110 x_0 n_1 v Q) : Trip Try.prog 110 #[x_0.val, .int .i64 n_1] v Q :=
  trip_of_eq (args := [.sl x_0, .num .i64 n_1]) (A := ⟨[(5, [(5, .sl), (6, .int .i64)], [])], [], [], [], [7, 11, 14, 17, 21, 24, 25, 26, 30, 31, 32, 38, 39, 40, 43, 44, 45, 46, 48, 56, 57, 58, 69, 70, 77, 78, 79, 80, 81, 82, 83, 84, 87, 88, 89, 91, 92, 93, 94, 95, 100, 103, 104, 105, 106, 107, 109, 111, 114, 115, 116, 118, 120, 121, 122, 123, 124, 125]⟩) Try.func110 (by kernel_rfl) (by kernel_rfl) (by kernel_rfl : vc110 x_0 n_1 v Q = _) h

/-- spec.validJumps -/
def vc111 (x_0 : Sl) (n_1 : Int) (n_2 : Int) (n_3 : Int) (v : World) (Q : Value → World → Prop) : Prop :=
  ((!decide ((x_0.n : Int) = n_1)) = true →
    Q (.bool false) v) ∧
  ((!decide ((x_0.n : Int) = n_1)) = false →
    ∃ I1 : Int → World → Prop, ∃ m2 : Int → World → Nat, I1 0 v ∧
    ∀ n3 : Int, ∀ w4 : World, I1 n3 w4 →
    ((decide (n3 < n_1)) = true →
      IxOk x_0 n3 ∧
      ∃ n5 : Int, w4.cell? ((elA x_0 n3 1).add 0) = some (.int .i64 n5) ∧
      ∃ n6 : Int, Wr .i64 (n_2 + 1) n6 ∧
      ∃ n7 : Int, Wr .i64 (n_3 - 1) n7 ∧
      ∃ q8 : Bool, (Trip Try.prog 81 #[.int .i64 n5, .int .i64 n6, .int .i64 n7] w4 fun r9 w10 => r9 = .bool q8 ∧ Sub w4 w10) ∧
      ((!q8) = true →
        Q (.bool false) w4) ∧
      ((!q8) = false →
        ∃ n11 : Int, Wr .i64 (n3 + 1) n11 ∧
        I1 n11 w4 ∧
        m2 n11 w4 < m2 n3 w4)) ∧
    ((decide (n3 < n_1)) = false →
      Q (.bool true) w4))
theorem of111 (x_0 : Sl) (n_1 : Int) (n_2 : Int) (n_3 : Int) (v : World) (Q : Value → World → Prop) (h : vc111 x_0 n_1 n_2 n_3 v Q) : Trip Try.prog 111 #[x_0.val, .int .i64 n_1, .int .i64 n_2, .int .i64 n_3] v Q :=
  trip_of_eq (args := [.sl x_0, .num .i64 n_1, .num .i64 n_2, .num .i64 n_3]) (A := ⟨[(4, [(9, .int .i64)], [])], [], [], [], [7, 11, 14, 17, 21, 24, 25, 26, 30, 31, 32, 38, 39, 40, 43, 44, 45, 46, 48, 56, 57, 58, 69, 70, 77, 78, 79, 80, 81, 82, 83, 84, 87, 88, 89, 91, 92, 93, 94, 95, 100, 103, 104, 105, 106, 107, 109, 111, 114, 115, 116, 118, 120, 121, 122, 123, 124, 125]⟩) Try.func111 (by kernel_rfl) (by kernel_rfl) (by kernel_rfl : vc111 x_0 n_1 n_2 n_3 v Q = _) h

/-- laws.toCon -/
def vc112 (x0_0 : Sl) (v : World) (Q : Value → World → Prop) : Prop :=
  Trip Try.prog 19 #[x0_0.val] v fun r1 w2 =>
    ∃ x3 : Sl, r1 = x3.val ∧
    Q (.agg #[x3.val]) w2
theorem of112 (x0_0 : Sl) (v : World) (Q : Value → World → Prop) (h : vc112 x0_0 v Q) : Trip Try.prog 112 #[.agg #[x0_0.val]] v Q :=
  trip_of_eq (args := [.ag [.sl x0_0]]) (A := ⟨[], [], [], [], [7, 11, 14, 17, 21, 24, 25, 26, 30, 31, 32, 38, 39, 40, 43, 44, 45, 46, 48, 56, 57, 58, 69, 70, 77, 78, 79, 80, 81, 82, 83, 84, 87, 88, 89, 91, 92, 93, 94, 95, 100, 103, 104, 105, 106, 107, 109, 111, 114, 115, 116, 118, 120, 121, 122, 123, 124, 125]⟩) Try.func112 (by kernel_rfl) (by kernel_rfl) (by kernel_rfl : vc112 x0_0 v Q = _) h

/-- laws.toInstr -/
def vc113 (n0_0 : Int) (n0_1 : Int) (n0_2 : Int) (n0_3 : Int) (x0_4 : Sl) (x0_5 : Sl) (v : World) (Q : Value → World → Prop) : Prop :=
  Trip Try.prog 19 #[x0_4.val] v fun r1 w2 =>
    ∃ x3 : Sl, r1 = x3.val ∧
    Trip Try.prog 19 #[x0_5.val] w2 fun r4 w5 =>
      ∃ x6 : Sl, r4 = x6.val ∧
      Q (.agg #[.int .i64 n0_0, .int .i64 n0_1, .int .i64 n0_2, .int .i64 n0_3, x3.val, x6.val]) w5
theorem of113 (n0_0 : Int) (n0_1 : Int) (n0_2 : Int) (n0_3 : Int) (x0_4 : Sl) (x0_5 : Sl) (v : World) (Q : Value → World → Prop) (h : vc113 n0_0 n0_1 n0_2 n0_3 x0_4 x0_5 v Q) : Trip Try.prog 113 #[.agg #[.int .i64 n0_0, .int .i64 n0_1, .int .i64 n0_2, .int .i64 n0_3, x0_4.val, x0_5.val]] v Q :=
  trip_of_eq (args := [.ag [.num .i64 n0_0, .num .i64 n0_1, .num .i64 n0_2, .num .i64 n0_3, .sl x0_4, .sl x0_5]]) (A := ⟨[], [], [], [], [7, 11, 14, 17, 21, 24, 25, 26, 30, 31, 32, 38, 39, 40, 43, 44, 45, 46, 48, 56, 57, 58, 69, 70, 77, 78, 79, 80, 81, 82, 83, 84, 87, 88, 89, 91, 92, 93, 94, 95, 100, 103, 104, 105, 106, 107, 109, 111, 114, 115, 116, 118, 120, 121, 122, 123, 124, 125]⟩) Try.func113 (by kernel_rfl) (by kernel_rfl) (by kernel_rfl : vc113 n0_0 n0_1 n0_2 n0_3 x0_4 x0_5 v Q = _) h

/-- impl.ValidTypes -/
def vc114 (x_0 : Sl) (v : World) (Q : Value → World → Prop) : Prop :=
  ((decide ((x_0.n : Int) > 4)) = true →
    Q (.bool false) v) ∧
  ((decide ((x_0.n : Int) > 4)) = false →
    ∃ I1 : Int → World → Prop, ∃ m2 : Int → World → Nat, I1 0 v ∧
    ∀ n3 : Int, ∀ w4 : World, I1 n3 w4 →
    ((decide (n3 < (x_0.n : Int))) = true →
      IxOk x_0 n3 ∧
      ∃ n5 : Int, ∃ n6 : Int, ∃ x7 : Sl, (w4.cell? ((elA x_0 n3 3).add 0) = some (.int .i64 n5) ∧
        w4.cell? ((elA x_0 n3 3).add 1) = some (.int .i64 n6) ∧
        w4.cell? ((elA x_0 n3 3).add 2) = some (x7.val)) ∧
      ∃ q8 : Bool, (Trip Try.prog 116 #[x_0.val, .int .i64 n5] w4 fun r9 w10 => r9 = .bool q8 ∧ Sub w4 w10) ∧
      ∃ q11 : Bool, ((!q8) = false →
        (Trip Try.prog 116 #[x_0.val, .int .i64 n6] w4 fun r12 w13 => r12 = .bool q11 ∧ Sub w4 w13)) ∧
      (((((!q8) || (!q11)) || (decide ((x7.n : Int) > 3))) || ((decide ((x7.n : Int) > 0)) && ((!decide (n5 = 0)) || (!decide (n6 = 0))))) = true →
        Q (.bool false) w4) ∧
      (((((!q8) || (!q11)) || (decide ((x7.n : Int) > 3))) || ((decide ((x7.n : Int) > 0)) && ((!decide (n5 = 0)) || (!decide (n6 = 0))))) = false →
        ∃ I14 : Int → World → Prop, ∃ m15 : Int → World → Nat, I14 0 w4 ∧
        ∀ n16 : Int, ∀ w17 : World, I14 n16 w17 →
        ((decide (n16 < (x7.n : Int))) = true →
          IxOk x7 n16 ∧
          ∃ x18 : Sl, w17.cell? ((elA x7 n16 1).add 0) = some (x18.val) ∧
          ∃ q19 : Bool, ((decide ((x18.n : Int) > 3)) = false →
            (Trip Try.prog 115 #[x_0.val, x18.val] w17 fun r20 w21 => r20 = .bool q19 ∧ Sub w17 w21)) ∧
          (((decide ((x18.n : Int) > 3)) || (!q19)) = true →
            Q (.bool false) w17) ∧
          (((decide ((x18.n : Int) > 3)) || (!q19)) = false →
            ∃ n22 : Int, Wr .i64 (n16 + 1) n22 ∧
            ((.num .i64 n5 : SV) = .num .i64 n5) ∧
            ((.num .i64 n6 : SV) = .num .i64 n6) ∧
            ((.sl x7 : SV) = .sl x7) ∧
            I14 n22 w17 ∧
            m15 n22 w17 < m15 n16 w17)) ∧
        ((decide (n16 < (x7.n : Int))) = false →
          CutOk x_0 0 n3 ∧
          ∃ I23 : Int → World → Prop, ∃ m24 : Int → World → Nat, I23 0 w17 ∧
          ∀ n25 : Int, ∀ w26 : World, I23 n25 w26 →
          ((decide (n25 < ((x_0.cut 0 n3 3).n : Int))) = true →
            IxOk (x_0.cut 0 n3 3) n25 ∧
            ∃ n27 : Int, ∃ n28 : Int, ∃ x29 : Sl, (w26.cell? ((elA (x_0.cut 0 n3 3) n25 3).add 0) = some (.int .i64 n27) ∧
              w26.cell? ((elA (x_0.cut 0 n3 3) n25 3).add 1) = some (.int .i64 n28) ∧
              w26.cell? ((elA (x_0.cut 0 n3 3) n25 3).add 2) = some (x29.val)) ∧
            (((((decide ((x7.n : Int) = 0)) && (decide ((x29.n : Int) = 0))) && (decide (n27 = n5))) && (decide (n28 = n6))) = true →
              Q (.bool false) w26) ∧
            (((((decide ((x7.n : Int) = 0)) && (decide ((x29.n : Int) = 0))) && (decide (n27 = n5))) && (decide (n28 = n6))) = false →
              ∃ n30 : Int, Wr .i64 (n25 + 1) n30 ∧
              ((.num .i64 n5 : SV) = .num .i64 n5) ∧
              ((.num .i64 n6 : SV) = .num .i64 n6) ∧
              ((.sl x7 : SV) = .sl x7) ∧
              I23 n30 w26 ∧
              m24 n30 w26 < m24 n25 w26)) ∧
          ((decide (n25 < ((x_0.cut 0 n3 3).n : Int))) = false →
            ∃ n31 : Int, Wr .i64 (n3 + 1) n31 ∧
            I1 n31 w26 ∧
            m2 n31 w26 < m2 n3 w4)))) ∧
    ((decide (n3 < (x_0.n : Int))) = false →
      Q (.bool true) w4))
theorem of114 (x_0 : Sl) (v : World) (Q : Value → World → Prop) (h : vc114 x_0 v Q) : Trip Try.prog 114 #[x_0.val] v Q :=
  trip_of_eq (args := [.sl x_0]) (A := ⟨[(4, [(14, .int .i64)], []), (9, [(56, .int .i64)], []), (15, [(76, .int .i64)], [])], [], [], [], [7, 11, 14, 17, 21, 24, 25, 26, 30, 31, 32, 38, 39, 40, 43, 44, 45, 46, 48, 56, 57, 58, 69, 70, 77, 78, 79, 80, 81, 82, 83, 84, 87, 88, 89, 91, 92, 93, 94, 95, 100, 103, 104, 105, 106, 107, 109, 111, 114, 115, 116, 118, 120, 121, 122, 123, 124, 125]⟩) Try.func114 (by kernel_rfl) (by kernel_rfl) (by kernel_rfl : vc114 x_0 v Q = _) h

/-- impl.allTypes -/
def vc115 (x_0 : Sl) (x_1 : Sl) (v : World) (Q : Value → World → Prop) : Prop :=
  ∃ I1 : Int → World → Prop, ∃ m2 : Int → World → Nat, I1 0 v ∧
  ∀ n3 : Int, ∀ w4 : World, I1 n3 w4 →
  ((decide (n3 < (x_1.n : Int))) = true →
    IxOk x_1 n3 ∧
    ∃ n5 : Int, w4.cell? ((elA x_1 n3 1).add 0) = some (.int .i64 n5) ∧
    ∃ q6 : Bool, (Trip Try.prog 116 #[x_0.val, .int .i64 n5] w4 fun r7 w8 => r7 = .bool q6 ∧ Sub w4 w8) ∧
    ((!q6) = true →
      Q (.bool false) w4) ∧
    ((!q6) = false →
      ∃ n9 : Int, Wr .i64 (n3 + 1) n9 ∧
      I1 n9 w4 ∧
      m2 n9 w4 < m2 n3 w4)) ∧
  ((decide (n3 < (x_1.n : Int))) = false →
    Q (.bool true) w4)
theorem of115 (x_0 : Sl) (x_1 : Sl) (v : World) (Q : Value → World → Prop) (h : vc115 x_0 x_1 v Q) : Trip Try.prog 115 #[x_0.val, x_1.val] v Q :=
  trip_of_eq (args := [.sl x_0, .sl x_1]) (A := ⟨[(2, [(9, .int .i64)], [])], [], [], [], [7, 11, 14, 17, 21, 24, 25, 26, 30, 31, 32, 38, 39, 40, 43, 44, 45, 46, 48, 56, 57, 58, 69, 70, 77, 78, 79, 80, 81, 82, 83, 84, 87, 88, 89, 91, 92, 93, 94, 95, 100, 103, 104, 105, 106, 107, 109, 111, 114, 115, 116, 118, 120, 121, 122, 123, 124, 125]⟩) Try.func115 (by kernel_rfl) (by kernel_rfl) (by kernel_rfl : vc115 x_0 x_1 v Q = _) h

/-- impl.isType -/
def vc116 (x_0 : Sl) (n_1 : Int) (v : World) (Q : Value → World → Prop) : Prop :=
  Q (.bool ((decide (n_1 ≥ 0)) && (decide (n_1 ≤ (x_0.n : Int))))) v
theorem of116 (x_0 : Sl) (n_1 : Int) (v : World) (Q : Value → World → Prop) (h : vc116 x_0 n_1 v Q) : Trip Try.prog 116 #[x_0.val, .int .i64 n_1] v Q :=
  trip_of_eq (args := [.sl x_0, .num .i64 n_1]) (A := ⟨[], [], [], [], [7, 11, 14, 17, 21, 24, 25, 26, 30, 31, 32, 38, 39, 40, 43, 44, 45, 46, 48, 56, 57, 58, 69, 70, 77, 78, 79, 80, 81, 82, 83, 84, 87, 88, 89, 91, 92, 93, 94, 95, 100, 103, 104, 105, 106, 107, 109, 111, 114, 115, 116, 118, 120, 121, 122, 123, 124, 125]⟩) Try.func116 (by kernel_rfl) (by kernel_rfl) (by kernel_rfl : vc116 x_0 n_1 v Q = _) h

/-- slices.IndexFunc[[]int,int] -/
def vc117 (x_0 : Sl) (f_1 : Nat) (k1_0 : Addr) (v : World) (Q : Value → World → Prop) : Prop :=
  ∃ I1 : Int → World → Prop, ∃ m2 : Int → World → Nat, I1 0 v ∧
  ∀ n3 : Int, ∀ w4 : World, I1 n3 w4 →
  ((decide (n3 < (x_0.n : Int))) = true →
    IxOk x_0 n3 ∧
    ∃ n5 : Int, w4.cell? ((elA x_0 n3 1).add 0) = some (.int .i64 n5) ∧
    Trip Try.prog f_1 #[.int .i64 n5, .pointer (some (k1_0.add 0))] w4 fun r6 w7 =>
      ∃ q8 : Bool, r6 = .bool q8 ∧
      (q8 = true →
        Q (.int .i64 n3) w7) ∧
      (q8 = false →
        ∃ n9 : Int, Wr .i64 (n3 + 1) n9 ∧
        I1 n9 w7 ∧
        m2 n9 w7 < m2 n3 w4)) ∧
  ((decide (n3 < (x_0.n : Int))) = false →
    Q (.int .i64 (-1)) w4)
theorem of117 (x_0 : Sl) (f_1 : Nat) (k1_0 : Addr) (v : World) (Q : Value → World → Prop) (h : vc117 x_0 f_1 k1_0 v Q) : Trip Try.prog 117 #[x_0.val, .func (.func f_1) #[] #[.pointer (some (k1_0.add 0))]] v Q :=
  trip_of_eq (args := [.sl x_0, .clo f_1 [.pt k1_0 0]]) (A := ⟨[(2, [(8, .int .i64)], [])], [], [], [], [7, 11, 14, 17, 21, 24, 25, 26, 30, 31, 32, 38, 39, 40, 43, 44, 45, 46, 48, 56, 57, 58, 69, 70, 77, 78, 79, 80, 81, 82, 83, 84, 87, 88, 89, 91, 92, 93, 94, 95, 100, 103, 104, 105, 106, 107, 109, 111, 114, 115, 116, 118, 120, 121, 122, 123, 124, 125]⟩) Try.func117 (by kernel_rfl) (by kernel_rfl) (by kernel_rfl : vc117 x_0 f_1 k1_0 v Q = _) h

/-- impl.conCount -/
def vc118 (x_0 : Sl) (v : World) (Q : Value → World → Prop) : Prop :=
  ∃ I1 : Int → Int → World → Prop, ∃ m2 : Int → Int → World → Nat, I1 0 0 v ∧
  ∀ n3 : Int, ∀ n4 : Int, ∀ w5 : World, I1 n3 n4 w5 →
  ((decide (n4 < (x_0.n : Int))) = true →
    IxOk x_0 n4 ∧
    ∃ n6 : Int, ∃ n7 : Int, ∃ x8 : Sl, (w5.cell? ((elA x_0 n4 3).add 0) = some (.int .i64 n6) ∧
      w5.cell? ((elA x_0 n4 3).add 1) = some (.int .i64 n7) ∧
      w5.cell? ((elA x_0 n4 3).add 2) = some (x8.val)) ∧
    ∃ n9 : Int, Wr .i64 (n3 + (x8.n : Int)) n9 ∧
    ∃ n10 : Int, Wr .i64 (n4 + 1) n10 ∧
    I1 n9 n10 w5 ∧
    m2 n9 n10 w5 < m2 n3 n4 w5) ∧
  ((decide (n4 < (x_0.n : Int))) = false →
    Q (.int .i64 n3) w5)
theorem of118 (x_0 : Sl) (v : World) (Q : Value → World → Prop) (h : vc118 x_0 v Q) : Trip Try.prog 118 #[x_0.val] v Q :=
  trip_of_eq (args := [.sl x_0]) (A := ⟨[(3, [(3, .int .i64), (8, .int .i64)], [])], [], [], [], [7, 11, 14, 17, 21, 24, 25, 26, 30, 31, 32, 38, 39, 40, 43, 44, 45, 46, 48, 56, 57, 58, 69, 70, 77, 78, 79, 80, 81, 82, 83, 84, 87, 88, 89, 91, 92, 93, 94, 95, 100, 103, 104, 105, 106, 107, 109, 111, 114, 115, 116, 118, 120, 121, 122, 123, 124, 125]⟩) Try.func118 (by kernel_rfl) (by kernel_rfl) (by kernel_rfl : vc118 x_0 v Q = _) h

/-- impl.consOf -/
def vc119 (x_0 : Sl) (n_1 : Int) (v : World) (Q : Value → World → Prop) : Prop :=
  (((decide (n_1 < 1)) || (decide (n_1 > (x_0.n : Int)))) = true →
    Q (.slice none 0 0) v) ∧
  (((decide (n_1 < 1)) || (decide (n_1 > (x_0.n : Int)))) = false →
    ∃ n1 : Int, Wr .i64 (n_1 - 1) n1 ∧
    CutOk x_0 0 n1 ∧
    ∃ n2 : Int, (Trip Try.prog 118 #[(x_0.cut 0 n1 3).val] v fun r3 w4 => r3 = .int .i64 n2 ∧ Sub v w4) ∧
    ∃ n5 : Int, Wr .i64 (n_1 - 1) n5 ∧
    IxOk x_0 n5 ∧
    ∃ x6 : Sl, v.cell? ((elA x_0 n5 3).add 2) = some (x6.val) ∧
    ∃ I7 : Sl → Int → World → Prop, ∃ m8 : Sl → Int → World → Nat, I7 (Sl.mk none 0 0) 0 v ∧
    ∀ x9 : Sl, ∀ n10 : Int, ∀ w11 : World, I7 x9 n10 w11 →
    ((decide (n10 < (x6.n : Int))) = true →
      ∃ n12 : Int, Wr .i64 (n2 + n10) n12 ∧
      StepT Try.prog (Instr.buildSlice 35 1 #[(0, (.int .i64 n12))]) w11 fun r13 w14 =>
        ∃ x15 : Sl, r13 = x15.val ∧
        StepT Try.prog (Builtin.append_ #[35, 35] 35 #[(x9.val), (x15.val)]) w14 fun r16 w17 =>
          ∃ x18 : Sl, r16 = x18.val ∧
          ∃ n19 : Int, Wr .i64 (n10 + 1) n19 ∧
          I7 x18 n19 w17 ∧
          m8 x18 n19 w17 < m8 x9 n10 w11) ∧
    ((decide (n10 < (x6.n : Int))) = false →
      Q (x9.val) w11))
theorem of119 (x_0 : Sl) (n_1 : Int) (v : World) (Q : Value → World → Prop) (h : vc119 x_0 n_1 v Q) : Trip Try.prog 119 #[x_0.val, .int .i64 n_1] v Q :=
  trip_of_eq (args := [.sl x_0, .num .i64 n_1]) (A := ⟨[(6, [(6, .sl), (28, .int .i64)], [])], [], [], [], [7, 11, 14, 17, 21, 24, 25, 26, 30, 31, 32, 38, 39, 40, 43, 44, 45, 46, 48, 56, 57, 58, 69, 70, 77, 78, 79, 80, 81, 82, 83, 84, 87, 88, 89, 91, 92, 93, 94, 95, 100, 103, 104, 105, 106, 107, 109, 111, 114, 115, 116, 118, 120, 121, 122, 123, 124, 125]⟩) Try.func119 (by kernel_rfl) (by kernel_rfl) (by kernel_rfl : vc119 x_0 n_1 v Q = _) h

/-- impl.fieldsOf -/
def vc120 (x_0 : Sl) (n_1 : Int) (v : World) (Q : Value → World → Prop) : Prop :=
  ∃ n1 : Int, ∃ x2 : Sl, (Trip Try.prog 125 #[x_0.val, .int .i64 n_1] v fun r3 w4 => r3 = .tuple #[.int .i64 n1, .agg #[x2.val]] ∧ Sub v w4) ∧
  Q (x2.val) v
theorem of120 (x_0 : Sl) (n_1 : Int) (v : World) (Q : Value → World → Prop) (h : vc120 x_0 n_1 v Q) : Trip Try.prog 120 #[x_0.val, .int .i64 n_1] v Q :=
  trip_of_eq (args := [.sl x_0, .num .i64 n_1]) (A := ⟨[], [], [], [], [7, 11, 14, 17, 21, 24, 25, 26, 30, 31, 32, 38, 39, 40, 43, 44, 45, 46, 48, 56, 57, 58, 69, 70, 77, 78, 79, 80, 81, 82, 83, 84, 87, 88, 89, 91, 92, 93, 94, 95, 100, 103, 104, 105, 106, 107, 109, 111, 114, 115, 116, 118, 120, 121, 122, 123, 124, 125]⟩) Try.func120 (by kernel_rfl) (by kernel_rfl) (by kernel_rfl : vc120 x_0 n_1 v Q = _) h

/-- laws.eqCon -/
def vc121 (x0_0 : Sl) (x1_0 : Sl) (v : World) (Q : Value → World → Prop) : Prop :=
  ∃ q1 : Bool, (Trip Try.prog 14 #[x0_0.val, x1_0.val] v fun r2 w3 => r2 = .bool q1 ∧ Sub v w3) ∧
  ((!q1) = true →
    Q (.bool false) v) ∧
  ((!q1) = false →
    Q (.bool true) v)
theorem of121 (x0_0 : Sl) (x1_0 : Sl) (v : World) (Q : Value → World → Prop) (h : vc121 x0_0 x1_0 v Q) : Trip Try.prog 121 #[.agg #[x0_0.val], .agg #[x1_0.val]] v Q :=
  trip_of_eq (args := [.ag [.sl x0_0], .ag [.sl x1_0]]) (A := ⟨[], [], [], [], [7, 11, 14, 17, 21, 24, 25, 26, 30, 31, 32, 38, 39, 40, 43, 44, 45, 46, 48, 56, 57, 58, 69, 70, 77, 78, 79, 80, 81, 82, 83, 84, 87, 88, 89, 91, 92, 93, 94, 95, 100, 103, 104, 105, 106, 107, 109, 111, 114, 115, 116, 118, 120, 121, 122, 123, 124, 125]⟩) Try.func121 (by kernel_rfl) (by kernel_rfl) (by kernel_rfl : vc121 x0_0 x1_0 v Q = _) h

/-- laws.eqInstr -/
def vc122 (n0_0 : Int) (n0_1 : Int) (n0_2 : Int) (n0_3 : Int) (x0_4 : Sl) (x0_5 : Sl) (n1_0 : Int) (n1_1 : Int) (n1_2 : Int) (n1_3 : Int) (x1_4 : Sl) (x1_5 : Sl) (v : World) (Q : Value → World → Prop) : Prop :=
  ((!decide (n0_0 = n1_0)) = true →
    Q (.bool false) v) ∧
  ((!decide (n0_0 = n1_0)) = false →
    ((!decide (n0_1 = n1_1)) = true →
      Q (.bool false) v) ∧
    ((!decide (n0_1 = n1_1)) = false →
      ((!decide (n0_2 = n1_2)) = true →
        Q (.bool false) v) ∧
      ((!decide (n0_2 = n1_2)) = false →
        ((!decide (n0_3 = n1_3)) = true →
          Q (.bool false) v) ∧
        ((!decide (n0_3 = n1_3)) = false →
          ∃ q1 : Bool, (Trip Try.prog 14 #[x0_4.val, x1_4.val] v fun r2 w3 => r2 = .bool q1 ∧ Sub v w3) ∧
          ((!q1) = true →
            Q (.bool false) v) ∧
          ((!q1) = false →
            ∃ q4 : Bool, (Trip Try.prog 14 #[x0_5.val, x1_5.val] v fun r5 w6 => r5 = .bool q4 ∧ Sub v w6) ∧
            ((!q4) = true →
              Q (.bool false) v) ∧
            ((!q4) = false →
              Q (.bool true) v))))))
theorem of122 (n0_0 : Int) (n0_1 : Int) (n0_2 : Int) (n0_3 : Int) (x0_4 : Sl) (x0_5 : Sl) (n1_0 : Int) (n1_1 : Int) (n1_2 : Int) (n1_3 : Int) (x1_4 : Sl) (x1_5 : Sl) (v : World) (Q : Value → World → Prop) (h : vc122 n0_0 n0_1 n0_2 n0_3 x0_4 x0_5 n1_0 n1_1 n1_2 n1_3 x1_4 x1_5 v Q) : Trip Try.prog 122 #[.agg #[.int .i64 n0_0, .int .i64 n0_1, .int .i64 n0_2, .int .i64 n0_3, x0_4.val, x0_5.val], .agg #[.int .i64 n1_0, .int .i64 n1_1, .int .i64 n1_2, .int .i64 n1_3, x1_4.val, x1_5.val]] v Q :=
  trip_of_eq (args := [.ag [.num .i64 n0_0, .num .i64 n0_1, .num .i64 n0_2, .num .i64 n0_3, .sl x0_4, .sl x0_5], .ag [.num .i64 n1_0, .num .i64 n1_1, .num .i64 n1_2, .num .i64 n1_3, .sl x1_4, .sl x1_5]]) (A := ⟨[], [], [], [], [7, 11, 14, 17, 21, 24, 25, 26, 30, 31, 32, 38, 39, 40, 43, 44, 45, 46, 48, 56, 57, 58, 69, 70, 77, 78, 79, 80, 81, 82, 83, 84, 87, 88, 89, 91, 92, 93, 94, 95, 100, 103, 104, 105, 106, 107, 109, 111, 114, 115, 116, 118, 120, 121, 122, 123, 124, 125]⟩) Try.func122 (by kernel_rfl) (by kernel_rfl) (by kernel_rfl : vc122 n0_0 n0_1 n0_2 n0_3 x0_4 x0_5 n1_0 n1_1 n1_2 n1_3 x1_4 x1_5 v Q = _) h

/-- spec.defines -/
def vc123 (n_0 : Int) (v : World) (Q : Value → World → Prop) : Prop :=
  ∃ q1 : Bool, (Trip Try.prog 81 #[.int .i64 n_0, .int .i64 0, .int .i64 11] v fun r2 w3 => r2 = .bool q1 ∧ Sub v w3) ∧
  Q (.bool q1) v
theorem of123 (n_0 : Int) (v : World) (Q : Value → World → Prop) (h : vc123 n_0 v Q) : Trip Try.prog 123 #[.int .i64 n_0] v Q :=
  trip_of_eq (args := [.num .i64 n_0]) (A := ⟨[], [], [], [], [7, 11, 14, 17, 21, 24, 25, 26, 30, 31, 32, 38, 39, 40, 43, 44, 45, 46, 48, 56, 57, 58, 69, 70, 77, 78, 79, 80, 81, 82, 83, 84, 87, 88, 89, 91, 92, 93, 94, 95, 100, 103, 104, 105, 106, 107, 109, 111, 114, 115, 116, 118, 120, 121, 122, 123, 124, 125]⟩) Try.func123 (by kernel_rfl) (by kernel_rfl) (by kernel_rfl : vc123 n_0 v Q = _) h

/-- spec.firstCon -/
def vc124 (x_0 : Sl) (n_1 : Int) (v : World) (Q : Value → World → Prop) : Prop :=
  ∃ I1 : Int → Int → World → Prop, ∃ m2 : Int → Int → World → Nat, I1 0 0 v ∧
  ∀ n3 : Int, ∀ n4 : Int, ∀ w5 : World, I1 n3 n4 w5 →
  ((decide (n4 < n_1)) = true →
    IxOk x_0 n4 ∧
    ∃ x6 : Sl, w5.cell? ((elA x_0 n4 3).add 2) = some (x6.val) ∧
    ∃ n7 : Int, Wr .i64 (n3 + (x6.n : Int)) n7 ∧
    ∃ n8 : Int, Wr .i64 (n4 + 1) n8 ∧
    I1 n7 n8 w5 ∧
    m2 n7 n8 w5 < m2 n3 n4 w5) ∧
  ((decide (n4 < n_1)) = false →
    Q (.int .i64 n3) w5)
theorem of124 (x_0 : Sl) (n_1 : Int) (v : World) (Q : Value → World → Prop) (h : vc124 x_0 n_1 v Q) : Trip Try.prog 124 #[x_0.val, .int .i64 n_1] v Q :=
  trip_of_eq (args := [.sl x_0, .num .i64 n_1]) (A := ⟨[(3, [(5, .int .i64), (6, .int .i64)], [])], [], [], [], [7, 11, 14, 17, 21, 24, 25, 26, 30, 31, 32, 38, 39, 40, 43, 44, 45, 46, 48, 56, 57, 58, 69, 70, 77, 78, 79, 80, 81, 82, 83, 84, 87, 88, 89, 91, 92, 93, 94, 95, 100, 103, 104, 105, 106, 107, 109, 111, 114, 115, 116, 118, 120, 121, 122, 123, 124, 125]⟩) Try.func124 (by kernel_rfl) (by kernel_rfl) (by kernel_rfl : vc124 x_0 n_1 v Q = _) h

/-- impl.conAt -/
def vc125 (x_0 : Sl) (n_1 : Int) (v : World) (Q : Value → World → Prop) : Prop :=
  ∃ I1 : Int → Int → World → Prop, ∃ m2 : Int → Int → World → Nat, I1 n_1 0 v ∧
  ∀ n3 : Int, ∀ n4 : Int, ∀ w5 : World, I1 n3 n4 w5 →
  ((decide (n4 < (x_0.n : Int))) = true →
    IxOk x_0 n4 ∧
    ∃ n6 : Int, ∃ n7 : Int, ∃ x8 : Sl, (w5.cell? ((elA x_0 n4 3).add 0) = some (.int .i64 n6) ∧
      w5.cell? ((elA x_0 n4 3).add 1) = some (.int .i64 n7) ∧
      w5.cell? ((elA x_0 n4 3).add 2) = some (x8.val)) ∧
    (((decide (n3 ≥ 0)) && (decide (n3 < (x8.n : Int)))) = true →
      ∃ n9 : Int, Wr .i64 (n4 + 1) n9 ∧
      IxOk x8 n3 ∧
      ∃ x10 : Sl, w5.cell? ((elA x8 n3 1).add 0) = some (x10.val) ∧
      Q (.tuple #[.int .i64 n9, .agg #[x10.val]]) w5) ∧
    (((decide (n3 ≥ 0)) && (decide (n3 < (x8.n : Int)))) = false →
      ∃ n11 : Int, Wr .i64 (n3 - (x8.n : Int)) n11 ∧
      ∃ n12 : Int, Wr .i64 (n4 + 1) n12 ∧
      ((.sl (Sl.mk none 0 0) : SV) = .sl (Sl.mk none 0 0)) ∧
      I1 n11 n12 w5 ∧
      m2 n11 n12 w5 < m2 n3 n4 w5)) ∧
  ((decide (n4 < (x_0.n : Int))) = false →
    Q (.tuple #[.int .i64 (-1), .agg #[.slice none 0 0]]) w5)
theorem of125 (x_0 : Sl) (n_1 : Int) (v : World) (Q : Value → World → Prop) (h : vc125 x_0 n_1 v Q) : Trip Try.prog 125 #[x_0.val, .int .i64 n_1] v Q :=
  trip_of_eq (args := [.sl x_0, .num .i64 n_1]) (A := ⟨[(2, [(1, .int .i64), (10, .int .i64)], [])], [], [(5, [])], [], [7, 11, 14, 17, 21, 24, 25, 26, 30, 31, 32, 38, 39, 40, 43, 44, 45, 46, 48, 56, 57, 58, 69, 70, 77, 78, 79, 80, 81, 82, 83, 84, 87, 88, 89, 91, 92, 93, 94, 95, 100, 103, 104, 105, 106, 107, 109, 111, 114, 115, 116, 118, 120, 121, 122, 123, 124, 125]⟩) Try.func125 (by kernel_rfl) (by kernel_rfl) (by kernel_rfl : vc125 x_0 n_1 v Q = _) h

-- STOP 141 (impl.Instr).nexts: 'NoneType' object is not subscriptable
-- STOP 142 (impl.signatures).armFields: 'NoneType' object is not subscriptable
end Go.Vc
