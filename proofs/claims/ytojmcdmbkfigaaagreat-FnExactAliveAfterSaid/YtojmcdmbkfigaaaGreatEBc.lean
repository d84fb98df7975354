/- Part of the proofs about the heaps and memories: a law is joined in the text whose name ends in W and the law. -/
import Derived.Test.YtojmcdmbkfigaaaGreatEG
namespace Go.Vc
open Go Go.Proofs
set_option linter.all false
/-- impl.AliveAfter -/
def vc24n (x0_0 : Sl) (x0_1 : Sl) (n_1 : Int) (n_2 : Int) (v : World) (Q : Value → World → Prop) : Prop :=
  Trip Tryz.prog 39 #[.agg #[x0_0.val, x0_1.val], .int .i64 n_1, .int .i64 n_2] v fun r1 w2 =>
    ∃ y3 : Vl, r1 = y3.x ∧
    ∃ q4 : Bool, PureT Tryz.prog (do eqGuard .eql 56 (.tmp 15) (.const (.pointer none)) (y3.x) ((Vl.mk (Value.pointer none) rfl).x); binOp .eql 56 (y3.x) ((Vl.mk (Value.pointer none) rfl).x)) w2 (.bool q4) ∧
    (q4 = true →
      Q (.slice none 0 0) w2) ∧
    (q4 = false →
      ∃ a5 : Addr, y3.x = .pointer (some a5) ∧
      ∃ x6 : Sl, w2.cell? (a5.add 4) = some (x6.val) ∧
      ∃ I7 : Sl → Int → World → Prop, ∃ m8 : Sl → Int → World → Nat, I7 (Sl.mk none 0 0) 0 w2 ∧
      ∀ x9 : Sl, ∀ n10 : Int, ∀ w11 : World, I7 x9 n10 w11 →
      ((decide (n10 < (x6.n : Int))) = true →
        IxOk x6 n10 ∧
        ∃ n12 : Int, w11.cell? ((elA x6 n10 1).add 0) = some (.int .i64 n12) ∧
        ∃ q13 : Bool, ((!decide (n12 = 0)) = true →
          (Trip Tryz.prog 43 #[y3.x, .int .i64 n10] w11 fun r14 w15 => r14 = .bool q13 ∧ Sub w11 w15)) ∧
        (((!decide (n12 = 0)) && q13) = true →
          StepT Tryz.prog (Instr.buildSlice 37 1 #[(0, (.int .i64 n10))]) w11 fun r16 w17 =>
            ∃ x18 : Sl, r16 = x18.val ∧
            StepT Tryz.prog (Builtin.append_ #[37, 37] 37 #[(x9.val), (x18.val)]) w17 fun r19 w20 =>
              ∃ x21 : Sl, r19 = x21.val ∧
              ∃ n22 : Int, Wr .i64 (n10 + 1) n22 ∧
              ((.sl x0_0 : SV) = .sl x0_0) ∧
              ((.sl x0_1 : SV) = .sl x0_1) ∧
              I7 x21 n22 w20 ∧
              m8 x21 n22 w20 < m8 x9 n10 w11) ∧
        (((!decide (n12 = 0)) && q13) = false →
          ∃ n23 : Int, Wr .i64 (n10 + 1) n23 ∧
          ((.sl x0_0 : SV) = .sl x0_0) ∧
          ((.sl x0_1 : SV) = .sl x0_1) ∧
          I7 x9 n23 w11 ∧
          m8 x9 n23 w11 < m8 x9 n10 w11)) ∧
      ((decide (n10 < (x6.n : Int))) = false →
        Q (x9.val) w11))
theorem of24n (x0_0 : Sl) (x0_1 : Sl) (n_1 : Int) (n_2 : Int) (v : World) (Q : Value → World → Prop) (h : vc24n x0_0 x0_1 n_1 n_2 v Q) : Trip Tryz.prog 24 #[.agg #[x0_0.val, x0_1.val], .int .i64 n_1, .int .i64 n_2] v Q :=
  trip_of_eq (args := [.ag [.sl x0_0, .sl x0_1], .num .i64 n_1, .num .i64 n_2]) (A := ⟨[(6, [(8, .sl), (22, .int .i64)], [])], [], [], [999998], [8, 12, 17, 20, 20, 25, 26, 27, 28, 32, 34, 35, 42, 43, 44, 45, 46, 47, 48, 55, 60, 61, 65, 66, 67, 68, 69, 70, 72, 73, 74, 75, 81, 85, 89, 90, 95, 96, 97, 98, 99, 100, 101, 102, 103, 105, 106, 107, 108, 111, 112, 113, 114, 117, 120, 122, 123, 125, 126, 127, 128, 129, 130, 133, 137, 138, 139, 140, 146, 148, 149, 152, 156, 161, 162, 165, 185]⟩) Tryz.func24 (by kernel_rfl) (by kernel_rfl) (by kernel_rfl : vc24n x0_0 x0_1 n_1 n_2 v Q = _) h

/-- impl.KeptAfter -/
def vc16n (x0_0 : Sl) (x0_1 : Sl) (n_1 : Int) (n_2 : Int) (v : World) (Q : Value → World → Prop) : Prop :=
  Trip Tryz.prog 39 #[.agg #[x0_0.val, x0_1.val], .int .i64 n_1, .int .i64 n_2] v fun r1 w2 =>
    ∃ y3 : Vl, r1 = y3.x ∧
    ∃ q4 : Bool, PureT Tryz.prog (do eqGuard .eql 56 (.tmp 12) (.const (.pointer none)) (y3.x) ((Vl.mk (Value.pointer none) rfl).x); binOp .eql 56 (y3.x) ((Vl.mk (Value.pointer none) rfl).x)) w2 (.bool q4) ∧
    (q4 = true →
      Q (.slice none 0 0) w2) ∧
    (q4 = false →
      ∃ a5 : Addr, y3.x = .pointer (some a5) ∧
      ∃ x6 : Sl, w2.cell? (a5.add 6) = some (x6.val) ∧
      Q (x6.val) w2)
theorem of16n (x0_0 : Sl) (x0_1 : Sl) (n_1 : Int) (n_2 : Int) (v : World) (Q : Value → World → Prop) (h : vc16n x0_0 x0_1 n_1 n_2 v Q) : Trip Tryz.prog 16 #[.agg #[x0_0.val, x0_1.val], .int .i64 n_1, .int .i64 n_2] v Q :=
  trip_of_eq (args := [.ag [.sl x0_0, .sl x0_1], .num .i64 n_1, .num .i64 n_2]) (A := ⟨[], [], [], [999998], [8, 12, 17, 20, 20, 25, 26, 27, 28, 32, 34, 35, 42, 43, 44, 45, 46, 47, 48, 55, 60, 61, 65, 66, 67, 68, 69, 70, 72, 73, 74, 75, 81, 85, 89, 90, 95, 96, 97, 98, 99, 100, 101, 102, 103, 105, 106, 107, 108, 111, 112, 113, 114, 117, 120, 122, 123, 125, 126, 127, 128, 129, 130, 133, 137, 138, 139, 140, 146, 148, 149, 152, 156, 161, 162, 165, 185]⟩) Tryz.func16 (by kernel_rfl) (by kernel_rfl) (by kernel_rfl : vc16n x0_0 x0_1 n_1 n_2 v Q = _) h

/-- impl.OwnedAfter -/
def vc22n (x0_0 : Sl) (x0_1 : Sl) (n_1 : Int) (n_2 : Int) (v : World) (Q : Value → World → Prop) : Prop :=
  Trip Tryz.prog 39 #[.agg #[x0_0.val, x0_1.val], .int .i64 n_1, .int .i64 n_2] v fun r1 w2 =>
    ∃ y3 : Vl, r1 = y3.x ∧
    ∃ q4 : Bool, PureT Tryz.prog (do eqGuard .eql 56 (.tmp 12) (.const (.pointer none)) (y3.x) ((Vl.mk (Value.pointer none) rfl).x); binOp .eql 56 (y3.x) ((Vl.mk (Value.pointer none) rfl).x)) w2 (.bool q4) ∧
    (q4 = true →
      Q (.slice none 0 0) w2) ∧
    (q4 = false →
      ∃ a5 : Addr, y3.x = .pointer (some a5) ∧
      ∃ x6 : Sl, w2.cell? (a5.add 5) = some (x6.val) ∧
      Q (x6.val) w2)
theorem of22n (x0_0 : Sl) (x0_1 : Sl) (n_1 : Int) (n_2 : Int) (v : World) (Q : Value → World → Prop) (h : vc22n x0_0 x0_1 n_1 n_2 v Q) : Trip Tryz.prog 22 #[.agg #[x0_0.val, x0_1.val], .int .i64 n_1, .int .i64 n_2] v Q :=
  trip_of_eq (args := [.ag [.sl x0_0, .sl x0_1], .num .i64 n_1, .num .i64 n_2]) (A := ⟨[], [], [], [999998], [8, 12, 17, 20, 20, 25, 26, 27, 28, 32, 34, 35, 42, 43, 44, 45, 46, 47, 48, 55, 60, 61, 65, 66, 67, 68, 69, 70, 72, 73, 74, 75, 81, 85, 89, 90, 95, 96, 97, 98, 99, 100, 101, 102, 103, 105, 106, 107, 108, 111, 112, 113, 114, 117, 120, 122, 123, 125, 126, 127, 128, 129, 130, 133, 137, 138, 139, 140, 146, 148, 149, 152, 156, 161, 162, 165, 185]⟩) Tryz.func22 (by kernel_rfl) (by kernel_rfl) (by kernel_rfl : vc22n x0_0 x0_1 n_1 n_2 v Q = _) h

/-- (impl.varSet).with -/
def vc155n (x_0 : Sl) (n_1 : Int) (v : World) (Q : Value → World → Prop) : Prop :=
  Trip Tryz.prog 158 #[x_0.val, .int .i64 n_1] v fun r1 w2 =>
    ∃ n3 : Int, ∃ q4 : Bool, r1 = .tuple #[.int .i64 n3, .bool q4] ∧
    (q4 = true →
      Q (x_0.val) w2) ∧
    (q4 = false →
      Trip Tryz.prog 160 #[x_0.val] w2 fun r5 w6 =>
        ∃ x7 : Sl, r5 = x7.val ∧
        StepT Tryz.prog (Instr.buildSlice 37 1 #[(0, (.int .i64 n_1))]) w6 fun r8 w9 =>
          ∃ x10 : Sl, r8 = x10.val ∧
          Trip Tryz.prog 159 #[x7.val, .int .i64 n3, x10.val] w9 fun r11 w12 =>
            ∃ x13 : Sl, r11 = x13.val ∧
            Q (x13.val) w12)
theorem of155n (x_0 : Sl) (n_1 : Int) (v : World) (Q : Value → World → Prop) (h : vc155n x_0 n_1 v Q) : Trip Tryz.prog 155 #[x_0.val, .int .i64 n_1] v Q :=
  trip_of_eq (args := [.sl x_0, .num .i64 n_1]) (A := ⟨[], [], [], [], [8, 12, 17, 20, 20, 25, 26, 27, 28, 32, 34, 35, 42, 43, 44, 45, 46, 47, 48, 55, 60, 61, 65, 66, 67, 68, 69, 70, 72, 73, 74, 75, 81, 85, 89, 90, 95, 96, 97, 98, 99, 100, 101, 102, 103, 105, 106, 107, 108, 111, 112, 113, 114, 117, 120, 122, 123, 125, 126, 127, 128, 129, 130, 133, 137, 138, 139, 140, 146, 148, 149, 152, 156, 161, 162, 165, 185]⟩) Tryz.func155 (by kernel_rfl) (by kernel_rfl) (by kernel_rfl : vc155n x_0 n_1 v Q = _) h

end Go.Vc
