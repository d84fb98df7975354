/- Part of the proofs about the heaps and memories: a law is joined in the text whose name ends in W and the law. -/
import Derived.Test.YtojmcdmbkfigaaaGreatEG
namespace Go.Vc
open Go Go.Proofs
set_option linter.all false
/-- (impl.varSet).with -/
def vc155n (x_0 : Sl) (n_1 : Int) (v : World) (Q : Value → World → Prop) : Prop :=
  Trip Tryz.prog 158 #[x_0.val, .int .i64 n_1] v fun r1 w2 =>
    ∃ n3 : Int, ∃ q4 : Bool, r1 = .tuple #[.int .i64 n3, .bool q4] ∧
    (q4 = true →
      Q (x_0.val) w2) ∧
    (q4 = false →
      Trip Tryz.prog 160 #[x_0.val] w2 fun r5 w6 =>
        ∃ x7 : Sl, r5 = x7.val ∧
        StepT Tryz.prog (Instr.buildSlice 37 1 #[(0, (.int .i64 n_1))]) w6 fun r8 w9 =>
          ∃ x10 : Sl, r8 = x10.val ∧
          Trip Tryz.prog 159 #[x7.val, .int .i64 n3, x10.val] w9 fun r11 w12 =>
            ∃ x13 : Sl, r11 = x13.val ∧
            Q (x13.val) w12)
theorem of155n (x_0 : Sl) (n_1 : Int) (v : World) (Q : Value → World → Prop) (h : vc155n x_0 n_1 v Q) : Trip Tryz.prog 155 #[x_0.val, .int .i64 n_1] v Q :=
  trip_of_eq (args := [.sl x_0, .num .i64 n_1]) (A := ⟨[], [], [], [], [8, 12, 17, 20, 20, 25, 26, 27, 28, 32, 34, 35, 42, 43, 44, 45, 46, 47, 48, 55, 60, 61, 65, 66, 67, 68, 69, 70, 72, 73, 74, 75, 81, 85, 89, 90, 95, 96, 97, 98, 99, 100, 101, 102, 103, 105, 106, 107, 108, 111, 112, 113, 114, 117, 120, 122, 123, 125, 126, 127, 128, 129, 130, 133, 137, 138, 139, 140, 146, 148, 149, 152, 156, 161, 162, 165, 185]⟩) Tryz.func155 (by kernel_rfl) (by kernel_rfl) (by kernel_rfl : vc155n x_0 n_1 v Q = _) h

end Go.Vc
