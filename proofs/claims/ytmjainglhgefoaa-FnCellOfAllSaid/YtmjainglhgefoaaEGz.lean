/- Part of the proofs about the heaps and memories: a law is joined in the text whose name ends in W and the law. -/
import Derived.Test.YtmjainglhgefoaaEG
namespace Go.Vc
open Go Go.Proofs
set_option linter.all false
/-- slices.ContainsFunc[[]int,int] -/
def vc121z (x_0 : Sl) (f_1 : Nat) (v : World) (Q : Value → World → Prop) : Prop :=
  Trip Try.prog 136 #[x_0.val, .func (.func f_1) #[] #[]] v fun r1 w2 =>
    ∃ n3 : Int, r1 = .int .i64 n3 ∧
    Q (.bool (decide (n3 ≥ 0))) w2
theorem of121z (x_0 : Sl) (f_1 : Nat) (v : World) (Q : Value → World → Prop) (h : vc121z x_0 f_1 v Q) : Trip Try.prog 121 #[x_0.val, .func (.func f_1) #[] #[]] v Q :=
  trip_of_eq (args := [.sl x_0, .clo f_1 []]) (A := ⟨[], [], [], [], [18, 24, 25, 26, 28, 32, 34, 37, 39, 43, 48, 49, 50, 55, 56, 59, 66, 68, 69, 72, 73, 76, 78, 86, 87, 88, 89, 93, 95, 96, 99, 103, 112, 113, 114, 118, 119, 123, 126, 128, 130, 134, 135, 137, 141, 142, 143]⟩) Try.func121 (by kernel_rfl) (by kernel_rfl) (by kernel_rfl : vc121z x_0 f_1 v Q = _) h

/-- slices.IndexFunc[[]int,int] -/
def vc136z (x_0 : Sl) (f_1 : Nat) (v : World) (Q : Value → World → Prop) : Prop :=
  ∃ I1 : Int → World → Prop, ∃ m2 : Int → World → Nat, I1 0 v ∧
  ∀ n3 : Int, ∀ w4 : World, I1 n3 w4 →
  ((decide (n3 < (x_0.n : Int))) = true →
    IxOk x_0 n3 ∧
    ∃ n5 : Int, w4.cell? ((elA x_0 n3 1).add 0) = some (.int .i64 n5) ∧
    Trip Try.prog f_1 #[.int .i64 n5] w4 fun r6 w7 =>
      ∃ q8 : Bool, r6 = .bool q8 ∧
      (q8 = true →
        Q (.int .i64 n3) w7) ∧
      (q8 = false →
        ∃ n9 : Int, Wr .i64 (n3 + 1) n9 ∧
        I1 n9 w7 ∧
        m2 n9 w7 < m2 n3 w4)) ∧
  ((decide (n3 < (x_0.n : Int))) = false →
    Q (.int .i64 (-1)) w4)
theorem of136z (x_0 : Sl) (f_1 : Nat) (v : World) (Q : Value → World → Prop) (h : vc136z x_0 f_1 v Q) : Trip Try.prog 136 #[x_0.val, .func (.func f_1) #[] #[]] v Q :=
  trip_of_eq (args := [.sl x_0, .clo f_1 []]) (A := ⟨[(2, [(8, .int .i64)], [])], [], [], [], [18, 24, 25, 26, 28, 32, 34, 37, 39, 43, 48, 49, 50, 55, 56, 59, 66, 68, 69, 72, 73, 76, 78, 86, 87, 88, 89, 93, 95, 96, 99, 103, 112, 113, 114, 118, 119, 123, 126, 128, 130, 134, 135, 137, 141, 142, 143]⟩) Try.func136 (by kernel_rfl) (by kernel_rfl) (by kernel_rfl : vc136z x_0 f_1 v Q = _) h

end Go.Vc
