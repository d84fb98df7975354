/- Part of the proofs about the heaps and memories: a law is joined in the text whose name ends in W and the law. -/
import Derived.Test.YtlmhbeohfihbnaaEG
namespace Go.Vc
open Go Go.Proofs
set_option linter.all false
/-- slices.ContainsFunc[[]int,int] -/
def vc78z (x_0 : Sl) (f_1 : Nat) (v : World) (Q : Value → World → Prop) : Prop :=
  Trip Try.prog 83 #[x_0.val, .func (.func f_1) #[] #[]] v fun r1 w2 =>
    ∃ n3 : Int, r1 = .int .i64 n3 ∧
    Q (.bool (decide (n3 ≥ 0))) w2
theorem of78z (x_0 : Sl) (f_1 : Nat) (v : World) (Q : Value → World → Prop) (h : vc78z x_0 f_1 v Q) : Trip Try.prog 78 #[x_0.val, .func (.func f_1) #[] #[]] v Q :=
  trip_of_eq (args := [.sl x_0, .clo f_1 []]) (A := ⟨[], [], [], [], [12, 20, 22, 31, 32, 34, 35, 36, 40, 42, 46, 50, 52, 53, 55, 65, 68, 70, 72, 75, 76, 77, 80, 81, 82, 84, 85, 86]⟩) Try.func78 (by kernel_rfl) (by kernel_rfl) (by kernel_rfl : vc78z x_0 f_1 v Q = _) h

/-- slices.IndexFunc[[]int,int] -/
def vc83z (x_0 : Sl) (f_1 : Nat) (v : World) (Q : Value → World → Prop) : Prop :=
  ∃ I1 : Int → World → Prop, ∃ m2 : Int → World → Nat, I1 0 v ∧
  ∀ n3 : Int, ∀ w4 : World, I1 n3 w4 →
  ((decide (n3 < (x_0.n : Int))) = true →
    IxOk x_0 n3 ∧
    ∃ n5 : Int, w4.cell? ((elA x_0 n3 1).add 0) = some (.int .i64 n5) ∧
    Trip Try.prog f_1 #[.int .i64 n5] w4 fun r6 w7 =>
      ∃ q8 : Bool, r6 = .bool q8 ∧
      (q8 = true →
        Q (.int .i64 n3) w7) ∧
      (q8 = false →
        ∃ n9 : Int, Wr .i64 (n3 + 1) n9 ∧
        I1 n9 w7 ∧
        m2 n9 w7 < m2 n3 w4)) ∧
  ((decide (n3 < (x_0.n : Int))) = false →
    Q (.int .i64 (-1)) w4)
theorem of83z (x_0 : Sl) (f_1 : Nat) (v : World) (Q : Value → World → Prop) (h : vc83z x_0 f_1 v Q) : Trip Try.prog 83 #[x_0.val, .func (.func f_1) #[] #[]] v Q :=
  trip_of_eq (args := [.sl x_0, .clo f_1 []]) (A := ⟨[(2, [(8, .int .i64)], [])], [], [], [], [12, 20, 22, 31, 32, 34, 35, 36, 40, 42, 46, 50, 52, 53, 55, 65, 68, 70, 72, 75, 76, 77, 80, 81, 82, 84, 85, 86]⟩) Try.func83 (by kernel_rfl) (by kernel_rfl) (by kernel_rfl : vc83z x_0 f_1 v Q = _) h

end Go.Vc
