/- Part of the proofs about the heaps and memories: a law is joined in the text whose name ends in W and the law. -/
import Derived.Test.YtlmhbeohfihbnaaEG
namespace Go.Vc
open Go Go.Proofs
set_option linter.all false
/-- impl.AllocBlock -/
def vc10j (x0_0 : Sl) (x0_1 : Sl) (n_1 : Int) (x_2 : Sl) (v : World) (Q : Value → World → Prop) : Prop :=
  Trip Try.prog 30 #[.agg #[x0_0.val, x0_1.val]] v fun r1 w2 =>
    ∃ x3 : Sl, ∃ y4 : Vl, ∃ q5 : Bool, r1 = .tuple #[.agg #[x3.val, y4.x], .bool q5] ∧
    (((((!q5) || (decide (n_1 < 0))) || (decide (n_1 > 99))) || (decide ((x_2.n : Int) > 3))) = true →
      Q (.tuple #[.agg #[.slice none 0 0, .slice none 0 0], .int .i64 0]) w2) ∧
    (((((!q5) || (decide (n_1 < 0))) || (decide (n_1 > 99))) || (decide ((x_2.n : Int) > 3))) = false →
      ∃ I6 : Int → World → Prop, ∃ m7 : Int → World → Nat, I6 0 w2 ∧
      ∀ n8 : Int, ∀ w9 : World, I6 n8 w9 →
      ((decide (n8 < (x_2.n : Int))) = true →
        IxOk x_2 n8 ∧
        ∃ n10 : Int, w9.cell? ((elA x_2 n8 1).add 0) = some (.int .i64 n10) ∧
        ∃ n11 : Int, ∃ q12 : Bool, (Trip Try.prog 31 #[.agg #[x3.val, y4.x], .int .i64 n10] w9 fun r13 w14 => r13 = .tuple #[.int .i64 n11, .bool q12] ∧ Sub w9 w14) ∧
        ∃ q15 : Bool, ((!q12) = true →
          (Trip Try.prog 32 #[.int .i64 n10] w9 fun r16 w17 => r16 = .bool q15 ∧ Sub w9 w17)) ∧
        (((!q12) && (!q15)) = true →
          Q (.tuple #[.agg #[.slice none 0 0, .slice none 0 0], .int .i64 0]) w9) ∧
        (((!q12) && (!q15)) = false →
          ∃ n18 : Int, Wr .i64 (n8 + 1) n18 ∧
          ((.sl x0_0 : SV) = .sl x0_0) ∧
          ((.sl x0_1 : SV) = .sl x0_1) ∧
          ((.sl (Sl.mk none 0 0) : SV) = .sl (Sl.mk none 0 0)) ∧
          ((.sl (Sl.mk none 0 0) : SV) = .sl (Sl.mk none 0 0)) ∧
          ((.sl x3 : SV) = .sl x3) ∧
          ((.v y4 : SV) = .v y4) ∧
          I6 n18 w9 ∧
          m7 n18 w9 < m7 n8 w9)) ∧
      ((decide (n8 < (x_2.n : Int))) = false →
        Trip Try.prog 33 #[.agg #[x0_0.val, x0_1.val]] w9 fun r19 w20 =>
          ∃ x21 : Sl, ∃ x22 : Sl, r19 = .agg #[x21.val, x22.val] ∧
          IxOk x22 (x_2.n : Int) ∧
          ∃ n23 : Int, w20.cell? ((elA x22 (x_2.n : Int) 1).add 0) = some (.int .i64 n23) ∧
          ∃ n24 : Int, Wr .i64 (n23 - 1) n24 ∧
          ∃ J25 : Int → Sl → World → Prop, (((decide (n24 < 0)) = true →
              ∃ n26 : Int, Wr .i64 (2 + (x_2.n : Int)) n26 ∧
              StepT Try.prog (Builtin.append_ #[23, 3] 23 #[(x21.val), (.int .i64 n26)]) w20 fun r27 w28 =>
                ∃ x29 : Sl, r27 = x29.val ∧
                ((.sl x0_0 : SV) = .sl x0_0) ∧
                ((.sl x0_1 : SV) = .sl x0_1) ∧
                ((.sl (Sl.mk none 0 0) : SV) = .sl (Sl.mk none 0 0)) ∧
                ((.sl (Sl.mk none 0 0) : SV) = .sl (Sl.mk none 0 0)) ∧
                ((.sl x3 : SV) = .sl x3) ∧
                ((.v y4 : SV) = .v y4) ∧
                ((.sl x22 : SV) = .sl x22) ∧
                J25 (x21.n : Int) x29 w28) ∧
            ((decide (n24 < 0)) = false →
              ∃ n30 : Int, Wr .i64 (n24 + 1) n30 ∧
              IxOk x21 n30 ∧
              ∃ n31 : Int, w20.cell? ((elA x21 n30 1).add 0) = some (.int .i64 n31) ∧
              ∃ n32 : Int, ((4 : Int) ≠ 0 ∧ Wr .i64 (Int.tdiv n31 4) n32) ∧
              IxOk x22 (x_2.n : Int) ∧
              StoreAt w20 (elA x22 (x_2.n : Int) 1) 0 [.int .i64 n32] fun w33 =>
                ((.sl x0_0 : SV) = .sl x0_0) ∧
                ((.sl x0_1 : SV) = .sl x0_1) ∧
                ((.sl (Sl.mk none 0 0) : SV) = .sl (Sl.mk none 0 0)) ∧
                ((.sl (Sl.mk none 0 0) : SV) = .sl (Sl.mk none 0 0)) ∧
                ((.sl x3 : SV) = .sl x3) ∧
                ((.v y4 : SV) = .v y4) ∧
                ((.sl x22 : SV) = .sl x22) ∧
                J25 n24 x21 w33)) ∧
          ∀ n34 : Int, ∀ x35 : Sl, ∀ w36 : World, J25 n34 x35 w36 →
          ∃ J37 : World → Prop, (IxOk x35 n34 ∧
            (((∃ n38 : Int, Wr .i64 (n34 + 1) n38 ∧
                  (∃ n39 : Int, Wr .i64 (4 * n_1) n39 ∧
                    (∃ n40 : Int, Wr .i64 (n39 + (x_2.n : Int)) n40 ∧
                      StoreAt w36 (elA x35 n34 1) 0 [.int .i64 1] fun w41 =>
                        IxOk x35 n38 ∧
                        StoreAt w41 (elA x35 n38 1) 0 [.int .i64 n40] fun w42 =>
                          ((.sl x0_0 : SV) = .sl x0_0) ∧
                          ((.sl x0_1 : SV) = .sl x0_1) ∧
                          ((.sl (Sl.mk none 0 0) : SV) = .sl (Sl.mk none 0 0)) ∧
                          ((.sl (Sl.mk none 0 0) : SV) = .sl (Sl.mk none 0 0)) ∧
                          ((.sl x3 : SV) = .sl x3) ∧
                          ((.v y4 : SV) = .v y4) ∧
                          ((.sl x35 : SV) = .sl x35) ∧
                          ((.sl x22 : SV) = .sl x22) ∧
                          J37 w42) ∧
                    StoreAt w36 (elA x35 n34 1) 0 [.int .i64 1] fun w43 =>
                      ∃ n44 : Int, Wr .i64 (n39 + (x_2.n : Int)) n44 ∧
                      IxOk x35 n38 ∧
                      StoreAt w43 (elA x35 n38 1) 0 [.int .i64 n44] fun w45 =>
                        ((.sl x0_0 : SV) = .sl x0_0) ∧
                        ((.sl x0_1 : SV) = .sl x0_1) ∧
                        ((.sl (Sl.mk none 0 0) : SV) = .sl (Sl.mk none 0 0)) ∧
                        ((.sl (Sl.mk none 0 0) : SV) = .sl (Sl.mk none 0 0)) ∧
                        ((.sl x3 : SV) = .sl x3) ∧
                        ((.v y4 : SV) = .v y4) ∧
                        ((.sl x35 : SV) = .sl x35) ∧
                        ((.sl x22 : SV) = .sl x22) ∧
                        J37 w45) ∧
                  StoreAt w36 (elA x35 n34 1) 0 [.int .i64 1] fun w46 =>
                    ∃ n47 : Int, Wr .i64 (4 * n_1) n47 ∧
                    ∃ n48 : Int, Wr .i64 (n47 + (x_2.n : Int)) n48 ∧
                    IxOk x35 n38 ∧
                    StoreAt w46 (elA x35 n38 1) 0 [.int .i64 n48] fun w49 =>
                      ((.sl x0_0 : SV) = .sl x0_0) ∧
                      ((.sl x0_1 : SV) = .sl x0_1) ∧
                      ((.sl (Sl.mk none 0 0) : SV) = .sl (Sl.mk none 0 0)) ∧
                      ((.sl (Sl.mk none 0 0) : SV) = .sl (Sl.mk none 0 0)) ∧
                      ((.sl x3 : SV) = .sl x3) ∧
                      ((.v y4 : SV) = .v y4) ∧
                      ((.sl x35 : SV) = .sl x35) ∧
                      ((.sl x22 : SV) = .sl x22) ∧
                      J37 w49) ∧
                (∃ n50 : Int, Wr .i64 (4 * n_1) n50 ∧
                  (∃ n51 : Int, Wr .i64 (n34 + 1) n51 ∧
                    (∃ n52 : Int, Wr .i64 (n50 + (x_2.n : Int)) n52 ∧
                      StoreAt w36 (elA x35 n34 1) 0 [.int .i64 1] fun w53 =>
                        IxOk x35 n51 ∧
                        StoreAt w53 (elA x35 n51 1) 0 [.int .i64 n52] fun w54 =>
                          ((.sl x0_0 : SV) = .sl x0_0) ∧
                          ((.sl x0_1 : SV) = .sl x0_1) ∧
                          ((.sl (Sl.mk none 0 0) : SV) = .sl (Sl.mk none 0 0)) ∧
                          ((.sl (Sl.mk none 0 0) : SV) = .sl (Sl.mk none 0 0)) ∧
                          ((.sl x3 : SV) = .sl x3) ∧
                          ((.v y4 : SV) = .v y4) ∧
                          ((.sl x35 : SV) = .sl x35) ∧
                          ((.sl x22 : SV) = .sl x22) ∧
                          J37 w54) ∧
                    StoreAt w36 (elA x35 n34 1) 0 [.int .i64 1] fun w55 =>
                      ∃ n56 : Int, Wr .i64 (n50 + (x_2.n : Int)) n56 ∧
                      IxOk x35 n51 ∧
                      StoreAt w55 (elA x35 n51 1) 0 [.int .i64 n56] fun w57 =>
                        ((.sl x0_0 : SV) = .sl x0_0) ∧
                        ((.sl x0_1 : SV) = .sl x0_1) ∧
                        ((.sl (Sl.mk none 0 0) : SV) = .sl (Sl.mk none 0 0)) ∧
                        ((.sl (Sl.mk none 0 0) : SV) = .sl (Sl.mk none 0 0)) ∧
                        ((.sl x3 : SV) = .sl x3) ∧
                        ((.v y4 : SV) = .v y4) ∧
                        ((.sl x35 : SV) = .sl x35) ∧
                        ((.sl x22 : SV) = .sl x22) ∧
                        J37 w57) ∧
                  (∃ n58 : Int, Wr .i64 (n50 + (x_2.n : Int)) n58 ∧
                    (∃ n59 : Int, Wr .i64 (n34 + 1) n59 ∧
                      StoreAt w36 (elA x35 n34 1) 0 [.int .i64 1] fun w60 =>
                        IxOk x35 n59 ∧
                        StoreAt w60 (elA x35 n59 1) 0 [.int .i64 n58] fun w61 =>
                          ((.sl x0_0 : SV) = .sl x0_0) ∧
                          ((.sl x0_1 : SV) = .sl x0_1) ∧
                          ((.sl (Sl.mk none 0 0) : SV) = .sl (Sl.mk none 0 0)) ∧
                          ((.sl (Sl.mk none 0 0) : SV) = .sl (Sl.mk none 0 0)) ∧
                          ((.sl x3 : SV) = .sl x3) ∧
                          ((.v y4 : SV) = .v y4) ∧
                          ((.sl x35 : SV) = .sl x35) ∧
                          ((.sl x22 : SV) = .sl x22) ∧
                          J37 w61) ∧
                    StoreAt w36 (elA x35 n34 1) 0 [.int .i64 1] fun w62 =>
                      ∃ n63 : Int, Wr .i64 (n34 + 1) n63 ∧
                      IxOk x35 n63 ∧
                      StoreAt w62 (elA x35 n63 1) 0 [.int .i64 n58] fun w64 =>
                        ((.sl x0_0 : SV) = .sl x0_0) ∧
                        ((.sl x0_1 : SV) = .sl x0_1) ∧
                        ((.sl (Sl.mk none 0 0) : SV) = .sl (Sl.mk none 0 0)) ∧
                        ((.sl (Sl.mk none 0 0) : SV) = .sl (Sl.mk none 0 0)) ∧
                        ((.sl x3 : SV) = .sl x3) ∧
                        ((.v y4 : SV) = .v y4) ∧
                        ((.sl x35 : SV) = .sl x35) ∧
                        ((.sl x22 : SV) = .sl x22) ∧
                        J37 w64) ∧
                  StoreAt w36 (elA x35 n34 1) 0 [.int .i64 1] fun w65 =>
                    ∃ n66 : Int, Wr .i64 (n34 + 1) n66 ∧
                    ∃ n67 : Int, Wr .i64 (n50 + (x_2.n : Int)) n67 ∧
                    IxOk x35 n66 ∧
                    StoreAt w65 (elA x35 n66 1) 0 [.int .i64 n67] fun w68 =>
                      ((.sl x0_0 : SV) = .sl x0_0) ∧
                      ((.sl x0_1 : SV) = .sl x0_1) ∧
                      ((.sl (Sl.mk none 0 0) : SV) = .sl (Sl.mk none 0 0)) ∧
                      ((.sl (Sl.mk none 0 0) : SV) = .sl (Sl.mk none 0 0)) ∧
                      ((.sl x3 : SV) = .sl x3) ∧
                      ((.v y4 : SV) = .v y4) ∧
                      ((.sl x35 : SV) = .sl x35) ∧
                      ((.sl x22 : SV) = .sl x22) ∧
                      J37 w68) ∧
                StoreAt w36 (elA x35 n34 1) 0 [.int .i64 1] fun w69 =>
                  ∃ n70 : Int, Wr .i64 (n34 + 1) n70 ∧
                  ∃ n71 : Int, Wr .i64 (4 * n_1) n71 ∧
                  ∃ n72 : Int, Wr .i64 (n71 + (x_2.n : Int)) n72 ∧
                  IxOk x35 n70 ∧
                  StoreAt w69 (elA x35 n70 1) 0 [.int .i64 n72] fun w73 =>
                    ((.sl x0_0 : SV) = .sl x0_0) ∧
                    ((.sl x0_1 : SV) = .sl x0_1) ∧
                    ((.sl (Sl.mk none 0 0) : SV) = .sl (Sl.mk none 0 0)) ∧
                    ((.sl (Sl.mk none 0 0) : SV) = .sl (Sl.mk none 0 0)) ∧
                    ((.sl x3 : SV) = .sl x3) ∧
                    ((.v y4 : SV) = .v y4) ∧
                    ((.sl x35 : SV) = .sl x35) ∧
                    ((.sl x22 : SV) = .sl x22) ∧
                    J37 w73) ∧
              (∃ n74 : Int, Wr .i64 (n34 + 1) n74 ∧
                ((∃ n75 : Int, Wr .i64 (4 * n_1) n75 ∧
                    (∃ n76 : Int, Wr .i64 (n75 + (x_2.n : Int)) n76 ∧
                      StoreAt w36 (elA x35 n34 1) 0 [.int .i64 1] fun w77 =>
                        IxOk x35 n74 ∧
                        StoreAt w77 (elA x35 n74 1) 0 [.int .i64 n76] fun w78 =>
                          ((.sl x0_0 : SV) = .sl x0_0) ∧
                          ((.sl x0_1 : SV) = .sl x0_1) ∧
                          ((.sl (Sl.mk none 0 0) : SV) = .sl (Sl.mk none 0 0)) ∧
                          ((.sl (Sl.mk none 0 0) : SV) = .sl (Sl.mk none 0 0)) ∧
                          ((.sl x3 : SV) = .sl x3) ∧
                          ((.v y4 : SV) = .v y4) ∧
                          ((.sl x35 : SV) = .sl x35) ∧
                          ((.sl x22 : SV) = .sl x22) ∧
                          J37 w78) ∧
                    StoreAt w36 (elA x35 n34 1) 0 [.int .i64 1] fun w79 =>
                      ∃ n80 : Int, Wr .i64 (n75 + (x_2.n : Int)) n80 ∧
                      IxOk x35 n74 ∧
                      StoreAt w79 (elA x35 n74 1) 0 [.int .i64 n80] fun w81 =>
                        ((.sl x0_0 : SV) = .sl x0_0) ∧
                        ((.sl x0_1 : SV) = .sl x0_1) ∧
                        ((.sl (Sl.mk none 0 0) : SV) = .sl (Sl.mk none 0 0)) ∧
                        ((.sl (Sl.mk none 0 0) : SV) = .sl (Sl.mk none 0 0)) ∧
                        ((.sl x3 : SV) = .sl x3) ∧
                        ((.v y4 : SV) = .v y4) ∧
                        ((.sl x35 : SV) = .sl x35) ∧
                        ((.sl x22 : SV) = .sl x22) ∧
                        J37 w81) ∧
                  StoreAt w36 (elA x35 n34 1) 0 [.int .i64 1] fun w82 =>
                    ∃ n83 : Int, Wr .i64 (4 * n_1) n83 ∧
                    ∃ n84 : Int, Wr .i64 (n83 + (x_2.n : Int)) n84 ∧
                    IxOk x35 n74 ∧
                    StoreAt w82 (elA x35 n74 1) 0 [.int .i64 n84] fun w85 =>
                      ((.sl x0_0 : SV) = .sl x0_0) ∧
                      ((.sl x0_1 : SV) = .sl x0_1) ∧
                      ((.sl (Sl.mk none 0 0) : SV) = .sl (Sl.mk none 0 0)) ∧
                      ((.sl (Sl.mk none 0 0) : SV) = .sl (Sl.mk none 0 0)) ∧
                      ((.sl x3 : SV) = .sl x3) ∧
                      ((.v y4 : SV) = .v y4) ∧
                      ((.sl x35 : SV) = .sl x35) ∧
                      ((.sl x22 : SV) = .sl x22) ∧
                      J37 w85) ∧
                (∃ n86 : Int, Wr .i64 (4 * n_1) n86 ∧
                  ((∃ n87 : Int, Wr .i64 (n86 + (x_2.n : Int)) n87 ∧
                      StoreAt w36 (elA x35 n34 1) 0 [.int .i64 1] fun w88 =>
                        IxOk x35 n74 ∧
                        StoreAt w88 (elA x35 n74 1) 0 [.int .i64 n87] fun w89 =>
                          ((.sl x0_0 : SV) = .sl x0_0) ∧
                          ((.sl x0_1 : SV) = .sl x0_1) ∧
                          ((.sl (Sl.mk none 0 0) : SV) = .sl (Sl.mk none 0 0)) ∧
                          ((.sl (Sl.mk none 0 0) : SV) = .sl (Sl.mk none 0 0)) ∧
                          ((.sl x3 : SV) = .sl x3) ∧
                          ((.v y4 : SV) = .v y4) ∧
                          ((.sl x35 : SV) = .sl x35) ∧
                          ((.sl x22 : SV) = .sl x22) ∧
                          J37 w89) ∧
                    StoreAt w36 (elA x35 n34 1) 0 [.int .i64 1] fun w90 =>
                      ∃ n91 : Int, Wr .i64 (n86 + (x_2.n : Int)) n91 ∧
                      IxOk x35 n74 ∧
                      StoreAt w90 (elA x35 n74 1) 0 [.int .i64 n91] fun w92 =>
                        ((.sl x0_0 : SV) = .sl x0_0) ∧
                        ((.sl x0_1 : SV) = .sl x0_1) ∧
                        ((.sl (Sl.mk none 0 0) : SV) = .sl (Sl.mk none 0 0)) ∧
                        ((.sl (Sl.mk none 0 0) : SV) = .sl (Sl.mk none 0 0)) ∧
                        ((.sl x3 : SV) = .sl x3) ∧
                        ((.v y4 : SV) = .v y4) ∧
                        ((.sl x35 : SV) = .sl x35) ∧
                        ((.sl x22 : SV) = .sl x22) ∧
                        J37 w92) ∧
                  (∃ n93 : Int, Wr .i64 (n86 + (x_2.n : Int)) n93 ∧
                    (StoreAt w36 (elA x35 n34 1) 0 [.int .i64 1] fun w94 =>
                        IxOk x35 n74 ∧
                        StoreAt w94 (elA x35 n74 1) 0 [.int .i64 n93] fun w95 =>
                          ((.sl x0_0 : SV) = .sl x0_0) ∧
                          ((.sl x0_1 : SV) = .sl x0_1) ∧
                          ((.sl (Sl.mk none 0 0) : SV) = .sl (Sl.mk none 0 0)) ∧
                          ((.sl (Sl.mk none 0 0) : SV) = .sl (Sl.mk none 0 0)) ∧
                          ((.sl x3 : SV) = .sl x3) ∧
                          ((.v y4 : SV) = .v y4) ∧
                          ((.sl x35 : SV) = .sl x35) ∧
                          ((.sl x22 : SV) = .sl x22) ∧
                          J37 w95) ∧
                    StoreAt w36 (elA x35 n34 1) 0 [.int .i64 1] fun w96 =>
                      IxOk x35 n74 ∧
                      StoreAt w96 (elA x35 n74 1) 0 [.int .i64 n93] fun w97 =>
                        ((.sl x0_0 : SV) = .sl x0_0) ∧
                        ((.sl x0_1 : SV) = .sl x0_1) ∧
                        ((.sl (Sl.mk none 0 0) : SV) = .sl (Sl.mk none 0 0)) ∧
                        ((.sl (Sl.mk none 0 0) : SV) = .sl (Sl.mk none 0 0)) ∧
                        ((.sl x3 : SV) = .sl x3) ∧
                        ((.v y4 : SV) = .v y4) ∧
                        ((.sl x35 : SV) = .sl x35) ∧
                        ((.sl x22 : SV) = .sl x22) ∧
                        J37 w97) ∧
                  StoreAt w36 (elA x35 n34 1) 0 [.int .i64 1] fun w98 =>
                    ∃ n99 : Int, Wr .i64 (n86 + (x_2.n : Int)) n99 ∧
                    IxOk x35 n74 ∧
                    StoreAt w98 (elA x35 n74 1) 0 [.int .i64 n99] fun w100 =>
                      ((.sl x0_0 : SV) = .sl x0_0) ∧
                      ((.sl x0_1 : SV) = .sl x0_1) ∧
                      ((.sl (Sl.mk none 0 0) : SV) = .sl (Sl.mk none 0 0)) ∧
                      ((.sl (Sl.mk none 0 0) : SV) = .sl (Sl.mk none 0 0)) ∧
                      ((.sl x3 : SV) = .sl x3) ∧
                      ((.v y4 : SV) = .v y4) ∧
                      ((.sl x35 : SV) = .sl x35) ∧
                      ((.sl x22 : SV) = .sl x22) ∧
                      J37 w100) ∧
                StoreAt w36 (elA x35 n34 1) 0 [.int .i64 1] fun w101 =>
                  ∃ n102 : Int, Wr .i64 (4 * n_1) n102 ∧
                  ∃ n103 : Int, Wr .i64 (n102 + (x_2.n : Int)) n103 ∧
                  IxOk x35 n74 ∧
                  StoreAt w101 (elA x35 n74 1) 0 [.int .i64 n103] fun w104 =>
                    ((.sl x0_0 : SV) = .sl x0_0) ∧
                    ((.sl x0_1 : SV) = .sl x0_1) ∧
                    ((.sl (Sl.mk none 0 0) : SV) = .sl (Sl.mk none 0 0)) ∧
                    ((.sl (Sl.mk none 0 0) : SV) = .sl (Sl.mk none 0 0)) ∧
                    ((.sl x3 : SV) = .sl x3) ∧
                    ((.v y4 : SV) = .v y4) ∧
                    ((.sl x35 : SV) = .sl x35) ∧
                    ((.sl x22 : SV) = .sl x22) ∧
                    J37 w104) ∧
              (∃ n105 : Int, Wr .i64 (4 * n_1) n105 ∧
                ((∃ n106 : Int, Wr .i64 (n34 + 1) n106 ∧
                    (∃ n107 : Int, Wr .i64 (n105 + (x_2.n : Int)) n107 ∧
                      StoreAt w36 (elA x35 n34 1) 0 [.int .i64 1] fun w108 =>
                        IxOk x35 n106 ∧
                        StoreAt w108 (elA x35 n106 1) 0 [.int .i64 n107] fun w109 =>
                          ((.sl x0_0 : SV) = .sl x0_0) ∧
                          ((.sl x0_1 : SV) = .sl x0_1) ∧
                          ((.sl (Sl.mk none 0 0) : SV) = .sl (Sl.mk none 0 0)) ∧
                          ((.sl (Sl.mk none 0 0) : SV) = .sl (Sl.mk none 0 0)) ∧
                          ((.sl x3 : SV) = .sl x3) ∧
                          ((.v y4 : SV) = .v y4) ∧
                          ((.sl x35 : SV) = .sl x35) ∧
                          ((.sl x22 : SV) = .sl x22) ∧
                          J37 w109) ∧
                    StoreAt w36 (elA x35 n34 1) 0 [.int .i64 1] fun w110 =>
                      ∃ n111 : Int, Wr .i64 (n105 + (x_2.n : Int)) n111 ∧
                      IxOk x35 n106 ∧
                      StoreAt w110 (elA x35 n106 1) 0 [.int .i64 n111] fun w112 =>
                        ((.sl x0_0 : SV) = .sl x0_0) ∧
                        ((.sl x0_1 : SV) = .sl x0_1) ∧
                        ((.sl (Sl.mk none 0 0) : SV) = .sl (Sl.mk none 0 0)) ∧
                        ((.sl (Sl.mk none 0 0) : SV) = .sl (Sl.mk none 0 0)) ∧
                        ((.sl x3 : SV) = .sl x3) ∧
                        ((.v y4 : SV) = .v y4) ∧
                        ((.sl x35 : SV) = .sl x35) ∧
                        ((.sl x22 : SV) = .sl x22) ∧
                        J37 w112) ∧
                  (∃ n113 : Int, Wr .i64 (n105 + (x_2.n : Int)) n113 ∧
                    (∃ n114 : Int, Wr .i64 (n34 + 1) n114 ∧
                      StoreAt w36 (elA x35 n34 1) 0 [.int .i64 1] fun w115 =>
                        IxOk x35 n114 ∧
                        StoreAt w115 (elA x35 n114 1) 0 [.int .i64 n113] fun w116 =>
                          ((.sl x0_0 : SV) = .sl x0_0) ∧
                          ((.sl x0_1 : SV) = .sl x0_1) ∧
                          ((.sl (Sl.mk none 0 0) : SV) = .sl (Sl.mk none 0 0)) ∧
                          ((.sl (Sl.mk none 0 0) : SV) = .sl (Sl.mk none 0 0)) ∧
                          ((.sl x3 : SV) = .sl x3) ∧
                          ((.v y4 : SV) = .v y4) ∧
                          ((.sl x35 : SV) = .sl x35) ∧
                          ((.sl x22 : SV) = .sl x22) ∧
                          J37 w116) ∧
                    StoreAt w36 (elA x35 n34 1) 0 [.int .i64 1] fun w117 =>
                      ∃ n118 : Int, Wr .i64 (n34 + 1) n118 ∧
                      IxOk x35 n118 ∧
                      StoreAt w117 (elA x35 n118 1) 0 [.int .i64 n113] fun w119 =>
                        ((.sl x0_0 : SV) = .sl x0_0) ∧
                        ((.sl x0_1 : SV) = .sl x0_1) ∧
                        ((.sl (Sl.mk none 0 0) : SV) = .sl (Sl.mk none 0 0)) ∧
                        ((.sl (Sl.mk none 0 0) : SV) = .sl (Sl.mk none 0 0)) ∧
                        ((.sl x3 : SV) = .sl x3) ∧
                        ((.v y4 : SV) = .v y4) ∧
                        ((.sl x35 : SV) = .sl x35) ∧
                        ((.sl x22 : SV) = .sl x22) ∧
                        J37 w119) ∧
                  StoreAt w36 (elA x35 n34 1) 0 [.int .i64 1] fun w120 =>
                    ∃ n121 : Int, Wr .i64 (n34 + 1) n121 ∧
                    ∃ n122 : Int, Wr .i64 (n105 + (x_2.n : Int)) n122 ∧
                    IxOk x35 n121 ∧
                    StoreAt w120 (elA x35 n121 1) 0 [.int .i64 n122] fun w123 =>
                      ((.sl x0_0 : SV) = .sl x0_0) ∧
                      ((.sl x0_1 : SV) = .sl x0_1) ∧
                      ((.sl (Sl.mk none 0 0) : SV) = .sl (Sl.mk none 0 0)) ∧
                      ((.sl (Sl.mk none 0 0) : SV) = .sl (Sl.mk none 0 0)) ∧
                      ((.sl x3 : SV) = .sl x3) ∧
                      ((.v y4 : SV) = .v y4) ∧
                      ((.sl x35 : SV) = .sl x35) ∧
                      ((.sl x22 : SV) = .sl x22) ∧
                      J37 w123) ∧
                (∃ n124 : Int, Wr .i64 (n34 + 1) n124 ∧
                  ((∃ n125 : Int, Wr .i64 (n105 + (x_2.n : Int)) n125 ∧
                      StoreAt w36 (elA x35 n34 1) 0 [.int .i64 1] fun w126 =>
                        IxOk x35 n124 ∧
                        StoreAt w126 (elA x35 n124 1) 0 [.int .i64 n125] fun w127 =>
                          ((.sl x0_0 : SV) = .sl x0_0) ∧
                          ((.sl x0_1 : SV) = .sl x0_1) ∧
                          ((.sl (Sl.mk none 0 0) : SV) = .sl (Sl.mk none 0 0)) ∧
                          ((.sl (Sl.mk none 0 0) : SV) = .sl (Sl.mk none 0 0)) ∧
                          ((.sl x3 : SV) = .sl x3) ∧
                          ((.v y4 : SV) = .v y4) ∧
                          ((.sl x35 : SV) = .sl x35) ∧
                          ((.sl x22 : SV) = .sl x22) ∧
                          J37 w127) ∧
                    StoreAt w36 (elA x35 n34 1) 0 [.int .i64 1] fun w128 =>
                      ∃ n129 : Int, Wr .i64 (n105 + (x_2.n : Int)) n129 ∧
                      IxOk x35 n124 ∧
                      StoreAt w128 (elA x35 n124 1) 0 [.int .i64 n129] fun w130 =>
                        ((.sl x0_0 : SV) = .sl x0_0) ∧
                        ((.sl x0_1 : SV) = .sl x0_1) ∧
                        ((.sl (Sl.mk none 0 0) : SV) = .sl (Sl.mk none 0 0)) ∧
                        ((.sl (Sl.mk none 0 0) : SV) = .sl (Sl.mk none 0 0)) ∧
                        ((.sl x3 : SV) = .sl x3) ∧
                        ((.v y4 : SV) = .v y4) ∧
                        ((.sl x35 : SV) = .sl x35) ∧
                        ((.sl x22 : SV) = .sl x22) ∧
                        J37 w130) ∧
                  (∃ n131 : Int, Wr .i64 (n105 + (x_2.n : Int)) n131 ∧
                    (StoreAt w36 (elA x35 n34 1) 0 [.int .i64 1] fun w132 =>
                        IxOk x35 n124 ∧
                        StoreAt w132 (elA x35 n124 1) 0 [.int .i64 n131] fun w133 =>
                          ((.sl x0_0 : SV) = .sl x0_0) ∧
                          ((.sl x0_1 : SV) = .sl x0_1) ∧
                          ((.sl (Sl.mk none 0 0) : SV) = .sl (Sl.mk none 0 0)) ∧
                          ((.sl (Sl.mk none 0 0) : SV) = .sl (Sl.mk none 0 0)) ∧
                          ((.sl x3 : SV) = .sl x3) ∧
                          ((.v y4 : SV) = .v y4) ∧
                          ((.sl x35 : SV) = .sl x35) ∧
                          ((.sl x22 : SV) = .sl x22) ∧
                          J37 w133) ∧
                    StoreAt w36 (elA x35 n34 1) 0 [.int .i64 1] fun w134 =>
                      IxOk x35 n124 ∧
                      StoreAt w134 (elA x35 n124 1) 0 [.int .i64 n131] fun w135 =>
                        ((.sl x0_0 : SV) = .sl x0_0) ∧
                        ((.sl x0_1 : SV) = .sl x0_1) ∧
                        ((.sl (Sl.mk none 0 0) : SV) = .sl (Sl.mk none 0 0)) ∧
                        ((.sl (Sl.mk none 0 0) : SV) = .sl (Sl.mk none 0 0)) ∧
                        ((.sl x3 : SV) = .sl x3) ∧
                        ((.v y4 : SV) = .v y4) ∧
                        ((.sl x35 : SV) = .sl x35) ∧
                        ((.sl x22 : SV) = .sl x22) ∧
                        J37 w135) ∧
                  StoreAt w36 (elA x35 n34 1) 0 [.int .i64 1] fun w136 =>
                    ∃ n137 : Int, Wr .i64 (n105 + (x_2.n : Int)) n137 ∧
                    IxOk x35 n124 ∧
                    StoreAt w136 (elA x35 n124 1) 0 [.int .i64 n137] fun w138 =>
                      ((.sl x0_0 : SV) = .sl x0_0) ∧
                      ((.sl x0_1 : SV) = .sl x0_1) ∧
                      ((.sl (Sl.mk none 0 0) : SV) = .sl (Sl.mk none 0 0)) ∧
                      ((.sl (Sl.mk none 0 0) : SV) = .sl (Sl.mk none 0 0)) ∧
                      ((.sl x3 : SV) = .sl x3) ∧
                      ((.v y4 : SV) = .v y4) ∧
                      ((.sl x35 : SV) = .sl x35) ∧
                      ((.sl x22 : SV) = .sl x22) ∧
                      J37 w138) ∧
                (∃ n139 : Int, Wr .i64 (n105 + (x_2.n : Int)) n139 ∧
                  ((∃ n140 : Int, Wr .i64 (n34 + 1) n140 ∧
                      StoreAt w36 (elA x35 n34 1) 0 [.int .i64 1] fun w141 =>
                        IxOk x35 n140 ∧
                        StoreAt w141 (elA x35 n140 1) 0 [.int .i64 n139] fun w142 =>
                          ((.sl x0_0 : SV) = .sl x0_0) ∧
                          ((.sl x0_1 : SV) = .sl x0_1) ∧
                          ((.sl (Sl.mk none 0 0) : SV) = .sl (Sl.mk none 0 0)) ∧
                          ((.sl (Sl.mk none 0 0) : SV) = .sl (Sl.mk none 0 0)) ∧
                          ((.sl x3 : SV) = .sl x3) ∧
                          ((.v y4 : SV) = .v y4) ∧
                          ((.sl x35 : SV) = .sl x35) ∧
                          ((.sl x22 : SV) = .sl x22) ∧
                          J37 w142) ∧
                    StoreAt w36 (elA x35 n34 1) 0 [.int .i64 1] fun w143 =>
                      ∃ n144 : Int, Wr .i64 (n34 + 1) n144 ∧
                      IxOk x35 n144 ∧
                      StoreAt w143 (elA x35 n144 1) 0 [.int .i64 n139] fun w145 =>
                        ((.sl x0_0 : SV) = .sl x0_0) ∧
                        ((.sl x0_1 : SV) = .sl x0_1) ∧
                        ((.sl (Sl.mk none 0 0) : SV) = .sl (Sl.mk none 0 0)) ∧
                        ((.sl (Sl.mk none 0 0) : SV) = .sl (Sl.mk none 0 0)) ∧
                        ((.sl x3 : SV) = .sl x3) ∧
                        ((.v y4 : SV) = .v y4) ∧
                        ((.sl x35 : SV) = .sl x35) ∧
                        ((.sl x22 : SV) = .sl x22) ∧
                        J37 w145) ∧
                  (∃ n146 : Int, Wr .i64 (n34 + 1) n146 ∧
                    (StoreAt w36 (elA x35 n34 1) 0 [.int .i64 1] fun w147 =>
                        IxOk x35 n146 ∧
                        StoreAt w147 (elA x35 n146 1) 0 [.int .i64 n139] fun w148 =>
                          ((.sl x0_0 : SV) = .sl x0_0) ∧
                          ((.sl x0_1 : SV) = .sl x0_1) ∧
                          ((.sl (Sl.mk none 0 0) : SV) = .sl (Sl.mk none 0 0)) ∧
                          ((.sl (Sl.mk none 0 0) : SV) = .sl (Sl.mk none 0 0)) ∧
                          ((.sl x3 : SV) = .sl x3) ∧
                          ((.v y4 : SV) = .v y4) ∧
                          ((.sl x35 : SV) = .sl x35) ∧
                          ((.sl x22 : SV) = .sl x22) ∧
                          J37 w148) ∧
                    StoreAt w36 (elA x35 n34 1) 0 [.int .i64 1] fun w149 =>
                      IxOk x35 n146 ∧
                      StoreAt w149 (elA x35 n146 1) 0 [.int .i64 n139] fun w150 =>
                        ((.sl x0_0 : SV) = .sl x0_0) ∧
                        ((.sl x0_1 : SV) = .sl x0_1) ∧
                        ((.sl (Sl.mk none 0 0) : SV) = .sl (Sl.mk none 0 0)) ∧
                        ((.sl (Sl.mk none 0 0) : SV) = .sl (Sl.mk none 0 0)) ∧
                        ((.sl x3 : SV) = .sl x3) ∧
                        ((.v y4 : SV) = .v y4) ∧
                        ((.sl x35 : SV) = .sl x35) ∧
                        ((.sl x22 : SV) = .sl x22) ∧
                        J37 w150) ∧
                  StoreAt w36 (elA x35 n34 1) 0 [.int .i64 1] fun w151 =>
                    ∃ n152 : Int, Wr .i64 (n34 + 1) n152 ∧
                    IxOk x35 n152 ∧
                    StoreAt w151 (elA x35 n152 1) 0 [.int .i64 n139] fun w153 =>
                      ((.sl x0_0 : SV) = .sl x0_0) ∧
                      ((.sl x0_1 : SV) = .sl x0_1) ∧
                      ((.sl (Sl.mk none 0 0) : SV) = .sl (Sl.mk none 0 0)) ∧
                      ((.sl (Sl.mk none 0 0) : SV) = .sl (Sl.mk none 0 0)) ∧
                      ((.sl x3 : SV) = .sl x3) ∧
                      ((.v y4 : SV) = .v y4) ∧
                      ((.sl x35 : SV) = .sl x35) ∧
                      ((.sl x22 : SV) = .sl x22) ∧
                      J37 w153) ∧
                StoreAt w36 (elA x35 n34 1) 0 [.int .i64 1] fun w154 =>
                  ∃ n155 : Int, Wr .i64 (n34 + 1) n155 ∧
                  ∃ n156 : Int, Wr .i64 (n105 + (x_2.n : Int)) n156 ∧
                  IxOk x35 n155 ∧
                  StoreAt w154 (elA x35 n155 1) 0 [.int .i64 n156] fun w157 =>
                    ((.sl x0_0 : SV) = .sl x0_0) ∧
                    ((.sl x0_1 : SV) = .sl x0_1) ∧
                    ((.sl (Sl.mk none 0 0) : SV) = .sl (Sl.mk none 0 0)) ∧
                    ((.sl (Sl.mk none 0 0) : SV) = .sl (Sl.mk none 0 0)) ∧
                    ((.sl x3 : SV) = .sl x3) ∧
                    ((.v y4 : SV) = .v y4) ∧
                    ((.sl x35 : SV) = .sl x35) ∧
                    ((.sl x22 : SV) = .sl x22) ∧
                    J37 w157) ∧
              StoreAt w36 (elA x35 n34 1) 0 [.int .i64 1] fun w158 =>
                ∃ n159 : Int, Wr .i64 (n34 + 1) n159 ∧
                ∃ n160 : Int, Wr .i64 (4 * n_1) n160 ∧
                ∃ n161 : Int, Wr .i64 (n160 + (x_2.n : Int)) n161 ∧
                IxOk x35 n159 ∧
                StoreAt w158 (elA x35 n159 1) 0 [.int .i64 n161] fun w162 =>
                  ((.sl x0_0 : SV) = .sl x0_0) ∧
                  ((.sl x0_1 : SV) = .sl x0_1) ∧
                  ((.sl (Sl.mk none 0 0) : SV) = .sl (Sl.mk none 0 0)) ∧
                  ((.sl (Sl.mk none 0 0) : SV) = .sl (Sl.mk none 0 0)) ∧
                  ((.sl x3 : SV) = .sl x3) ∧
                  ((.v y4 : SV) = .v y4) ∧
                  ((.sl x35 : SV) = .sl x35) ∧
                  ((.sl x22 : SV) = .sl x22) ∧
                  J37 w162) ∧
            (∃ n163 : Int, Wr .i64 (n34 + 1) n163 ∧
              (((∃ n164 : Int, Wr .i64 (4 * n_1) n164 ∧
                    (∃ n165 : Int, Wr .i64 (n164 + (x_2.n : Int)) n165 ∧
                      StoreAt w36 (elA x35 n34 1) 0 [.int .i64 1] fun w166 =>
                        IxOk x35 n163 ∧
                        StoreAt w166 (elA x35 n163 1) 0 [.int .i64 n165] fun w167 =>
                          ((.sl x0_0 : SV) = .sl x0_0) ∧
                          ((.sl x0_1 : SV) = .sl x0_1) ∧
                          ((.sl (Sl.mk none 0 0) : SV) = .sl (Sl.mk none 0 0)) ∧
                          ((.sl (Sl.mk none 0 0) : SV) = .sl (Sl.mk none 0 0)) ∧
                          ((.sl x3 : SV) = .sl x3) ∧
                          ((.v y4 : SV) = .v y4) ∧
                          ((.sl x35 : SV) = .sl x35) ∧
                          ((.sl x22 : SV) = .sl x22) ∧
                          J37 w167) ∧
                    StoreAt w36 (elA x35 n34 1) 0 [.int .i64 1] fun w168 =>
                      ∃ n169 : Int, Wr .i64 (n164 + (x_2.n : Int)) n169 ∧
                      IxOk x35 n163 ∧
                      StoreAt w168 (elA x35 n163 1) 0 [.int .i64 n169] fun w170 =>
                        ((.sl x0_0 : SV) = .sl x0_0) ∧
                        ((.sl x0_1 : SV) = .sl x0_1) ∧
                        ((.sl (Sl.mk none 0 0) : SV) = .sl (Sl.mk none 0 0)) ∧
                        ((.sl (Sl.mk none 0 0) : SV) = .sl (Sl.mk none 0 0)) ∧
                        ((.sl x3 : SV) = .sl x3) ∧
                        ((.v y4 : SV) = .v y4) ∧
                        ((.sl x35 : SV) = .sl x35) ∧
                        ((.sl x22 : SV) = .sl x22) ∧
                        J37 w170) ∧
                  StoreAt w36 (elA x35 n34 1) 0 [.int .i64 1] fun w171 =>
                    ∃ n172 : Int, Wr .i64 (4 * n_1) n172 ∧
                    ∃ n173 : Int, Wr .i64 (n172 + (x_2.n : Int)) n173 ∧
                    IxOk x35 n163 ∧
                    StoreAt w171 (elA x35 n163 1) 0 [.int .i64 n173] fun w174 =>
                      ((.sl x0_0 : SV) = .sl x0_0) ∧
                      ((.sl x0_1 : SV) = .sl x0_1) ∧
                      ((.sl (Sl.mk none 0 0) : SV) = .sl (Sl.mk none 0 0)) ∧
                      ((.sl (Sl.mk none 0 0) : SV) = .sl (Sl.mk none 0 0)) ∧
                      ((.sl x3 : SV) = .sl x3) ∧
                      ((.v y4 : SV) = .v y4) ∧
                      ((.sl x35 : SV) = .sl x35) ∧
                      ((.sl x22 : SV) = .sl x22) ∧
                      J37 w174) ∧
                (∃ n175 : Int, Wr .i64 (4 * n_1) n175 ∧
                  ((∃ n176 : Int, Wr .i64 (n175 + (x_2.n : Int)) n176 ∧
                      StoreAt w36 (elA x35 n34 1) 0 [.int .i64 1] fun w177 =>
                        IxOk x35 n163 ∧
                        StoreAt w177 (elA x35 n163 1) 0 [.int .i64 n176] fun w178 =>
                          ((.sl x0_0 : SV) = .sl x0_0) ∧
                          ((.sl x0_1 : SV) = .sl x0_1) ∧
                          ((.sl (Sl.mk none 0 0) : SV) = .sl (Sl.mk none 0 0)) ∧
                          ((.sl (Sl.mk none 0 0) : SV) = .sl (Sl.mk none 0 0)) ∧
                          ((.sl x3 : SV) = .sl x3) ∧
                          ((.v y4 : SV) = .v y4) ∧
                          ((.sl x35 : SV) = .sl x35) ∧
                          ((.sl x22 : SV) = .sl x22) ∧
                          J37 w178) ∧
                    StoreAt w36 (elA x35 n34 1) 0 [.int .i64 1] fun w179 =>
                      ∃ n180 : Int, Wr .i64 (n175 + (x_2.n : Int)) n180 ∧
                      IxOk x35 n163 ∧
                      StoreAt w179 (elA x35 n163 1) 0 [.int .i64 n180] fun w181 =>
                        ((.sl x0_0 : SV) = .sl x0_0) ∧
                        ((.sl x0_1 : SV) = .sl x0_1) ∧
                        ((.sl (Sl.mk none 0 0) : SV) = .sl (Sl.mk none 0 0)) ∧
                        ((.sl (Sl.mk none 0 0) : SV) = .sl (Sl.mk none 0 0)) ∧
                        ((.sl x3 : SV) = .sl x3) ∧
                        ((.v y4 : SV) = .v y4) ∧
                        ((.sl x35 : SV) = .sl x35) ∧
                        ((.sl x22 : SV) = .sl x22) ∧
                        J37 w181) ∧
                  (∃ n182 : Int, Wr .i64 (n175 + (x_2.n : Int)) n182 ∧
                    (StoreAt w36 (elA x35 n34 1) 0 [.int .i64 1] fun w183 =>
                        IxOk x35 n163 ∧
                        StoreAt w183 (elA x35 n163 1) 0 [.int .i64 n182] fun w184 =>
                          ((.sl x0_0 : SV) = .sl x0_0) ∧
                          ((.sl x0_1 : SV) = .sl x0_1) ∧
                          ((.sl (Sl.mk none 0 0) : SV) = .sl (Sl.mk none 0 0)) ∧
                          ((.sl (Sl.mk none 0 0) : SV) = .sl (Sl.mk none 0 0)) ∧
                          ((.sl x3 : SV) = .sl x3) ∧
                          ((.v y4 : SV) = .v y4) ∧
                          ((.sl x35 : SV) = .sl x35) ∧
                          ((.sl x22 : SV) = .sl x22) ∧
                          J37 w184) ∧
                    StoreAt w36 (elA x35 n34 1) 0 [.int .i64 1] fun w185 =>
                      IxOk x35 n163 ∧
                      StoreAt w185 (elA x35 n163 1) 0 [.int .i64 n182] fun w186 =>
                        ((.sl x0_0 : SV) = .sl x0_0) ∧
                        ((.sl x0_1 : SV) = .sl x0_1) ∧
                        ((.sl (Sl.mk none 0 0) : SV) = .sl (Sl.mk none 0 0)) ∧
                        ((.sl (Sl.mk none 0 0) : SV) = .sl (Sl.mk none 0 0)) ∧
                        ((.sl x3 : SV) = .sl x3) ∧
                        ((.v y4 : SV) = .v y4) ∧
                        ((.sl x35 : SV) = .sl x35) ∧
                        ((.sl x22 : SV) = .sl x22) ∧
                        J37 w186) ∧
                  StoreAt w36 (elA x35 n34 1) 0 [.int .i64 1] fun w187 =>
                    ∃ n188 : Int, Wr .i64 (n175 + (x_2.n : Int)) n188 ∧
                    IxOk x35 n163 ∧
                    StoreAt w187 (elA x35 n163 1) 0 [.int .i64 n188] fun w189 =>
                      ((.sl x0_0 : SV) = .sl x0_0) ∧
                      ((.sl x0_1 : SV) = .sl x0_1) ∧
                      ((.sl (Sl.mk none 0 0) : SV) = .sl (Sl.mk none 0 0)) ∧
                      ((.sl (Sl.mk none 0 0) : SV) = .sl (Sl.mk none 0 0)) ∧
                      ((.sl x3 : SV) = .sl x3) ∧
                      ((.v y4 : SV) = .v y4) ∧
                      ((.sl x35 : SV) = .sl x35) ∧
                      ((.sl x22 : SV) = .sl x22) ∧
                      J37 w189) ∧
                StoreAt w36 (elA x35 n34 1) 0 [.int .i64 1] fun w190 =>
                  ∃ n191 : Int, Wr .i64 (4 * n_1) n191 ∧
                  ∃ n192 : Int, Wr .i64 (n191 + (x_2.n : Int)) n192 ∧
                  IxOk x35 n163 ∧
                  StoreAt w190 (elA x35 n163 1) 0 [.int .i64 n192] fun w193 =>
                    ((.sl x0_0 : SV) = .sl x0_0) ∧
                    ((.sl x0_1 : SV) = .sl x0_1) ∧
                    ((.sl (Sl.mk none 0 0) : SV) = .sl (Sl.mk none 0 0)) ∧
                    ((.sl (Sl.mk none 0 0) : SV) = .sl (Sl.mk none 0 0)) ∧
                    ((.sl x3 : SV) = .sl x3) ∧
                    ((.v y4 : SV) = .v y4) ∧
                    ((.sl x35 : SV) = .sl x35) ∧
                    ((.sl x22 : SV) = .sl x22) ∧
                    J37 w193) ∧
              (∃ n194 : Int, Wr .i64 (4 * n_1) n194 ∧
                (((∃ n195 : Int, Wr .i64 (n194 + (x_2.n : Int)) n195 ∧
                      StoreAt w36 (elA x35 n34 1) 0 [.int .i64 1] fun w196 =>
                        IxOk x35 n163 ∧
                        StoreAt w196 (elA x35 n163 1) 0 [.int .i64 n195] fun w197 =>
                          ((.sl x0_0 : SV) = .sl x0_0) ∧
                          ((.sl x0_1 : SV) = .sl x0_1) ∧
                          ((.sl (Sl.mk none 0 0) : SV) = .sl (Sl.mk none 0 0)) ∧
                          ((.sl (Sl.mk none 0 0) : SV) = .sl (Sl.mk none 0 0)) ∧
                          ((.sl x3 : SV) = .sl x3) ∧
                          ((.v y4 : SV) = .v y4) ∧
                          ((.sl x35 : SV) = .sl x35) ∧
                          ((.sl x22 : SV) = .sl x22) ∧
                          J37 w197) ∧
                    StoreAt w36 (elA x35 n34 1) 0 [.int .i64 1] fun w198 =>
                      ∃ n199 : Int, Wr .i64 (n194 + (x_2.n : Int)) n199 ∧
                      IxOk x35 n163 ∧
                      StoreAt w198 (elA x35 n163 1) 0 [.int .i64 n199] fun w200 =>
                        ((.sl x0_0 : SV) = .sl x0_0) ∧
                        ((.sl x0_1 : SV) = .sl x0_1) ∧
                        ((.sl (Sl.mk none 0 0) : SV) = .sl (Sl.mk none 0 0)) ∧
                        ((.sl (Sl.mk none 0 0) : SV) = .sl (Sl.mk none 0 0)) ∧
                        ((.sl x3 : SV) = .sl x3) ∧
                        ((.v y4 : SV) = .v y4) ∧
                        ((.sl x35 : SV) = .sl x35) ∧
                        ((.sl x22 : SV) = .sl x22) ∧
                        J37 w200) ∧
                  (∃ n201 : Int, Wr .i64 (n194 + (x_2.n : Int)) n201 ∧
                    (StoreAt w36 (elA x35 n34 1) 0 [.int .i64 1] fun w202 =>
                        IxOk x35 n163 ∧
                        StoreAt w202 (elA x35 n163 1) 0 [.int .i64 n201] fun w203 =>
                          ((.sl x0_0 : SV) = .sl x0_0) ∧
                          ((.sl x0_1 : SV) = .sl x0_1) ∧
                          ((.sl (Sl.mk none 0 0) : SV) = .sl (Sl.mk none 0 0)) ∧
                          ((.sl (Sl.mk none 0 0) : SV) = .sl (Sl.mk none 0 0)) ∧
                          ((.sl x3 : SV) = .sl x3) ∧
                          ((.v y4 : SV) = .v y4) ∧
                          ((.sl x35 : SV) = .sl x35) ∧
                          ((.sl x22 : SV) = .sl x22) ∧
                          J37 w203) ∧
                    StoreAt w36 (elA x35 n34 1) 0 [.int .i64 1] fun w204 =>
                      IxOk x35 n163 ∧
                      StoreAt w204 (elA x35 n163 1) 0 [.int .i64 n201] fun w205 =>
                        ((.sl x0_0 : SV) = .sl x0_0) ∧
                        ((.sl x0_1 : SV) = .sl x0_1) ∧
                        ((.sl (Sl.mk none 0 0) : SV) = .sl (Sl.mk none 0 0)) ∧
                        ((.sl (Sl.mk none 0 0) : SV) = .sl (Sl.mk none 0 0)) ∧
                        ((.sl x3 : SV) = .sl x3) ∧
                        ((.v y4 : SV) = .v y4) ∧
                        ((.sl x35 : SV) = .sl x35) ∧
                        ((.sl x22 : SV) = .sl x22) ∧
                        J37 w205) ∧
                  StoreAt w36 (elA x35 n34 1) 0 [.int .i64 1] fun w206 =>
                    ∃ n207 : Int, Wr .i64 (n194 + (x_2.n : Int)) n207 ∧
                    IxOk x35 n163 ∧
                    StoreAt w206 (elA x35 n163 1) 0 [.int .i64 n207] fun w208 =>
                      ((.sl x0_0 : SV) = .sl x0_0) ∧
                      ((.sl x0_1 : SV) = .sl x0_1) ∧
                      ((.sl (Sl.mk none 0 0) : SV) = .sl (Sl.mk none 0 0)) ∧
                      ((.sl (Sl.mk none 0 0) : SV) = .sl (Sl.mk none 0 0)) ∧
                      ((.sl x3 : SV) = .sl x3) ∧
                      ((.v y4 : SV) = .v y4) ∧
                      ((.sl x35 : SV) = .sl x35) ∧
                      ((.sl x22 : SV) = .sl x22) ∧
                      J37 w208) ∧
                (∃ n209 : Int, Wr .i64 (n194 + (x_2.n : Int)) n209 ∧
                  ((StoreAt w36 (elA x35 n34 1) 0 [.int .i64 1] fun w210 =>
                        IxOk x35 n163 ∧
                        StoreAt w210 (elA x35 n163 1) 0 [.int .i64 n209] fun w211 =>
                          ((.sl x0_0 : SV) = .sl x0_0) ∧
                          ((.sl x0_1 : SV) = .sl x0_1) ∧
                          ((.sl (Sl.mk none 0 0) : SV) = .sl (Sl.mk none 0 0)) ∧
                          ((.sl (Sl.mk none 0 0) : SV) = .sl (Sl.mk none 0 0)) ∧
                          ((.sl x3 : SV) = .sl x3) ∧
                          ((.v y4 : SV) = .v y4) ∧
                          ((.sl x35 : SV) = .sl x35) ∧
                          ((.sl x22 : SV) = .sl x22) ∧
                          J37 w211) ∧
                    StoreAt w36 (elA x35 n34 1) 0 [.int .i64 1] fun w212 =>
                      IxOk x35 n163 ∧
                      StoreAt w212 (elA x35 n163 1) 0 [.int .i64 n209] fun w213 =>
                        ((.sl x0_0 : SV) = .sl x0_0) ∧
                        ((.sl x0_1 : SV) = .sl x0_1) ∧
                        ((.sl (Sl.mk none 0 0) : SV) = .sl (Sl.mk none 0 0)) ∧
                        ((.sl (Sl.mk none 0 0) : SV) = .sl (Sl.mk none 0 0)) ∧
                        ((.sl x3 : SV) = .sl x3) ∧
                        ((.v y4 : SV) = .v y4) ∧
                        ((.sl x35 : SV) = .sl x35) ∧
                        ((.sl x22 : SV) = .sl x22) ∧
                        J37 w213) ∧
                  StoreAt w36 (elA x35 n34 1) 0 [.int .i64 1] fun w214 =>
                    IxOk x35 n163 ∧
                    StoreAt w214 (elA x35 n163 1) 0 [.int .i64 n209] fun w215 =>
                      ((.sl x0_0 : SV) = .sl x0_0) ∧
                      ((.sl x0_1 : SV) = .sl x0_1) ∧
                      ((.sl (Sl.mk none 0 0) : SV) = .sl (Sl.mk none 0 0)) ∧
                      ((.sl (Sl.mk none 0 0) : SV) = .sl (Sl.mk none 0 0)) ∧
                      ((.sl x3 : SV) = .sl x3) ∧
                      ((.v y4 : SV) = .v y4) ∧
                      ((.sl x35 : SV) = .sl x35) ∧
                      ((.sl x22 : SV) = .sl x22) ∧
                      J37 w215) ∧
                StoreAt w36 (elA x35 n34 1) 0 [.int .i64 1] fun w216 =>
                  ∃ n217 : Int, Wr .i64 (n194 + (x_2.n : Int)) n217 ∧
                  IxOk x35 n163 ∧
                  StoreAt w216 (elA x35 n163 1) 0 [.int .i64 n217] fun w218 =>
                    ((.sl x0_0 : SV) = .sl x0_0) ∧
                    ((.sl x0_1 : SV) = .sl x0_1) ∧
                    ((.sl (Sl.mk none 0 0) : SV) = .sl (Sl.mk none 0 0)) ∧
                    ((.sl (Sl.mk none 0 0) : SV) = .sl (Sl.mk none 0 0)) ∧
                    ((.sl x3 : SV) = .sl x3) ∧
                    ((.v y4 : SV) = .v y4) ∧
                    ((.sl x35 : SV) = .sl x35) ∧
                    ((.sl x22 : SV) = .sl x22) ∧
                    J37 w218) ∧
              StoreAt w36 (elA x35 n34 1) 0 [.int .i64 1] fun w219 =>
                ∃ n220 : Int, Wr .i64 (4 * n_1) n220 ∧
                ∃ n221 : Int, Wr .i64 (n220 + (x_2.n : Int)) n221 ∧
                IxOk x35 n163 ∧
                StoreAt w219 (elA x35 n163 1) 0 [.int .i64 n221] fun w222 =>
                  ((.sl x0_0 : SV) = .sl x0_0) ∧
                  ((.sl x0_1 : SV) = .sl x0_1) ∧
                  ((.sl (Sl.mk none 0 0) : SV) = .sl (Sl.mk none 0 0)) ∧
                  ((.sl (Sl.mk none 0 0) : SV) = .sl (Sl.mk none 0 0)) ∧
                  ((.sl x3 : SV) = .sl x3) ∧
                  ((.v y4 : SV) = .v y4) ∧
                  ((.sl x35 : SV) = .sl x35) ∧
                  ((.sl x22 : SV) = .sl x22) ∧
                  J37 w222) ∧
            (∃ n223 : Int, Wr .i64 (4 * n_1) n223 ∧
              (((∃ n224 : Int, Wr .i64 (n34 + 1) n224 ∧
                    (∃ n225 : Int, Wr .i64 (n223 + (x_2.n : Int)) n225 ∧
                      StoreAt w36 (elA x35 n34 1) 0 [.int .i64 1] fun w226 =>
                        IxOk x35 n224 ∧
                        StoreAt w226 (elA x35 n224 1) 0 [.int .i64 n225] fun w227 =>
                          ((.sl x0_0 : SV) = .sl x0_0) ∧
                          ((.sl x0_1 : SV) = .sl x0_1) ∧
                          ((.sl (Sl.mk none 0 0) : SV) = .sl (Sl.mk none 0 0)) ∧
                          ((.sl (Sl.mk none 0 0) : SV) = .sl (Sl.mk none 0 0)) ∧
                          ((.sl x3 : SV) = .sl x3) ∧
                          ((.v y4 : SV) = .v y4) ∧
                          ((.sl x35 : SV) = .sl x35) ∧
                          ((.sl x22 : SV) = .sl x22) ∧
                          J37 w227) ∧
                    StoreAt w36 (elA x35 n34 1) 0 [.int .i64 1] fun w228 =>
                      ∃ n229 : Int, Wr .i64 (n223 + (x_2.n : Int)) n229 ∧
                      IxOk x35 n224 ∧
                      StoreAt w228 (elA x35 n224 1) 0 [.int .i64 n229] fun w230 =>
                        ((.sl x0_0 : SV) = .sl x0_0) ∧
                        ((.sl x0_1 : SV) = .sl x0_1) ∧
                        ((.sl (Sl.mk none 0 0) : SV) = .sl (Sl.mk none 0 0)) ∧
                        ((.sl (Sl.mk none 0 0) : SV) = .sl (Sl.mk none 0 0)) ∧
                        ((.sl x3 : SV) = .sl x3) ∧
                        ((.v y4 : SV) = .v y4) ∧
                        ((.sl x35 : SV) = .sl x35) ∧
                        ((.sl x22 : SV) = .sl x22) ∧
                        J37 w230) ∧
                  (∃ n231 : Int, Wr .i64 (n223 + (x_2.n : Int)) n231 ∧
                    (∃ n232 : Int, Wr .i64 (n34 + 1) n232 ∧
                      StoreAt w36 (elA x35 n34 1) 0 [.int .i64 1] fun w233 =>
                        IxOk x35 n232 ∧
                        StoreAt w233 (elA x35 n232 1) 0 [.int .i64 n231] fun w234 =>
                          ((.sl x0_0 : SV) = .sl x0_0) ∧
                          ((.sl x0_1 : SV) = .sl x0_1) ∧
                          ((.sl (Sl.mk none 0 0) : SV) = .sl (Sl.mk none 0 0)) ∧
                          ((.sl (Sl.mk none 0 0) : SV) = .sl (Sl.mk none 0 0)) ∧
                          ((.sl x3 : SV) = .sl x3) ∧
                          ((.v y4 : SV) = .v y4) ∧
                          ((.sl x35 : SV) = .sl x35) ∧
                          ((.sl x22 : SV) = .sl x22) ∧
                          J37 w234) ∧
                    StoreAt w36 (elA x35 n34 1) 0 [.int .i64 1] fun w235 =>
                      ∃ n236 : Int, Wr .i64 (n34 + 1) n236 ∧
                      IxOk x35 n236 ∧
                      StoreAt w235 (elA x35 n236 1) 0 [.int .i64 n231] fun w237 =>
                        ((.sl x0_0 : SV) = .sl x0_0) ∧
                        ((.sl x0_1 : SV) = .sl x0_1) ∧
                        ((.sl (Sl.mk none 0 0) : SV) = .sl (Sl.mk none 0 0)) ∧
                        ((.sl (Sl.mk none 0 0) : SV) = .sl (Sl.mk none 0 0)) ∧
                        ((.sl x3 : SV) = .sl x3) ∧
                        ((.v y4 : SV) = .v y4) ∧
                        ((.sl x35 : SV) = .sl x35) ∧
                        ((.sl x22 : SV) = .sl x22) ∧
                        J37 w237) ∧
                  StoreAt w36 (elA x35 n34 1) 0 [.int .i64 1] fun w238 =>
                    ∃ n239 : Int, Wr .i64 (n34 + 1) n239 ∧
                    ∃ n240 : Int, Wr .i64 (n223 + (x_2.n : Int)) n240 ∧
                    IxOk x35 n239 ∧
                    StoreAt w238 (elA x35 n239 1) 0 [.int .i64 n240] fun w241 =>
                      ((.sl x0_0 : SV) = .sl x0_0) ∧
                      ((.sl x0_1 : SV) = .sl x0_1) ∧
                      ((.sl (Sl.mk none 0 0) : SV) = .sl (Sl.mk none 0 0)) ∧
                      ((.sl (Sl.mk none 0 0) : SV) = .sl (Sl.mk none 0 0)) ∧
                      ((.sl x3 : SV) = .sl x3) ∧
                      ((.v y4 : SV) = .v y4) ∧
                      ((.sl x35 : SV) = .sl x35) ∧
                      ((.sl x22 : SV) = .sl x22) ∧
                      J37 w241) ∧
                (∃ n242 : Int, Wr .i64 (n34 + 1) n242 ∧
                  ((∃ n243 : Int, Wr .i64 (n223 + (x_2.n : Int)) n243 ∧
                      StoreAt w36 (elA x35 n34 1) 0 [.int .i64 1] fun w244 =>
                        IxOk x35 n242 ∧
                        StoreAt w244 (elA x35 n242 1) 0 [.int .i64 n243] fun w245 =>
                          ((.sl x0_0 : SV) = .sl x0_0) ∧
                          ((.sl x0_1 : SV) = .sl x0_1) ∧
                          ((.sl (Sl.mk none 0 0) : SV) = .sl (Sl.mk none 0 0)) ∧
                          ((.sl (Sl.mk none 0 0) : SV) = .sl (Sl.mk none 0 0)) ∧
                          ((.sl x3 : SV) = .sl x3) ∧
                          ((.v y4 : SV) = .v y4) ∧
                          ((.sl x35 : SV) = .sl x35) ∧
                          ((.sl x22 : SV) = .sl x22) ∧
                          J37 w245) ∧
                    StoreAt w36 (elA x35 n34 1) 0 [.int .i64 1] fun w246 =>
                      ∃ n247 : Int, Wr .i64 (n223 + (x_2.n : Int)) n247 ∧
                      IxOk x35 n242 ∧
                      StoreAt w246 (elA x35 n242 1) 0 [.int .i64 n247] fun w248 =>
                        ((.sl x0_0 : SV) = .sl x0_0) ∧
                        ((.sl x0_1 : SV) = .sl x0_1) ∧
                        ((.sl (Sl.mk none 0 0) : SV) = .sl (Sl.mk none 0 0)) ∧
                        ((.sl (Sl.mk none 0 0) : SV) = .sl (Sl.mk none 0 0)) ∧
                        ((.sl x3 : SV) = .sl x3) ∧
                        ((.v y4 : SV) = .v y4) ∧
                        ((.sl x35 : SV) = .sl x35) ∧
                        ((.sl x22 : SV) = .sl x22) ∧
                        J37 w248) ∧
                  (∃ n249 : Int, Wr .i64 (n223 + (x_2.n : Int)) n249 ∧
                    (StoreAt w36 (elA x35 n34 1) 0 [.int .i64 1] fun w250 =>
                        IxOk x35 n242 ∧
                        StoreAt w250 (elA x35 n242 1) 0 [.int .i64 n249] fun w251 =>
                          ((.sl x0_0 : SV) = .sl x0_0) ∧
                          ((.sl x0_1 : SV) = .sl x0_1) ∧
                          ((.sl (Sl.mk none 0 0) : SV) = .sl (Sl.mk none 0 0)) ∧
                          ((.sl (Sl.mk none 0 0) : SV) = .sl (Sl.mk none 0 0)) ∧
                          ((.sl x3 : SV) = .sl x3) ∧
                          ((.v y4 : SV) = .v y4) ∧
                          ((.sl x35 : SV) = .sl x35) ∧
                          ((.sl x22 : SV) = .sl x22) ∧
                          J37 w251) ∧
                    StoreAt w36 (elA x35 n34 1) 0 [.int .i64 1] fun w252 =>
                      IxOk x35 n242 ∧
                      StoreAt w252 (elA x35 n242 1) 0 [.int .i64 n249] fun w253 =>
                        ((.sl x0_0 : SV) = .sl x0_0) ∧
                        ((.sl x0_1 : SV) = .sl x0_1) ∧
                        ((.sl (Sl.mk none 0 0) : SV) = .sl (Sl.mk none 0 0)) ∧
                        ((.sl (Sl.mk none 0 0) : SV) = .sl (Sl.mk none 0 0)) ∧
                        ((.sl x3 : SV) = .sl x3) ∧
                        ((.v y4 : SV) = .v y4) ∧
                        ((.sl x35 : SV) = .sl x35) ∧
                        ((.sl x22 : SV) = .sl x22) ∧
                        J37 w253) ∧
                  StoreAt w36 (elA x35 n34 1) 0 [.int .i64 1] fun w254 =>
                    ∃ n255 : Int, Wr .i64 (n223 + (x_2.n : Int)) n255 ∧
                    IxOk x35 n242 ∧
                    StoreAt w254 (elA x35 n242 1) 0 [.int .i64 n255] fun w256 =>
                      ((.sl x0_0 : SV) = .sl x0_0) ∧
                      ((.sl x0_1 : SV) = .sl x0_1) ∧
                      ((.sl (Sl.mk none 0 0) : SV) = .sl (Sl.mk none 0 0)) ∧
                      ((.sl (Sl.mk none 0 0) : SV) = .sl (Sl.mk none 0 0)) ∧
                      ((.sl x3 : SV) = .sl x3) ∧
                      ((.v y4 : SV) = .v y4) ∧
                      ((.sl x35 : SV) = .sl x35) ∧
                      ((.sl x22 : SV) = .sl x22) ∧
                      J37 w256) ∧
                (∃ n257 : Int, Wr .i64 (n223 + (x_2.n : Int)) n257 ∧
                  ((∃ n258 : Int, Wr .i64 (n34 + 1) n258 ∧
                      StoreAt w36 (elA x35 n34 1) 0 [.int .i64 1] fun w259 =>
                        IxOk x35 n258 ∧
                        StoreAt w259 (elA x35 n258 1) 0 [.int .i64 n257] fun w260 =>
                          ((.sl x0_0 : SV) = .sl x0_0) ∧
                          ((.sl x0_1 : SV) = .sl x0_1) ∧
                          ((.sl (Sl.mk none 0 0) : SV) = .sl (Sl.mk none 0 0)) ∧
                          ((.sl (Sl.mk none 0 0) : SV) = .sl (Sl.mk none 0 0)) ∧
                          ((.sl x3 : SV) = .sl x3) ∧
                          ((.v y4 : SV) = .v y4) ∧
                          ((.sl x35 : SV) = .sl x35) ∧
                          ((.sl x22 : SV) = .sl x22) ∧
                          J37 w260) ∧
                    StoreAt w36 (elA x35 n34 1) 0 [.int .i64 1] fun w261 =>
                      ∃ n262 : Int, Wr .i64 (n34 + 1) n262 ∧
                      IxOk x35 n262 ∧
                      StoreAt w261 (elA x35 n262 1) 0 [.int .i64 n257] fun w263 =>
                        ((.sl x0_0 : SV) = .sl x0_0) ∧
                        ((.sl x0_1 : SV) = .sl x0_1) ∧
                        ((.sl (Sl.mk none 0 0) : SV) = .sl (Sl.mk none 0 0)) ∧
                        ((.sl (Sl.mk none 0 0) : SV) = .sl (Sl.mk none 0 0)) ∧
                        ((.sl x3 : SV) = .sl x3) ∧
                        ((.v y4 : SV) = .v y4) ∧
                        ((.sl x35 : SV) = .sl x35) ∧
                        ((.sl x22 : SV) = .sl x22) ∧
                        J37 w263) ∧
                  (∃ n264 : Int, Wr .i64 (n34 + 1) n264 ∧
                    (StoreAt w36 (elA x35 n34 1) 0 [.int .i64 1] fun w265 =>
                        IxOk x35 n264 ∧
                        StoreAt w265 (elA x35 n264 1) 0 [.int .i64 n257] fun w266 =>
                          ((.sl x0_0 : SV) = .sl x0_0) ∧
                          ((.sl x0_1 : SV) = .sl x0_1) ∧
                          ((.sl (Sl.mk none 0 0) : SV) = .sl (Sl.mk none 0 0)) ∧
                          ((.sl (Sl.mk none 0 0) : SV) = .sl (Sl.mk none 0 0)) ∧
                          ((.sl x3 : SV) = .sl x3) ∧
                          ((.v y4 : SV) = .v y4) ∧
                          ((.sl x35 : SV) = .sl x35) ∧
                          ((.sl x22 : SV) = .sl x22) ∧
                          J37 w266) ∧
                    StoreAt w36 (elA x35 n34 1) 0 [.int .i64 1] fun w267 =>
                      IxOk x35 n264 ∧
                      StoreAt w267 (elA x35 n264 1) 0 [.int .i64 n257] fun w268 =>
                        ((.sl x0_0 : SV) = .sl x0_0) ∧
                        ((.sl x0_1 : SV) = .sl x0_1) ∧
                        ((.sl (Sl.mk none 0 0) : SV) = .sl (Sl.mk none 0 0)) ∧
                        ((.sl (Sl.mk none 0 0) : SV) = .sl (Sl.mk none 0 0)) ∧
                        ((.sl x3 : SV) = .sl x3) ∧
                        ((.v y4 : SV) = .v y4) ∧
                        ((.sl x35 : SV) = .sl x35) ∧
                        ((.sl x22 : SV) = .sl x22) ∧
                        J37 w268) ∧
                  StoreAt w36 (elA x35 n34 1) 0 [.int .i64 1] fun w269 =>
                    ∃ n270 : Int, Wr .i64 (n34 + 1) n270 ∧
                    IxOk x35 n270 ∧
                    StoreAt w269 (elA x35 n270 1) 0 [.int .i64 n257] fun w271 =>
                      ((.sl x0_0 : SV) = .sl x0_0) ∧
                      ((.sl x0_1 : SV) = .sl x0_1) ∧
                      ((.sl (Sl.mk none 0 0) : SV) = .sl (Sl.mk none 0 0)) ∧
                      ((.sl (Sl.mk none 0 0) : SV) = .sl (Sl.mk none 0 0)) ∧
                      ((.sl x3 : SV) = .sl x3) ∧
                      ((.v y4 : SV) = .v y4) ∧
                      ((.sl x35 : SV) = .sl x35) ∧
                      ((.sl x22 : SV) = .sl x22) ∧
                      J37 w271) ∧
                StoreAt w36 (elA x35 n34 1) 0 [.int .i64 1] fun w272 =>
                  ∃ n273 : Int, Wr .i64 (n34 + 1) n273 ∧
                  ∃ n274 : Int, Wr .i64 (n223 + (x_2.n : Int)) n274 ∧
                  IxOk x35 n273 ∧
                  StoreAt w272 (elA x35 n273 1) 0 [.int .i64 n274] fun w275 =>
                    ((.sl x0_0 : SV) = .sl x0_0) ∧
                    ((.sl x0_1 : SV) = .sl x0_1) ∧
                    ((.sl (Sl.mk none 0 0) : SV) = .sl (Sl.mk none 0 0)) ∧
                    ((.sl (Sl.mk none 0 0) : SV) = .sl (Sl.mk none 0 0)) ∧
                    ((.sl x3 : SV) = .sl x3) ∧
                    ((.v y4 : SV) = .v y4) ∧
                    ((.sl x35 : SV) = .sl x35) ∧
                    ((.sl x22 : SV) = .sl x22) ∧
                    J37 w275) ∧
              (∃ n276 : Int, Wr .i64 (n34 + 1) n276 ∧
                (((∃ n277 : Int, Wr .i64 (n223 + (x_2.n : Int)) n277 ∧
                      StoreAt w36 (elA x35 n34 1) 0 [.int .i64 1] fun w278 =>
                        IxOk x35 n276 ∧
                        StoreAt w278 (elA x35 n276 1) 0 [.int .i64 n277] fun w279 =>
                          ((.sl x0_0 : SV) = .sl x0_0) ∧
                          ((.sl x0_1 : SV) = .sl x0_1) ∧
                          ((.sl (Sl.mk none 0 0) : SV) = .sl (Sl.mk none 0 0)) ∧
                          ((.sl (Sl.mk none 0 0) : SV) = .sl (Sl.mk none 0 0)) ∧
                          ((.sl x3 : SV) = .sl x3) ∧
                          ((.v y4 : SV) = .v y4) ∧
                          ((.sl x35 : SV) = .sl x35) ∧
                          ((.sl x22 : SV) = .sl x22) ∧
                          J37 w279) ∧
                    StoreAt w36 (elA x35 n34 1) 0 [.int .i64 1] fun w280 =>
                      ∃ n281 : Int, Wr .i64 (n223 + (x_2.n : Int)) n281 ∧
                      IxOk x35 n276 ∧
                      StoreAt w280 (elA x35 n276 1) 0 [.int .i64 n281] fun w282 =>
                        ((.sl x0_0 : SV) = .sl x0_0) ∧
                        ((.sl x0_1 : SV) = .sl x0_1) ∧
                        ((.sl (Sl.mk none 0 0) : SV) = .sl (Sl.mk none 0 0)) ∧
                        ((.sl (Sl.mk none 0 0) : SV) = .sl (Sl.mk none 0 0)) ∧
                        ((.sl x3 : SV) = .sl x3) ∧
                        ((.v y4 : SV) = .v y4) ∧
                        ((.sl x35 : SV) = .sl x35) ∧
                        ((.sl x22 : SV) = .sl x22) ∧
                        J37 w282) ∧
                  (∃ n283 : Int, Wr .i64 (n223 + (x_2.n : Int)) n283 ∧
                    (StoreAt w36 (elA x35 n34 1) 0 [.int .i64 1] fun w284 =>
                        IxOk x35 n276 ∧
                        StoreAt w284 (elA x35 n276 1) 0 [.int .i64 n283] fun w285 =>
                          ((.sl x0_0 : SV) = .sl x0_0) ∧
                          ((.sl x0_1 : SV) = .sl x0_1) ∧
                          ((.sl (Sl.mk none 0 0) : SV) = .sl (Sl.mk none 0 0)) ∧
                          ((.sl (Sl.mk none 0 0) : SV) = .sl (Sl.mk none 0 0)) ∧
                          ((.sl x3 : SV) = .sl x3) ∧
                          ((.v y4 : SV) = .v y4) ∧
                          ((.sl x35 : SV) = .sl x35) ∧
                          ((.sl x22 : SV) = .sl x22) ∧
                          J37 w285) ∧
                    StoreAt w36 (elA x35 n34 1) 0 [.int .i64 1] fun w286 =>
                      IxOk x35 n276 ∧
                      StoreAt w286 (elA x35 n276 1) 0 [.int .i64 n283] fun w287 =>
                        ((.sl x0_0 : SV) = .sl x0_0) ∧
                        ((.sl x0_1 : SV) = .sl x0_1) ∧
                        ((.sl (Sl.mk none 0 0) : SV) = .sl (Sl.mk none 0 0)) ∧
                        ((.sl (Sl.mk none 0 0) : SV) = .sl (Sl.mk none 0 0)) ∧
                        ((.sl x3 : SV) = .sl x3) ∧
                        ((.v y4 : SV) = .v y4) ∧
                        ((.sl x35 : SV) = .sl x35) ∧
                        ((.sl x22 : SV) = .sl x22) ∧
                        J37 w287) ∧
                  StoreAt w36 (elA x35 n34 1) 0 [.int .i64 1] fun w288 =>
                    ∃ n289 : Int, Wr .i64 (n223 + (x_2.n : Int)) n289 ∧
                    IxOk x35 n276 ∧
                    StoreAt w288 (elA x35 n276 1) 0 [.int .i64 n289] fun w290 =>
                      ((.sl x0_0 : SV) = .sl x0_0) ∧
                      ((.sl x0_1 : SV) = .sl x0_1) ∧
                      ((.sl (Sl.mk none 0 0) : SV) = .sl (Sl.mk none 0 0)) ∧
                      ((.sl (Sl.mk none 0 0) : SV) = .sl (Sl.mk none 0 0)) ∧
                      ((.sl x3 : SV) = .sl x3) ∧
                      ((.v y4 : SV) = .v y4) ∧
                      ((.sl x35 : SV) = .sl x35) ∧
                      ((.sl x22 : SV) = .sl x22) ∧
                      J37 w290) ∧
                (∃ n291 : Int, Wr .i64 (n223 + (x_2.n : Int)) n291 ∧
                  ((StoreAt w36 (elA x35 n34 1) 0 [.int .i64 1] fun w292 =>
                        IxOk x35 n276 ∧
                        StoreAt w292 (elA x35 n276 1) 0 [.int .i64 n291] fun w293 =>
                          ((.sl x0_0 : SV) = .sl x0_0) ∧
                          ((.sl x0_1 : SV) = .sl x0_1) ∧
                          ((.sl (Sl.mk none 0 0) : SV) = .sl (Sl.mk none 0 0)) ∧
                          ((.sl (Sl.mk none 0 0) : SV) = .sl (Sl.mk none 0 0)) ∧
                          ((.sl x3 : SV) = .sl x3) ∧
                          ((.v y4 : SV) = .v y4) ∧
                          ((.sl x35 : SV) = .sl x35) ∧
                          ((.sl x22 : SV) = .sl x22) ∧
                          J37 w293) ∧
                    StoreAt w36 (elA x35 n34 1) 0 [.int .i64 1] fun w294 =>
                      IxOk x35 n276 ∧
                      StoreAt w294 (elA x35 n276 1) 0 [.int .i64 n291] fun w295 =>
                        ((.sl x0_0 : SV) = .sl x0_0) ∧
                        ((.sl x0_1 : SV) = .sl x0_1) ∧
                        ((.sl (Sl.mk none 0 0) : SV) = .sl (Sl.mk none 0 0)) ∧
                        ((.sl (Sl.mk none 0 0) : SV) = .sl (Sl.mk none 0 0)) ∧
                        ((.sl x3 : SV) = .sl x3) ∧
                        ((.v y4 : SV) = .v y4) ∧
                        ((.sl x35 : SV) = .sl x35) ∧
                        ((.sl x22 : SV) = .sl x22) ∧
                        J37 w295) ∧
                  StoreAt w36 (elA x35 n34 1) 0 [.int .i64 1] fun w296 =>
                    IxOk x35 n276 ∧
                    StoreAt w296 (elA x35 n276 1) 0 [.int .i64 n291] fun w297 =>
                      ((.sl x0_0 : SV) = .sl x0_0) ∧
                      ((.sl x0_1 : SV) = .sl x0_1) ∧
                      ((.sl (Sl.mk none 0 0) : SV) = .sl (Sl.mk none 0 0)) ∧
                      ((.sl (Sl.mk none 0 0) : SV) = .sl (Sl.mk none 0 0)) ∧
                      ((.sl x3 : SV) = .sl x3) ∧
                      ((.v y4 : SV) = .v y4) ∧
                      ((.sl x35 : SV) = .sl x35) ∧
                      ((.sl x22 : SV) = .sl x22) ∧
                      J37 w297) ∧
                StoreAt w36 (elA x35 n34 1) 0 [.int .i64 1] fun w298 =>
                  ∃ n299 : Int, Wr .i64 (n223 + (x_2.n : Int)) n299 ∧
                  IxOk x35 n276 ∧
                  StoreAt w298 (elA x35 n276 1) 0 [.int .i64 n299] fun w300 =>
                    ((.sl x0_0 : SV) = .sl x0_0) ∧
                    ((.sl x0_1 : SV) = .sl x0_1) ∧
                    ((.sl (Sl.mk none 0 0) : SV) = .sl (Sl.mk none 0 0)) ∧
                    ((.sl (Sl.mk none 0 0) : SV) = .sl (Sl.mk none 0 0)) ∧
                    ((.sl x3 : SV) = .sl x3) ∧
                    ((.v y4 : SV) = .v y4) ∧
                    ((.sl x35 : SV) = .sl x35) ∧
                    ((.sl x22 : SV) = .sl x22) ∧
                    J37 w300) ∧
              (∃ n301 : Int, Wr .i64 (n223 + (x_2.n : Int)) n301 ∧
                (((∃ n302 : Int, Wr .i64 (n34 + 1) n302 ∧
                      StoreAt w36 (elA x35 n34 1) 0 [.int .i64 1] fun w303 =>
                        IxOk x35 n302 ∧
                        StoreAt w303 (elA x35 n302 1) 0 [.int .i64 n301] fun w304 =>
                          ((.sl x0_0 : SV) = .sl x0_0) ∧
                          ((.sl x0_1 : SV) = .sl x0_1) ∧
                          ((.sl (Sl.mk none 0 0) : SV) = .sl (Sl.mk none 0 0)) ∧
                          ((.sl (Sl.mk none 0 0) : SV) = .sl (Sl.mk none 0 0)) ∧
                          ((.sl x3 : SV) = .sl x3) ∧
                          ((.v y4 : SV) = .v y4) ∧
                          ((.sl x35 : SV) = .sl x35) ∧
                          ((.sl x22 : SV) = .sl x22) ∧
                          J37 w304) ∧
                    StoreAt w36 (elA x35 n34 1) 0 [.int .i64 1] fun w305 =>
                      ∃ n306 : Int, Wr .i64 (n34 + 1) n306 ∧
                      IxOk x35 n306 ∧
                      StoreAt w305 (elA x35 n306 1) 0 [.int .i64 n301] fun w307 =>
                        ((.sl x0_0 : SV) = .sl x0_0) ∧
                        ((.sl x0_1 : SV) = .sl x0_1) ∧
                        ((.sl (Sl.mk none 0 0) : SV) = .sl (Sl.mk none 0 0)) ∧
                        ((.sl (Sl.mk none 0 0) : SV) = .sl (Sl.mk none 0 0)) ∧
                        ((.sl x3 : SV) = .sl x3) ∧
                        ((.v y4 : SV) = .v y4) ∧
                        ((.sl x35 : SV) = .sl x35) ∧
                        ((.sl x22 : SV) = .sl x22) ∧
                        J37 w307) ∧
                  (∃ n308 : Int, Wr .i64 (n34 + 1) n308 ∧
                    (StoreAt w36 (elA x35 n34 1) 0 [.int .i64 1] fun w309 =>
                        IxOk x35 n308 ∧
                        StoreAt w309 (elA x35 n308 1) 0 [.int .i64 n301] fun w310 =>
                          ((.sl x0_0 : SV) = .sl x0_0) ∧
                          ((.sl x0_1 : SV) = .sl x0_1) ∧
                          ((.sl (Sl.mk none 0 0) : SV) = .sl (Sl.mk none 0 0)) ∧
                          ((.sl (Sl.mk none 0 0) : SV) = .sl (Sl.mk none 0 0)) ∧
                          ((.sl x3 : SV) = .sl x3) ∧
                          ((.v y4 : SV) = .v y4) ∧
                          ((.sl x35 : SV) = .sl x35) ∧
                          ((.sl x22 : SV) = .sl x22) ∧
                          J37 w310) ∧
                    StoreAt w36 (elA x35 n34 1) 0 [.int .i64 1] fun w311 =>
                      IxOk x35 n308 ∧
                      StoreAt w311 (elA x35 n308 1) 0 [.int .i64 n301] fun w312 =>
                        ((.sl x0_0 : SV) = .sl x0_0) ∧
                        ((.sl x0_1 : SV) = .sl x0_1) ∧
                        ((.sl (Sl.mk none 0 0) : SV) = .sl (Sl.mk none 0 0)) ∧
                        ((.sl (Sl.mk none 0 0) : SV) = .sl (Sl.mk none 0 0)) ∧
                        ((.sl x3 : SV) = .sl x3) ∧
                        ((.v y4 : SV) = .v y4) ∧
                        ((.sl x35 : SV) = .sl x35) ∧
                        ((.sl x22 : SV) = .sl x22) ∧
                        J37 w312) ∧
                  StoreAt w36 (elA x35 n34 1) 0 [.int .i64 1] fun w313 =>
                    ∃ n314 : Int, Wr .i64 (n34 + 1) n314 ∧
                    IxOk x35 n314 ∧
                    StoreAt w313 (elA x35 n314 1) 0 [.int .i64 n301] fun w315 =>
                      ((.sl x0_0 : SV) = .sl x0_0) ∧
                      ((.sl x0_1 : SV) = .sl x0_1) ∧
                      ((.sl (Sl.mk none 0 0) : SV) = .sl (Sl.mk none 0 0)) ∧
                      ((.sl (Sl.mk none 0 0) : SV) = .sl (Sl.mk none 0 0)) ∧
                      ((.sl x3 : SV) = .sl x3) ∧
                      ((.v y4 : SV) = .v y4) ∧
                      ((.sl x35 : SV) = .sl x35) ∧
                      ((.sl x22 : SV) = .sl x22) ∧
                      J37 w315) ∧
                (∃ n316 : Int, Wr .i64 (n34 + 1) n316 ∧
                  ((StoreAt w36 (elA x35 n34 1) 0 [.int .i64 1] fun w317 =>
                        IxOk x35 n316 ∧
                        StoreAt w317 (elA x35 n316 1) 0 [.int .i64 n301] fun w318 =>
                          ((.sl x0_0 : SV) = .sl x0_0) ∧
                          ((.sl x0_1 : SV) = .sl x0_1) ∧
                          ((.sl (Sl.mk none 0 0) : SV) = .sl (Sl.mk none 0 0)) ∧
                          ((.sl (Sl.mk none 0 0) : SV) = .sl (Sl.mk none 0 0)) ∧
                          ((.sl x3 : SV) = .sl x3) ∧
                          ((.v y4 : SV) = .v y4) ∧
                          ((.sl x35 : SV) = .sl x35) ∧
                          ((.sl x22 : SV) = .sl x22) ∧
                          J37 w318) ∧
                    StoreAt w36 (elA x35 n34 1) 0 [.int .i64 1] fun w319 =>
                      IxOk x35 n316 ∧
                      StoreAt w319 (elA x35 n316 1) 0 [.int .i64 n301] fun w320 =>
                        ((.sl x0_0 : SV) = .sl x0_0) ∧
                        ((.sl x0_1 : SV) = .sl x0_1) ∧
                        ((.sl (Sl.mk none 0 0) : SV) = .sl (Sl.mk none 0 0)) ∧
                        ((.sl (Sl.mk none 0 0) : SV) = .sl (Sl.mk none 0 0)) ∧
                        ((.sl x3 : SV) = .sl x3) ∧
                        ((.v y4 : SV) = .v y4) ∧
                        ((.sl x35 : SV) = .sl x35) ∧
                        ((.sl x22 : SV) = .sl x22) ∧
                        J37 w320) ∧
                  StoreAt w36 (elA x35 n34 1) 0 [.int .i64 1] fun w321 =>
                    IxOk x35 n316 ∧
                    StoreAt w321 (elA x35 n316 1) 0 [.int .i64 n301] fun w322 =>
                      ((.sl x0_0 : SV) = .sl x0_0) ∧
                      ((.sl x0_1 : SV) = .sl x0_1) ∧
                      ((.sl (Sl.mk none 0 0) : SV) = .sl (Sl.mk none 0 0)) ∧
                      ((.sl (Sl.mk none 0 0) : SV) = .sl (Sl.mk none 0 0)) ∧
                      ((.sl x3 : SV) = .sl x3) ∧
                      ((.v y4 : SV) = .v y4) ∧
                      ((.sl x35 : SV) = .sl x35) ∧
                      ((.sl x22 : SV) = .sl x22) ∧
                      J37 w322) ∧
                StoreAt w36 (elA x35 n34 1) 0 [.int .i64 1] fun w323 =>
                  ∃ n324 : Int, Wr .i64 (n34 + 1) n324 ∧
                  IxOk x35 n324 ∧
                  StoreAt w323 (elA x35 n324 1) 0 [.int .i64 n301] fun w325 =>
                    ((.sl x0_0 : SV) = .sl x0_0) ∧
                    ((.sl x0_1 : SV) = .sl x0_1) ∧
                    ((.sl (Sl.mk none 0 0) : SV) = .sl (Sl.mk none 0 0)) ∧
                    ((.sl (Sl.mk none 0 0) : SV) = .sl (Sl.mk none 0 0)) ∧
                    ((.sl x3 : SV) = .sl x3) ∧
                    ((.v y4 : SV) = .v y4) ∧
                    ((.sl x35 : SV) = .sl x35) ∧
                    ((.sl x22 : SV) = .sl x22) ∧
                    J37 w325) ∧
              StoreAt w36 (elA x35 n34 1) 0 [.int .i64 1] fun w326 =>
                ∃ n327 : Int, Wr .i64 (n34 + 1) n327 ∧
                ∃ n328 : Int, Wr .i64 (n223 + (x_2.n : Int)) n328 ∧
                IxOk x35 n327 ∧
                StoreAt w326 (elA x35 n327 1) 0 [.int .i64 n328] fun w329 =>
                  ((.sl x0_0 : SV) = .sl x0_0) ∧
                  ((.sl x0_1 : SV) = .sl x0_1) ∧
                  ((.sl (Sl.mk none 0 0) : SV) = .sl (Sl.mk none 0 0)) ∧
                  ((.sl (Sl.mk none 0 0) : SV) = .sl (Sl.mk none 0 0)) ∧
                  ((.sl x3 : SV) = .sl x3) ∧
                  ((.v y4 : SV) = .v y4) ∧
                  ((.sl x35 : SV) = .sl x35) ∧
                  ((.sl x22 : SV) = .sl x22) ∧
                  J37 w329) ∧
            StoreAt w36 (elA x35 n34 1) 0 [.int .i64 1] fun w330 =>
              ∃ n331 : Int, Wr .i64 (n34 + 1) n331 ∧
              ∃ n332 : Int, Wr .i64 (4 * n_1) n332 ∧
              ∃ n333 : Int, Wr .i64 (n332 + (x_2.n : Int)) n333 ∧
              IxOk x35 n331 ∧
              StoreAt w330 (elA x35 n331 1) 0 [.int .i64 n333] fun w334 =>
                ((.sl x0_0 : SV) = .sl x0_0) ∧
                ((.sl x0_1 : SV) = .sl x0_1) ∧
                ((.sl (Sl.mk none 0 0) : SV) = .sl (Sl.mk none 0 0)) ∧
                ((.sl (Sl.mk none 0 0) : SV) = .sl (Sl.mk none 0 0)) ∧
                ((.sl x3 : SV) = .sl x3) ∧
                ((.v y4 : SV) = .v y4) ∧
                ((.sl x35 : SV) = .sl x35) ∧
                ((.sl x22 : SV) = .sl x22) ∧
                J37 w334) ∧
          ∀ w335 : World, J37 w335 →
          ∃ n336 : Int, Wr .i64 (n34 + 2) n336 ∧
          ((0 : Int) ≤ n336 ∧ n336 ≤ (x35.n : Int)) ∧
          StepT Try.prog (Builtin.copy_ #[23, 23] 3 #[((x35.cut n336 (x35.n : Int) 1).val), (x_2.val)]) w335 fun r337 w338 =>
            ∃ n339 : Int, r337 = .int .i64 n339 ∧
            ∃ q340 : Bool, (Trip Try.prog 20 #[.agg #[x35.val, x22.val]] w338 fun r341 w342 => r341 = .bool q340 ∧ Sub w338 w342) ∧
            ((!q340) = true →
              Q (.tuple #[.agg #[.slice none 0 0, .slice none 0 0], .int .i64 0]) w338) ∧
            ((!q340) = false →
              ∃ n343 : Int, Wr .i64 (1000 + n34) n343 ∧
              Q (.tuple #[.agg #[x35.val, x22.val], .int .i64 n343]) w338)))
theorem of10j (x0_0 : Sl) (x0_1 : Sl) (n_1 : Int) (x_2 : Sl) (v : World) (Q : Value → World → Prop) (h : vc10j x0_0 x0_1 n_1 x_2 v Q) : Trip Try.prog 10 #[.agg #[x0_0.val, x0_1.val], .int .i64 n_1, x_2.val] v Q :=
  trip_of_eq (args := [.ag [.sl x0_0, .sl x0_1], .num .i64 n_1, .sl x_2]) (A := ⟨[(5, [(40, .int .i64)], [])], [(17, [(16, .int .i64)], [(3, 0, .sl)]), (18, [], [])], [(16, []), (17, [])], [], [12, 20, 22, 31, 32, 34, 35, 36, 40, 42, 46, 50, 52, 53, 55, 65, 68, 70, 72, 75, 76, 77, 80, 81, 82, 84, 85, 86]⟩) Try.func10 (by kernel_rfl) (by kernel_rfl) (by kernel_rfl : vc10j x0_0 x0_1 n_1 x_2 v Q = _) h

end Go.Vc
