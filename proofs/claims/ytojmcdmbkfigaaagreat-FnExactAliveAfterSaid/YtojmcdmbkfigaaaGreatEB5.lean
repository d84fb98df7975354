/- Part of the proofs about the heaps and memories: a law is joined in the text whose name ends in W and the law. -/
import Derived.Test.YtojmcdmbkfigaaaGreatEG
namespace Go.Vc
open Go Go.Proofs
set_option linter.all false
/-- (*impl.balance).choose -/
def vc119j (a_0 : Addr) (n1_0 : Int) (n1_1 : Int) (n1_2 : Int) (x1_3 : Sl) (x1_4 : Sl) (v : World) (Q : Value → World → Prop) : Prop :=
  ((decide (n1_0 = 8)) = true →
    IxOk x1_3 0) ∧
  ∃ n1 : Int, ((decide (n1_0 = 8)) = true →
    v.cell? ((elA x1_3 0 1).add 0) = some (.int .i64 n1)) ∧
  ∃ q2 : Bool, ((decide (n1_0 = 8)) = true →
    (Trip Tryz.prog 43 #[.pointer (some (a_0.add 0)), .int .i64 n1] v fun r3 w4 => r3 = .bool q2 ∧ Sub v w4)) ∧
  (((decide (n1_0 = 8)) && (!q2)) = true →
    Q (.bool false) v) ∧
  (((decide (n1_0 = 8)) && (!q2)) = false →
    StepT Tryz.prog (Instr.makeSlice 154 (.int .i64 (x1_4.n : Int)) (.int .i64 (x1_4.n : Int))) v fun r5 w6 =>
      ∃ x7 : Sl, r5 = x7.val ∧
      ∃ J8 : Sl → World → Prop, (((decide (n1_0 = 8)) = true →
          ∃ x9 : Sl, ∃ x10 : Sl, (w6.cell? (a_0.add 0) = some (x9.val) ∧
            w6.cell? (a_0.add 1) = some (x10.val)) ∧
          Trip Tryz.prog 116 #[.agg #[x9.val, x10.val], .int .i64 n1_1] w6 fun r11 w12 =>
            ∃ x13 : Sl, r11 = x13.val ∧
            ((.num .i64 n1_0 : SV) = .num .i64 n1_0) ∧
            ((.num .i64 n1_1 : SV) = .num .i64 n1_1) ∧
            ((.num .i64 n1_2 : SV) = .num .i64 n1_2) ∧
            ((.sl x1_3 : SV) = .sl x1_3) ∧
            ((.sl x1_4 : SV) = .sl x1_4) ∧
            J8 x13 w12) ∧
        ((decide (n1_0 = 8)) = false →
          ((.num .i64 n1_0 : SV) = .num .i64 n1_0) ∧
          ((.num .i64 n1_1 : SV) = .num .i64 n1_1) ∧
          ((.num .i64 n1_2 : SV) = .num .i64 n1_2) ∧
          ((.sl x1_3 : SV) = .sl x1_3) ∧
          ((.sl x1_4 : SV) = .sl x1_4) ∧
          J8 x7 w6)) ∧
      ∀ x14 : Sl, ∀ w15 : World, J8 x14 w15 →
      ∃ x16 : Sl, w15.cell? (a_0.add 4) = some (x16.val) ∧
      ∃ I17 : Vl → Int → World → Prop, ∃ m18 : Vl → Int → World → Nat, I17 (Vl.mk (Value.pointer none) rfl) 0 w15 ∧
      ∀ y19 : Vl, ∀ n20 : Int, ∀ w21 : World, I17 y19 n20 w21 →
      ((decide (n20 < (x1_4.n : Int))) = true →
        IxOk x1_4 n20 ∧
        ∃ x22 : Sl, ∃ n23 : Int, (w21.cell? ((elA x1_4 n20 2).add 0) = some (x22.val) ∧
          w21.cell? ((elA x1_4 n20 2).add 1) = some (.int .i64 n23)) ∧
        Trip Tryz.prog 143 #[.pointer (some (a_0.add 0))] w21 fun r24 w25 =>
          ∃ a26 : Addr, r24 = .pointer (some (a26.add 0)) ∧
          ∃ J27 : World → Prop, (((decide (n1_0 = 8)) = true →
              ∃ x28 : Sl, w25.cell? (a_0.add 3) = some (x28.val) ∧
              IxOk x1_3 0 ∧
              ∃ n29 : Int, w25.cell? ((elA x1_3 0 1).add 0) = some (.int .i64 n29) ∧
              IxOk x14 n20 ∧
              ∃ x30 : Sl, w25.cell? ((elA x14 n20 1).add 0) = some (x30.val) ∧
              Trip Tryz.prog 144 #[x28.val, .agg #[.int .i64 n29, .int .i64 (x16.n : Int), x30.val, .bool false]] w25 fun r31 w32 =>
                ∃ x33 : Sl, r31 = x33.val ∧
                StoreAt w32 a26 3 [x33.val] fun w34 =>
                  ((.num .i64 n1_0 : SV) = .num .i64 n1_0) ∧
                  ((.num .i64 n1_1 : SV) = .num .i64 n1_1) ∧
                  ((.num .i64 n1_2 : SV) = .num .i64 n1_2) ∧
                  ((.sl x1_3 : SV) = .sl x1_3) ∧
                  ((.sl x1_4 : SV) = .sl x1_4) ∧
                  ((.sl x22 : SV) = .sl x22) ∧
                  ((.num .i64 n23 : SV) = .num .i64 n23) ∧
                  J27 w34) ∧
            ((decide (n1_0 = 8)) = false →
              ((.num .i64 n1_0 : SV) = .num .i64 n1_0) ∧
              ((.num .i64 n1_1 : SV) = .num .i64 n1_1) ∧
              ((.num .i64 n1_2 : SV) = .num .i64 n1_2) ∧
              ((.sl x1_3 : SV) = .sl x1_3) ∧
              ((.sl x1_4 : SV) = .sl x1_4) ∧
              ((.sl x22 : SV) = .sl x22) ∧
              ((.num .i64 n23 : SV) = .num .i64 n23) ∧
              J27 w25)) ∧
          ∀ w35 : World, J27 w35 →
          IxOk x14 n20 ∧
          ∃ x36 : Sl, w35.cell? ((elA x14 n20 1).add 0) = some (x36.val) ∧
          ∃ I37 : Int → World → Prop, ∃ m38 : Int → World → Nat, I37 0 w35 ∧
          ∀ n39 : Int, ∀ w40 : World, I37 n39 w40 →
          ((decide (n39 < (x36.n : Int))) = true →
            IxOk x36 n39 ∧
            ∃ n41 : Int, w40.cell? ((elA x36 n39 1).add 0) = some (.int .i64 n41) ∧
            Trip Tryz.prog 86 #[.pointer (some (a26.add 0)), .int .i64 n41, .int .i64 0] w40 fun r42 w43 =>
              r42 = .tuple #[] ∧
              ∃ n44 : Int, Wr .i64 (n39 + 1) n44 ∧
              ((.num .i64 n1_0 : SV) = .num .i64 n1_0) ∧
              ((.num .i64 n1_1 : SV) = .num .i64 n1_1) ∧
              ((.num .i64 n1_2 : SV) = .num .i64 n1_2) ∧
              ((.sl x1_3 : SV) = .sl x1_3) ∧
              ((.sl x1_4 : SV) = .sl x1_4) ∧
              ((.sl x22 : SV) = .sl x22) ∧
              ((.num .i64 n23 : SV) = .num .i64 n23) ∧
              I37 n44 w43 ∧
              m38 n44 w43 < m38 n39 w40) ∧
          ((decide (n39 < (x36.n : Int))) = false →
            Trip Tryz.prog 58 #[.pointer (some (a26.add 0)), x22.val] w40 fun r45 w46 =>
              ∃ q47 : Bool, r45 = .bool q47 ∧
              ((!q47) = false →
                Trip Tryz.prog 59 #[.pointer (some (a26.add 0)), .agg #[x22.val, .int .i64 n23], .int .i64 (x16.n : Int)] w46 fun r48 w49 =>
                  ∃ q50 : Bool, r48 = .bool q50 ∧
                  ((!q50) = true →
                    Q (.bool false) w49) ∧
                  ((!q50) = false →
                    ∃ q51 : Bool, PureT Tryz.prog (do eqGuard .eql 56 (.tmp 101) (.const (.pointer none)) (y19.x) ((Vl.mk (Value.pointer none) rfl).x); binOp .eql 56 (y19.x) ((Vl.mk (Value.pointer none) rfl).x)) w49 (.bool q51) ∧
                    (q51 = true →
                      ∃ n52 : Int, Wr .i64 (n20 + 1) n52 ∧
                      ((.num .i64 n1_0 : SV) = .num .i64 n1_0) ∧
                      ((.num .i64 n1_1 : SV) = .num .i64 n1_1) ∧
                      ((.num .i64 n1_2 : SV) = .num .i64 n1_2) ∧
                      ((.sl x1_3 : SV) = .sl x1_3) ∧
                      ((.sl x1_4 : SV) = .sl x1_4) ∧
                      I17 (Vl.mk (.pointer (some (a26.add 0))) rfl) n52 w49 ∧
                      m18 (Vl.mk (.pointer (some (a26.add 0))) rfl) n52 w49 < m18 y19 n20 w21) ∧
                    (q51 = false →
                      ∃ x53 : Sl, w49.cell? (a26.add 5) = some (x53.val) ∧
                      CutOk x53 0 (x16.n : Int) ∧
                      ∃ a54 : Addr, y19.x = .pointer (some a54) ∧
                      ∃ x55 : Sl, w49.cell? (a54.add 5) = some (x55.val) ∧
                      CutOk x55 0 (x16.n : Int) ∧
                      ∃ q56 : Bool, (Trip Tryz.prog 139 #[(x53.cut 0 (x16.n : Int) 1).val, (x55.cut 0 (x16.n : Int) 1).val] w49 fun r57 w58 => r57 = .bool q56 ∧ Sub w49 w58) ∧
                      ∃ x59 : Sl, ((!q56) = false →
                        w49.cell? (a26.add 6) = some (x59.val)) ∧
                      ((!q56) = false →
                        CutOk x59 0 (x16.n : Int)) ∧
                      ∃ a60 : Addr, ((!q56) = false →
                        y19.x = .pointer (some a60)) ∧
                      ∃ x61 : Sl, ((!q56) = false →
                        w49.cell? (a60.add 6) = some (x61.val)) ∧
                      ((!q56) = false →
                        CutOk x61 0 (x16.n : Int)) ∧
                      ∃ q62 : Bool, ((!q56) = false →
                        (Trip Tryz.prog 139 #[(x59.cut 0 (x16.n : Int) 1).val, (x61.cut 0 (x16.n : Int) 1).val] w49 fun r63 w64 => r63 = .bool q62 ∧ Sub w49 w64)) ∧
                      (((!q56) || (!q62)) = true →
                        Q (.bool false) w49) ∧
                      (((!q56) || (!q62)) = false →
                        ∃ n65 : Int, Wr .i64 (n20 + 1) n65 ∧
                        ((.num .i64 n1_0 : SV) = .num .i64 n1_0) ∧
                        ((.num .i64 n1_1 : SV) = .num .i64 n1_1) ∧
                        ((.num .i64 n1_2 : SV) = .num .i64 n1_2) ∧
                        ((.sl x1_3 : SV) = .sl x1_3) ∧
                        ((.sl x1_4 : SV) = .sl x1_4) ∧
                        I17 y19 n65 w49 ∧
                        m18 y19 n65 w49 < m18 y19 n20 w21)))) ∧
              ((!q47) = true →
                Q (.bool false) w46))) ∧
      ((decide (n20 < (x1_4.n : Int))) = false →
        ∃ a66 : Addr, y19.x = .pointer (some a66) ∧
        ∃ x67 : Sl, w21.cell? (a66.add 5) = some (x67.val) ∧
        CutOk x67 0 (x16.n : Int) ∧
        ∃ a68 : Addr, y19.x = .pointer (some a68) ∧
        ∃ x69 : Sl, w21.cell? (a68.add 6) = some (x69.val) ∧
        CutOk x69 0 (x16.n : Int) ∧
        Trip Tryz.prog 83 #[(x67.cut 0 (x16.n : Int) 1).val] w21 fun r70 w71 =>
          ∃ x72 : Sl, r70 = x72.val ∧
          Sub w21 w71 ∧
          Trip Tryz.prog 83 #[(x69.cut 0 (x16.n : Int) 1).val] w71 fun r73 w74 =>
            ∃ x75 : Sl, r73 = x75.val ∧
            StoreAt w74 a_0 5 [x72.val] fun w76 =>
              StoreAt w76 a_0 6 [x75.val] fun w77 =>
                Q (.bool true) w77))
theorem of119j (a_0 : Addr) (n1_0 : Int) (n1_1 : Int) (n1_2 : Int) (x1_3 : Sl) (x1_4 : Sl) (v : World) (Q : Value → World → Prop) (h : vc119j a_0 n1_0 n1_1 n1_2 x1_3 x1_4 v Q) : Trip Tryz.prog 119 #[.pointer (some (a_0.add 0)), .agg #[.int .i64 n1_0, .int .i64 n1_1, .int .i64 n1_2, x1_3.val, x1_4.val]] v Q :=
  trip_of_eq (args := [.pt a_0 0, .ag [.num .i64 n1_0, .num .i64 n1_1, .num .i64 n1_2, .sl x1_3, .sl x1_4]]) (A := ⟨[(9, [(7, .val), (47, .int .i64)], []), (15, [(80, .int .i64)], [])], [(6, [(5, .sl)], []), (14, [], [])], [(5, []), (13, []), (26, [8])], [999999], [8, 12, 17, 20, 20, 25, 26, 27, 28, 32, 34, 35, 42, 43, 44, 45, 46, 47, 48, 55, 60, 61, 65, 66, 67, 68, 69, 70, 72, 73, 74, 75, 81, 85, 89, 90, 95, 96, 97, 98, 99, 100, 101, 102, 103, 105, 106, 107, 108, 111, 112, 113, 114, 117, 120, 122, 123, 125, 126, 127, 128, 129, 130, 133, 137, 138, 139, 140, 146, 148, 149, 152, 156, 158, 161, 162, 165, 185]⟩) Tryz.func119 (by kernel_rfl) (by kernel_rfl) (by kernel_rfl : vc119j a_0 n1_0 n1_1 n1_2 x1_3 x1_4 v Q = _) h

/-- (*spec.ledger).step -/
def vc62j (a_0 : Addr) (x1_0 : Sl) (x1_1 : Sl) (n2_0 : Int) (n2_1 : Int) (n2_2 : Int) (x2_3 : Sl) (x2_4 : Sl) (v : World) (Q : Value → World → Prop) : Prop :=
  ∃ x1 : Sl, v.cell? (a_0.add 0) = some (x1.val) ∧
  ∃ n2 : Int, (Trip Tryz.prog 74 #[.agg #[x1_0.val, x1_1.val], x1.val, .agg #[.int .i64 n2_0, .int .i64 n2_1, .int .i64 n2_2, x2_3.val, x2_4.val]] v fun r3 w4 => r3 = .int .i64 n2 ∧ Sub v w4) ∧
  ∃ J5 : Bool → World → Prop, (((decide (n2_0 = 14)) = true →
      IxOk x2_3 0 ∧
      ∃ n6 : Int, v.cell? ((elA x2_3 0 1).add 0) = some (.int .i64 n6) ∧
      ∃ q7 : Bool, (Trip Tryz.prog 42 #[.pointer (some (a_0.add 0)), .int .i64 n6] v fun r8 w9 => r8 = .bool q7 ∧ Sub v w9) ∧
      ∃ x10 : Sl, v.cell? (a_0.add 1) = some (x10.val) ∧
      IxOk x2_3 0 ∧
      ∃ n11 : Int, v.cell? ((elA x2_3 0 1).add 0) = some (.int .i64 n11) ∧
      ∃ x12 : Sl, v.cell? (a_0.add 1) = some (x12.val) ∧
      IxOk x2_3 0 ∧
      ∃ n13 : Int, v.cell? ((elA x2_3 0 1).add 0) = some (.int .i64 n13) ∧
      IxOk x12 n13 ∧
      ∃ n14 : Int, v.cell? ((elA x12 n13 1).add 0) = some (.int .i64 n14) ∧
      ∃ n15 : Int, Wr .i64 (n14 + 1) n15 ∧
      IxOk x10 n11 ∧
      StoreAt v (elA x10 n11 1) 0 [.int .i64 n15] fun w16 =>
        ((.sl x1_0 : SV) = .sl x1_0) ∧
        ((.sl x1_1 : SV) = .sl x1_1) ∧
        ((.num .i64 n2_0 : SV) = .num .i64 n2_0) ∧
        ((.num .i64 n2_1 : SV) = .num .i64 n2_1) ∧
        ((.num .i64 n2_2 : SV) = .num .i64 n2_2) ∧
        ((.sl x2_3 : SV) = .sl x2_3) ∧
        ((.sl x2_4 : SV) = .sl x2_4) ∧
        J5 q7 w16) ∧
    ((decide (n2_0 = 14)) = false →
      ((decide (n2_0 = 15)) = true →
        IxOk x2_3 0 ∧
        ∃ n17 : Int, v.cell? ((elA x2_3 0 1).add 0) = some (.int .i64 n17) ∧
        Trip Tryz.prog 77 #[.pointer (some (a_0.add 0)), .int .i64 n17] v fun r18 w19 =>
          ∃ q20 : Bool, r18 = .bool q20 ∧
          ((.sl x1_0 : SV) = .sl x1_0) ∧
          ((.sl x1_1 : SV) = .sl x1_1) ∧
          ((.num .i64 n2_0 : SV) = .num .i64 n2_0) ∧
          ((.num .i64 n2_1 : SV) = .num .i64 n2_1) ∧
          ((.num .i64 n2_2 : SV) = .num .i64 n2_2) ∧
          ((.sl x2_3 : SV) = .sl x2_3) ∧
          ((.sl x2_4 : SV) = .sl x2_4) ∧
          J5 q20 w19) ∧
      ((decide (n2_0 = 15)) = false →
        ((decide (n2_0 = 16)) = true →
          Trip Tryz.prog 91 #[.pointer (some (a_0.add 0)), .agg #[x1_0.val, x1_1.val], .agg #[.int .i64 n2_0, .int .i64 n2_1, .int .i64 n2_2, x2_3.val, x2_4.val]] v fun r21 w22 =>
            ∃ q23 : Bool, r21 = .bool q23 ∧
            ((.sl x1_0 : SV) = .sl x1_0) ∧
            ((.sl x1_1 : SV) = .sl x1_1) ∧
            ((.num .i64 n2_0 : SV) = .num .i64 n2_0) ∧
            ((.num .i64 n2_1 : SV) = .num .i64 n2_1) ∧
            ((.num .i64 n2_2 : SV) = .num .i64 n2_2) ∧
            ((.sl x2_3 : SV) = .sl x2_3) ∧
            ((.sl x2_4 : SV) = .sl x2_4) ∧
            J5 q23 w22) ∧
        ((decide (n2_0 = 16)) = false →
          ((decide (n2_0 = 17)) = true →
            Trip Tryz.prog 91 #[.pointer (some (a_0.add 0)), .agg #[x1_0.val, x1_1.val], .agg #[.int .i64 n2_0, .int .i64 n2_1, .int .i64 n2_2, x2_3.val, x2_4.val]] v fun r24 w25 =>
              ∃ q26 : Bool, r24 = .bool q26 ∧
              ((.sl x1_0 : SV) = .sl x1_0) ∧
              ((.sl x1_1 : SV) = .sl x1_1) ∧
              ((.num .i64 n2_0 : SV) = .num .i64 n2_0) ∧
              ((.num .i64 n2_1 : SV) = .num .i64 n2_1) ∧
              ((.num .i64 n2_2 : SV) = .num .i64 n2_2) ∧
              ((.sl x2_3 : SV) = .sl x2_3) ∧
              ((.sl x2_4 : SV) = .sl x2_4) ∧
              J5 q26 w25) ∧
          ((decide (n2_0 = 17)) = false →
            ((decide (n2_0 = 7)) = true →
              Trip Tryz.prog 92 #[.pointer (some (a_0.add 0)), .agg #[x1_0.val, x1_1.val], .agg #[.int .i64 n2_0, .int .i64 n2_1, .int .i64 n2_2, x2_3.val, x2_4.val]] v fun r27 w28 =>
                ∃ q29 : Bool, r27 = .bool q29 ∧
                ((.sl x1_0 : SV) = .sl x1_0) ∧
                ((.sl x1_1 : SV) = .sl x1_1) ∧
                ((.num .i64 n2_0 : SV) = .num .i64 n2_0) ∧
                ((.num .i64 n2_1 : SV) = .num .i64 n2_1) ∧
                ((.num .i64 n2_2 : SV) = .num .i64 n2_2) ∧
                ((.sl x2_3 : SV) = .sl x2_3) ∧
                ((.sl x2_4 : SV) = .sl x2_4) ∧
                J5 q29 w28) ∧
            ((decide (n2_0 = 7)) = false →
              ((decide (n2_0 = 8)) = true →
                Trip Tryz.prog 92 #[.pointer (some (a_0.add 0)), .agg #[x1_0.val, x1_1.val], .agg #[.int .i64 n2_0, .int .i64 n2_1, .int .i64 n2_2, x2_3.val, x2_4.val]] v fun r30 w31 =>
                  ∃ q32 : Bool, r30 = .bool q32 ∧
                  ((.sl x1_0 : SV) = .sl x1_0) ∧
                  ((.sl x1_1 : SV) = .sl x1_1) ∧
                  ((.num .i64 n2_0 : SV) = .num .i64 n2_0) ∧
                  ((.num .i64 n2_1 : SV) = .num .i64 n2_1) ∧
                  ((.num .i64 n2_2 : SV) = .num .i64 n2_2) ∧
                  ((.sl x2_3 : SV) = .sl x2_3) ∧
                  ((.sl x2_4 : SV) = .sl x2_4) ∧
                  J5 q32 w31) ∧
              ((decide (n2_0 = 8)) = false →
                Trip Tryz.prog 93 #[.pointer (some (a_0.add 0)), .agg #[x1_0.val, x1_1.val], .agg #[.int .i64 n2_0, .int .i64 n2_1, .int .i64 n2_2, x2_3.val, x2_4.val]] v fun r33 w34 =>
                  ∃ q35 : Bool, r33 = .bool q35 ∧
                  ((.sl x1_0 : SV) = .sl x1_0) ∧
                  ((.sl x1_1 : SV) = .sl x1_1) ∧
                  ((.num .i64 n2_0 : SV) = .num .i64 n2_0) ∧
                  ((.num .i64 n2_1 : SV) = .num .i64 n2_1) ∧
                  ((.num .i64 n2_2 : SV) = .num .i64 n2_2) ∧
                  ((.sl x2_3 : SV) = .sl x2_3) ∧
                  ((.sl x2_4 : SV) = .sl x2_4) ∧
                  J5 q35 w34))))))) ∧
  ∀ q36 : Bool, ∀ w37 : World, J5 q36 w37 →
  ((!q36) = true →
    Q (.bool false) w37) ∧
  ((!q36) = false →
    ∃ q38 : Bool, (Trip Tryz.prog 75 #[.int .i64 n2_0] w37 fun r39 w40 => r39 = .bool q38 ∧ Sub w37 w40) ∧
    ((q38 && (!decide (n2 = 0))) = true →
      Trip Tryz.prog 76 #[.pointer (some (a_0.add 0)), .int .i64 n2, .int .i64 1, .int .i64 (-1)] w37 fun r41 w42 =>
        r41 = .tuple #[] ∧
        Q (.bool true) w42) ∧
    ((q38 && (!decide (n2 = 0))) = false →
      ∃ q43 : Bool, (Trip Tryz.prog 75 #[.int .i64 n2_0] w37 fun r44 w45 => r44 = .bool q43 ∧ Sub w37 w45) ∧
      (q43 = true →
        Trip Tryz.prog 76 #[.pointer (some (a_0.add 0)), .int .i64 0, .int .i64 0, .int .i64 (-1)] w37 fun r46 w47 =>
          r46 = .tuple #[] ∧
          Q (.bool true) w47) ∧
      (q43 = false →
        Q (.bool true) w37)))
theorem of62j (a_0 : Addr) (x1_0 : Sl) (x1_1 : Sl) (n2_0 : Int) (n2_1 : Int) (n2_2 : Int) (x2_3 : Sl) (x2_4 : Sl) (v : World) (Q : Value → World → Prop) (h : vc62j a_0 x1_0 x1_1 n2_0 n2_1 n2_2 x2_3 x2_4 v Q) : Trip Tryz.prog 62 #[.pointer (some (a_0.add 0)), .agg #[x1_0.val, x1_1.val], .agg #[.int .i64 n2_0, .int .i64 n2_1, .int .i64 n2_2, x2_3.val, x2_4.val]] v Q :=
  trip_of_eq (args := [.pt a_0 0, .ag [.sl x1_0, .sl x1_1], .ag [.num .i64 n2_0, .num .i64 n2_1, .num .i64 n2_2, .sl x2_3, .sl x2_4]]) (A := ⟨[], [(16, [(8, .bool)], [])], [(7, [])], [999999], [8, 12, 17, 20, 20, 25, 26, 27, 28, 32, 34, 35, 42, 43, 44, 45, 46, 47, 48, 55, 60, 61, 65, 66, 67, 68, 69, 70, 72, 73, 74, 75, 81, 85, 89, 90, 95, 96, 97, 98, 99, 100, 101, 102, 103, 105, 106, 107, 108, 111, 112, 113, 114, 117, 120, 122, 123, 125, 126, 127, 128, 129, 130, 133, 137, 138, 139, 140, 146, 148, 149, 152, 156, 158, 161, 162, 165, 185]⟩) Tryz.func62 (by kernel_rfl) (by kernel_rfl) (by kernel_rfl : vc62j a_0 x1_0 x1_1 n2_0 n2_1 n2_2 x2_3 x2_4 v Q = _) h

end Go.Vc
