/- Part of the proofs about the heaps and memories: a law is joined in the text whose name ends in W and the law. -/
import Derived.Test.YtlmhbeohfihbnaaEG
namespace Go.Vc
open Go Go.Proofs
set_option linter.all false
/-- spec.goodMemory -/
def vc61j (a_0 : Addr) (v : World) (Q : Value → World → Prop) : Prop :=
  StepT Try.prog (Instr.buildSlice 23 0 #[]) v fun r1 w2 =>
    ∃ x3 : Sl, r1 = x3.val ∧
    Trip Try.prog 38 #[.int .i64 4] w2 fun r4 w5 =>
      ∃ x6 : Sl, r4 = x6.val ∧
      Trip Try.prog 62 #[.pointer (some (a_0.add 0)), .int .i64 14] w5 fun r7 w8 =>
        ∃ n9 : Int, r7 = .int .i64 n9 ∧
        ∃ n10 : Int, Wr .i64 (3 + n9) n10 ∧
        ∃ I11 : Int → Sl → Sl → World → Prop, ∃ m12 : Int → Sl → Sl → World → Nat, I11 n10 x3 x6 w8 ∧
        ∀ n13 : Int, ∀ x14 : Sl, ∀ x15 : Sl, ∀ w16 : World, I11 n13 x14 x15 w16 →
        ((decide (n13 > 0)) = true →
          ∃ J17 : Sl → Sl → World → Prop, (StepT Try.prog (Instr.buildSlice 23 0 #[]) w16 fun r18 w19 =>
              ∃ x20 : Sl, r18 = x20.val ∧
              Trip Try.prog 62 #[.pointer (some (a_0.add 0)), .int .i64 4] w19 fun r21 w22 =>
                ∃ n23 : Int, r21 = .int .i64 n23 ∧
                ∃ I24 : Sl → Int → Sl → Sl → World → Prop, ∃ m25 : Sl → Int → Sl → Sl → World → Nat, I24 x20 n23 x14 x15 w22 ∧
                ∀ x26 : Sl, ∀ n27 : Int, ∀ x28 : Sl, ∀ x29 : Sl, ∀ w30 : World, I24 x26 n27 x28 x29 w30 →
                ((decide (n27 > 0)) = true →
                  Trip Try.prog 29 #[.pointer (some (a_0.add 0)), .agg #[x28.val, x29.val]] w30 fun r31 w32 =>
                    ∃ n33 : Int, r31 = .int .i64 n33 ∧
                    Trip Try.prog 18 #[.agg #[x28.val, x29.val], .int .i64 n33] w32 fun r34 w35 =>
                      ∃ x36 : Sl, ∃ x37 : Sl, ∃ q38 : Bool, r34 = .tuple #[.agg #[x36.val, x37.val], .bool q38] ∧
                      (q38 = true →
                        StepT Try.prog (Instr.buildSlice 23 1 #[(0, (.int .i64 n33))]) w35 fun r39 w40 =>
                          ∃ x41 : Sl, r39 = x41.val ∧
                          StepT Try.prog (Builtin.append_ #[23, 23] 23 #[(x26.val), (x41.val)]) w40 fun r42 w43 =>
                            ∃ x44 : Sl, r42 = x44.val ∧
                            ∃ n45 : Int, Wr .i64 (n27 - 1) n45 ∧
                            ((.sl (Sl.mk none 0 0) : SV) = .sl (Sl.mk none 0 0)) ∧
                            ((.sl (Sl.mk none 0 0) : SV) = .sl (Sl.mk none 0 0)) ∧
                            I24 x44 n45 x36 x37 w43 ∧
                            m25 x44 n45 x36 x37 w43 < m25 x26 n27 x28 x29 w30) ∧
                      (q38 = false →
                        Trip Try.prog 62 #[.pointer (some (a_0.add 0)), .int .i64 9] w35 fun r46 w47 =>
                          ∃ n48 : Int, r46 = .int .i64 n48 ∧
                          StepT Try.prog (Instr.buildSlice 23 1 #[(0, (.int .i64 n48))]) w47 fun r49 w50 =>
                            ∃ x51 : Sl, r49 = x51.val ∧
                            StepT Try.prog (Builtin.append_ #[23, 23] 23 #[(x26.val), (x51.val)]) w50 fun r52 w53 =>
                              ∃ x54 : Sl, r52 = x54.val ∧
                              ∃ n55 : Int, Wr .i64 (n27 - 1) n55 ∧
                              ((.sl (Sl.mk none 0 0) : SV) = .sl (Sl.mk none 0 0)) ∧
                              ((.sl (Sl.mk none 0 0) : SV) = .sl (Sl.mk none 0 0)) ∧
                              I24 x54 n55 x28 x29 w53 ∧
                              m25 x54 n55 x28 x29 w53 < m25 x26 n27 x28 x29 w30)) ∧
                ((decide (n27 > 0)) = false →
                  (Trip Try.prog 62 #[.pointer (some (a_0.add 0)), .int .i64 7] w30 fun r56 w57 =>
                      ∃ n58 : Int, r56 = .int .i64 n58 ∧
                      (StepT Try.prog (Instr.buildSlice 23 3 #[(0, (.int .i64 n58)), (1, (.int .i64 0)), (2, (.int .i64 99))]) w57 fun r59 w60 =>
                          ∃ x61 : Sl, r59 = x61.val ∧
                          (Trip Try.prog 28 #[.pointer (some (a_0.add 0)), x61.val] w60 fun r62 w63 =>
                              ∃ n64 : Int, r62 = .int .i64 n64 ∧
                              (Trip Try.prog 11 #[.agg #[x28.val, x29.val], .int .i64 n64, x26.val] w63 fun r65 w66 =>
                                  ∃ x67 : Sl, ∃ x68 : Sl, ∃ n69 : Int, r65 = .tuple #[.agg #[x67.val, x68.val], .int .i64 n69] ∧
                                  ∃ J70 : Sl → Sl → World → Prop, (((decide (n69 > 0)) = true →
                                      ((.sl (Sl.mk none 0 0) : SV) = .sl (Sl.mk none 0 0)) ∧
                                      ((.sl (Sl.mk none 0 0) : SV) = .sl (Sl.mk none 0 0)) ∧
                                      ((.sl x67 : SV) = .sl x67) ∧
                                      ((.sl x68 : SV) = .sl x68) ∧
                                      J70 x67 x68 w66) ∧
                                    ((decide (n69 > 0)) = false →
                                      ((.sl (Sl.mk none 0 0) : SV) = .sl (Sl.mk none 0 0)) ∧
                                      ((.sl (Sl.mk none 0 0) : SV) = .sl (Sl.mk none 0 0)) ∧
                                      ((.sl x67 : SV) = .sl x67) ∧
                                      ((.sl x68 : SV) = .sl x68) ∧
                                      J70 x28 x29 w66)) ∧
                                  ∀ x71 : Sl, ∀ x72 : Sl, ∀ w73 : World, J70 x71 x72 w73 →
                                  Trip Try.prog 62 #[.pointer (some (a_0.add 0)), .int .i64 3] w73 fun r74 w75 =>
                                    ∃ n76 : Int, r74 = .int .i64 n76 ∧
                                    ((decide (n76 = 0)) = true →
                                      (Trip Try.prog 29 #[.pointer (some (a_0.add 0)), .agg #[x71.val, x72.val]] w75 fun r77 w78 =>
                                          ∃ n79 : Int, r77 = .int .i64 n79 ∧
                                          (Trip Try.prog 24 #[.agg #[x71.val, x72.val], .int .i64 n79] w78 fun r80 w81 =>
                                              ∃ x82 : Sl, ∃ x83 : Sl, ∃ q84 : Bool, r80 = .tuple #[.agg #[x82.val, x83.val], .bool q84] ∧
                                              Sub w81 w81 ∧
                                              (q84 = true →
                                                ((.sl (Sl.mk none 0 0) : SV) = .sl (Sl.mk none 0 0)) ∧
                                                ((.sl (Sl.mk none 0 0) : SV) = .sl (Sl.mk none 0 0)) ∧
                                                J17 x82 x83 w81) ∧
                                              (q84 = false →
                                                ((.sl (Sl.mk none 0 0) : SV) = .sl (Sl.mk none 0 0)) ∧
                                                ((.sl (Sl.mk none 0 0) : SV) = .sl (Sl.mk none 0 0)) ∧
                                                J17 x71 x72 w81)) ∧
                                          Sub w78 w78 ∧
                                          Trip Try.prog 24 #[.agg #[x71.val, x72.val], .int .i64 n79] w78 fun r85 w86 =>
                                            ∃ x87 : Sl, ∃ x88 : Sl, ∃ q89 : Bool, r85 = .tuple #[.agg #[x87.val, x88.val], .bool q89] ∧
                                            (q89 = true →
                                              ((.sl (Sl.mk none 0 0) : SV) = .sl (Sl.mk none 0 0)) ∧
                                              ((.sl (Sl.mk none 0 0) : SV) = .sl (Sl.mk none 0 0)) ∧
                                              J17 x87 x88 w86) ∧
                                            (q89 = false →
                                              ((.sl (Sl.mk none 0 0) : SV) = .sl (Sl.mk none 0 0)) ∧
                                              ((.sl (Sl.mk none 0 0) : SV) = .sl (Sl.mk none 0 0)) ∧
                                              J17 x71 x72 w86)) ∧
                                      Sub w75 w75 ∧
                                      Trip Try.prog 29 #[.pointer (some (a_0.add 0)), .agg #[x71.val, x72.val]] w75 fun r90 w91 =>
                                        ∃ n92 : Int, r90 = .int .i64 n92 ∧
                                        Trip Try.prog 24 #[.agg #[x71.val, x72.val], .int .i64 n92] w91 fun r93 w94 =>
                                          ∃ x95 : Sl, ∃ x96 : Sl, ∃ q97 : Bool, r93 = .tuple #[.agg #[x95.val, x96.val], .bool q97] ∧
                                          (q97 = true →
                                            ((.sl (Sl.mk none 0 0) : SV) = .sl (Sl.mk none 0 0)) ∧
                                            ((.sl (Sl.mk none 0 0) : SV) = .sl (Sl.mk none 0 0)) ∧
                                            J17 x95 x96 w94) ∧
                                          (q97 = false →
                                            ((.sl (Sl.mk none 0 0) : SV) = .sl (Sl.mk none 0 0)) ∧
                                            ((.sl (Sl.mk none 0 0) : SV) = .sl (Sl.mk none 0 0)) ∧
                                            J17 x71 x72 w94)) ∧
                                    ((decide (n76 = 0)) = false →
                                      ((.sl (Sl.mk none 0 0) : SV) = .sl (Sl.mk none 0 0)) ∧
                                      ((.sl (Sl.mk none 0 0) : SV) = .sl (Sl.mk none 0 0)) ∧
                                      J17 x71 x72 w75)) ∧
                              Trip Try.prog 11 #[.agg #[x28.val, x29.val], .int .i64 n64, x26.val] w63 fun r98 w99 =>
                                ∃ x100 : Sl, ∃ x101 : Sl, ∃ n102 : Int, r98 = .tuple #[.agg #[x100.val, x101.val], .int .i64 n102] ∧
                                ∃ J103 : Sl → Sl → World → Prop, (((decide (n102 > 0)) = true →
                                    ((.sl (Sl.mk none 0 0) : SV) = .sl (Sl.mk none 0 0)) ∧
                                    ((.sl (Sl.mk none 0 0) : SV) = .sl (Sl.mk none 0 0)) ∧
                                    ((.sl x100 : SV) = .sl x100) ∧
                                    ((.sl x101 : SV) = .sl x101) ∧
                                    J103 x100 x101 w99) ∧
                                  ((decide (n102 > 0)) = false →
                                    ((.sl (Sl.mk none 0 0) : SV) = .sl (Sl.mk none 0 0)) ∧
                                    ((.sl (Sl.mk none 0 0) : SV) = .sl (Sl.mk none 0 0)) ∧
                                    ((.sl x100 : SV) = .sl x100) ∧
                                    ((.sl x101 : SV) = .sl x101) ∧
                                    J103 x28 x29 w99)) ∧
                                ∀ x104 : Sl, ∀ x105 : Sl, ∀ w106 : World, J103 x104 x105 w106 →
                                Trip Try.prog 62 #[.pointer (some (a_0.add 0)), .int .i64 3] w106 fun r107 w108 =>
                                  ∃ n109 : Int, r107 = .int .i64 n109 ∧
                                  ((decide (n109 = 0)) = true →
                                    (Trip Try.prog 29 #[.pointer (some (a_0.add 0)), .agg #[x104.val, x105.val]] w108 fun r110 w111 =>
                                        ∃ n112 : Int, r110 = .int .i64 n112 ∧
                                        (Trip Try.prog 24 #[.agg #[x104.val, x105.val], .int .i64 n112] w111 fun r113 w114 =>
                                            ∃ x115 : Sl, ∃ x116 : Sl, ∃ q117 : Bool, r113 = .tuple #[.agg #[x115.val, x116.val], .bool q117] ∧
                                            Sub w114 w114 ∧
                                            (q117 = true →
                                              ((.sl (Sl.mk none 0 0) : SV) = .sl (Sl.mk none 0 0)) ∧
                                              ((.sl (Sl.mk none 0 0) : SV) = .sl (Sl.mk none 0 0)) ∧
                                              J17 x115 x116 w114) ∧
                                            (q117 = false →
                                              ((.sl (Sl.mk none 0 0) : SV) = .sl (Sl.mk none 0 0)) ∧
                                              ((.sl (Sl.mk none 0 0) : SV) = .sl (Sl.mk none 0 0)) ∧
                                              J17 x104 x105 w114)) ∧
                                        Sub w111 w111 ∧
                                        Trip Try.prog 24 #[.agg #[x104.val, x105.val], .int .i64 n112] w111 fun r118 w119 =>
                                          ∃ x120 : Sl, ∃ x121 : Sl, ∃ q122 : Bool, r118 = .tuple #[.agg #[x120.val, x121.val], .bool q122] ∧
                                          (q122 = true →
                                            ((.sl (Sl.mk none 0 0) : SV) = .sl (Sl.mk none 0 0)) ∧
                                            ((.sl (Sl.mk none 0 0) : SV) = .sl (Sl.mk none 0 0)) ∧
                                            J17 x120 x121 w119) ∧
                                          (q122 = false →
                                            ((.sl (Sl.mk none 0 0) : SV) = .sl (Sl.mk none 0 0)) ∧
                                            ((.sl (Sl.mk none 0 0) : SV) = .sl (Sl.mk none 0 0)) ∧
                                            J17 x104 x105 w119)) ∧
                                    Sub w108 w108 ∧
                                    Trip Try.prog 29 #[.pointer (some (a_0.add 0)), .agg #[x104.val, x105.val]] w108 fun r123 w124 =>
                                      ∃ n125 : Int, r123 = .int .i64 n125 ∧
                                      Trip Try.prog 24 #[.agg #[x104.val, x105.val], .int .i64 n125] w124 fun r126 w127 =>
                                        ∃ x128 : Sl, ∃ x129 : Sl, ∃ q130 : Bool, r126 = .tuple #[.agg #[x128.val, x129.val], .bool q130] ∧
                                        (q130 = true →
                                          ((.sl (Sl.mk none 0 0) : SV) = .sl (Sl.mk none 0 0)) ∧
                                          ((.sl (Sl.mk none 0 0) : SV) = .sl (Sl.mk none 0 0)) ∧
                                          J17 x128 x129 w127) ∧
                                        (q130 = false →
                                          ((.sl (Sl.mk none 0 0) : SV) = .sl (Sl.mk none 0 0)) ∧
                                          ((.sl (Sl.mk none 0 0) : SV) = .sl (Sl.mk none 0 0)) ∧
                                          J17 x104 x105 w127)) ∧
                                  ((decide (n109 = 0)) = false →
                                    ((.sl (Sl.mk none 0 0) : SV) = .sl (Sl.mk none 0 0)) ∧
                                    ((.sl (Sl.mk none 0 0) : SV) = .sl (Sl.mk none 0 0)) ∧
                                    J17 x104 x105 w108)) ∧
                          Trip Try.prog 28 #[.pointer (some (a_0.add 0)), x61.val] w60 fun r131 w132 =>
                            ∃ n133 : Int, r131 = .int .i64 n133 ∧
                            Trip Try.prog 11 #[.agg #[x28.val, x29.val], .int .i64 n133, x26.val] w132 fun r134 w135 =>
                              ∃ x136 : Sl, ∃ x137 : Sl, ∃ n138 : Int, r134 = .tuple #[.agg #[x136.val, x137.val], .int .i64 n138] ∧
                              ∃ J139 : Sl → Sl → World → Prop, (((decide (n138 > 0)) = true →
                                  ((.sl (Sl.mk none 0 0) : SV) = .sl (Sl.mk none 0 0)) ∧
                                  ((.sl (Sl.mk none 0 0) : SV) = .sl (Sl.mk none 0 0)) ∧
                                  ((.sl x136 : SV) = .sl x136) ∧
                                  ((.sl x137 : SV) = .sl x137) ∧
                                  J139 x136 x137 w135) ∧
                                ((decide (n138 > 0)) = false →
                                  ((.sl (Sl.mk none 0 0) : SV) = .sl (Sl.mk none 0 0)) ∧
                                  ((.sl (Sl.mk none 0 0) : SV) = .sl (Sl.mk none 0 0)) ∧
                                  ((.sl x136 : SV) = .sl x136) ∧
                                  ((.sl x137 : SV) = .sl x137) ∧
                                  J139 x28 x29 w135)) ∧
                              ∀ x140 : Sl, ∀ x141 : Sl, ∀ w142 : World, J139 x140 x141 w142 →
                              Trip Try.prog 62 #[.pointer (some (a_0.add 0)), .int .i64 3] w142 fun r143 w144 =>
                                ∃ n145 : Int, r143 = .int .i64 n145 ∧
                                ((decide (n145 = 0)) = true →
                                  (Trip Try.prog 29 #[.pointer (some (a_0.add 0)), .agg #[x140.val, x141.val]] w144 fun r146 w147 =>
                                      ∃ n148 : Int, r146 = .int .i64 n148 ∧
                                      (Trip Try.prog 24 #[.agg #[x140.val, x141.val], .int .i64 n148] w147 fun r149 w150 =>
                                          ∃ x151 : Sl, ∃ x152 : Sl, ∃ q153 : Bool, r149 = .tuple #[.agg #[x151.val, x152.val], .bool q153] ∧
                                          Sub w150 w150 ∧
                                          (q153 = true →
                                            ((.sl (Sl.mk none 0 0) : SV) = .sl (Sl.mk none 0 0)) ∧
                                            ((.sl (Sl.mk none 0 0) : SV) = .sl (Sl.mk none 0 0)) ∧
                                            J17 x151 x152 w150) ∧
                                          (q153 = false →
                                            ((.sl (Sl.mk none 0 0) : SV) = .sl (Sl.mk none 0 0)) ∧
                                            ((.sl (Sl.mk none 0 0) : SV) = .sl (Sl.mk none 0 0)) ∧
                                            J17 x140 x141 w150)) ∧
                                      Sub w147 w147 ∧
                                      Trip Try.prog 24 #[.agg #[x140.val, x141.val], .int .i64 n148] w147 fun r154 w155 =>
                                        ∃ x156 : Sl, ∃ x157 : Sl, ∃ q158 : Bool, r154 = .tuple #[.agg #[x156.val, x157.val], .bool q158] ∧
                                        (q158 = true →
                                          ((.sl (Sl.mk none 0 0) : SV) = .sl (Sl.mk none 0 0)) ∧
                                          ((.sl (Sl.mk none 0 0) : SV) = .sl (Sl.mk none 0 0)) ∧
                                          J17 x156 x157 w155) ∧
                                        (q158 = false →
                                          ((.sl (Sl.mk none 0 0) : SV) = .sl (Sl.mk none 0 0)) ∧
                                          ((.sl (Sl.mk none 0 0) : SV) = .sl (Sl.mk none 0 0)) ∧
                                          J17 x140 x141 w155)) ∧
                                  Sub w144 w144 ∧
                                  Trip Try.prog 29 #[.pointer (some (a_0.add 0)), .agg #[x140.val, x141.val]] w144 fun r159 w160 =>
                                    ∃ n161 : Int, r159 = .int .i64 n161 ∧
                                    Trip Try.prog 24 #[.agg #[x140.val, x141.val], .int .i64 n161] w160 fun r162 w163 =>
                                      ∃ x164 : Sl, ∃ x165 : Sl, ∃ q166 : Bool, r162 = .tuple #[.agg #[x164.val, x165.val], .bool q166] ∧
                                      (q166 = true →
                                        ((.sl (Sl.mk none 0 0) : SV) = .sl (Sl.mk none 0 0)) ∧
                                        ((.sl (Sl.mk none 0 0) : SV) = .sl (Sl.mk none 0 0)) ∧
                                        J17 x164 x165 w163) ∧
                                      (q166 = false →
                                        ((.sl (Sl.mk none 0 0) : SV) = .sl (Sl.mk none 0 0)) ∧
                                        ((.sl (Sl.mk none 0 0) : SV) = .sl (Sl.mk none 0 0)) ∧
                                        J17 x140 x141 w163)) ∧
                                ((decide (n145 = 0)) = false →
                                  ((.sl (Sl.mk none 0 0) : SV) = .sl (Sl.mk none 0 0)) ∧
                                  ((.sl (Sl.mk none 0 0) : SV) = .sl (Sl.mk none 0 0)) ∧
                                  J17 x140 x141 w144)) ∧
                      StepT Try.prog (Instr.buildSlice 23 3 #[(0, (.int .i64 n58)), (1, (.int .i64 0)), (2, (.int .i64 99))]) w57 fun r167 w168 =>
                        ∃ x169 : Sl, r167 = x169.val ∧
                        Trip Try.prog 28 #[.pointer (some (a_0.add 0)), x169.val] w168 fun r170 w171 =>
                          ∃ n172 : Int, r170 = .int .i64 n172 ∧
                          Trip Try.prog 11 #[.agg #[x28.val, x29.val], .int .i64 n172, x26.val] w171 fun r173 w174 =>
                            ∃ x175 : Sl, ∃ x176 : Sl, ∃ n177 : Int, r173 = .tuple #[.agg #[x175.val, x176.val], .int .i64 n177] ∧
                            ∃ J178 : Sl → Sl → World → Prop, (((decide (n177 > 0)) = true →
                                ((.sl (Sl.mk none 0 0) : SV) = .sl (Sl.mk none 0 0)) ∧
                                ((.sl (Sl.mk none 0 0) : SV) = .sl (Sl.mk none 0 0)) ∧
                                ((.sl x175 : SV) = .sl x175) ∧
                                ((.sl x176 : SV) = .sl x176) ∧
                                J178 x175 x176 w174) ∧
                              ((decide (n177 > 0)) = false →
                                ((.sl (Sl.mk none 0 0) : SV) = .sl (Sl.mk none 0 0)) ∧
                                ((.sl (Sl.mk none 0 0) : SV) = .sl (Sl.mk none 0 0)) ∧
                                ((.sl x175 : SV) = .sl x175) ∧
                                ((.sl x176 : SV) = .sl x176) ∧
                                J178 x28 x29 w174)) ∧
                            ∀ x179 : Sl, ∀ x180 : Sl, ∀ w181 : World, J178 x179 x180 w181 →
                            Trip Try.prog 62 #[.pointer (some (a_0.add 0)), .int .i64 3] w181 fun r182 w183 =>
                              ∃ n184 : Int, r182 = .int .i64 n184 ∧
                              ((decide (n184 = 0)) = true →
                                (Trip Try.prog 29 #[.pointer (some (a_0.add 0)), .agg #[x179.val, x180.val]] w183 fun r185 w186 =>
                                    ∃ n187 : Int, r185 = .int .i64 n187 ∧
                                    (Trip Try.prog 24 #[.agg #[x179.val, x180.val], .int .i64 n187] w186 fun r188 w189 =>
                                        ∃ x190 : Sl, ∃ x191 : Sl, ∃ q192 : Bool, r188 = .tuple #[.agg #[x190.val, x191.val], .bool q192] ∧
                                        Sub w189 w189 ∧
                                        (q192 = true →
                                          ((.sl (Sl.mk none 0 0) : SV) = .sl (Sl.mk none 0 0)) ∧
                                          ((.sl (Sl.mk none 0 0) : SV) = .sl (Sl.mk none 0 0)) ∧
                                          J17 x190 x191 w189) ∧
                                        (q192 = false →
                                          ((.sl (Sl.mk none 0 0) : SV) = .sl (Sl.mk none 0 0)) ∧
                                          ((.sl (Sl.mk none 0 0) : SV) = .sl (Sl.mk none 0 0)) ∧
                                          J17 x179 x180 w189)) ∧
                                    Sub w186 w186 ∧
                                    Trip Try.prog 24 #[.agg #[x179.val, x180.val], .int .i64 n187] w186 fun r193 w194 =>
                                      ∃ x195 : Sl, ∃ x196 : Sl, ∃ q197 : Bool, r193 = .tuple #[.agg #[x195.val, x196.val], .bool q197] ∧
                                      (q197 = true →
                                        ((.sl (Sl.mk none 0 0) : SV) = .sl (Sl.mk none 0 0)) ∧
                                        ((.sl (Sl.mk none 0 0) : SV) = .sl (Sl.mk none 0 0)) ∧
                                        J17 x195 x196 w194) ∧
                                      (q197 = false →
                                        ((.sl (Sl.mk none 0 0) : SV) = .sl (Sl.mk none 0 0)) ∧
                                        ((.sl (Sl.mk none 0 0) : SV) = .sl (Sl.mk none 0 0)) ∧
                                        J17 x179 x180 w194)) ∧
                                Sub w183 w183 ∧
                                Trip Try.prog 29 #[.pointer (some (a_0.add 0)), .agg #[x179.val, x180.val]] w183 fun r198 w199 =>
                                  ∃ n200 : Int, r198 = .int .i64 n200 ∧
                                  Trip Try.prog 24 #[.agg #[x179.val, x180.val], .int .i64 n200] w199 fun r201 w202 =>
                                    ∃ x203 : Sl, ∃ x204 : Sl, ∃ q205 : Bool, r201 = .tuple #[.agg #[x203.val, x204.val], .bool q205] ∧
                                    (q205 = true →
                                      ((.sl (Sl.mk none 0 0) : SV) = .sl (Sl.mk none 0 0)) ∧
                                      ((.sl (Sl.mk none 0 0) : SV) = .sl (Sl.mk none 0 0)) ∧
                                      J17 x203 x204 w202) ∧
                                    (q205 = false →
                                      ((.sl (Sl.mk none 0 0) : SV) = .sl (Sl.mk none 0 0)) ∧
                                      ((.sl (Sl.mk none 0 0) : SV) = .sl (Sl.mk none 0 0)) ∧
                                      J17 x179 x180 w202)) ∧
                              ((decide (n184 = 0)) = false →
                                ((.sl (Sl.mk none 0 0) : SV) = .sl (Sl.mk none 0 0)) ∧
                                ((.sl (Sl.mk none 0 0) : SV) = .sl (Sl.mk none 0 0)) ∧
                                J17 x179 x180 w183)) ∧
                  Trip Try.prog 62 #[.pointer (some (a_0.add 0)), .int .i64 7] w30 fun r206 w207 =>
                    ∃ n208 : Int, r206 = .int .i64 n208 ∧
                    StepT Try.prog (Instr.buildSlice 23 3 #[(0, (.int .i64 n208)), (1, (.int .i64 0)), (2, (.int .i64 99))]) w207 fun r209 w210 =>
                      ∃ x211 : Sl, r209 = x211.val ∧
                      Trip Try.prog 28 #[.pointer (some (a_0.add 0)), x211.val] w210 fun r212 w213 =>
                        ∃ n214 : Int, r212 = .int .i64 n214 ∧
                        Trip Try.prog 11 #[.agg #[x28.val, x29.val], .int .i64 n214, x26.val] w213 fun r215 w216 =>
                          ∃ x217 : Sl, ∃ x218 : Sl, ∃ n219 : Int, r215 = .tuple #[.agg #[x217.val, x218.val], .int .i64 n219] ∧
                          ∃ J220 : Sl → Sl → World → Prop, (((decide (n219 > 0)) = true →
                              ((.sl (Sl.mk none 0 0) : SV) = .sl (Sl.mk none 0 0)) ∧
                              ((.sl (Sl.mk none 0 0) : SV) = .sl (Sl.mk none 0 0)) ∧
                              ((.sl x217 : SV) = .sl x217) ∧
                              ((.sl x218 : SV) = .sl x218) ∧
                              J220 x217 x218 w216) ∧
                            ((decide (n219 > 0)) = false →
                              ((.sl (Sl.mk none 0 0) : SV) = .sl (Sl.mk none 0 0)) ∧
                              ((.sl (Sl.mk none 0 0) : SV) = .sl (Sl.mk none 0 0)) ∧
                              ((.sl x217 : SV) = .sl x217) ∧
                              ((.sl x218 : SV) = .sl x218) ∧
                              J220 x28 x29 w216)) ∧
                          ∀ x221 : Sl, ∀ x222 : Sl, ∀ w223 : World, J220 x221 x222 w223 →
                          Trip Try.prog 62 #[.pointer (some (a_0.add 0)), .int .i64 3] w223 fun r224 w225 =>
                            ∃ n226 : Int, r224 = .int .i64 n226 ∧
                            ((decide (n226 = 0)) = true →
                              (Trip Try.prog 29 #[.pointer (some (a_0.add 0)), .agg #[x221.val, x222.val]] w225 fun r227 w228 =>
                                  ∃ n229 : Int, r227 = .int .i64 n229 ∧
                                  (Trip Try.prog 24 #[.agg #[x221.val, x222.val], .int .i64 n229] w228 fun r230 w231 =>
                                      ∃ x232 : Sl, ∃ x233 : Sl, ∃ q234 : Bool, r230 = .tuple #[.agg #[x232.val, x233.val], .bool q234] ∧
                                      Sub w231 w231 ∧
                                      (q234 = true →
                                        ((.sl (Sl.mk none 0 0) : SV) = .sl (Sl.mk none 0 0)) ∧
                                        ((.sl (Sl.mk none 0 0) : SV) = .sl (Sl.mk none 0 0)) ∧
                                        J17 x232 x233 w231) ∧
                                      (q234 = false →
                                        ((.sl (Sl.mk none 0 0) : SV) = .sl (Sl.mk none 0 0)) ∧
                                        ((.sl (Sl.mk none 0 0) : SV) = .sl (Sl.mk none 0 0)) ∧
                                        J17 x221 x222 w231)) ∧
                                  Sub w228 w228 ∧
                                  Trip Try.prog 24 #[.agg #[x221.val, x222.val], .int .i64 n229] w228 fun r235 w236 =>
                                    ∃ x237 : Sl, ∃ x238 : Sl, ∃ q239 : Bool, r235 = .tuple #[.agg #[x237.val, x238.val], .bool q239] ∧
                                    (q239 = true →
                                      ((.sl (Sl.mk none 0 0) : SV) = .sl (Sl.mk none 0 0)) ∧
                                      ((.sl (Sl.mk none 0 0) : SV) = .sl (Sl.mk none 0 0)) ∧
                                      J17 x237 x238 w236) ∧
                                    (q239 = false →
                                      ((.sl (Sl.mk none 0 0) : SV) = .sl (Sl.mk none 0 0)) ∧
                                      ((.sl (Sl.mk none 0 0) : SV) = .sl (Sl.mk none 0 0)) ∧
                                      J17 x221 x222 w236)) ∧
                              Sub w225 w225 ∧
                              Trip Try.prog 29 #[.pointer (some (a_0.add 0)), .agg #[x221.val, x222.val]] w225 fun r240 w241 =>
                                ∃ n242 : Int, r240 = .int .i64 n242 ∧
                                Trip Try.prog 24 #[.agg #[x221.val, x222.val], .int .i64 n242] w241 fun r243 w244 =>
                                  ∃ x245 : Sl, ∃ x246 : Sl, ∃ q247 : Bool, r243 = .tuple #[.agg #[x245.val, x246.val], .bool q247] ∧
                                  (q247 = true →
                                    ((.sl (Sl.mk none 0 0) : SV) = .sl (Sl.mk none 0 0)) ∧
                                    ((.sl (Sl.mk none 0 0) : SV) = .sl (Sl.mk none 0 0)) ∧
                                    J17 x245 x246 w244) ∧
                                  (q247 = false →
                                    ((.sl (Sl.mk none 0 0) : SV) = .sl (Sl.mk none 0 0)) ∧
                                    ((.sl (Sl.mk none 0 0) : SV) = .sl (Sl.mk none 0 0)) ∧
                                    J17 x221 x222 w244)) ∧
                            ((decide (n226 = 0)) = false →
                              ((.sl (Sl.mk none 0 0) : SV) = .sl (Sl.mk none 0 0)) ∧
                              ((.sl (Sl.mk none 0 0) : SV) = .sl (Sl.mk none 0 0)) ∧
                              J17 x221 x222 w225))) ∧
          ∀ x248 : Sl, ∀ x249 : Sl, ∀ w250 : World, J17 x248 x249 w250 →
          ∃ n251 : Int, Wr .i64 (n13 - 1) n251 ∧
          ((.sl (Sl.mk none 0 0) : SV) = .sl (Sl.mk none 0 0)) ∧
          ((.sl (Sl.mk none 0 0) : SV) = .sl (Sl.mk none 0 0)) ∧
          I11 n251 x248 x249 w250 ∧
          m12 n251 x248 x249 w250 < m12 n13 x14 x15 w16) ∧
        ((decide (n13 > 0)) = false →
          Q (.agg #[x14.val, x15.val]) w16)
theorem of61j (a_0 : Addr) (v : World) (Q : Value → World → Prop) (h : vc61j a_0 v Q) : Trip Try.prog 61 #[.pointer (some (a_0.add 0))] v Q :=
  trip_of_eq (args := [.pt a_0 0]) (A := ⟨[(3, [(4, .int .i64)], [(1, 0, .sl), (1, 1, .sl)]), (7, [(5, .sl), (6, .int .i64)], [(1, 0, .sl), (1, 1, .sl)])], [(4, [], [(1, 0, .sl), (1, 1, .sl)]), (18, [], [(1, 0, .sl), (1, 1, .sl)])], [(15, []), (19, [8])], [], [12, 20, 22, 31, 32, 34, 35, 36, 40, 42, 46, 50, 52, 53, 55, 65, 68, 70, 72, 75, 76, 77, 80, 81, 82, 84, 85, 86]⟩) Try.func61 (by kernel_rfl) (by kernel_rfl) (by kernel_rfl : vc61j a_0 v Q = _) h

end Go.Vc
