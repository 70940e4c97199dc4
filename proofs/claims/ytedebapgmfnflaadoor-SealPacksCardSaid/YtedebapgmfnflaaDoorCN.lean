/- The clean forms of some of the program's functions, written by a program of ours; each is the model's own by the kernel's reckoning. -/
import Derived.Test.YtedebapgmfnflaaDoorGB
import Derived.KernelRfl
namespace Go.Proofs.YtedebapgmfnflaaDoor
open Go
set_option maxRecDepth 100000

/-- imprimatur/imprimaturlaw04.alive -/
def c15 (w : World) (K : VPost) : Prop :=
  insW Tryd.prog (Instr.buildSlice 22 2 #[(0, (.int .u8 97)), (1, (.int .u8 98))]) w fun t16_0 w1 =>
  fnW Tryd.prog 17 #[(.int .i64 3), (.int .i64 7), t16_0] w1 fun t17_2 w3 =>
  extrW t17_2 0 w3 fun t18_4 w5 =>
  extrW t17_2 1 w5 fun t19_6 w7 =>
  insW Tryd.prog (Instr.makeSlice 22 (.int .i64 20) (.int .i64 20)) w7 fun t21_8 w9 =>
  fnW Tryd.prog 17 #[(.int .i64 3), (.int .i64 8), t21_8] w9 fun t22_10 w11 =>
  extrW t22_10 0 w11 fun t23_12 w13 =>
  extrW t22_10 1 w13 fun t24_14 w15 =>
  unN Tryd.prog .not t19_6 w15 fun t26_16 w17 =>
  gstep t26_16 false w17 (fun K => K t24_14 w17) fun t28_18 w19 =>
  gstep t26_16 false w19 (fun K => unN Tryd.prog .not t28_18 w19 K) fun t29_20 w21 =>
  pickW t26_16 (.bool true) t29_20 w21 fun t30_22 w23 =>
  gstep t30_22 false w23 (fun K => K t18_4 w23) fun t32_24 w25 =>
  gstep t30_22 false w25 (fun K => lenW Tryd.prog (some true) #[23] 3 #[t32_24] w25 K) fun t33_26 w27 =>
  gstep t30_22 false w27 (fun K => binN Tryd.prog .neq 3 true t33_26 (.int .i64 1) w27 K) fun t34_28 w29 =>
  pickW t30_22 (.bool true) t34_28 w29 fun t35_30 w31 =>
  gstep t35_30 false w31 (fun K => K t23_12 w31) fun t37_32 w33 =>
  gstep t35_30 false w33 (fun K => lenW Tryd.prog (some true) #[23] 3 #[t37_32] w33 K) fun t38_34 w35 =>
  gstep t35_30 false w35 (fun K => binN Tryd.prog .neq 3 true t38_34 (.int .i64 2) w35 K) fun t39_36 w37 =>
  pickW t35_30 (.bool true) t39_36 w37 fun t40_38 w39 =>
  condW t40_38 (
  K (.bool false) w39) (
  insW Tryd.prog (Builtin.append_ #[23, 23] 23 #[t18_4, t23_12]) w39 fun t44_40 w41 =>
  fnW Tryd.prog 23 #[t44_40, (.int .i64 3), (.int .i64 7)] w41 fun t45_42 w43 =>
  extrW t45_42 0 w43 fun t46_44 w45 =>
  extrW t45_42 1 w45 fun t47_46 w47 =>
  extrW t45_42 2 w47 fun t48_48 w49 =>
  idxW (some (none, 64)) t23_12 (.int .i64 1) w49 fun t51_50 w51 =>
  loadW (some (true, 64)) t51_50 w51 fun t52_52 w53 =>
  fnW Tryd.prog 24 #[t52_52] w53 fun t53_54 w55 =>
  extrW t53_54 0 w55 fun t54_56 w57 =>
  extrW t53_54 1 w57 fun t55_58 w59 =>
  extrW t53_54 2 w59 fun t56_60 w61 =>
  idxW (some (none, 64)) t18_4 (.int .i64 0) w61 fun t58_62 w63 =>
  loadW (some (true, 64)) t58_62 w63 fun t59_64 w65 =>
  allocW (zeroO Tryd.prog 37) 37 w65 fun t11_66 w67 =>
  storeW (some (true, 64)) t11_66 t59_64 w67 fun w68 =>
  idxW (some ((some 64), 1)) t11_66 (.int .i64 20) w68 fun t60_69 w70 =>
  loadW (some (false, 1)) t60_69 w70 fun t61_71 w72 =>
  binN Tryd.prog .add 5 true t61_71 (.int .u8 1) w72 fun t62_73 w74 =>
  idxW (some ((some 64), 1)) t11_66 (.int .i64 20) w74 fun t63_75 w76 =>
  storeW (some (false, 1)) t63_75 t62_73 w76 fun w77 =>
  loadW (some (true, 64)) t11_66 w77 fun t65_78 w79 =>
  insW Tryd.prog (Instr.buildSlice 23 1 #[(0, t65_78)]) w79 fun t66_80 w81 =>
  fnW Tryd.prog 23 #[t66_80, (.int .i64 3), (.int .i64 7)] w81 fun t67_82 w83 =>
  extrW t67_82 0 w83 fun _ w85 =>
  extrW t67_82 1 w85 fun _ w87 =>
  extrW t67_82 2 w87 fun t70_88 w89 =>
  gstep t48_48 true w89.drew (fun K => K t70_88 w89.drew) fun t73_90 w91 =>
  gstep t48_48 true w91 (fun K => unN Tryd.prog .not t73_90 w91 K) fun t74_92 w93 =>
  pickW t48_48 t74_92 (.bool false) w93 fun t75_94 w95 =>
  gstep t75_94 true w95 (fun K => K t47_46 w95) fun t77_96 w97 =>
  gstep t75_94 true w97 (fun K => binN Tryd.prog .eql 3 true t77_96 (.int .i64 1) w97 K) fun t78_98 w99 =>
  pickW t75_94 t78_98 (.bool false) w99 fun t79_100 w101 =>
  gstep t79_100 true w101 (fun K => K t46_44 w101) fun t81_102 w103 =>
  gstep t79_100 true w103 (fun K => insW Tryd.prog (Instr.buildSlice 22 2 #[(0, (.int .u8 97)), (1, (.int .u8 98))]) w103 K) fun t82_104 w105 =>
  gstep t79_100 true w105 (fun K => fnW Tryd.prog 20 #[t81_102, t82_104] w105 K) fun t83_106 w107 =>
  pickW t79_100 t83_106 (.bool false) w107 fun t84_108 w109 =>
  gstep t84_108 true w109 (fun K => K t54_56 w109) fun t86_110 w111 =>
  gstep t84_108 true w111 (fun K => binN Tryd.prog .eql 3 true t86_110 (.int .i64 3) w111 K) fun t87_112 w113 =>
  pickW t84_108 t87_112 (.bool false) w113 fun t88_114 w115 =>
  gstep t88_114 true w115 (fun K => K t55_58 w115) fun t90_116 w117 =>
  gstep t88_114 true w117 (fun K => binN Tryd.prog .eql 3 true t90_116 (.int .i64 9) w117 K) fun t91_118 w119 =>
  pickW t88_114 t91_118 (.bool false) w119 fun t92_120 w121 =>
  gstep t92_120 true w121 (fun K => K t56_60 w121) fun t94_122 w123 =>
  pickW t92_120 t94_122 (.bool false) w123 fun t95_124 w125 =>
  gstep t95_124 true w125 (fun K => K t18_4 w125) fun t97_126 w127 =>
  gstep t95_124 true w127 (fun K => idxW (some (none, 64)) t97_126 (.int .i64 0) w127 K) fun t98_128 w129 =>
  gstep t95_124 true w129 (fun K => loadW (some (true, 64)) t98_128 w129 K) fun t99_130 w131 =>
  gstep t95_124 true w131 (fun K => fnW Tryd.prog 26 #[t99_130] w131 K) fun t100_132 w133 =>
  pickW t95_124 t100_132 (.bool false) w133 fun t101_134 w135 =>
  gstep t101_134 true w135 (fun K => fnW Tryd.prog 21 #[(.int .i64 0)] w135 K) fun t103_136 w137 =>
  gstep t101_134 true w137 (fun K => binN Tryd.prog .eql 3 true t103_136 (.int .i64 1) w137 K) fun t104_138 w139 =>
  pickW t101_134 t104_138 (.bool false) w139 fun t105_140 w141 =>
  gstep t105_140 true w141 (fun K => fnW Tryd.prog 21 #[(.int .i64 2001)] w141 K) fun t107_142 w143 =>
  gstep t105_140 true w143 (fun K => binN Tryd.prog .eql 3 true t107_142 (.int .i64 0) w143 K) fun t108_144 w145 =>
  pickW t105_140 t108_144 (.bool false) w145 fun t109_146 w147 =>
  gstep t109_146 true w147 (fun K => K t18_4 w147) fun t111_148 w149 =>
  gstep t109_146 true w149 (fun K => idxW (some (none, 64)) t111_148 (.int .i64 0) w149 K) fun t112_150 w151 =>
  gstep t109_146 true w151 (fun K => loadW (some (true, 64)) t112_150 w151 K) fun t113_152 w153 =>
  gstep t109_146 true w153 (fun K => loadW (some (true, 64)) t11_66 w153 K) fun t114_154 w155 =>
  gstep t109_146 true w155 (fun K => insW Tryd.prog (Instr.buildSlice 23 2 #[(0, t113_152), (1, t114_154)]) w155 K) fun t115_156 w157 =>
  gstep t109_146 true w157 (fun K => fnW Tryd.prog 30 #[t115_156] w157 K) fun t116_158 w159 =>
  gstep t109_146 true w159 (fun K => binN Tryd.prog .eql 3 true t116_158 (.int .i64 3) w159 K) fun t117_160 w161 =>
  pickW t109_146 t117_160 (.bool false) w161 fun t118_162 w163 =>
  gstep t118_162 true w163 (fun K => K t23_12 w163) fun t120_164 w165 =>
  gstep t118_162 true w165 (fun K => idxW (some (none, 64)) t120_164 (.int .i64 1) w165 K) fun t121_166 w167 =>
  gstep t118_162 true w167 (fun K => loadW (some (true, 64)) t121_166 w167 K) fun t122_168 w169 =>
  gstep t118_162 true w169 (fun K => fnW Tryd.prog 27 #[t122_168] w169 K) fun t123_170 w171 =>
  gstep t118_162 true w171 (fun K => lenW Tryd.prog (some true) #[22] 3 #[t123_170] w171 K) fun t124_172 w173 =>
  gstep t118_162 true w173 (fun K => binN Tryd.prog .eql 3 true t124_172 (.int .i64 8) w173 K) fun t125_174 w175 =>
  pickW t118_162 t125_174 (.bool false) w175 fun t126_176 w177 =>
  K t126_176 w177)
theorem c15_eq (w : World) (K : VPost) : c15  w K = WP true Tryd.prog 127 [(10, 4556449736824832, [0, 1, 2, 6, 10, 18, 32, 96, 160, 288, 512, 512, 3584, 4608, 12288, 16384, 49152, 81920, 147456, 262144, 786432, 1310720, 2359296, 4194304, 12582912, 20971520, 33554432, 100663296, 167772160, 301989888, 570425344, 1610612736, 2147483648, 6442450944, 10737418240, 21474836480, 34359738368, 103079215104, 171798691840, 343597383680, 549755813888, 1649267441664, 2748779069440, 549755813888, 13743895347200, 18141941858304, 35734127902720, 70918499991552, 175921860444160, 281474976710656, 844424930131968, 1407374883553280, 2533274790395904, 4785074604081152, 9288674231451648, 18295873486192640, 72057594037927935], [0, 1, 3, 7, 15, 31, 63, 127, 255, 511, 1023, 1023, 4095, 8191, 16383, 32767, 65535, 131071, 262143, 524287, 1048575, 2097151, 4194303, 8388607, 16777215, 33554431, 67108863, 134217727, 268435455, 536870911, 1073741823, 2147483647, 4294967295, 8589934591, 17179869183, 34359738367, 68719476735, 137438953471, 274877906943, 549755813887, 1099511627775, 2199023255551, 4398046511103, 1099511627775, 17592186044415, 35184372088831, 70368744177663, 140737488355327, 281474976710655, 562949953421311, 1125899906842623, 2251799813685247, 4503599627370495, 9007199254740991, 18014398509481983, 36028797018963967, 72057594037927935])] (bodyOf Tryd.f15) (argF []) w [.tmp 0] K := by kernel_rfl
theorem c15_calls (w : World) (K : VPost) (h : c15  w K) : Calls Tryd.prog 15 #[] w (retK K) :=
  calls_of_WP (c15_eq  w K) mixedG Tryd.func15 (by kernel_rfl) Tryd.ntmps15 (by kernel_rfl) (by kernel_rfl) h

/-- imprimatur/imprimaturlaw04.same -/
def c19 (x0 x1 : Value) (w : World) (K : VPost) : Prop :=
  lenW Tryd.prog (some true) #[23] 3 #[x0] w fun t7_0 w1 =>
  lenW Tryd.prog (some true) #[23] 3 #[x1] w1 fun t9_2 w3 =>
  binN Tryd.prog .neq 3 false t7_0 t9_2 w3 fun t10_4 w5 =>
  condW t10_4 (
  K (.bool false) w5) (
  bindX (endW Tryd.prog [.tmp 4] K) fun K6 =>
  bindX (seqX (fun _ w9 =>
  K (.bool true) w9) K6) fun K7 =>
  bindX (blkX 0 K7) fun K10 =>
  loopW (fun f11 w12 K13 =>
  lenW Tryd.prog (some true) #[23] 3 #[(f11 0)] w12 fun t13_14 w15 =>
  binN Tryd.prog .lss 3 false (f11 5) t13_14 w15 fun t14_16 w17 =>
  condW t14_16 (
  idxW (some (none, 64)) (f11 0) (f11 5) w17.drew fun t19_18 w19 =>
  loadW (some (true, 64)) t19_18 w19 fun t20_20 w21 =>
  idxW (some (none, 64)) (f11 1) (f11 5) w21 fun t23_22 w23 =>
  loadW (some (true, 64)) t23_22 w23 fun t24_24 w25 =>
  binW Tryd.prog .neq 37 false t20_20 t24_24 w25 fun t25_26 w27 =>
  w27 = w25 ∧
  condW t25_26 (
  K13 .ret (pf 26 (pf 26 (pf 26 (pf 26 (pf 26 (pf 26 (pf 26 (pf 26 (pf 26 (pf 26 (pf 26 (pf 26 (pf 26 (pf 26 f11 11 (f11 5)) 12 (f11 0)) 13 t13_14) 14 t14_16) 17 (f11 0)) 18 (f11 5)) 19 t19_18) 20 t20_20) 21 (f11 1)) 22 (f11 5)) 23 t23_22) 24 t24_24) 25 t25_26) 4 (.bool false)) w27) (
  binN Tryd.prog .add 3 true (f11 5) (.int .i64 1) w27 fun t16_28 w29 =>
  K13 .normal (pf 26 (pf 26 (pf 26 (pf 26 (pf 26 (pf 26 (pf 26 (pf 26 (pf 26 (pf 26 (pf 26 (pf 26 (pf 26 (pf 26 (pf 26 (pf 26 f11 11 (f11 5)) 12 (f11 0)) 13 t13_14) 14 t14_16) 17 (f11 0)) 18 (f11 5)) 19 t19_18) 20 t20_20) 21 (f11 1)) 22 (f11 5)) 23 t23_22) 24 t24_24) 25 t25_26) 15 (f11 5)) 16 t16_28) 5 t16_28) w29)) (
  K13 (.exit 0) (pf 26 (pf 26 (pf 26 (pf 26 f11 11 (f11 5)) 12 (f11 0)) 13 t13_14) 14 t14_16) w17)) (pf 26 (pf 26 (pf 26 (pf 26 (pf 26 (pf 26 (pf 26 (argF [x0, x1]) 4 (.bool false)) 6 x0) 7 t7_0) 8 x1) 9 t9_2) 10 t10_4) 5 (.int .i64 0)) w5 K10)
theorem c19_eq (x0 x1 : Value) (w : World) (K : VPost) : c19 x0 x1 w K = WP true Tryd.prog 26 [(6, 0, [0, 0, 3, 4, 0, 0, 48, 64, 136], [0, 0, 3, 7, 0, 0, 48, 112, 255])] (bodyOf Tryd.f19) (argF [x0, x1]) w [.tmp 4] K := by kernel_rfl
theorem c19_calls (x0 x1 : Value) (w : World) (K : VPost) (h : c19 x0 x1 w K) : Calls Tryd.prog 19 #[x0, x1] w (retK K) :=
  calls_of_WP (c19_eq x0 x1 w K) mixedG Tryd.func19 (by kernel_rfl) Tryd.ntmps19 (by kernel_rfl) (by kernel_rfl) h

/-- imprimatur/imprimaturlaw04.SealPacks -/
def c3 (x0 x1 x2 x3 x4 : Value) (w : World) (K : VPost) : Prop :=
  fnW Tryd.prog 15 #[] w fun t19_0 w1 =>
  unN Tryd.prog .not t19_0 w1 fun t20_2 w3 =>
  condW t20_2 (
  K (.bool false) w3) (
  lenW Tryd.prog (some true) #[22] 3 #[x2] w3 fun t22_4 w5 =>
  binN Tryd.prog .gtr 3 true t22_4 (.int .i64 2500) w5 fun t23_6 w7 =>
  gstep t23_6 false w7 (fun K => K x3 w7) fun t25_8 w9 =>
  gstep t23_6 false w9 (fun K => lenW Tryd.prog (some true) #[23] 3 #[t25_8] w9 K) fun t26_10 w11 =>
  gstep t23_6 false w11 (fun K => binN Tryd.prog .gtr 3 true t26_10 (.int .i64 20) w11 K) fun t27_12 w13 =>
  pickW t23_6 (.bool true) t27_12 w13 fun t28_14 w15 =>
  condW t28_14 (
  K (.bool true) w15) (
  fnW Tryd.prog 16 #[x2] w15 fun t30_16 w17 =>
  fnW Tryd.prog 17 #[x0, x1, t30_16] w17 fun t35_18 w19 =>
  extrW t35_18 0 w19 fun t36_20 w21 =>
  extrW t35_18 1 w21 fun t37_22 w23 =>
  fnW Tryd.prog 18 #[x0, x1, x2] w23 fun t42_24 w25 =>
  extrW t42_24 0 w25 fun t43_26 w27 =>
  extrW t42_24 1 w27 fun t44_28 w29 =>
  binW Tryd.prog .neq 4 false t37_22 t44_28 w29 fun t47_30 w31 =>
  gstep t47_30 false w31 (fun K => K t36_20 w31) fun t49_32 w33 =>
  gstep t47_30 false w33 (fun K => K t43_26 w33) fun t50_34 w35 =>
  gstep t47_30 false w35 (fun K => fnW Tryd.prog 19 #[t49_32, t50_34] w35 K) fun t51_36 w37 =>
  gstep t47_30 false w37 (fun K => unN Tryd.prog .not t51_36 w37 K) fun t52_38 w39 =>
  pickW t47_30 (.bool true) t52_38 w39 fun t53_40 w41 =>
  gstep t53_40 false w41 (fun K => K t30_16 w41) fun t55_42 w43 =>
  gstep t53_40 false w43 (fun K => K x2 w43) fun t56_44 w45 =>
  gstep t53_40 false w45 (fun K => fnW Tryd.prog 20 #[t55_42, t56_44] w45 K) fun t57_46 w47 =>
  gstep t53_40 false w47 (fun K => unN Tryd.prog .not t57_46 w47 K) fun t58_48 w49 =>
  pickW t53_40 (.bool true) t58_48 w49 fun t59_50 w51 =>
  gstep t59_50 false w51 (fun K => K x4 w51) fun t61_52 w53 =>
  gstep t59_50 false w53 (fun K => fnW Tryd.prog 21 #[t61_52] w53 K) fun t62_54 w55 =>
  gstep t59_50 false w55 (fun K => K x4 w55) fun t63_56 w57 =>
  gstep t59_50 false w57 (fun K => fnW Tryd.prog 22 #[t63_56] w57 K) fun t64_58 w59 =>
  gstep t59_50 false w59 (fun K => binN Tryd.prog .neq 3 false t62_54 t64_58 w59 K) fun t65_60 w61 =>
  pickW t59_50 (.bool true) t65_60 w61 fun t66_62 w63 =>
  condW t66_62 (
  K (.bool false) w63) (
  unN Tryd.prog .not t37_22 w63 fun t68_64 w65 =>
  condW t68_64 (
  K (.bool true) w65) (
  insW Tryd.prog (Instr.buildSlice 23 0 #[]) w65 fun t70_66 w67 =>
  insW Tryd.prog (Builtin.append_ #[23, 23] 23 #[t70_66, t36_20]) w67 fun t72_68 w69 =>
  insW Tryd.prog (Builtin.append_ #[23, 23] 23 #[t72_68, x3]) w69 fun t74_70 w71 =>
  fnW Tryd.prog 23 #[t74_70, x0, x1] w71 fun t77_72 w73 =>
  extrW t77_72 0 w73 fun t78_74 w75 =>
  extrW t77_72 1 w75 fun t79_76 w77 =>
  extrW t77_72 2 w77 fun t80_78 w79 =>
  gstep t80_78 true w79 (fun K => K t79_76 w79) fun t83_80 w81 =>
  gstep t80_78 true w81 (fun K => K t36_20 w81) fun t84_82 w83 =>
  gstep t80_78 true w83 (fun K => lenW Tryd.prog (some true) #[23] 3 #[t84_82] w83 K) fun t85_84 w85 =>
  gstep t80_78 true w85 (fun K => binN Tryd.prog .eql 3 false t83_80 t85_84 w85 K) fun t86_86 w87 =>
  pickW t80_78 t86_86 (.bool false) w87 fun t87_88 w89 =>
  gstep t87_88 true w89 (fun K => K t78_74 w89) fun t89_90 w91 =>
  gstep t87_88 true w91 (fun K => K x2 w91) fun t90_92 w93 =>
  gstep t87_88 true w93 (fun K => fnW Tryd.prog 20 #[t89_90, t90_92] w93 K) fun t91_94 w95 =>
  pickW t87_88 t91_94 (.bool false) w95 fun t92_96 w97 =>
  gstep t92_96 true w97 (fun K => K t79_76 w97) fun t94_98 w99 =>
  gstep t92_96 true w99 (fun K => K x2 w99) fun t95_100 w101 =>
  gstep t92_96 true w101 (fun K => lenW Tryd.prog (some true) #[22] 3 #[t95_100] w101 K) fun t96_102 w103 =>
  gstep t92_96 true w103 (fun K => fnW Tryd.prog 21 #[t96_102] w103 K) fun t97_104 w105 =>
  gstep t92_96 true w105 (fun K => binN Tryd.prog .eql 3 false t94_98 t97_104 w105 K) fun t98_106 w107 =>
  pickW t92_96 t98_106 (.bool false) w107 fun t99_108 w109 =>
  K t99_108 w109))))
theorem c3_eq (x0 x1 x2 x3 x4 : Value) (w : World) (K : VPost) : c3 x0 x1 x2 x3 x4 w K = WP true Tryd.prog 100 [] (bodyOf Tryd.f3) (argF [x0, x1, x2, x3, x4]) w [.tmp 10] K := by kernel_rfl
theorem c3_calls (x0 x1 x2 x3 x4 : Value) (w : World) (K : VPost) (h : c3 x0 x1 x2 x3 x4 w K) : Calls Tryd.prog 3 #[x0, x1, x2, x3, x4] w (retK K) :=
  calls_of_WP (c3_eq x0 x1 x2 x3 x4 w K) mixedG Tryd.func3 (by kernel_rfl) Tryd.ntmps3 (by kernel_rfl) (by kernel_rfl) h

/-- imprimatur/imprimaturlaw04.SealReads -/
def c4 (x0 x1 x2 : Value) (w : World) (K : VPost) : Prop :=
  fnW Tryd.prog 15 #[] w fun t21_0 w1 =>
  unN Tryd.prog .not t21_0 w1 fun t22_2 w3 =>
  condW t22_2 (
  K (.bool false) w3) (
  lenW Tryd.prog (some true) #[23] 3 #[x0] w3 fun t24_4 w5 =>
  binN Tryd.prog .gtr 3 true t24_4 (.int .i64 60) w5 fun t25_6 w7 =>
  condW t25_6 (
  K (.bool true) w7) (
  insW Tryd.prog (Instr.buildSlice 23 0 #[]) w7 fun t26_8 w9 =>
  insW Tryd.prog (Builtin.append_ #[23, 23] 23 #[t26_8, x0]) w9 fun t28_10 w11 =>
  bindX (endW Tryd.prog [.tmp 6] K) fun K12 =>
  bindX (seqX (fun f14 w15 =>
  fnW Tryd.prog 23 #[(f14 7), (f14 1), (f14 2)] w15 fun t93_16 w17 =>
  extrW t93_16 0 w17 fun t94_18 w19 =>
  extrW t93_16 1 w19 fun t95_20 w21 =>
  extrW t93_16 2 w21 fun t96_22 w23 =>
  fnW Tryd.prog 29 #[(f14 0), (f14 1), (f14 2)] w23 fun t101_24 w25 =>
  extrW t101_24 0 w25 fun t102_26 w27 =>
  extrW t101_24 1 w27 fun t103_28 w29 =>
  extrW t101_24 2 w29 fun t104_30 w31 =>
  fnW Tryd.prog 20 #[t94_18, t102_26] w31 fun t107_32 w33 =>
  gstep t107_32 true w33 (fun K => K t95_20 w33) fun t109_34 w35 =>
  gstep t107_32 true w35 (fun K => K t103_28 w35) fun t110_36 w37 =>
  gstep t107_32 true w37 (fun K => binN Tryd.prog .eql 3 false t109_34 t110_36 w37 K) fun t111_38 w39 =>
  pickW t107_32 t111_38 (.bool false) w39 fun t112_40 w41 =>
  gstep t112_40 true w41 (fun K => K t96_22 w41) fun t114_42 w43 =>
  gstep t112_40 true w43 (fun K => K t104_30 w43) fun t115_44 w45 =>
  gstep t112_40 true w45 (fun K => binW Tryd.prog .eql 4 false t114_42 t115_44 w45 K) fun t116_46 w47 =>
  pickW t112_40 t116_46 (.bool false) w47 fun t117_48 w49 =>
  gstep t117_48 true w49 (fun K => K (f14 7) w49) fun t119_50 w51 =>
  gstep t117_48 true w51 (fun K => fnW Tryd.prog 30 #[t119_50] w51 K) fun t120_52 w53 =>
  gstep t117_48 true w53 (fun K => K (f14 0) w53) fun t121_54 w55 =>
  gstep t117_48 true w55 (fun K => fnW Tryd.prog 31 #[t121_54] w55 K) fun t122_56 w57 =>
  gstep t117_48 true w57 (fun K => binN Tryd.prog .eql 3 false t120_52 t122_56 w57 K) fun t123_58 w59 =>
  pickW t117_48 t123_58 (.bool false) w59 fun t124_60 w61 =>
  gstep t124_60 true w61 (fun K => K (f14 7) w61) fun t126_62 w63 =>
  gstep t124_60 true w63 (fun K => K (f14 0) w63) fun t127_64 w65 =>
  gstep t124_60 true w65 (fun K => fnW Tryd.prog 19 #[t126_62, t127_64] w65 K) fun t128_66 w67 =>
  pickW t124_60 t128_66 (.bool false) w67 fun t129_68 w69 =>
  K t129_68 w69) K12) fun K13 =>
  bindX (blkX 0 K13) fun K70 =>
  loopW (fun f71 w72 K73 =>
  lenW Tryd.prog (some true) #[23] 3 #[(f71 0)] w72 fun t31_74 w75 =>
  binN Tryd.prog .lss 3 false (f71 8) t31_74 w75 fun t32_76 w77 =>
  condW t32_76 (
  idxW (some (none, 64)) (f71 0) (f71 8) w77 fun t38_78 w79 =>
  loadW (some (true, 64)) t38_78 w79 fun t39_80 w81 =>
  fnW Tryd.prog 24 #[t39_80] w81 fun t40_82 w83 =>
  extrW t40_82 0 w83 fun t41_84 w85 =>
  extrW t40_82 1 w85 fun t42_86 w87 =>
  extrW t40_82 2 w87 fun t43_88 w89 =>
  idxW (some (none, 64)) (f71 0) (f71 8) w89 fun t47_90 w91 =>
  loadW (some (true, 64)) t47_90 w91 fun t48_92 w93 =>
  fnW Tryd.prog 25 #[t48_92] w93 fun t49_94 w95 =>
  extrW t49_94 0 w95 fun t50_96 w97 =>
  extrW t49_94 1 w97 fun t51_98 w99 =>
  extrW t49_94 2 w99 fun t52_100 w101 =>
  binN Tryd.prog .neq 3 false t41_84 t50_96 w101.drew fun t55_102 w103 =>
  gstep t55_102 false w103 (fun K => K t42_86 w103) fun t57_104 w105 =>
  gstep t55_102 false w105 (fun K => K t51_98 w105) fun t58_106 w107 =>
  gstep t55_102 false w107 (fun K => binN Tryd.prog .neq 3 false t57_104 t58_106 w107 K) fun t59_108 w109 =>
  pickW t55_102 (.bool true) t59_108 w109 fun t60_110 w111 =>
  gstep t60_110 false w111 (fun K => K t43_88 w111) fun t62_112 w113 =>
  gstep t60_110 false w113 (fun K => K t52_100 w113) fun t63_114 w115 =>
  gstep t60_110 false w115 (fun K => binW Tryd.prog .neq 4 false t62_112 t63_114 w115 K) fun t64_116 w117 =>
  w117 = w115 ∧
  pickW t60_110 (.bool true) t64_116 w117 fun t65_118 w119 =>
  gstep t65_118 false w119 (fun K => K (f71 0) w119) fun t67_120 w121 =>
  gstep t65_118 false w121 (fun K => K (f71 8) w121) fun t68_122 w123 =>
  gstep t65_118 false w123 (fun K => idxW (some (none, 64)) t67_120 t68_122 w123 K) fun t69_124 w125 =>
  gstep t65_118 false w125 (fun K => loadW (some (true, 64)) t69_124 w125 K) fun t70_126 w127 =>
  gstep t65_118 false w127 (fun K => K t52_100 w127) fun t72_128 w129 =>
  gstep t65_118 false w129 (fun K => fnW Tryd.prog 26 #[t70_126] w129 K) fun t71_130 w131 =>
  gstep t65_118 false w131 (fun K => binW Tryd.prog .neq 4 false t71_130 t72_128 w131 K) fun t73_132 w133 =>
  w133 = w131 ∧
  pickW t65_118 (.bool true) t73_132 w133 fun t74_134 w135 =>
  gstep t74_134 false w135 (fun K => K (f71 0) w135) fun t76_136 w137 =>
  gstep t74_134 false w137 (fun K => K (f71 8) w137) fun t77_138 w139 =>
  gstep t74_134 false w139 (fun K => idxW (some (none, 64)) t76_136 t77_138 w139 K) fun t78_140 w141 =>
  gstep t74_134 false w141 (fun K => loadW (some (true, 64)) t78_140 w141 K) fun t79_142 w143 =>
  gstep t74_134 false w143 (fun K => K (f71 0) w143) fun t81_144 w145 =>
  gstep t74_134 false w145 (fun K => K (f71 8) w145) fun t82_146 w147 =>
  gstep t74_134 false w147 (fun K => idxW (some (none, 64)) t81_144 t82_146 w147 K) fun t83_148 w149 =>
  gstep t74_134 false w149 (fun K => loadW (some (true, 64)) t83_148 w149 K) fun t84_150 w151 =>
  gstep t74_134 false w151 (fun K => fnW Tryd.prog 27 #[t79_142] w151 K) fun t80_152 w153 =>
  (gstep t74_134 false w153 (fun K => loadW (some (true, 64)) t83_148 w153 K) fun t84_154 w155 => t84_154 = t84_150 ∧ w155 = w153) ∧
  gstep t74_134 false w153 (fun K => fnW Tryd.prog 28 #[t84_150] w153 K) fun t85_156 w157 =>
  gstep t74_134 false w157 (fun K => fnW Tryd.prog 20 #[t80_152, t85_156] w157 K) fun t86_158 w159 =>
  gstep t74_134 false w159 (fun K => unN Tryd.prog .not t86_158 w159 K) fun t87_160 w161 =>
  pickW t74_134 (.bool true) t87_160 w161 fun t88_162 w163 =>
  condW t88_162 (
  K73 .ret (pf 130 (pf 130 (pf 130 (pf 130 (pf 130 (pf 130 (pf 130 (pf 130 (pf 130 (pf 130 (pf 130 (pf 130 (pf 130 (pf 130 (pf 130 (pf 130 (pf 130 (pf 130 (pf 130 (pf 130 (pf 130 (pf 130 (pf 130 (pf 130 (pf 130 (pf 130 (pf 130 (pf 130 (pf 130 (pf 130 (pf 130 (pf 130 (pf 130 (pf 130 (pf 130 (pf 130 (pf 130 (pf 130 (pf 130 (pf 130 (pf 130 (pf 130 (pf 130 (pf 130 (pf 130 (pf 130 (pf 130 (pf 130 (pf 130 (pf 130 (pf 130 (pf 130 (pf 130 (pf 130 (pf 130 (pf 130 (pf 130 (pf 130 (pf 130 (pf 130 (pf 130 (pf 130 (pf 130 (pf 130 (pf 130 f71 29 (f71 8)) 30 (f71 0)) 31 t31_74) 32 t32_76) 36 (f71 0)) 37 (f71 8)) 38 t38_78) 39 t39_80) 40 t40_82) 35 t40_82) 41 t41_84) 42 t42_86) 43 t43_88) 9 t41_84) 10 t42_86) 11 t43_88) 45 (f71 0)) 46 (f71 8)) 47 t47_90) 48 t48_92) 49 t49_94) 44 t49_94) 50 t50_96) 51 t51_98) 52 t52_100) 12 t50_96) 13 t51_98) 14 t52_100) 53 t41_84) 54 t50_96) 55 t55_102) 56 t55_102) 57 t57_104) 58 t58_106) 59 t59_108) 60 t60_110) 61 t60_110) 62 t62_112) 63 t63_114) 64 t64_116) 65 t65_118) 66 t65_118) 67 t67_120) 68 t68_122) 69 t69_124) 70 t70_126) 72 t72_128) 71 t71_130) 73 t73_132) 74 t74_134) 75 t74_134) 76 t76_136) 77 t77_138) 78 t78_140) 79 t79_142) 81 t81_144) 82 t82_146) 83 t83_148) 84 t84_150) 80 t80_152) 85 t85_156) 86 t86_158) 87 t87_160) 88 t88_162) 6 (.bool false)) w163) (
  binN Tryd.prog .add 3 true (f71 8) (.int .i64 1) w163 fun t34_164 w165 =>
  K73 .normal (pf 130 (pf 130 (pf 130 (pf 130 (pf 130 (pf 130 (pf 130 (pf 130 (pf 130 (pf 130 (pf 130 (pf 130 (pf 130 (pf 130 (pf 130 (pf 130 (pf 130 (pf 130 (pf 130 (pf 130 (pf 130 (pf 130 (pf 130 (pf 130 (pf 130 (pf 130 (pf 130 (pf 130 (pf 130 (pf 130 (pf 130 (pf 130 (pf 130 (pf 130 (pf 130 (pf 130 (pf 130 (pf 130 (pf 130 (pf 130 (pf 130 (pf 130 (pf 130 (pf 130 (pf 130 (pf 130 (pf 130 (pf 130 (pf 130 (pf 130 (pf 130 (pf 130 (pf 130 (pf 130 (pf 130 (pf 130 (pf 130 (pf 130 (pf 130 (pf 130 (pf 130 (pf 130 (pf 130 (pf 130 (pf 130 (pf 130 (pf 130 f71 29 (f71 8)) 30 (f71 0)) 31 t31_74) 32 t32_76) 36 (f71 0)) 37 (f71 8)) 38 t38_78) 39 t39_80) 40 t40_82) 35 t40_82) 41 t41_84) 42 t42_86) 43 t43_88) 9 t41_84) 10 t42_86) 11 t43_88) 45 (f71 0)) 46 (f71 8)) 47 t47_90) 48 t48_92) 49 t49_94) 44 t49_94) 50 t50_96) 51 t51_98) 52 t52_100) 12 t50_96) 13 t51_98) 14 t52_100) 53 t41_84) 54 t50_96) 55 t55_102) 56 t55_102) 57 t57_104) 58 t58_106) 59 t59_108) 60 t60_110) 61 t60_110) 62 t62_112) 63 t63_114) 64 t64_116) 65 t65_118) 66 t65_118) 67 t67_120) 68 t68_122) 69 t69_124) 70 t70_126) 72 t72_128) 71 t71_130) 73 t73_132) 74 t74_134) 75 t74_134) 76 t76_136) 77 t77_138) 78 t78_140) 79 t79_142) 81 t81_144) 82 t82_146) 83 t83_148) 84 t84_150) 80 t80_152) 85 t85_156) 86 t86_158) 87 t87_160) 88 t88_162) 33 (f71 8)) 34 t34_164) 8 t34_164) w165)) (
  K73 (.exit 0) (pf 130 (pf 130 (pf 130 (pf 130 f71 29 (f71 8)) 30 (f71 0)) 31 t31_74) 32 t32_76) w77)) (pf 130 (pf 130 (pf 130 (pf 130 (pf 130 (pf 130 (pf 130 (pf 130 (pf 130 (pf 130 (pf 130 (argF [x0, x1, x2]) 6 (.bool false)) 21 t21_0) 22 t22_2) 23 x0) 24 t24_4) 25 t25_6) 26 t26_8) 27 x0) 28 t28_10) 7 t28_10) 8 (.int .i64 0)) w11 K70))
theorem c4_eq (x0 x1 x2 : Value) (w : World) (K : VPost) : c4 x0 x1 x2 w K = WP true Tryd.prog 130 [(11, 13019381760, [0, 0, 3, 4, 8, 8, 56, 72, 136, 256, 256, 1792, 2304, 4352, 8192, 8192, 57344, 73728, 139264, 8192, 794624, 1056768, 2359296, 4194304, 4194304, 29360128, 37748736, 71303168, 4194304, 4194304, 809500672, 1077936128, 2285895680, 4433379328, 8594128896, 17184063488], [0, 0, 3, 7, 15, 15, 63, 127, 255, 511, 511, 2047, 4095, 8191, 16383, 16383, 65535, 131071, 262143, 16383, 1048575, 2097151, 4194303, 8388607, 8388607, 33554431, 67108863, 134217727, 8388607, 8388607, 813694975, 1887436799, 4294967295, 8589934591, 17179869183, 34359738367])] (bodyOf Tryd.f4) (argF [x0, x1, x2]) w [.tmp 6] K := by kernel_rfl
theorem c4_calls (x0 x1 x2 : Value) (w : World) (K : VPost) (h : c4 x0 x1 x2 w K) : Calls Tryd.prog 4 #[x0, x1, x2] w (retK K) :=
  calls_of_WP (c4_eq x0 x1 x2 w K) mixedG Tryd.func4 (by kernel_rfl) Tryd.ntmps4 (by kernel_rfl) (by kernel_rfl) h

/-- imprimatur/imprimaturlaw04.SealTorn -/
def c5 (x0 x1 x2 x3 x4 x5 x6 : Value) (w : World) (K : VPost) : Prop :=
  boxW 37 x0 w fun t7_0 w1 =>
  fnW Tryd.prog 15 #[] w1 fun t24_2 w3 =>
  unN Tryd.prog .not t24_2 w3 fun t25_4 w5 =>
  condW t25_4 (
  K (.bool false) w5) (
  fnW Tryd.prog 17 #[x1, x2, x3] w5 fun t30_6 w7 =>
  extrW t30_6 0 w7 fun t31_8 w9 =>
  extrW t30_6 1 w9 fun t32_10 w11 =>
  unN Tryd.prog .not t32_10 w11 fun t34_12 w13 =>
  gstep t34_12 false w13 (fun K => K x5 w13) fun t36_14 w15 =>
  gstep t34_12 false w15 (fun K => binN Tryd.prog .lss 3 true t36_14 (.int .i64 0) w15 K) fun t37_16 w17 =>
  pickW t34_12 (.bool true) t37_16 w17 fun t38_18 w19 =>
  gstep t38_18 false w19 (fun K => K x5 w19) fun t40_20 w21 =>
  gstep t38_18 false w21 (fun K => binN Tryd.prog .gtr 3 true t40_20 (.int .i64 63) w21 K) fun t41_22 w23 =>
  pickW t38_18 (.bool true) t41_22 w23 fun t42_24 w25 =>
  condW t42_24 (
  K (.bool true) w25) (
  binN Tryd.prog .and 3 true x4 (.int .i64 1023) w25 fun t45_26 w27 =>
  lenW Tryd.prog (some true) #[23] 3 #[t31_8] w27 fun t47_28 w29 =>
  binN Tryd.prog .rem 3 false t45_26 t47_28 w29 fun t48_30 w31 =>
  idxW (some (none, 64)) t31_8 t48_30 w31 fun t49_32 w33 =>
  loadW (some (true, 64)) t49_32 w33 fun t50_34 w35 =>
  allocW (zeroO Tryd.prog 37) 37 w35 fun t17_36 w37 =>
  storeW (some (true, 64)) t17_36 t50_34 w37 fun w38 =>
  sliceW (.arr 64 1) t17_36 none (some (.int .i64 4)) none w38 fun t51_39 w40 =>
  sliceW (.arr 64 1) t7_0 none (some (.int .i64 4)) none w40 fun t52_41 w42 =>
  fnW Tryd.prog 20 #[t52_41, t51_39] w42 fun t54_43 w44 =>
  gstep t54_43 false w44 (fun K => sliceW (.arr 64 1) t7_0 (some (.int .i64 56)) (some (.int .i64 60)) none w44 K) fun t56_45 w46 =>
  gstep t54_43 false w46 (fun K => K t51_39 w46) fun t57_47 w48 =>
  gstep t54_43 false w48 (fun K => fnW Tryd.prog 20 #[t56_45, t57_47] w48 K) fun t58_49 w50 =>
  pickW t54_43 (.bool true) t58_49 w50 fun t59_51 w52 =>
  condW t59_51 (
  K (.bool true) w52) (
  loadW (some (true, 64)) t7_0 w52 fun t60_53 w54 =>
  allocW (zeroO Tryd.prog 37) 37 w54 fun t19_55 w56 =>
  storeW (some (true, 64)) t19_55 t60_53 w56 fun w57 =>
  bindX (endW Tryd.prog [.tmp 14] K) fun K58 =>
  bindX (seqX (fun f60 w61 =>
  loadW (some (true, 64)) (f60 19) w61 fun t80_62 w63 =>
  fnW Tryd.prog 24 #[t80_62] w63 fun t81_64 w65 =>
  extrW t81_64 0 w65 fun t82_66 w67 =>
  extrW t81_64 1 w67 fun _ w69 =>
  extrW t81_64 2 w69 fun t84_70 w71 =>
  unN Tryd.prog .not t84_70 w71 fun t86_72 w73 =>
  gstep t86_72 false w73 (fun K => K t82_66 w73) fun t88_74 w75 =>
  gstep t86_72 false w75 (fun K => K (f60 1) w75) fun t89_76 w77 =>
  gstep t86_72 false w77 (fun K => binN Tryd.prog .neq 3 false t88_74 t89_76 w77 K) fun t90_78 w79 =>
  pickW t86_72 (.bool true) t90_78 w79 fun t91_80 w81 =>
  gstep t91_80 false w81 (fun K => loadW (some (true, 64)) (f60 19) w81 K) fun t93_82 w83 =>
  gstep t91_80 false w83 (fun K => loadW (some (true, 64)) (f60 17) w83 K) fun t94_84 w85 =>
  gstep t91_80 false w85 (fun K => binW Tryd.prog .eql 37 false t93_82 t94_84 w85 K) fun t95_86 w87 =>
  pickW t91_80 (.bool true) t95_86 w87 fun t96_88 w89 =>
  K t96_88 w89) K58) fun K59 =>
  bindX (blkX 0 K59) fun K90 =>
  loopW (fun f91 w92 K93 =>
  binN Tryd.prog .lss 3 false (f91 20) (f91 5) w92 fun t63_94 w95 =>
  condW t63_94 (
  bindX (seqX (fun f97 w98 =>
  binN Tryd.prog .add 3 true (f97 20) (.int .i64 1) w98 fun t65_99 w100 =>
  K93 .normal (pf 97 (pf 97 (pf 97 f97 64 (f97 20)) 65 t65_99) 20 t65_99) w100) K93) fun K96 =>
  bindX (blkX 1 K96) fun _ =>
  condW (f91 6) (
  binN Tryd.prog .sub 3 true (.int .i64 63) (f91 20) w95 fun t68_102 w103 =>
  binN Tryd.prog .sub 3 true (.int .i64 63) (f91 20) w103 fun t70_104 w105 =>
  idxW (some ((some 64), 1)) (f91 17) t70_104 w105 fun t71_106 w107 =>
  loadW (some (false, 1)) t71_106 w107 fun t72_108 w109 =>
  idxW (some ((some 64), 1)) (f91 19) t68_102 w109 fun t73_110 w111 =>
  storeW (some (false, 1)) t73_110 t72_108 w111 fun w112 =>
  K96 .normal (pf 97 (pf 97 (pf 97 (pf 97 (pf 97 (pf 97 (pf 97 (pf 97 (pf 97 (pf 97 (pf 97 f91 61 (f91 20)) 62 (f91 5)) 63 t63_94) 66 (f91 6)) 67 (f91 20)) 68 t68_102) 69 (f91 20)) 70 t70_104) 71 t71_106) 72 t72_108) 73 t73_110) w112) (
  idxW (some ((some 64), 1)) (f91 17) (f91 20) w95 fun t76_113 w114 =>
  loadW (some (false, 1)) t76_113 w114 fun t77_115 w116 =>
  idxW (some ((some 64), 1)) (f91 19) (f91 20) w116 fun t78_117 w118 =>
  storeW (some (false, 1)) t78_117 t77_115 w118 fun w119 =>
  K96 .normal (pf 97 (pf 97 (pf 97 (pf 97 (pf 97 (pf 97 (pf 97 (pf 97 (pf 97 f91 61 (f91 20)) 62 (f91 5)) 63 t63_94) 66 (f91 6)) 74 (f91 20)) 75 (f91 20)) 76 t76_113) 77 t77_115) 78 t78_117) w119)) (
  K93 (.exit 0) (pf 97 (pf 97 (pf 97 f91 61 (f91 20)) 62 (f91 5)) 63 t63_94) w95)) (pf 97 (pf 97 (pf 97 (pf 97 (pf 97 (pf 97 (pf 97 (pf 97 (pf 97 (pf 97 (pf 97 (pf 97 (pf 97 (pf 97 (pf 97 (pf 97 (pf 97 (pf 97 (pf 97 (pf 97 (pf 97 (pf 97 (pf 97 (pf 97 (pf 97 (pf 97 (pf 97 (pf 97 (pf 97 (pf 97 (pf 97 (pf 97 (pf 97 (pf 97 (pf 97 (pf 97 (pf 97 (pf 97 (pf 97 (pf 97 (pf 97 (pf 97 (pf 97 (pf 97 (pf 97 (argF [x0, x1, x2, x3, x4, x5, x6]) 7 t7_0) 14 (.bool false)) 24 t24_2) 25 t25_4) 27 x1) 28 x2) 29 x3) 30 t30_6) 26 t30_6) 31 t31_8) 32 t32_10) 15 t31_8) 16 t32_10) 33 t32_10) 34 t34_12) 35 t34_12) 36 t36_14) 37 t37_16) 38 t38_18) 39 t38_18) 40 t40_20) 41 t41_22) 42 t42_24) 43 t31_8) 44 x4) 45 t45_26) 46 t31_8) 47 t47_28) 48 t48_30) 49 t49_32) 50 t50_34) 17 t17_36) 51 t51_39) 18 t51_39) 52 t52_41) 53 t51_39) 54 t54_43) 55 t54_43) 56 t56_45) 57 t57_47) 58 t58_49) 59 t59_51) 60 t60_53) 19 t19_55) 20 (.int .i64 0)) w57 K90)))
theorem c5_eq (x0 x1 x2 x3 x4 x5 x6 : Value) (w : World) (K : VPost) : c5 x0 x1 x2 x3 x4 x5 x6 w K = WP true Tryd.prog 97 [] (bodyOf Tryd.f5) (argF [x0, x1, x2, x3, x4, x5, x6]) w [.tmp 14] K := by kernel_rfl
theorem c5_calls (x0 x1 x2 x3 x4 x5 x6 : Value) (w : World) (K : VPost) (h : c5 x0 x1 x2 x3 x4 x5 x6 w K) : Calls Tryd.prog 5 #[x0, x1, x2, x3, x4, x5, x6] w (retK K) :=
  calls_of_WP (c5_eq x0 x1 x2 x3 x4 x5 x6 w K) mixedG Tryd.func5 (by kernel_rfl) Tryd.ntmps5 (by kernel_rfl) (by kernel_rfl) h

/-- imprimatur/imprimaturlaw04.SealChanged -/
def c6 (x0 x1 x2 x3 x4 x5 : Value) (w : World) (K : VPost) : Prop :=
  fnW Tryd.prog 15 #[] w fun t19_0 w1 =>
  unN Tryd.prog .not t19_0 w1 fun t20_2 w3 =>
  condW t20_2 (
  K (.bool false) w3) (
  fnW Tryd.prog 17 #[x0, x1, x2] w3 fun t25_4 w5 =>
  extrW t25_4 0 w5 fun t26_6 w7 =>
  extrW t25_4 1 w7 fun t27_8 w9 =>
  unN Tryd.prog .not t27_8 w9 fun t29_10 w11 =>
  gstep t29_10 false w11 (fun K => K x5 w11) fun t31_12 w13 =>
  gstep t29_10 false w13 (fun K => binN Tryd.prog .and 3 true t31_12 (.int .i64 255) w13 K) fun t32_14 w15 =>
  gstep t29_10 false w15 (fun K => binN Tryd.prog .eql 3 true t32_14 (.int .i64 0) w15 K) fun t33_16 w17 =>
  pickW t29_10 (.bool true) t33_16 w17 fun t34_18 w19 =>
  condW t34_18 (
  K (.bool true) w19) (
  binN Tryd.prog .and 3 true x3 (.int .i64 1023) w19 fun t36_20 w21 =>
  lenW Tryd.prog (some true) #[23] 3 #[t26_6] w21 fun t38_22 w23 =>
  binN Tryd.prog .rem 3 false t36_20 t38_22 w23 fun t39_24 w25 =>
  binN Tryd.prog .and 3 true x4 (.int .i64 63) w25.drew fun t43_26 w27 =>
  idxW (some (none, 64)) t26_6 t39_24 w27 fun t44_28 w29 =>
  idxW (some ((some 64), 1)) t44_28 t43_26 w29 fun t45_30 w31 =>
  loadW (some (false, 1)) t45_30 w31 fun t46_32 w33 =>
  convN Tryd.prog 3 5 x5 w33 fun t48_34 w35 =>
  binN Tryd.prog .xor 5 false t46_32 t48_34 w35 fun t49_36 w37 =>
  idxW (some (none, 64)) t26_6 t39_24 w37 fun t50_38 w39 =>
  idxW (some ((some 64), 1)) t50_38 t43_26 w39 fun t51_40 w41 =>
  storeW (some (false, 1)) t51_40 t49_36 w41 fun w42 =>
  fnW Tryd.prog 23 #[t26_6, x0, x1] w42 fun t56_43 w44 =>
  extrW t56_43 0 w44 fun t57_45 w46 =>
  extrW t56_43 1 w46 fun _ w48 =>
  extrW t56_43 2 w48 fun t59_49 w50 =>
  unN Tryd.prog .not t59_49 w50 fun t61_51 w52 =>
  gstep t61_51 false w52 (fun K => K t57_45 w52) fun t63_53 w54 =>
  gstep t61_51 false w54 (fun K => K x2 w54) fun t64_55 w56 =>
  gstep t61_51 false w56 (fun K => fnW Tryd.prog 20 #[t63_53, t64_55] w56 K) fun t65_57 w58 =>
  gstep t61_51 false w58 (fun K => unN Tryd.prog .not t65_57 w58 K) fun t66_59 w60 =>
  pickW t61_51 (.bool true) t66_59 w60 fun t67_61 w62 =>
  K t67_61 w62))
theorem c6_eq (x0 x1 x2 x3 x4 x5 : Value) (w : World) (K : VPost) : c6 x0 x1 x2 x3 x4 x5 w K = WP true Tryd.prog 68 [(7, 4096, [0, 0, 0, 4, 3, 24, 32, 0, 128, 320, 3, 2047, 3071], [0, 0, 0, 4, 3, 31, 63, 0, 128, 511, 3, 2047, 4095])] (bodyOf Tryd.f6) (argF [x0, x1, x2, x3, x4, x5]) w [.tmp 12] K := by kernel_rfl
theorem c6_calls (x0 x1 x2 x3 x4 x5 : Value) (w : World) (K : VPost) (h : c6 x0 x1 x2 x3 x4 x5 w K) : Calls Tryd.prog 6 #[x0, x1, x2, x3, x4, x5] w (retK K) :=
  calls_of_WP (c6_eq x0 x1 x2 x3 x4 x5 w K) mixedG Tryd.func6 (by kernel_rfl) Tryd.ntmps6 (by kernel_rfl) (by kernel_rfl) h

/-- imprimatur/imprimaturlaw04.SealRows -/
def c7 (x0 x1 x2 : Value) (w : World) (K : VPost) : Prop :=
  fnW Tryd.prog 15 #[] w fun t16_0 w1 =>
  unN Tryd.prog .not t16_0 w1 fun t17_2 w3 =>
  condW t17_2 (
  K (.bool false) w3) (
  fnW Tryd.prog 32 #[x0, (.int .i64 3000)] w3 fun t19_4 w5 =>
  binN Tryd.prog .gtr 3 true t19_4 (.int .i64 3000) w5 fun t20_6 w7 =>
  gstep t20_6 false w7 (fun K => K x2 w7) fun t22_8 w9 =>
  gstep t20_6 false w9 (fun K => binN Tryd.prog .lss 3 true t22_8 (.int .i64 0) w9 K) fun t23_10 w11 =>
  pickW t20_6 (.bool true) t23_10 w11 fun t24_12 w13 =>
  gstep t24_12 false w13 (fun K => K x2 w13) fun t26_14 w15 =>
  gstep t24_12 false w15 (fun K => binN Tryd.prog .gtr 3 true t26_14 (.int .i64 1048576) w15 K) fun t27_16 w17 =>
  pickW t24_12 (.bool true) t27_16 w17 fun t28_18 w19 =>
  condW t28_18 (
  K (.bool true) w19) (
  insW Tryd.prog (Instr.buildSlice 23 0 #[]) w19 fun t29_20 w21 =>
  bindX (endW Tryd.prog [.tmp 6] K) fun K22 =>
  bindX (seqX (fun f24 w25 =>
  bindX (seqX (fun f27 w28 =>
  lenW Tryd.prog (some true) #[23] 3 #[(f27 7)] w28 fun t92_29 w30 =>
  binN Tryd.prog .eql 3 false (f27 11) t92_29 w30 fun t93_31 w32 =>
  K t93_31 w32) K22) fun K26 =>
  bindX (blkX 2 K26) fun K33 =>
  loopW (fun f34 w35 K36 =>
  lenW Tryd.prog (some true) #[45] 3 #[(f34 0)] w35 fun t56_37 w38 =>
  binN Tryd.prog .lss 3 false (f34 12) t56_37 w38 fun t57_39 w40 =>
  condW t57_39 (
  sliceW (.sl 64) (f34 7) (some (f34 11)) none none w40 fun t63_41 w42 =>
  binN Tryd.prog .add 3 false (f34 2) (f34 11) w42 fun t67_43 w44 =>
  fnW Tryd.prog 23 #[t63_41, (f34 1), t67_43] w44 fun t68_45 w46 =>
  extrW t68_45 0 w46 fun t69_47 w48 =>
  extrW t68_45 1 w48 fun t70_49 w50 =>
  extrW t68_45 2 w50 fun t71_51 w52 =>
  unN Tryd.prog .not t71_51 w52 fun t73_53 w54 =>
  gstep t73_53 false w54 (fun K => K t69_47 w54) fun t75_55 w56 =>
  gstep t73_53 false w56 (fun K => K (f34 0) w56) fun t76_57 w58 =>
  gstep t73_53 false w58 (fun K => K (f34 12) w58) fun t77_59 w60 =>
  gstep t73_53 false w60 (fun K => idxW (some (none, 1)) t76_57 t77_59 w60 K) fun t78_61 w62 =>
  gstep t73_53 false w62 (fun K => loadW (some (false, 1)) t78_61 w62 K) fun t79_63 w64 =>
  gstep t73_53 false w64 (fun K => fnW Tryd.prog 20 #[t75_55, t79_63] w64 K) fun t80_65 w66 =>
  gstep t73_53 false w66 (fun K => unN Tryd.prog .not t80_65 w66 K) fun t81_67 w68 =>
  pickW t73_53 (.bool true) t81_67 w68 fun t82_69 w70 =>
  gstep t82_69 false w70 (fun K => K t70_49 w70) fun t84_71 w72 =>
  gstep t82_69 false w72 (fun K => binN Tryd.prog .lss 3 true t84_71 (.int .i64 1) w72 K) fun t85_73 w74 =>
  pickW t82_69 (.bool true) t85_73 w74 fun t86_75 w76 =>
  condW t86_75 (
  K36 .ret (pf 94 (pf 94 (pf 94 (pf 94 (pf 94 (pf 94 (pf 94 (pf 94 (pf 94 (pf 94 (pf 94 (pf 94 (pf 94 (pf 94 (pf 94 (pf 94 (pf 94 (pf 94 (pf 94 (pf 94 (pf 94 (pf 94 (pf 94 (pf 94 (pf 94 (pf 94 (pf 94 (pf 94 (pf 94 (pf 94 (pf 94 (pf 94 (pf 94 (pf 94 (pf 94 f34 54 (f34 12)) 55 (f34 0)) 56 t56_37) 57 t57_39) 61 (f34 7)) 62 (f34 11)) 63 t63_41) 64 (f34 1)) 65 (f34 2)) 66 (f34 11)) 67 t67_43) 68 t68_45) 60 t68_45) 69 t69_47) 70 t70_49) 71 t71_51) 13 t69_47) 14 t70_49) 15 t71_51) 72 t71_51) 73 t73_53) 74 t73_53) 75 t75_55) 76 t76_57) 77 t77_59) 78 t78_61) 79 t79_63) 80 t80_65) 81 t81_67) 82 t82_69) 83 t82_69) 84 t84_71) 85 t85_73) 86 t86_75) 6 (.bool false)) w76) (
  binN Tryd.prog .add 3 false (f34 11) t70_49 w76 fun t89_77 w78 =>
  binN Tryd.prog .add 3 true (f34 12) (.int .i64 1) w78 fun t59_79 w80 =>
  K36 .normal (pf 94 (pf 94 (pf 94 (pf 94 (pf 94 (pf 94 (pf 94 (pf 94 (pf 94 (pf 94 (pf 94 (pf 94 (pf 94 (pf 94 (pf 94 (pf 94 (pf 94 (pf 94 (pf 94 (pf 94 (pf 94 (pf 94 (pf 94 (pf 94 (pf 94 (pf 94 (pf 94 (pf 94 (pf 94 (pf 94 (pf 94 (pf 94 (pf 94 (pf 94 (pf 94 (pf 94 (pf 94 (pf 94 (pf 94 (pf 94 (pf 94 f34 54 (f34 12)) 55 (f34 0)) 56 t56_37) 57 t57_39) 61 (f34 7)) 62 (f34 11)) 63 t63_41) 64 (f34 1)) 65 (f34 2)) 66 (f34 11)) 67 t67_43) 68 t68_45) 60 t68_45) 69 t69_47) 70 t70_49) 71 t71_51) 13 t69_47) 14 t70_49) 15 t71_51) 72 t71_51) 73 t73_53) 74 t73_53) 75 t75_55) 76 t76_57) 77 t77_59) 78 t78_61) 79 t79_63) 80 t80_65) 81 t81_67) 82 t82_69) 83 t82_69) 84 t84_71) 85 t85_73) 86 t86_75) 87 (f34 11)) 88 t70_49) 89 t89_77) 11 t89_77) 58 (f34 12)) 59 t59_79) 12 t59_79) w80)) (
  K36 (.exit 2) (pf 94 (pf 94 (pf 94 (pf 94 f34 54 (f34 12)) 55 (f34 0)) 56 t56_37) 57 t57_39) w40)) (pf 94 (pf 94 f24 11 (.int .i64 0)) 12 (.int .i64 0)) w25 K33) K22) fun K23 =>
  bindX (blkX 0 K23) fun K81 =>
  loopW (fun f82 w83 K84 =>
  lenW Tryd.prog (some true) #[45] 3 #[(f82 0)] w83 fun t32_85 w86 =>
  binN Tryd.prog .lss 3 false (f82 8) t32_85 w86 fun t33_87 w88 =>
  condW t33_87 (
  lenW Tryd.prog (some true) #[23] 3 #[(f82 7)] w88 fun t40_89 w90 =>
  binN Tryd.prog .add 3 false (f82 2) t40_89 w90 fun t41_91 w92 =>
  idxW (some (none, 1)) (f82 0) (f82 8) w92 fun t44_93 w94 =>
  loadW (some (false, 1)) t44_93 w94 fun t45_95 w96 =>
  fnW Tryd.prog 17 #[(f82 1), t41_91, t45_95] w96 fun t46_97 w98 =>
  extrW t46_97 0 w98 fun t47_99 w100 =>
  extrW t46_97 1 w100 fun t48_101 w102 =>
  unN Tryd.prog .not t48_101 w102 fun t50_103 w104 =>
  condW t50_103 (
  K84 .ret (pf 94 (pf 94 (pf 94 (pf 94 (pf 94 (pf 94 (pf 94 (pf 94 (pf 94 (pf 94 (pf 94 (pf 94 (pf 94 (pf 94 (pf 94 (pf 94 (pf 94 (pf 94 (pf 94 (pf 94 (pf 94 (pf 94 f82 30 (f82 8)) 31 (f82 0)) 32 t32_85) 33 t33_87) 37 (f82 1)) 38 (f82 2)) 39 (f82 7)) 40 t40_89) 41 t41_91) 42 (f82 0)) 43 (f82 8)) 44 t44_93) 45 t45_95) 46 t46_97) 36 t46_97) 47 t47_99) 48 t48_101) 9 t47_99) 10 t48_101) 49 t48_101) 50 t50_103) 6 (.bool true)) w104) (
  insW Tryd.prog (Builtin.append_ #[23, 23] 23 #[(f82 7), t47_99]) w104 fun t53_105 w106 =>
  binN Tryd.prog .add 3 true (f82 8) (.int .i64 1) w106 fun t35_107 w108 =>
  K84 .normal (pf 94 (pf 94 (pf 94 (pf 94 (pf 94 (pf 94 (pf 94 (pf 94 (pf 94 (pf 94 (pf 94 (pf 94 (pf 94 (pf 94 (pf 94 (pf 94 (pf 94 (pf 94 (pf 94 (pf 94 (pf 94 (pf 94 (pf 94 (pf 94 (pf 94 (pf 94 (pf 94 (pf 94 f82 30 (f82 8)) 31 (f82 0)) 32 t32_85) 33 t33_87) 37 (f82 1)) 38 (f82 2)) 39 (f82 7)) 40 t40_89) 41 t41_91) 42 (f82 0)) 43 (f82 8)) 44 t44_93) 45 t45_95) 46 t46_97) 36 t46_97) 47 t47_99) 48 t48_101) 9 t47_99) 10 t48_101) 49 t48_101) 50 t50_103) 51 (f82 7)) 52 t47_99) 53 t53_105) 7 t53_105) 34 (f82 8)) 35 t35_107) 8 t35_107) w108)) (
  K84 (.exit 0) (pf 94 (pf 94 (pf 94 (pf 94 f82 30 (f82 8)) 31 (f82 0)) 32 t32_85) 33 t33_87) w88)) (pf 94 (pf 94 (pf 94 (pf 94 (pf 94 (pf 94 (pf 94 (pf 94 (pf 94 (pf 94 (pf 94 (pf 94 (pf 94 (pf 94 (pf 94 (pf 94 (pf 94 (argF [x0, x1, x2]) 6 (.bool false)) 16 t16_0) 17 t17_2) 18 x0) 19 t19_4) 20 t20_6) 21 t20_6) 22 t22_8) 23 t23_10) 24 t24_12) 25 t24_12) 26 t26_14) 27 t27_16) 28 t28_18) 29 t29_20) 7 t29_20) 8 (.int .i64 0)) w21 K81))
theorem c7_eq (x0 x1 x2 : Value) (w : World) (K : VPost) : c7 x0 x1 x2 w K = WP true Tryd.prog 94 [] (bodyOf Tryd.f7) (argF [x0, x1, x2]) w [.tmp 6] K := by kernel_rfl
theorem c7_calls (x0 x1 x2 : Value) (w : World) (K : VPost) (h : c7 x0 x1 x2 w K) : Calls Tryd.prog 7 #[x0, x1, x2] w (retK K) :=
  calls_of_WP (c7_eq x0 x1 x2 w K) mixedG Tryd.func7 (by kernel_rfl) Tryd.ntmps7 (by kernel_rfl) (by kernel_rfl) h

/-- imprimatur/imprimaturref00.Rows -/
def c32 (x0 x1 : Value) (w : World) (K : VPost) : Prop :=
  lenW Tryd.prog (some true) #[45] 3 #[x0] w fun t8_0 w1 =>
  binN Tryd.prog .gtr 3 false t8_0 x1 w1 fun t10_2 w3 =>
  condW t10_2 (
  binN Tryd.prog .add 3 true x1 (.int .i64 1) w3 fun t12_4 w5 =>
  K t12_4 w5) (
  bindX (endW Tryd.prog [.tmp 4] K) fun K6 =>
  bindX (seqX (fun f8 w9 =>
  K (f8 5) w9) K6) fun K7 =>
  bindX (blkX 0 K7) fun K10 =>
  loopW (fun f11 w12 K13 =>
  lenW Tryd.prog (some true) #[45] 3 #[(f11 0)] w12 fun t15_14 w15 =>
  binN Tryd.prog .lss 3 false (f11 6) t15_14 w15 fun t16_16 w17 =>
  gstep t16_16 true w17 (fun K => K (f11 5) w17) fun t18_18 w19 =>
  gstep t16_16 true w19 (fun K => K (f11 1) w19) fun t19_20 w21 =>
  gstep t16_16 true w21 (fun K => binN Tryd.prog .leq 3 false t18_18 t19_20 w21 K) fun t20_22 w23 =>
  pickW t16_16 t20_22 (.bool false) w23 fun t21_24 w25 =>
  condW t21_24 (
  idxW (some (none, 1)) (f11 0) (f11 6) w25 fun t27_26 w27 =>
  loadW (some (false, 1)) t27_26 w27 fun t28_28 w29 =>
  lenW Tryd.prog (some true) #[22] 3 #[t28_28] w29 fun t29_30 w31 =>
  binN Tryd.prog .add 3 true (.int .i64 1) t29_30 w31 fun t30_32 w33 =>
  binN Tryd.prog .add 3 false (f11 5) t30_32 w33 fun t31_34 w35 =>
  binN Tryd.prog .add 3 true (f11 6) (.int .i64 1) w35 fun t23_36 w37 =>
  K13 .normal (pf 33 (pf 33 (pf 33 (pf 33 (pf 33 (pf 33 (pf 33 (pf 33 (pf 33 (pf 33 (pf 33 (pf 33 (pf 33 (pf 33 (pf 33 (pf 33 (pf 33 (pf 33 (pf 33 (pf 33 (pf 33 f11 13 (f11 6)) 14 (f11 0)) 15 t15_14) 16 t16_16) 17 t16_16) 18 t18_18) 19 t19_20) 20 t20_22) 21 t21_24) 24 (f11 5)) 25 (f11 0)) 26 (f11 6)) 27 t27_26) 28 t28_28) 29 t29_30) 30 t30_32) 31 t31_34) 5 t31_34) 22 (f11 6)) 23 t23_36) 6 t23_36) w37) (
  K13 (.exit 0) (pf 33 (pf 33 (pf 33 (pf 33 (pf 33 (pf 33 (pf 33 (pf 33 (pf 33 f11 13 (f11 6)) 14 (f11 0)) 15 t15_14) 16 t16_16) 17 t16_16) 18 t18_18) 19 t19_20) 20 t20_22) 21 t21_24) w25)) (pf 33 (pf 33 (pf 33 (pf 33 (pf 33 (pf 33 (pf 33 (argF [x0, x1]) 4 (.int .i64 0)) 7 x0) 8 t8_0) 9 x1) 10 t10_2) 5 (.int .i64 0)) 6 (.int .i64 0)) w3 K10)
theorem c32_eq (x0 x1 : Value) (w : World) (K : VPost) : c32 x0 x1 w K = WP true Tryd.prog 33 [] (bodyOf Tryd.f32) (argF [x0, x1]) w [.tmp 4] K := by kernel_rfl
theorem c32_calls (x0 x1 : Value) (w : World) (K : VPost) (h : c32 x0 x1 w K) : Calls Tryd.prog 32 #[x0, x1] w (retK K) :=
  calls_of_WP (c32_eq x0 x1 w K) mixedG Tryd.func32 (by kernel_rfl) Tryd.ntmps32 (by kernel_rfl) (by kernel_rfl) h

/-- bytes.Clone -/
def c78 (x0 : Value) (w : World) (K : VPost) : Prop :=
  binW Tryd.prog .eql 22 true x0 (.slice none 0 0) w fun t4_0 w1 =>
  condW t4_0 (
  K (.slice none 0 0) w1) (
  insW Tryd.prog (Instr.buildSlice 22 0 #[]) w1 fun t5_2 w3 =>
  insW Tryd.prog (Builtin.append_ #[22, 22] 22 #[t5_2, x0]) w3 fun t7_4 w5 =>
  K t7_4 w5)
theorem c78_eq (x0 : Value) (w : World) (K : VPost) : c78 x0 w K = WP true Tryd.prog 8 [] (bodyOf Tryd.f78) (argF [x0]) w [.tmp 2] K := by kernel_rfl
theorem c78_calls (x0 : Value) (w : World) (K : VPost) (h : c78 x0 w K) : Calls Tryd.prog 78 #[x0] w (retK K) :=
  calls_of_WP (c78_eq x0 w K) mixedG Tryd.func78 (by kernel_rfl) Tryd.ntmps78 (by kernel_rfl) (by kernel_rfl) h

end Go.Proofs.YtedebapgmfnflaaDoor
