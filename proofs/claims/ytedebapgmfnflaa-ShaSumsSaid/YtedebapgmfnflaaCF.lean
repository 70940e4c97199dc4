/- The clean forms of some of the program's functions, written by a program of ours; each is the model's own by the kernel's reckoning. -/
import Derived.Test.YtedebapgmfnflaaG7
import Derived.KernelRfl
namespace Go.Proofs.Ytedebapgmfnflaa
open Go
set_option maxRecDepth 100000

/-- imprimatur/imprimaturlaw03.alive -/
def c19 (w : World) (K : VPost) : Prop :=
  fnW Try.prog 21 #[(.int .i64 2)] w fun t18_0 w1 =>
  extrW t18_0 0 w1 fun t19_2 w3 =>
  extrW t18_0 1 w3 fun t20_4 w5 =>
  binW Try.prog .neq 26 true t20_4 (.int .i64 0) w5 fun t22_6 w7 =>
  gstep t22_6 false w7 (fun K => K t19_2 w7) fun t24_8 w9 =>
  gstep t22_6 false w9 (fun K => binW Try.prog .eql 25 true t24_8 (.pointer none) w9 K) fun t25_10 w11 =>
  pickW t22_6 (.bool true) t25_10 w11 fun t26_12 w13 =>
  condW t26_12 (
  K (.bool false) w13) (
  insW Try.prog (Instr.build 33 #[(0, (.int .u8 1)), (1, (.int .u8 2)), (2, (.int .u8 3))]) w13 fun t27_14 w15 =>
  allocW (zeroO Try.prog 33) 33 w15 fun t3_16 w17 =>
  storeW (some (true, 64)) t3_16 t27_14 w17 fun w18 =>
  loadW (some (true, 64)) t3_16 w18 fun t29_19 w20 =>
  fnW Try.prog 23 #[t19_2, (.int .i64 0), t29_19] w20 fun t30_21 w22 =>
  fnW Try.prog 25 #[t19_2] w22 fun t32_23 w24 =>
  insW Try.prog (Instr.build 33 #[(0, (.int .u8 7)), (1, (.int .u8 7)), (2, (.int .u8 7)), (3, (.int .u8 7))]) w24 fun t34_25 w26 =>
  fnW Try.prog 23 #[t19_2, (.int .i64 0), t34_25] w26 fun t35_27 w28 =>
  loadW (some (true, 64)) t3_16 w28 fun t37_29 w30 =>
  fnW Try.prog 23 #[t19_2, (.int .i64 1), t37_29] w30 fun t38_31 w32 =>
  fnW Try.prog 35 #[t19_2] w32 fun t40_33 w34 =>
  insW Try.prog (Instr.buildSlice 34 2 #[(0, (.int .u8 130)), (1, (.int .u8 0))]) w34 fun t42_35 w36 =>
  fnW Try.prog 28 #[t19_2, t42_35] w36 fun t43_37 w38 =>
  fnW Try.prog 33 #[t19_2, (.int .i64 0)] w38 fun t46_39 w40 =>
  extrW t46_39 0 w40 fun t47_41 w42 =>
  extrW t46_39 1 w42 fun t48_43 w44 =>
  allocW (zeroO Try.prog 33) 33 w44 fun t9_45 w46 =>
  storeW (some (true, 64)) t9_45 t47_41 w46 fun w47 =>
  fnW Try.prog 33 #[t19_2, (.int .i64 1)] w47 fun t51_48 w49 =>
  extrW t51_48 0 w49 fun t52_50 w51 =>
  extrW t51_48 1 w51 fun t53_52 w53 =>
  allocW (zeroO Try.prog 33) 33 w53 fun t11_54 w55 =>
  storeW (some (true, 64)) t11_54 t52_50 w55 fun w56 =>
  fnW Try.prog 33 #[t19_2, (.int .i64 2)] w56 fun t56_57 w58 =>
  extrW t56_57 0 w58 fun t57_59 w60 =>
  extrW t56_57 1 w60 fun t58_61 w62 =>
  allocW (zeroO Try.prog 33) 33 w62 fun t13_63 w64 =>
  storeW (some (true, 64)) t13_63 t57_59 w64 fun w65 =>
  fnW Try.prog 31 #[t19_2, (.int .i64 0)] w65 fun t60_66 w67 =>
  loadW (some (true, 64)) t3_16 w67 fun t62_68 w69 =>
  fnW Try.prog 23 #[t19_2, (.int .i64 0), t62_68] w69 fun t63_70 w71 =>
  fnW Try.prog 39 #[t19_2] w71 fun t65_72 w73 =>
  binW Try.prog .eql 25 true t65_72 (.pointer none) w73 fun t67_74 w75 =>
  condW t67_74 (
  K (.bool false) w75) (
  binW Try.prog .eql 26 true t30_21 (.int .i64 0) w75 fun t69_76 w77 =>
  gstep t69_76 true w77 (fun K => K t35_27 w77) fun t71_78 w79 =>
  gstep t69_76 true w79 (fun K => binW Try.prog .eql 26 true t71_78 (.int .i64 0) w79 K) fun t72_80 w81 =>
  pickW t69_76 t72_80 (.bool false) w81 fun t73_82 w83 =>
  gstep t73_82 true w83 (fun K => K t38_31 w83) fun t75_84 w85 =>
  gstep t73_82 true w85 (fun K => binW Try.prog .eql 26 true t75_84 (.int .i64 0) w85 K) fun t76_86 w87 =>
  pickW t73_82 t76_86 (.bool false) w87 fun t77_88 w89 =>
  gstep t77_88 true w89 (fun K => K t48_43 w89) fun t79_90 w91 =>
  gstep t77_88 true w91 (fun K => binW Try.prog .eql 26 true t79_90 (.int .i64 0) w91 K) fun t80_92 w93 =>
  pickW t77_88 t80_92 (.bool false) w93 fun t81_94 w95 =>
  gstep t81_94 true w95 (fun K => K t53_52 w95) fun t83_96 w97 =>
  gstep t81_94 true w97 (fun K => binW Try.prog .eql 26 true t83_96 (.int .i64 0) w97 K) fun t84_98 w99 =>
  pickW t81_94 t84_98 (.bool false) w99 fun t85_100 w101 =>
  gstep t85_100 true w101 (fun K => K t58_61 w101) fun t87_102 w103 =>
  gstep t85_100 true w103 (fun K => binW Try.prog .eql 26 true t87_102 (.int .i64 11) w103 K) fun t88_104 w105 =>
  pickW t85_100 t88_104 (.bool false) w105 fun t89_106 w107 =>
  gstep t89_106 true w107 (fun K => K t63_70 w107) fun t91_108 w109 =>
  gstep t89_106 true w109 (fun K => binW Try.prog .eql 26 true t91_108 (.int .i64 15) w109 K) fun t92_110 w111 =>
  pickW t89_106 t92_110 (.bool false) w111 fun t93_112 w113 =>
  gstep t93_112 true w113 (fun K => K t40_33 w113) fun t95_114 w115 =>
  gstep t93_112 true w115 (fun K => binW Try.prog .eql 3 true t95_114 (.int .i64 2) w115 K) fun t96_116 w117 =>
  pickW t93_112 t96_116 (.bool false) w117 fun t97_118 w119 =>
  gstep t97_118 true w119 (fun K => K t43_37 w119) fun t99_120 w121 =>
  gstep t97_118 true w121 (fun K => binW Try.prog .eql 3 true t99_120 (.int .i64 1) w121 K) fun t100_122 w123 =>
  pickW t97_118 t100_122 (.bool false) w123 fun t101_124 w125 =>
  gstep t101_124 true w125 (fun K => loadW (some (true, 64)) t9_45 w125 K) fun t103_126 w127 =>
  gstep t101_124 true w127 (fun K => insW Try.prog (Instr.build 33 #[(0, (.int .u8 7)), (1, (.int .u8 7)), (2, (.int .u8 3))]) w127 K) fun t104_128 w129 =>
  gstep t101_124 true w129 (fun K => binW Try.prog .eql 33 false t103_126 t104_128 w129 K) fun t105_130 w131 =>
  pickW t101_124 t105_130 (.bool false) w131 fun t106_132 w133 =>
  gstep t106_132 true w133 (fun K => loadW (some (true, 64)) t11_54 w133 K) fun t108_134 w135 =>
  gstep t106_132 true w135 (fun K => insW Try.prog (Instr.build 33 #[]) w135 K) fun t109_136 w137 =>
  gstep t106_132 true w137 (fun K => binW Try.prog .eql 33 false t108_134 t109_136 w137 K) fun t110_138 w139 =>
  pickW t106_132 t110_138 (.bool false) w139 fun t111_140 w141 =>
  gstep t111_140 true w141 (fun K => K t19_2 w141) fun t113_142 w143 =>
  gstep t111_140 true w143 (fun K => fnW Try.prog 37 #[t113_142] w143 K) fun t114_144 w145 =>
  gstep t111_140 true w145 (fun K => lenW Try.prog (some true) #[34] 3 #[t114_144] w145 K) fun t115_146 w147 =>
  gstep t111_140 true w147 (fun K => binW Try.prog .eql 3 true t115_146 (.int .i64 128) w147 K) fun t116_148 w149 =>
  pickW t111_140 t116_148 (.bool false) w149 fun t117_150 w151 =>
  gstep t117_150 true w151 (fun K => K t65_72 w151) fun t119_152 w153 =>
  gstep t117_150 true w153 (fun K => loadW (some (true, 64)) t3_16 w153 K) fun t120_154 w155 =>
  gstep t117_150 true w155 (fun K => fnW Try.prog 23 #[t119_152, (.int .i64 0), t120_154] w155 K) fun t121_156 w157 =>
  gstep t117_150 true w157 (fun K => binW Try.prog .eql 26 true t121_156 (.int .i64 0) w157 K) fun t122_158 w159 =>
  pickW t117_150 t122_158 (.bool false) w159 fun t123_160 w161 =>
  gstep t123_160 true w161 (fun K => K t19_2 w161) fun t125_162 w163 =>
  gstep t123_160 true w163 (fun K => fnW Try.prog 36 #[t125_162] w163 K) fun t126_164 w165 =>
  gstep t123_160 true w165 (fun K => binW Try.prog .eql 3 true t126_164 (.int .i64 2) w165 K) fun t127_166 w167 =>
  pickW t123_160 t127_166 (.bool false) w167 fun t128_168 w169 =>
  K t128_168 w169))
theorem c19_eq (w : World) (K : VPost) : c19  w K = WP false Try.prog 129 [] (bodyOf Try.f19) (argF []) w [.tmp 0] K := by kernel_rfl
theorem c19_calls (w : World) (K : VPost) (h : c19  w K) : Calls Try.prog 19 #[] w (retK K) :=
  calls_of_WP (c19_eq  w K) mixedG Try.func19 (by kernel_rfl) Try.ntmps19 (by kernel_rfl) (by kernel_rfl) h

/-- imprimatur/imprimaturlaw03.Great -/
def c20 (x0 : Value) (w : World) (K : VPost) : Prop :=
  lenW Try.prog (some true) #[22] 3 #[x0] w fun t6_0 w1 =>
  binW Try.prog .gtr 3 true t6_0 (.int .i64 60) w1 fun t7_2 w3 =>
  condW t7_2 (
  K (.bool true) w3) (
  bindX (endW Try.prog [.tmp 2] K) fun K4 =>
  bindX (seqX (fun f6 w7 =>
  K (.bool false) w7) K4) fun K5 =>
  bindX (blkX 0 K5) fun K8 =>
  loopW (fun f9 w10 K11 =>
  lenW Try.prog (some true) #[22] 3 #[(f9 0)] w10 fun t10_12 w13 =>
  binW Try.prog .lss 3 false (f9 4) t10_12 w13 fun t11_14 w15 =>
  condW t11_14 (
  idxW (some (none, 67)) (f9 0) (f9 4) w15 fun t17_16 w17 =>
  offW (some 66) t17_16 w17 fun t18_18 w19 =>
  loadW (some (false, 1)) t18_18 w19 fun t19_20 w21 =>
  lenW Try.prog (some true) #[34] 3 #[t19_20] w21 fun t20_22 w23 =>
  binW Try.prog .add 3 false (f9 3) t20_22 w23 fun t21_24 w25 =>
  binW Try.prog .gtr 3 true t21_24 (.int .i64 2000) w25 fun t23_26 w27 =>
  condW t23_26 (
  K11 .ret (pf 24 (pf 24 (pf 24 (pf 24 (pf 24 (pf 24 (pf 24 (pf 24 (pf 24 (pf 24 (pf 24 (pf 24 (pf 24 (pf 24 (pf 24 (pf 24 f9 8 (f9 4)) 9 (f9 0)) 10 t10_12) 11 t11_14) 14 (f9 3)) 15 (f9 0)) 16 (f9 4)) 17 t17_16) 18 t18_18) 19 t19_20) 20 t20_22) 21 t21_24) 3 t21_24) 22 t21_24) 23 t23_26) 2 (.bool true)) w27) (
  binW Try.prog .add 3 true (f9 4) (.int .i64 1) w27 fun t13_28 w29 =>
  K11 .normal (pf 24 (pf 24 (pf 24 (pf 24 (pf 24 (pf 24 (pf 24 (pf 24 (pf 24 (pf 24 (pf 24 (pf 24 (pf 24 (pf 24 (pf 24 (pf 24 (pf 24 (pf 24 f9 8 (f9 4)) 9 (f9 0)) 10 t10_12) 11 t11_14) 14 (f9 3)) 15 (f9 0)) 16 (f9 4)) 17 t17_16) 18 t18_18) 19 t19_20) 20 t20_22) 21 t21_24) 3 t21_24) 22 t21_24) 23 t23_26) 12 (f9 4)) 13 t13_28) 4 t13_28) w29)) (
  K11 (.exit 0) (pf 24 (pf 24 (pf 24 (pf 24 f9 8 (f9 4)) 9 (f9 0)) 10 t10_12) 11 t11_14) w15)) (pf 24 (pf 24 (pf 24 (pf 24 (pf 24 (pf 24 (argF [x0]) 2 (.bool false)) 5 x0) 6 t6_0) 7 t7_2) 3 (.int .i64 0)) 4 (.int .i64 0)) w3 K8)
theorem c20_eq (x0 : Value) (w : World) (K : VPost) : c20 x0 w K = WP false Try.prog 24 [] (bodyOf Try.f20) (argF [x0]) w [.tmp 2] K := by kernel_rfl
theorem c20_calls (x0 : Value) (w : World) (K : VPost) (h : c20 x0 w K) : Calls Try.prog 20 #[x0] w (retK K) :=
  calls_of_WP (c20_eq x0 w K) mixedG Try.func20 (by kernel_rfl) Try.ntmps20 (by kernel_rfl) (by kernel_rfl) h

/-- imprimatur/imprimaturlaw03.DiskCalls -/
def c3 (x0 x1 x2 : Value) (w : World) (K : VPost) : Prop :=
  fnW Try.prog 19 #[] w fun t18_0 w1 =>
  insW Try.prog (Op.unary .not t18_0) w1 fun t19_2 w3 =>
  condW t19_2 (
  K (.bool false) w3) (
  fnW Try.prog 20 #[x1] w3 fun t21_4 w5 =>
  gstep t21_4 false w5 (fun K => K x0 w5) fun t23_6 w7 =>
  gstep t21_4 false w7 (fun K => binW Try.prog .gtr 3 true t23_6 (.int .i64 32) w7 K) fun t24_8 w9 =>
  gstep t21_4 false w9 (fun K => K t24_8 w9) fun t25_10 w11 =>
  gstep t25_10 true w11 (fun K => K x0 w11) fun t26_12 w13 =>
  gstep t25_10 true w13 (fun K => binW Try.prog .leq 3 true t26_12 (.int .i64 4096) w13 K) fun t27_14 w15 =>
  gstep t21_4 false w15 (fun K => pickW t25_10 t27_14 (.bool false) w15 K) fun t28_16 w17 =>
  pickW t21_4 (.bool true) t28_16 w17 fun t29_18 w19 =>
  condW t29_18 (
  K (.bool true) w19) (
  fnW Try.prog 21 #[x0] w19 fun t32_20 w21 =>
  extrW t32_20 0 w21 fun t33_22 w23 =>
  extrW t32_20 1 w23 fun t34_24 w25 =>
  fnW Try.prog 22 #[x0] w25 fun t37_26 w27 =>
  extrW t37_26 0 w27 fun t38_28 w29 =>
  extrW t37_26 1 w29 fun t39_30 w31 =>
  binW Try.prog .neq 26 false t34_24 t39_30 w31 fun t42_32 w33 =>
  gstep t42_32 false w33 (fun K => K t33_22 w33) fun t44_34 w35 =>
  gstep t42_32 false w35 (fun K => binW Try.prog .eql 25 true t44_34 (.pointer none) w35 K) fun t45_36 w37 =>
  gstep t42_32 false w37 (fun K => K t34_24 w37) fun t46_38 w39 =>
  gstep t42_32 false w39 (fun K => binW Try.prog .neq 26 true t46_38 (.int .i64 0) w39 K) fun t47_40 w41 =>
  gstep t42_32 false w41 (fun K => binW Try.prog .neq 4 false t45_36 t47_40 w41 K) fun t48_42 w43 =>
  pickW t42_32 (.bool true) t48_42 w43 fun t49_44 w45 =>
  condW t49_44 (
  K (.bool false) w45) (
  bindX (endW Try.prog [.tmp 6] K) fun K46 =>
  bindX (seqX (fun f48 w49 =>
  K (.bool true) w49) K46) fun K47 =>
  bindX (blkX 0 K47) fun K50 =>
  loopW (fun f51 w52 K53 =>
  lenW Try.prog (some true) #[22] 3 #[(f51 1)] w52 fun t52_54 w55 =>
  binW Try.prog .lss 3 false (f51 11) t52_54 w55 fun t53_56 w57 =>
  gstep t53_56 true w57 (fun K => K (f51 7) w57) fun t55_58 w59 =>
  gstep t53_56 true w59 (fun K => binW Try.prog .neq 25 true t55_58 (.pointer none) w59 K) fun t56_60 w61 =>
  pickW t53_56 t56_60 (.bool false) w61 fun t57_62 w63 =>
  gstep t57_62 true w63 (fun K => K (f51 9) w63) fun t59_64 w65 =>
  gstep t57_62 true w65 (fun K => binW Try.prog .neq 29 true t59_64 (.pointer none) w65 K) fun t60_66 w67 =>
  pickW t57_62 t60_66 (.bool false) w67 fun t61_68 w69 =>
  condW t61_68 (
  bindX (seqX (fun f71 w72 =>
  binW Try.prog .add 3 true (f71 11) (.int .i64 1) w72 fun t63_73 w74 =>
  K53 .normal (pf 165 (pf 165 (pf 165 f71 62 (f71 11)) 63 t63_73) 11 t63_73) w74) K53) fun K70 =>
  bindX (blkX 1 K70) fun K75 =>
  idxW (some (none, 67)) (f51 1) (f51 11) w69 fun t66_76 w77 =>
  loadW (some (true, 67)) t66_76 w77 fun t67_78 w79 =>
  allocW (zeroO Try.prog 36) 36 w79 fun t12_80 w81 =>
  storeW (some (true, 67)) t12_80 t67_78 w81 fun w82 =>
  bindX (seqX (fun f84 w85 =>
  fnW Try.prog 33 #[(f84 7), (f84 2)] w85 fun t124_86 w87 =>
  extrW t124_86 0 w87 fun t125_88 w89 =>
  extrW t124_86 1 w89 fun t126_90 w91 =>
  allocW (zeroO Try.prog 33) 33 w91 fun t14_92 w93 =>
  storeW (some (true, 64)) t14_92 t125_88 w93 fun w94 =>
  fnW Try.prog 34 #[(f84 9), (f84 2)] w94 fun t130_95 w96 =>
  extrW t130_95 0 w96 fun t131_97 w98 =>
  extrW t130_95 1 w98 fun t132_99 w100 =>
  allocW (zeroO Try.prog 33) 33 w100 fun t16_101 w102 =>
  storeW (some (true, 64)) t16_101 t131_97 w102 fun w103 =>
  loadW (some (true, 64)) t14_92 w103.drew fun t133_104 w105 =>
  loadW (some (true, 64)) t16_101 w105 fun t134_106 w107 =>
  binW Try.prog .neq 33 false t133_104 t134_106 w107 fun t135_108 w109 =>
  w109 = w107 ∧
  gstep t135_108 false w109 (fun K => K t126_90 w109) fun t137_110 w111 =>
  gstep t135_108 false w111 (fun K => K t132_99 w111) fun t138_112 w113 =>
  gstep t135_108 false w113 (fun K => binW Try.prog .neq 26 false t137_110 t138_112 w113 K) fun t139_114 w115 =>
  w115 = w113 ∧
  pickW t135_108 (.bool true) t139_114 w115 fun t140_116 w117 =>
  gstep t140_116 false w117 (fun K => K (f84 7) w117) fun t142_118 w119 =>
  gstep t140_116 false w119 (fun K => K (f84 9) w119) fun t144_120 w121 =>
  gstep t140_116 false w121 (fun K => nilW t144_120 w121 K) fun t145_122 w123 =>
  gstep t140_116 false w123 (fun K => offW (some 1) t145_122 w123 K) fun t146_124 w125 =>
  gstep t140_116 false w125 (fun K => loadW (some (false, 1)) t146_124 w125 K) fun t147_126 w127 =>
  gstep t140_116 false w127 (fun K => lenW Try.prog (some true) #[45] 3 #[t147_126] w127 K) fun t148_128 w129 =>
  w129 = w127 ∧
  gstep t140_116 false w129 (fun K => fnW Try.prog 35 #[t142_118] w129 K) fun t143_130 w131 =>
  (gstep t140_116 false w131 (fun K => loadW (some (false, 1)) t146_124 w131 K) fun t147_132 w133 => t147_132 = t147_126 ∧ w133 = w131) ∧
  (gstep t140_116 false w131 (fun K => lenW Try.prog (some true) #[45] 3 #[t147_126] w131 K) fun t148_134 w135 => t148_134 = t148_128 ∧ w135 = w131) ∧
  gstep t140_116 false w131 (fun K => binW Try.prog .neq 3 false t143_130 t148_128 w131 K) fun t149_136 w137 =>
  w137 = w131 ∧
  pickW t140_116 (.bool true) t149_136 w137 fun t150_138 w139 =>
  gstep t150_138 false w139 (fun K => K (f84 7) w139) fun t152_140 w141 =>
  gstep t150_138 false w141 (fun K => K (f84 0) w141) fun t154_142 w143 =>
  gstep t150_138 false w143 (fun K => fnW Try.prog 36 #[t152_140] w143 K) fun t153_144 w145 =>
  gstep t150_138 false w145 (fun K => binW Try.prog .neq 3 false t153_144 t154_142 w145 K) fun t155_146 w147 =>
  w147 = w145 ∧
  pickW t150_138 (.bool true) t155_146 w147 fun t156_148 w149 =>
  gstep t156_148 false w149 (fun K => K (f84 7) w149) fun t158_150 w151 =>
  gstep t156_148 false w151 (fun K => K (f84 9) w151) fun t160_152 w153 =>
  gstep t156_148 false w153 (fun K => fnW Try.prog 37 #[t158_150] w153 K) fun t159_154 w155 =>
  gstep t156_148 false w155 (fun K => fnW Try.prog 38 #[t160_152] w155 K) fun t161_156 w157 =>
  gstep t156_148 false w157 (fun K => fnW Try.prog 30 #[t159_154, t161_156] w157 K) fun t162_158 w159 =>
  gstep t156_148 false w159 (fun K => insW Try.prog (Op.unary .not t162_158) w159 K) fun t163_160 w161 =>
  w161 = w159 ∧
  pickW t156_148 (.bool true) t163_160 w161 fun t164_162 w163 =>
  condW t164_162 (
  K53 .ret (pf 165 (pf 165 (pf 165 (pf 165 (pf 165 (pf 165 (pf 165 (pf 165 (pf 165 (pf 165 (pf 165 (pf 165 (pf 165 (pf 165 (pf 165 (pf 165 (pf 165 (pf 165 (pf 165 (pf 165 (pf 165 (pf 165 (pf 165 (pf 165 (pf 165 (pf 165 (pf 165 (pf 165 (pf 165 (pf 165 (pf 165 (pf 165 (pf 165 (pf 165 (pf 165 (pf 165 (pf 165 (pf 165 (pf 165 (pf 165 (pf 165 (pf 165 (pf 165 (pf 165 (pf 165 (pf 165 (pf 165 (pf 165 (pf 165 f84 122 (f84 7)) 123 (f84 2)) 124 t124_86) 121 t124_86) 125 t125_88) 126 t126_90) 14 t14_92) 15 t126_90) 128 (f84 9)) 129 (f84 2)) 130 t130_95) 127 t130_95) 131 t131_97) 132 t132_99) 16 t16_101) 17 t132_99) 133 t133_104) 134 t134_106) 135 t135_108) 136 t135_108) 137 t137_110) 138 t138_112) 139 t139_114) 140 t140_116) 141 t140_116) 142 t142_118) 144 t144_120) 145 t145_122) 146 t146_124) 147 t147_126) 148 t148_128) 143 t143_130) 149 t149_136) 150 t150_138) 151 t150_138) 152 t152_140) 154 t154_142) 153 t153_144) 155 t155_146) 156 t156_148) 157 t156_148) 158 t158_150) 160 t160_152) 159 t159_154) 161 t161_156) 162 t162_158) 163 t163_160) 164 t164_162) 6 (.bool false)) w163) (
  K70 .normal (pf 165 (pf 165 (pf 165 (pf 165 (pf 165 (pf 165 (pf 165 (pf 165 (pf 165 (pf 165 (pf 165 (pf 165 (pf 165 (pf 165 (pf 165 (pf 165 (pf 165 (pf 165 (pf 165 (pf 165 (pf 165 (pf 165 (pf 165 (pf 165 (pf 165 (pf 165 (pf 165 (pf 165 (pf 165 (pf 165 (pf 165 (pf 165 (pf 165 (pf 165 (pf 165 (pf 165 (pf 165 (pf 165 (pf 165 (pf 165 (pf 165 (pf 165 (pf 165 (pf 165 (pf 165 (pf 165 (pf 165 (pf 165 f84 122 (f84 7)) 123 (f84 2)) 124 t124_86) 121 t124_86) 125 t125_88) 126 t126_90) 14 t14_92) 15 t126_90) 128 (f84 9)) 129 (f84 2)) 130 t130_95) 127 t130_95) 131 t131_97) 132 t132_99) 16 t16_101) 17 t132_99) 133 t133_104) 134 t134_106) 135 t135_108) 136 t135_108) 137 t137_110) 138 t138_112) 139 t139_114) 140 t140_116) 141 t140_116) 142 t142_118) 144 t144_120) 145 t145_122) 146 t146_124) 147 t147_126) 148 t148_128) 143 t143_130) 149 t149_136) 150 t150_138) 151 t150_138) 152 t152_140) 154 t154_142) 153 t153_144) 155 t155_146) 156 t156_148) 157 t156_148) 158 t158_150) 160 t160_152) 159 t159_154) 161 t161_156) 162 t162_158) 163 t163_160) 164 t164_162) w163)) K75) fun K83 =>
  offW (some 0) t12_80 w82 fun t68_164 w165 =>
  loadW (some (false, 1)) t68_164 w165 fun t69_166 w167 =>
  bindX (blkX 2 K83) fun K168 =>
  binW Try.prog .eql 3 true t69_166 (.int .i64 0) w167 fun t71_169 w170 =>
  condW t71_169 (
  offW (some 1) t12_80 w170.drew fun t73_171 w172 =>
  loadW (some (false, 1)) t73_171 w172 fun t74_173 w174 =>
  offW (some 2) t12_80 w174 fun t75_175 w176 =>
  loadW (some (true, 64)) t75_175 w176 fun t76_177 w178 =>
  offW (some 1) t12_80 w178 fun t79_179 w180 =>
  loadW (some (false, 1)) t79_179 w180 fun t80_181 w182 =>
  offW (some 2) t12_80 w182 fun t81_183 w184 =>
  loadW (some (true, 64)) t81_183 w184 fun t82_185 w186 =>
  fnW Try.prog 23 #[(f51 7), t74_173, t76_177] w186 fun t77_187 w188 =>
  (loadW (some (false, 1)) t79_179 w188 fun t80_189 w190 => t80_189 = t80_181 ∧ w190 = w188) ∧
  (loadW (some (true, 64)) t81_183 w188 fun t82_191 w192 => t82_191 = t82_185 ∧ w192 = w188) ∧
  fnW Try.prog 24 #[(f51 9), t80_181, t82_185] w188 fun t83_193 w194 =>
  binW Try.prog .neq 26 false t77_187 t83_193 w194 fun t84_195 w196 =>
  w196 = w194 ∧
  condW t84_195 (
  K53 .ret (pf 165 (pf 165 (pf 165 (pf 165 (pf 165 (pf 165 (pf 165 (pf 165 (pf 165 (pf 165 (pf 165 (pf 165 (pf 165 (pf 165 (pf 165 (pf 165 (pf 165 (pf 165 (pf 165 (pf 165 (pf 165 (pf 165 (pf 165 (pf 165 (pf 165 (pf 165 (pf 165 (pf 165 (pf 165 (pf 165 (pf 165 (pf 165 (pf 165 (pf 165 (pf 165 f51 50 (f51 11)) 51 (f51 1)) 52 t52_54) 53 t53_56) 54 t53_56) 55 t55_58) 56 t56_60) 57 t57_62) 58 t57_62) 59 t59_64) 60 t60_66) 61 t61_68) 64 (f51 1)) 65 (f51 11)) 66 t66_76) 67 t67_78) 12 t12_80) 68 t68_164) 69 t69_166) 71 t71_169) 70 t71_169) 72 (f51 7)) 73 t73_171) 74 t74_173) 75 t75_175) 76 t76_177) 78 (f51 9)) 79 t79_179) 80 t80_181) 81 t81_183) 82 t82_185) 77 t77_187) 83 t83_193) 84 t84_195) 6 (.bool false)) w196) (
  K83 .normal (pf 165 (pf 165 (pf 165 (pf 165 (pf 165 (pf 165 (pf 165 (pf 165 (pf 165 (pf 165 (pf 165 (pf 165 (pf 165 (pf 165 (pf 165 (pf 165 (pf 165 (pf 165 (pf 165 (pf 165 (pf 165 (pf 165 (pf 165 (pf 165 (pf 165 (pf 165 (pf 165 (pf 165 (pf 165 (pf 165 (pf 165 (pf 165 (pf 165 (pf 165 f51 50 (f51 11)) 51 (f51 1)) 52 t52_54) 53 t53_56) 54 t53_56) 55 t55_58) 56 t56_60) 57 t57_62) 58 t57_62) 59 t59_64) 60 t60_66) 61 t61_68) 64 (f51 1)) 65 (f51 11)) 66 t66_76) 67 t67_78) 12 t12_80) 68 t68_164) 69 t69_166) 71 t71_169) 70 t71_169) 72 (f51 7)) 73 t73_171) 74 t74_173) 75 t75_175) 76 t76_177) 78 (f51 9)) 79 t79_179) 80 t80_181) 81 t81_183) 82 t82_185) 77 t77_187) 83 t83_193) 84 t84_195) w196)) (
  binW Try.prog .eql 3 true t69_166 (.int .i64 1) w170 fun t86_197 w198 =>
  condW t86_197 (
  fnW Try.prog 25 #[(f51 7)] w198 fun t88_199 w200 =>
  fnW Try.prog 26 #[(f51 9)] w200 fun t90_201 w202 =>
  K83 .normal (pf 165 (pf 165 (pf 165 (pf 165 (pf 165 (pf 165 (pf 165 (pf 165 (pf 165 (pf 165 (pf 165 (pf 165 (pf 165 (pf 165 (pf 165 (pf 165 (pf 165 (pf 165 (pf 165 (pf 165 (pf 165 (pf 165 (pf 165 (pf 165 (pf 165 (pf 165 (pf 165 f51 50 (f51 11)) 51 (f51 1)) 52 t52_54) 53 t53_56) 54 t53_56) 55 t55_58) 56 t56_60) 57 t57_62) 58 t57_62) 59 t59_64) 60 t60_66) 61 t61_68) 64 (f51 1)) 65 (f51 11)) 66 t66_76) 67 t67_78) 12 t12_80) 68 t68_164) 69 t69_166) 71 t71_169) 70 t71_169) 86 t86_197) 85 t86_197) 87 (f51 7)) 88 t88_199) 89 (f51 9)) 90 t90_201) w202) (
  binW Try.prog .eql 3 true t69_166 (.int .i64 2) w198 fun t92_203 w204 =>
  condW t92_203 (
  offW (some 66) t12_80 w204 fun t93_205 w206 =>
  loadW (some (false, 1)) t93_205 w206 fun t94_207 w208 =>
  fnW Try.prog 27 #[t94_207] w208 fun t95_209 w210 =>
  offW (some 66) t12_80 w210.drew fun t100_211 w212 =>
  loadW (some (false, 1)) t100_211 w212 fun t101_213 w214 =>
  fnW Try.prog 28 #[(f51 7), t95_209] w214 fun t98_215 w216 =>
  (loadW (some (false, 1)) t100_211 w216 fun t101_217 w218 => t101_217 = t101_213 ∧ w218 = w216) ∧
  fnW Try.prog 29 #[(f51 9), t101_213] w216 fun t102_219 w220 =>
  binW Try.prog .neq 3 false t98_215 t102_219 w220 fun t103_221 w222 =>
  w222 = w220 ∧
  gstep t103_221 false w222 (fun K => K t95_209 w222) fun t105_223 w224 =>
  gstep t103_221 false w224 (fun K => offW (some 66) t12_80 w224 K) fun t106_225 w226 =>
  gstep t103_221 false w226 (fun K => loadW (some (false, 1)) t106_225 w226 K) fun t107_227 w228 =>
  gstep t103_221 false w228 (fun K => fnW Try.prog 30 #[t105_223, t107_227] w228 K) fun t108_229 w230 =>
  gstep t103_221 false w230 (fun K => insW Try.prog (Op.unary .not t108_229) w230 K) fun t109_231 w232 =>
  w232 = w230 ∧
  pickW t103_221 (.bool true) t109_231 w232 fun t110_233 w234 =>
  condW t110_233 (
  K53 .ret (pf 165 (pf 165 (pf 165 (pf 165 (pf 165 (pf 165 (pf 165 (pf 165 (pf 165 (pf 165 (pf 165 (pf 165 (pf 165 (pf 165 (pf 165 (pf 165 (pf 165 (pf 165 (pf 165 (pf 165 (pf 165 (pf 165 (pf 165 (pf 165 (pf 165 (pf 165 (pf 165 (pf 165 (pf 165 (pf 165 (pf 165 (pf 165 (pf 165 (pf 165 (pf 165 (pf 165 (pf 165 (pf 165 (pf 165 (pf 165 (pf 165 (pf 165 (pf 165 (pf 165 (pf 165 f51 50 (f51 11)) 51 (f51 1)) 52 t52_54) 53 t53_56) 54 t53_56) 55 t55_58) 56 t56_60) 57 t57_62) 58 t57_62) 59 t59_64) 60 t60_66) 61 t61_68) 64 (f51 1)) 65 (f51 11)) 66 t66_76) 67 t67_78) 12 t12_80) 68 t68_164) 69 t69_166) 71 t71_169) 70 t71_169) 86 t86_197) 85 t86_197) 92 t92_203) 91 t92_203) 93 t93_205) 94 t94_207) 95 t95_209) 13 t95_209) 96 (f51 7)) 97 t95_209) 99 (f51 9)) 100 t100_211) 101 t101_213) 98 t98_215) 102 t102_219) 103 t103_221) 104 t103_221) 105 t105_223) 106 t106_225) 107 t107_227) 108 t108_229) 109 t109_231) 110 t110_233) 6 (.bool false)) w234) (
  K83 .normal (pf 165 (pf 165 (pf 165 (pf 165 (pf 165 (pf 165 (pf 165 (pf 165 (pf 165 (pf 165 (pf 165 (pf 165 (pf 165 (pf 165 (pf 165 (pf 165 (pf 165 (pf 165 (pf 165 (pf 165 (pf 165 (pf 165 (pf 165 (pf 165 (pf 165 (pf 165 (pf 165 (pf 165 (pf 165 (pf 165 (pf 165 (pf 165 (pf 165 (pf 165 (pf 165 (pf 165 (pf 165 (pf 165 (pf 165 (pf 165 (pf 165 (pf 165 (pf 165 (pf 165 f51 50 (f51 11)) 51 (f51 1)) 52 t52_54) 53 t53_56) 54 t53_56) 55 t55_58) 56 t56_60) 57 t57_62) 58 t57_62) 59 t59_64) 60 t60_66) 61 t61_68) 64 (f51 1)) 65 (f51 11)) 66 t66_76) 67 t67_78) 12 t12_80) 68 t68_164) 69 t69_166) 71 t71_169) 70 t71_169) 86 t86_197) 85 t86_197) 92 t92_203) 91 t92_203) 93 t93_205) 94 t94_207) 95 t95_209) 13 t95_209) 96 (f51 7)) 97 t95_209) 99 (f51 9)) 100 t100_211) 101 t101_213) 98 t98_215) 102 t102_219) 103 t103_221) 104 t103_221) 105 t105_223) 106 t106_225) 107 t107_227) 108 t108_229) 109 t109_231) 110 t110_233) w234)) (
  binW Try.prog .eql 3 true t69_166 (.int .i64 3) w204 fun t112_235 w236 =>
  condW t112_235 (
  offW (some 1) t12_80 w236 fun t114_237 w238 =>
  loadW (some (false, 1)) t114_237 w238 fun t115_239 w240 =>
  fnW Try.prog 31 #[(f51 7), t115_239] w240 fun t116_241 w242 =>
  offW (some 1) t12_80 w242 fun t118_243 w244 =>
  loadW (some (false, 1)) t118_243 w244 fun t119_245 w246 =>
  fnW Try.prog 32 #[(f51 9), t119_245] w246 fun t120_247 w248 =>
  K83 .normal (pf 165 (pf 165 (pf 165 (pf 165 (pf 165 (pf 165 (pf 165 (pf 165 (pf 165 (pf 165 (pf 165 (pf 165 (pf 165 (pf 165 (pf 165 (pf 165 (pf 165 (pf 165 (pf 165 (pf 165 (pf 165 (pf 165 (pf 165 (pf 165 (pf 165 (pf 165 (pf 165 (pf 165 (pf 165 (pf 165 (pf 165 (pf 165 (pf 165 (pf 165 (pf 165 f51 50 (f51 11)) 51 (f51 1)) 52 t52_54) 53 t53_56) 54 t53_56) 55 t55_58) 56 t56_60) 57 t57_62) 58 t57_62) 59 t59_64) 60 t60_66) 61 t61_68) 64 (f51 1)) 65 (f51 11)) 66 t66_76) 67 t67_78) 12 t12_80) 68 t68_164) 69 t69_166) 71 t71_169) 70 t71_169) 86 t86_197) 85 t86_197) 92 t92_203) 91 t92_203) 112 t112_235) 111 t112_235) 113 (f51 7)) 114 t114_237) 115 t115_239) 116 t116_241) 117 (f51 9)) 118 t118_243) 119 t119_245) 120 t120_247) w248) (
  K83 .normal (pf 165 (pf 165 (pf 165 (pf 165 (pf 165 (pf 165 (pf 165 (pf 165 (pf 165 (pf 165 (pf 165 (pf 165 (pf 165 (pf 165 (pf 165 (pf 165 (pf 165 (pf 165 (pf 165 (pf 165 (pf 165 (pf 165 (pf 165 (pf 165 (pf 165 (pf 165 (pf 165 f51 50 (f51 11)) 51 (f51 1)) 52 t52_54) 53 t53_56) 54 t53_56) 55 t55_58) 56 t56_60) 57 t57_62) 58 t57_62) 59 t59_64) 60 t60_66) 61 t61_68) 64 (f51 1)) 65 (f51 11)) 66 t66_76) 67 t67_78) 12 t12_80) 68 t68_164) 69 t69_166) 71 t71_169) 70 t71_169) 86 t86_197) 85 t86_197) 92 t92_203) 91 t92_203) 112 t112_235) 111 t112_235) w236))))) (
  K53 (.exit 0) (pf 165 (pf 165 (pf 165 (pf 165 (pf 165 (pf 165 (pf 165 (pf 165 (pf 165 (pf 165 (pf 165 (pf 165 f51 50 (f51 11)) 51 (f51 1)) 52 t52_54) 53 t53_56) 54 t53_56) 55 t55_58) 56 t56_60) 57 t57_62) 58 t57_62) 59 t59_64) 60 t60_66) 61 t61_68) w69)) (pf 165 (pf 165 (pf 165 (pf 165 (pf 165 (pf 165 (pf 165 (pf 165 (pf 165 (pf 165 (pf 165 (pf 165 (pf 165 (pf 165 (pf 165 (pf 165 (pf 165 (pf 165 (pf 165 (pf 165 (pf 165 (pf 165 (pf 165 (pf 165 (pf 165 (pf 165 (pf 165 (pf 165 (pf 165 (pf 165 (pf 165 (pf 165 (pf 165 (pf 165 (pf 165 (pf 165 (pf 165 (pf 165 (argF [x0, x1, x2]) 6 (.bool false)) 18 t18_0) 19 t19_2) 20 x1) 21 t21_4) 22 t21_4) 23 t23_6) 24 t24_8) 25 t25_10) 26 t26_12) 27 t27_14) 28 t28_16) 29 t29_18) 31 x0) 32 t32_20) 30 t32_20) 33 t33_22) 34 t34_24) 7 t33_22) 8 t34_24) 36 x0) 37 t37_26) 35 t37_26) 38 t38_28) 39 t39_30) 9 t38_28) 10 t39_30) 40 t34_24) 41 t39_30) 42 t42_32) 43 t42_32) 44 t44_34) 45 t45_36) 46 t46_38) 47 t47_40) 48 t48_42) 49 t49_44) 11 (.int .i64 0)) w45 K50)))
theorem c3_eq (x0 x1 x2 : Value) (w : World) (K : VPost) : c3 x0 x1 x2 w K = WP false Try.prog 165 [(15, 2080, [0, 0, 2, 0, 8, 21, 0, 0, 128, 0, 512, 1376, 2080], [0, 0, 2, 0, 8, 31, 0, 0, 128, 0, 512, 2047, 4095]), (22, 4164, [0, 0, 3, 0, 0, 16, 44, 68, 192, 256, 256, 1280, 2816, 4352, 8448], [0, 0, 3, 0, 0, 16, 63, 127, 255, 511, 511, 1535, 4095, 8191, 16383]), (29, 873464832, [0, 0, 3, 4, 8, 8, 56, 72, 136, 256, 768, 256, 2304, 4352, 8448, 16640, 34048, 65792, 132096, 262144, 786432, 262144, 3407872, 4456448, 9437184, 16777216, 50331648, 16777216, 218103808, 352321536, 553648128, 1090519040], [0, 0, 3, 7, 15, 15, 63, 127, 255, 511, 1023, 511, 2559, 6655, 14847, 31231, 65535, 131071, 262143, 524287, 1048575, 524287, 4194303, 8388607, 16777215, 33554431, 67108863, 33554431, 268435455, 536870911, 1073741823, 2147483647])] (bodyOf Try.f3) (argF [x0, x1, x2]) w [.tmp 6] K := by kernel_rfl
theorem c3_calls (x0 x1 x2 : Value) (w : World) (K : VPost) (h : c3 x0 x1 x2 w K) : Calls Try.prog 3 #[x0, x1, x2] w (retK K) :=
  calls_of_WP (c3_eq x0 x1 x2 w K) mixedG Try.func3 (by kernel_rfl) Try.ntmps3 (by kernel_rfl) (by kernel_rfl) h

/-- imprimatur/imprimaturlaw03.DiskLasts -/
def c4 (x0 x1 x2 : Value) (w : World) (K : VPost) : Prop :=
  fnW Try.prog 19 #[] w fun t16_0 w1 =>
  insW Try.prog (Op.unary .not t16_0) w1 fun t17_2 w3 =>
  condW t17_2 (
  K (.bool false) w3) (
  fnW Try.prog 20 #[x0] w3 fun t19_4 w5 =>
  gstep t19_4 false w5 (fun K => K x1 w5) fun t21_6 w7 =>
  gstep t19_4 false w7 (fun K => fnW Try.prog 20 #[t21_6] w7 K) fun t22_8 w9 =>
  pickW t19_4 (.bool true) t22_8 w9 fun t23_10 w11 =>
  gstep t23_10 false w11 (fun K => K x2 w11) fun t25_12 w13 =>
  gstep t23_10 false w13 (fun K => lenW Try.prog (some true) #[34] 3 #[t25_12] w13 K) fun t26_14 w15 =>
  gstep t23_10 false w15 (fun K => binW Try.prog .gtr 3 true t26_14 (.int .i64 500) w15 K) fun t27_16 w17 =>
  pickW t23_10 (.bool true) t27_16 w17 fun t28_18 w19 =>
  condW t28_18 (
  K (.bool true) w19) (
  fnW Try.prog 21 #[(.int .i64 8)] w19 fun t30_20 w21 =>
  extrW t30_20 0 w21 fun t31_22 w23 =>
  extrW t30_20 1 w23 fun t32_24 w25 =>
  binW Try.prog .neq 26 true t32_24 (.int .i64 0) w25 fun t34_26 w27 =>
  gstep t34_26 false w27 (fun K => K t31_22 w27) fun t36_28 w29 =>
  gstep t34_26 false w29 (fun K => binW Try.prog .eql 25 true t36_28 (.pointer none) w29 K) fun t37_30 w31 =>
  pickW t34_26 (.bool true) t37_30 w31 fun t38_32 w33 =>
  condW t38_32 (
  K (.bool false) w33) (
  bindX (endW Try.prog [.tmp 6] K) fun K34 =>
  bindX (seqX (fun f36 w37 =>
  fnW Try.prog 25 #[(f36 7)] w37 fun t59_38 w39 =>
  fnW Try.prog 37 #[(f36 7)] w39 fun t61_40 w41 =>
  bindX (seqX (fun f43 w44 =>
  fnW Try.prog 28 #[(f43 7), (f43 2)] w44 fun t83_45 w46 =>
  fnW Try.prog 37 #[(f43 7)] w46 fun t85_47 w48 =>
  lenW Try.prog (some true) #[34] 3 #[(f43 10)] w48 fun t87_49 w50 =>
  binW Try.prog .neq 3 true t87_49 (.int .i64 512) w50 fun t88_51 w52 =>
  gstep t88_51 false w52 (fun K => K t85_47 w52) fun t90_53 w54 =>
  gstep t88_51 false w54 (fun K => lenW Try.prog (some true) #[34] 3 #[t90_53] w54 K) fun t91_55 w56 =>
  gstep t88_51 false w56 (fun K => binW Try.prog .neq 3 true t91_55 (.int .i64 512) w56 K) fun t92_57 w58 =>
  pickW t88_51 (.bool true) t92_57 w58 fun t93_59 w60 =>
  gstep t93_59 false w60 (fun K => K (f43 7) w60) fun t95_61 w62 =>
  gstep t93_59 false w62 (fun K => fnW Try.prog 35 #[t95_61] w62 K) fun t96_63 w64 =>
  gstep t93_59 false w64 (fun K => binW Try.prog .neq 3 true t96_63 (.int .i64 0) w64 K) fun t97_65 w66 =>
  pickW t93_59 (.bool true) t97_65 w66 fun t98_67 w68 =>
  condW t98_67 (
  K (.bool false) w68) (
  bindX (seqX (fun f70 w71 =>
  K (.bool true) w71) K34) fun K69 =>
  bindX (blkX 4 K69) fun K72 =>
  loopW (fun f73 w74 K75 =>
  binW Try.prog .lss 3 true (f73 13) (.int .i64 512) w74 fun t100_76 w77 =>
  condW t100_76 (
  bindX (seqX (fun f79 w80 =>
  binW Try.prog .add 3 true (f79 13) (.int .i64 1) w80 fun t102_81 w82 =>
  K75 .normal (pf 147 (pf 147 (pf 147 f79 101 (f79 13)) 102 t102_81) 13 t102_81) w82) K75) fun K78 =>
  bindX (blkX 5 K78) fun K83 =>
  idxW (some (none, 1)) (f73 12) (f73 13) w77.drew fun t105_84 w85 =>
  loadW (some (false, 1)) t105_84 w85 fun t106_86 w87 =>
  idxW (some (none, 1)) (f73 10) (f73 13) w87 fun t109_88 w89 =>
  loadW (some (false, 1)) t109_88 w89 fun t110_90 w91 =>
  binW Try.prog .eql 5 false t106_86 t110_90 w91 fun t111_92 w93 =>
  w93 = w91 ∧
  bindX (seqX (fun f95 w96 =>
  insW Try.prog (Op.unary .not (f95 14)) w96 fun t146_97 w98 =>
  condW t146_97 (
  K75 .ret (pf 147 (pf 147 (pf 147 f95 145 (f95 14)) 146 t146_97) 6 (.bool false)) w98) (
  K78 .normal (pf 147 (pf 147 f95 145 (f95 14)) 146 t146_97) w98)) K83) fun K94 =>
  bindX (blkX 6 K94) fun K99 =>
  loopW (fun f100 w101 K102 =>
  lenW Try.prog (some true) #[22] 3 #[(f100 1)] w101 fun t114_103 w104 =>
  binW Try.prog .lss 3 false (f100 15) t114_103 w104 fun t115_105 w106 =>
  condW t115_105 (
  gstep (f100 14) false w106.drew (fun K => K (f100 1) w106.drew) fun t120_107 w108 =>
  gstep (f100 14) false w108 (fun K => K (f100 15) w108) fun t121_109 w110 =>
  gstep (f100 14) false w110 (fun K => idxW (some (none, 67)) t120_107 t121_109 w110 K) fun t122_111 w112 =>
  gstep (f100 14) false w112 (fun K => offW (some 1) t122_111 w112 K) fun t123_113 w114 =>
  gstep (f100 14) false w114 (fun K => loadW (some (false, 1)) t123_113 w114 K) fun t124_115 w116 =>
  gstep (f100 14) false w116 (fun K => binW Try.prog .and 3 true t124_115 (.int .i64 7) w116 K) fun t125_117 w118 =>
  w118 = w116 ∧
  gstep (f100 14) false w118 (fun K => K (f100 13) w118) fun t126_119 w120 =>
  gstep (f100 14) false w120 (fun K => binW Try.prog .quo 3 true t126_119 (.int .i64 64) w120 K) fun t127_121 w122 =>
  w122 = w120 ∧
  gstep (f100 14) false w122 (fun K => binW Try.prog .eql 3 false t125_117 t127_121 w122 K) fun t128_123 w124 =>
  w124 = w122 ∧
  gstep (f100 14) false w124 (fun K => K t128_123 w124) fun t129_125 w126 =>
  gstep t129_125 true w126 (fun K => K (f100 1) w126) fun t130_127 w128 =>
  gstep t129_125 true w128 (fun K => K (f100 15) w128) fun t131_129 w130 =>
  gstep t129_125 true w130 (fun K => K (f100 13) w130) fun t132_131 w132 =>
  gstep t129_125 true w132 (fun K => binW Try.prog .rem 3 true t132_131 (.int .i64 64) w132 K) fun t133_133 w134 =>
  w134 = w132 ∧
  gstep t129_125 true w134 (fun K => idxW (some (none, 67)) t130_127 t131_129 w134 K) fun t134_135 w136 =>
  gstep t129_125 true w136 (fun K => offW (some 2) t134_135 w136 K) fun t135_137 w138 =>
  gstep t129_125 true w138 (fun K => idxW (some ((some 64), 1)) t135_137 t133_133 w138 K) fun t136_139 w140 =>
  gstep t129_125 true w140 (fun K => loadW (some (false, 1)) t136_139 w140 K) fun t137_141 w142 =>
  gstep t129_125 true w142 (fun K => K (f100 12) w142) fun t138_143 w144 =>
  gstep t129_125 true w144 (fun K => K (f100 13) w144) fun t139_145 w146 =>
  gstep t129_125 true w146 (fun K => idxW (some (none, 1)) t138_143 t139_145 w146 K) fun t140_147 w148 =>
  gstep t129_125 true w148 (fun K => loadW (some (false, 1)) t140_147 w148 K) fun t141_149 w150 =>
  gstep t129_125 true w150 (fun K => binW Try.prog .eql 5 false t137_141 t141_149 w150 K) fun t142_151 w152 =>
  w152 = w150 ∧
  gstep (f100 14) false w152 (fun K => pickW t129_125 t142_151 (.bool false) w152 K) fun t143_153 w154 =>
  pickW (f100 14) (.bool true) t143_153 w154 fun t144_155 w156 =>
  binW Try.prog .add 3 true (f100 15) (.int .i64 1) w156 fun t117_157 w158 =>
  K102 .normal (pf 147 (pf 147 (pf 147 (pf 147 (pf 147 (pf 147 (pf 147 (pf 147 (pf 147 (pf 147 (pf 147 (pf 147 (pf 147 (pf 147 (pf 147 (pf 147 (pf 147 (pf 147 (pf 147 (pf 147 (pf 147 (pf 147 (pf 147 (pf 147 (pf 147 (pf 147 (pf 147 (pf 147 (pf 147 (pf 147 (pf 147 (pf 147 (pf 147 (pf 147 (pf 147 f100 112 (f100 15)) 113 (f100 1)) 114 t114_103) 115 t115_105) 118 (f100 14)) 119 (f100 14)) 120 t120_107) 121 t121_109) 122 t122_111) 123 t123_113) 124 t124_115) 125 t125_117) 126 t126_119) 127 t127_121) 128 t128_123) 129 t129_125) 130 t130_127) 131 t131_129) 132 t132_131) 133 t133_133) 134 t134_135) 135 t135_137) 136 t136_139) 137 t137_141) 138 t138_143) 139 t139_145) 140 t140_147) 141 t141_149) 142 t142_151) 143 t143_153) 144 t144_155) 14 t144_155) 116 (f100 15)) 117 t117_157) 15 t117_157) w158) (
  K102 (.exit 6) (pf 147 (pf 147 (pf 147 (pf 147 f100 112 (f100 15)) 113 (f100 1)) 114 t114_103) 115 t115_105) w106)) (pf 147 (pf 147 (pf 147 (pf 147 (pf 147 (pf 147 (pf 147 (pf 147 (pf 147 (pf 147 (pf 147 (pf 147 (pf 147 f73 99 (f73 13)) 100 t100_76) 103 (f73 12)) 104 (f73 13)) 105 t105_84) 106 t106_86) 107 (f73 10)) 108 (f73 13)) 109 t109_88) 110 t110_90) 111 t111_92) 14 t111_92) 15 (.int .i64 0)) w93 K99) (
  K75 (.exit 4) (pf 147 (pf 147 f73 99 (f73 13)) 100 t100_76) w77)) (pf 147 (pf 147 (pf 147 (pf 147 (pf 147 (pf 147 (pf 147 (pf 147 (pf 147 (pf 147 (pf 147 (pf 147 (pf 147 (pf 147 (pf 147 (pf 147 (pf 147 (pf 147 (pf 147 (pf 147 f43 81 (f43 7)) 82 (f43 2)) 83 t83_45) 84 (f43 7)) 85 t85_47) 12 t85_47) 86 (f43 10)) 87 t87_49) 88 t88_51) 89 t88_51) 90 t90_53) 91 t91_55) 92 t92_57) 93 t93_59) 94 t93_59) 95 t95_61) 96 t96_63) 97 t97_65) 98 t98_67) 13 (.int .i64 0)) w68 K72)) K34) fun K42 =>
  bindX (blkX 2 K42) fun K159 =>
  loopW (fun f160 w161 K162 =>
  lenW Try.prog (some true) #[22] 3 #[(f160 1)] w161 fun t64_163 w164 =>
  binW Try.prog .lss 3 false (f160 11) t64_163 w164 fun t65_165 w166 =>
  condW t65_165 (
  idxW (some (none, 67)) (f160 1) (f160 11) w166.drew fun t71_167 w168 =>
  offW (some 1) t71_167 w168 fun t72_169 w170 =>
  loadW (some (false, 1)) t72_169 w170 fun t73_171 w172 =>
  binW Try.prog .and 3 true t73_171 (.int .i64 7) w172 fun t74_173 w174 =>
  w174 = w172 ∧
  idxW (some (none, 67)) (f160 1) (f160 11) w174 fun t77_175 w176 =>
  offW (some 2) t77_175 w176 fun t78_177 w178 =>
  loadW (some (true, 64)) t78_177 w178 fun t79_179 w180 =>
  fnW Try.prog 23 #[(f160 7), t74_173, t79_179] w180 fun t80_181 w182 =>
  binW Try.prog .add 3 true (f160 11) (.int .i64 1) w182 fun t67_183 w184 =>
  K162 .normal (pf 147 (pf 147 (pf 147 (pf 147 (pf 147 (pf 147 (pf 147 (pf 147 (pf 147 (pf 147 (pf 147 (pf 147 (pf 147 (pf 147 (pf 147 (pf 147 (pf 147 (pf 147 (pf 147 (pf 147 f160 62 (f160 11)) 63 (f160 1)) 64 t64_163) 65 t65_165) 68 (f160 7)) 69 (f160 1)) 70 (f160 11)) 71 t71_167) 72 t72_169) 73 t73_171) 74 t74_173) 75 (f160 1)) 76 (f160 11)) 77 t77_175) 78 t78_177) 79 t79_179) 80 t80_181) 66 (f160 11)) 67 t67_183) 11 t67_183) w184) (
  K162 (.exit 2) (pf 147 (pf 147 (pf 147 (pf 147 f160 62 (f160 11)) 63 (f160 1)) 64 t64_163) 65 t65_165) w166)) (pf 147 (pf 147 (pf 147 (pf 147 (pf 147 (pf 147 f36 58 (f36 7)) 59 t59_38) 60 (f36 7)) 61 t61_40) 10 t61_40) 11 (.int .i64 0)) w41 K159) K34) fun K35 =>
  bindX (blkX 0 K35) fun K185 =>
  loopW (fun f186 w187 K188 =>
  lenW Try.prog (some true) #[22] 3 #[(f186 0)] w187 fun t41_189 w190 =>
  binW Try.prog .lss 3 false (f186 9) t41_189 w190 fun t42_191 w192 =>
  condW t42_191 (
  idxW (some (none, 67)) (f186 0) (f186 9) w192.drew fun t48_193 w194 =>
  offW (some 1) t48_193 w194 fun t49_195 w196 =>
  loadW (some (false, 1)) t49_195 w196 fun t50_197 w198 =>
  binW Try.prog .and 3 true t50_197 (.int .i64 7) w198 fun t51_199 w200 =>
  w200 = w198 ∧
  idxW (some (none, 67)) (f186 0) (f186 9) w200 fun t54_201 w202 =>
  offW (some 2) t54_201 w202 fun t55_203 w204 =>
  loadW (some (true, 64)) t55_203 w204 fun t56_205 w206 =>
  fnW Try.prog 23 #[(f186 7), t51_199, t56_205] w206 fun t57_207 w208 =>
  binW Try.prog .add 3 true (f186 9) (.int .i64 1) w208 fun t44_209 w210 =>
  K188 .normal (pf 147 (pf 147 (pf 147 (pf 147 (pf 147 (pf 147 (pf 147 (pf 147 (pf 147 (pf 147 (pf 147 (pf 147 (pf 147 (pf 147 (pf 147 (pf 147 (pf 147 (pf 147 (pf 147 (pf 147 f186 39 (f186 9)) 40 (f186 0)) 41 t41_189) 42 t42_191) 45 (f186 7)) 46 (f186 0)) 47 (f186 9)) 48 t48_193) 49 t49_195) 50 t50_197) 51 t51_199) 52 (f186 0)) 53 (f186 9)) 54 t54_201) 55 t55_203) 56 t56_205) 57 t57_207) 43 (f186 9)) 44 t44_209) 9 t44_209) w210) (
  K188 (.exit 0) (pf 147 (pf 147 (pf 147 (pf 147 f186 39 (f186 9)) 40 (f186 0)) 41 t41_189) 42 t42_191) w192)) (pf 147 (pf 147 (pf 147 (pf 147 (pf 147 (pf 147 (pf 147 (pf 147 (pf 147 (pf 147 (pf 147 (pf 147 (pf 147 (pf 147 (pf 147 (pf 147 (pf 147 (pf 147 (pf 147 (pf 147 (pf 147 (pf 147 (pf 147 (pf 147 (pf 147 (pf 147 (pf 147 (argF [x0, x1, x2]) 6 (.bool false)) 16 t16_0) 17 t17_2) 18 x0) 19 t19_4) 20 t19_4) 21 t21_6) 22 t22_8) 23 t23_10) 24 t23_10) 25 t25_12) 26 t26_14) 27 t27_16) 28 t28_18) 30 t30_20) 29 t30_20) 31 t31_22) 32 t32_24) 7 t31_22) 8 t32_24) 33 t32_24) 34 t34_26) 35 t34_26) 36 t36_28) 37 t37_30) 38 t38_32) 9 (.int .i64 0)) w33 K185)))
theorem c4_eq (x0 x1 x2 : Value) (w : World) (K : VPost) : c4 x0 x1 x2 w K = WP false Try.prog 147 [(11, 4096, [0, 0, 0, 6, 8, 16, 32, 0, 0, 384, 512, 1024, 2113], [0, 0, 0, 6, 14, 30, 62, 0, 0, 384, 896, 1920, 4095]), (17, 4096, [0, 0, 0, 6, 8, 16, 32, 0, 0, 384, 512, 1024, 2113], [0, 0, 0, 6, 14, 30, 62, 0, 0, 384, 896, 1920, 4095]), (25, 0, [0, 0, 3, 4, 0, 0, 48, 64, 136, 511], [0, 0, 3, 7, 0, 0, 48, 112, 255, 511]), (29, 134217728, [0, 1, 2, 2, 14, 18, 34, 66, 2, 258, 642, 1026, 2048, 2048, 2048, 18432, 14336, 67584, 165888, 264192, 2048, 2048, 3147776, 4196352, 8914944, 16779266, 33554434, 134217727], [0, 1, 3, 3, 15, 31, 63, 127, 3, 259, 1023, 2047, 4095, 4095, 4095, 20479, 16383, 81919, 262143, 524287, 4095, 4095, 3149823, 7344127, 16777215, 33554431, 67108863, 134217727])] (bodyOf Try.f4) (argF [x0, x1, x2]) w [.tmp 6] K := by kernel_rfl
theorem c4_calls (x0 x1 x2 : Value) (w : World) (K : VPost) (h : c4 x0 x1 x2 w K) : Calls Try.prog 4 #[x0, x1, x2] w (retK K) :=
  calls_of_WP (c4_eq x0 x1 x2 w K) mixedG Try.func4 (by kernel_rfl) Try.ntmps4 (by kernel_rfl) (by kernel_rfl) h

/-- imprimatur/imprimaturlaw03.DiskTwins -/
def c5 (x0 x1 x2 : Value) (w : World) (K : VPost) : Prop :=
  boxW 33 x2 w fun t5_0 w1 =>
  fnW Try.prog 19 #[] w1 fun t12_2 w3 =>
  insW Try.prog (Op.unary .not t12_2) w3 fun t13_4 w5 =>
  condW t13_4 (
  K (.bool false) w5) (
  fnW Try.prog 20 #[x0] w5 fun t15_6 w7 =>
  gstep t15_6 false w7 (fun K => K x1 w7) fun t17_8 w9 =>
  gstep t15_6 false w9 (fun K => lenW Try.prog (some true) #[34] 3 #[t17_8] w9 K) fun t18_10 w11 =>
  gstep t15_6 false w11 (fun K => binW Try.prog .gtr 3 true t18_10 (.int .i64 500) w11 K) fun t19_12 w13 =>
  pickW t15_6 (.bool true) t19_12 w13 fun t20_14 w15 =>
  condW t20_14 (
  K (.bool true) w15) (
  fnW Try.prog 21 #[(.int .i64 8)] w15 fun t22_16 w17 =>
  extrW t22_16 0 w17 fun t23_18 w19 =>
  extrW t22_16 1 w19 fun t24_20 w21 =>
  binW Try.prog .neq 26 true t24_20 (.int .i64 0) w21 fun t26_22 w23 =>
  gstep t26_22 false w23 (fun K => K t23_18 w23) fun t28_24 w25 =>
  gstep t26_22 false w25 (fun K => binW Try.prog .eql 25 true t28_24 (.pointer none) w25 K) fun t29_26 w27 =>
  pickW t26_22 (.bool true) t29_26 w27 fun t30_28 w29 =>
  condW t30_28 (
  K (.bool false) w29) (
  bindX (endW Try.prog [.tmp 6] K) fun K30 =>
  bindX (seqX (fun f32 w33 =>
  fnW Try.prog 37 #[(f32 7)] w33 fun t51_34 w35 =>
  fnW Try.prog 39 #[(f32 7)] w35 fun t53_36 w37 =>
  binW Try.prog .eql 25 true t53_36 (.pointer none) w37 fun t55_38 w39 =>
  gstep t55_38 false w39 (fun K => K t53_36 w39) fun t57_40 w41 =>
  gstep t55_38 false w41 (fun K => fnW Try.prog 35 #[t57_40] w41 K) fun t58_42 w43 =>
  gstep t55_38 false w43 (fun K => binW Try.prog .neq 3 true t58_42 (.int .i64 0) w43 K) fun t59_44 w45 =>
  pickW t55_38 (.bool true) t59_44 w45 fun t60_46 w47 =>
  gstep t60_46 false w47 (fun K => K t53_36 w47) fun t62_48 w49 =>
  gstep t60_46 false w49 (fun K => fnW Try.prog 37 #[t62_48] w49 K) fun t63_50 w51 =>
  gstep t60_46 false w51 (fun K => K t51_34 w51) fun t64_52 w53 =>
  gstep t60_46 false w53 (fun K => fnW Try.prog 30 #[t63_50, t64_52] w53 K) fun t65_54 w55 =>
  gstep t60_46 false w55 (fun K => insW Try.prog (Op.unary .not t65_54) w55 K) fun t66_56 w57 =>
  pickW t60_46 (.bool true) t66_56 w57 fun t67_58 w59 =>
  condW t67_58 (
  K (.bool false) w59) (
  fnW Try.prog 28 #[t53_36, (f32 1)] w59 fun t70_60 w61 =>
  fnW Try.prog 37 #[t53_36] w61 fun t72_62 w63 =>
  fnW Try.prog 30 #[t72_62, t51_34] w63 fun t74_64 w65 =>
  insW Try.prog (Op.unary .not t74_64) w65 fun t75_66 w67 =>
  condW t75_66 (
  K (.bool false) w67) (
  loadW (some (true, 64)) (f32 5) w67 fun t77_68 w69 =>
  fnW Try.prog 23 #[t53_36, (.int .i64 3), t77_68] w69 fun t78_70 w71 =>
  fnW Try.prog 37 #[(f32 7)] w71 fun t80_72 w73 =>
  fnW Try.prog 30 #[t80_72, t51_34] w73 fun t82_74 w75 =>
  K t82_74 w75))) K30) fun K31 =>
  bindX (blkX 0 K31) fun K76 =>
  loopW (fun f77 w78 K79 =>
  lenW Try.prog (some true) #[22] 3 #[(f77 0)] w78 fun t33_80 w81 =>
  binW Try.prog .lss 3 false (f77 9) t33_80 w81 fun t34_82 w83 =>
  condW t34_82 (
  idxW (some (none, 67)) (f77 0) (f77 9) w83.drew fun t40_84 w85 =>
  offW (some 1) t40_84 w85 fun t41_86 w87 =>
  loadW (some (false, 1)) t41_86 w87 fun t42_88 w89 =>
  binW Try.prog .and 3 true t42_88 (.int .i64 7) w89 fun t43_90 w91 =>
  w91 = w89 ∧
  idxW (some (none, 67)) (f77 0) (f77 9) w91 fun t46_92 w93 =>
  offW (some 2) t46_92 w93 fun t47_94 w95 =>
  loadW (some (true, 64)) t47_94 w95 fun t48_96 w97 =>
  fnW Try.prog 23 #[(f77 7), t43_90, t48_96] w97 fun t49_98 w99 =>
  binW Try.prog .add 3 true (f77 9) (.int .i64 1) w99 fun t36_100 w101 =>
  K79 .normal (pf 83 (pf 83 (pf 83 (pf 83 (pf 83 (pf 83 (pf 83 (pf 83 (pf 83 (pf 83 (pf 83 (pf 83 (pf 83 (pf 83 (pf 83 (pf 83 (pf 83 (pf 83 (pf 83 (pf 83 f77 31 (f77 9)) 32 (f77 0)) 33 t33_80) 34 t34_82) 37 (f77 7)) 38 (f77 0)) 39 (f77 9)) 40 t40_84) 41 t41_86) 42 t42_88) 43 t43_90) 44 (f77 0)) 45 (f77 9)) 46 t46_92) 47 t47_94) 48 t48_96) 49 t49_98) 35 (f77 9)) 36 t36_100) 9 t36_100) w101) (
  K79 (.exit 0) (pf 83 (pf 83 (pf 83 (pf 83 f77 31 (f77 9)) 32 (f77 0)) 33 t33_80) 34 t34_82) w83)) (pf 83 (pf 83 (pf 83 (pf 83 (pf 83 (pf 83 (pf 83 (pf 83 (pf 83 (pf 83 (pf 83 (pf 83 (pf 83 (pf 83 (pf 83 (pf 83 (pf 83 (pf 83 (pf 83 (pf 83 (pf 83 (pf 83 (pf 83 (pf 83 (argF [x0, x1, x2]) 5 t5_0) 6 (.bool false)) 12 t12_2) 13 t13_4) 14 x0) 15 t15_6) 16 t15_6) 17 t17_8) 18 t18_10) 19 t19_12) 20 t20_14) 22 t22_16) 21 t22_16) 23 t23_18) 24 t24_20) 7 t23_18) 8 t24_20) 25 t24_20) 26 t26_22) 27 t26_22) 28 t28_24) 29 t29_26) 30 t30_28) 9 (.int .i64 0)) w29 K76)))
theorem c5_eq (x0 x1 x2 : Value) (w : World) (K : VPost) : c5 x0 x1 x2 w K = WP false Try.prog 83 [(11, 4096, [0, 0, 0, 6, 8, 16, 32, 0, 0, 384, 512, 1024, 2113], [0, 0, 0, 6, 14, 30, 62, 0, 0, 384, 896, 1920, 4095])] (bodyOf Try.f5) (argF [x0, x1, x2]) w [.tmp 6] K := by kernel_rfl
theorem c5_calls (x0 x1 x2 : Value) (w : World) (K : VPost) (h : c5 x0 x1 x2 w K) : Calls Try.prog 5 #[x0, x1, x2] w (retK K) :=
  calls_of_WP (c5_eq x0 x1 x2 w K) mixedG Try.func5 (by kernel_rfl) Try.ntmps5 (by kernel_rfl) (by kernel_rfl) h

/-- imprimatur/imprimaturlaw03.DiskLimits -/
def c6 (x0 x1 : Value) (w : World) (K : VPost) : Prop :=
  fnW Try.prog 19 #[] w fun t14_0 w1 =>
  insW Try.prog (Op.unary .not t14_0) w1 fun t15_2 w3 =>
  condW t15_2 (
  K (.bool false) w3) (
  fnW Try.prog 20 #[x1] w3 fun t17_4 w5 =>
  condW t17_4 (
  K (.bool true) w5) (
  fnW Try.prog 21 #[(.int .i64 8)] w5 fun t19_6 w7 =>
  extrW t19_6 0 w7 fun t20_8 w9 =>
  extrW t19_6 1 w9 fun t21_10 w11 =>
  binW Try.prog .neq 26 true t21_10 (.int .i64 0) w11 fun t23_12 w13 =>
  gstep t23_12 false w13 (fun K => K t20_8 w13) fun t25_14 w15 =>
  gstep t23_12 false w15 (fun K => binW Try.prog .eql 25 true t25_14 (.pointer none) w15 K) fun t26_16 w17 =>
  pickW t23_12 (.bool true) t26_16 w17 fun t27_18 w19 =>
  condW t27_18 (
  K (.bool false) w19) (
  fnW Try.prog 31 #[t20_8, x0] w19 fun t30_20 w21 =>
  bindX (endW Try.prog [.tmp 4] K) fun K22 =>
  bindX (seqX (fun f24 w25 =>
  lenW Try.prog (some true) #[22] 3 #[(f24 1)] w25 fun t84_26 w27 =>
  bindX (seqX (fun f29 w30 =>
  binW Try.prog .eql 3 false (f29 7) (f29 13) w30 fun t92_31 w32 =>
  gstep t92_31 true w32 (fun K => K (f29 5) w32) fun t94_33 w34 =>
  gstep t92_31 true w34 (fun K => fnW Try.prog 35 #[t94_33] w34 K) fun t95_35 w36 =>
  gstep t92_31 true w36 (fun K => K (f29 7) w36) fun t96_37 w38 =>
  gstep t92_31 true w38 (fun K => binW Try.prog .eql 3 false t95_35 t96_37 w38 K) fun t97_39 w40 =>
  pickW t92_31 t97_39 (.bool false) w40 fun t98_41 w42 =>
  K t98_41 w42) K22) fun K28 =>
  binW Try.prog .geq 3 true (f24 0) (.int .i64 0) w27 fun t86_43 w44 =>
  condW t86_43 (
  insW Try.prog (Builtin.min_ #[3, 3] 3 #[(f24 0), t84_26]) w44 fun t89_45 w46 =>
  K28 .normal (pf 99 (pf 99 (pf 99 (pf 99 (pf 99 (pf 99 (pf 99 (pf 99 (pf 99 f24 83 (f24 1)) 84 t84_26) 13 t84_26) 85 (f24 0)) 86 t86_43) 87 (f24 0)) 88 t84_26) 89 t89_45) 13 t89_45) w46) (
  K28 .normal (pf 99 (pf 99 (pf 99 (pf 99 (pf 99 f24 83 (f24 1)) 84 t84_26) 13 t84_26) 85 (f24 0)) 86 t86_43) w44)) K22) fun K23 =>
  bindX (blkX 0 K23) fun K47 =>
  loopW (fun f48 w49 K50 =>
  lenW Try.prog (some true) #[22] 3 #[(f48 1)] w49 fun t33_51 w52 =>
  binW Try.prog .lss 3 false (f48 8) t33_51 w52 fun t34_53 w54 =>
  condW t34_53 (
  bindX (seqX (fun f56 w57 =>
  binW Try.prog .add 3 true (f56 8) (.int .i64 1) w57 fun t36_58 w59 =>
  K50 .normal (pf 99 (pf 99 (pf 99 f56 35 (f56 8)) 36 t36_58) 8 t36_58) w59) K50) fun K55 =>
  bindX (blkX 1 K55) fun K60 =>
  fnW Try.prog 37 #[(f48 5)] w54 fun t38_61 w62 =>
  idxW (some (none, 67)) (f48 1) (f48 8) w62.drew fun t42_63 w64 =>
  offW (some 1) t42_63 w64 fun t43_65 w66 =>
  loadW (some (false, 1)) t43_65 w66 fun t44_67 w68 =>
  binW Try.prog .and 3 true t44_67 (.int .i64 7) w68 fun t45_69 w70 =>
  w70 = w68 ∧
  idxW (some (none, 67)) (f48 1) (f48 8) w70 fun t48_71 w72 =>
  offW (some 2) t48_71 w72 fun t49_73 w74 =>
  loadW (some (true, 64)) t49_73 w74 fun t50_75 w76 =>
  fnW Try.prog 23 #[(f48 5), t45_69, t50_75] w76 fun t51_77 w78 =>
  binW Try.prog .eql 26 true t51_77 (.int .i64 0) w78 fun t53_79 w80 =>
  condW t53_79 (
  binW Try.prog .add 3 true (f48 7) (.int .i64 1) w80 fun t55_81 w82 =>
  idxW (some (none, 67)) (f48 1) (f48 8) w82 fun t60_83 w84 =>
  offW (some 1) t60_83 w84 fun t61_85 w86 =>
  loadW (some (false, 1)) t61_85 w86 fun t62_87 w88 =>
  binW Try.prog .and 3 true t62_87 (.int .i64 7) w88 fun t63_89 w90 =>
  fnW Try.prog 33 #[(f48 5), t63_89] w90 fun t64_91 w92 =>
  extrW t64_91 0 w92 fun t65_93 w94 =>
  extrW t64_91 1 w94 fun t66_95 w96 =>
  allocW (zeroO Try.prog 33) 33 w96 fun t11_97 w98 =>
  storeW (some (true, 64)) t11_97 t65_93 w98 fun w99 =>
  loadW (some (true, 64)) t11_97 w99.drew fun t67_100 w101 =>
  idxW (some (none, 67)) (f48 1) (f48 8) w101 fun t70_102 w103 =>
  offW (some 2) t70_102 w103 fun t71_104 w105 =>
  loadW (some (true, 64)) t71_104 w105 fun t72_106 w107 =>
  binW Try.prog .neq 33 false t67_100 t72_106 w107 fun t73_108 w109 =>
  w109 = w107 ∧
  condW t73_108 (
  K50 .ret (pf 99 (pf 99 (pf 99 (pf 99 (pf 99 (pf 99 (pf 99 (pf 99 (pf 99 (pf 99 (pf 99 (pf 99 (pf 99 (pf 99 (pf 99 (pf 99 (pf 99 (pf 99 (pf 99 (pf 99 (pf 99 (pf 99 (pf 99 (pf 99 (pf 99 (pf 99 (pf 99 (pf 99 (pf 99 (pf 99 (pf 99 (pf 99 (pf 99 (pf 99 (pf 99 (pf 99 (pf 99 (pf 99 (pf 99 (pf 99 (pf 99 (pf 99 (pf 99 (pf 99 (pf 99 (pf 99 (pf 99 f48 31 (f48 8)) 32 (f48 1)) 33 t33_51) 34 t34_53) 37 (f48 5)) 38 t38_61) 9 t38_61) 39 (f48 5)) 40 (f48 1)) 41 (f48 8)) 42 t42_63) 43 t43_65) 44 t44_67) 45 t45_69) 46 (f48 1)) 47 (f48 8)) 48 t48_71) 49 t49_73) 50 t50_75) 51 t51_77) 10 t51_77) 52 t51_77) 53 t53_79) 54 (f48 7)) 55 t55_81) 7 t55_81) 57 (f48 5)) 58 (f48 1)) 59 (f48 8)) 60 t60_83) 61 t61_85) 62 t62_87) 63 t63_89) 64 t64_91) 56 t64_91) 65 t65_93) 66 t66_95) 11 t11_97) 12 t66_95) 67 t67_100) 68 (f48 1)) 69 (f48 8)) 70 t70_102) 71 t71_104) 72 t72_106) 73 t73_108) 4 (.bool false)) w109) (
  K55 .normal (pf 99 (pf 99 (pf 99 (pf 99 (pf 99 (pf 99 (pf 99 (pf 99 (pf 99 (pf 99 (pf 99 (pf 99 (pf 99 (pf 99 (pf 99 (pf 99 (pf 99 (pf 99 (pf 99 (pf 99 (pf 99 (pf 99 (pf 99 (pf 99 (pf 99 (pf 99 (pf 99 (pf 99 (pf 99 (pf 99 (pf 99 (pf 99 (pf 99 (pf 99 (pf 99 (pf 99 (pf 99 (pf 99 (pf 99 (pf 99 (pf 99 (pf 99 (pf 99 (pf 99 (pf 99 (pf 99 f48 31 (f48 8)) 32 (f48 1)) 33 t33_51) 34 t34_53) 37 (f48 5)) 38 t38_61) 9 t38_61) 39 (f48 5)) 40 (f48 1)) 41 (f48 8)) 42 t42_63) 43 t43_65) 44 t44_67) 45 t45_69) 46 (f48 1)) 47 (f48 8)) 48 t48_71) 49 t49_73) 50 t50_75) 51 t51_77) 10 t51_77) 52 t51_77) 53 t53_79) 54 (f48 7)) 55 t55_81) 7 t55_81) 57 (f48 5)) 58 (f48 1)) 59 (f48 8)) 60 t60_83) 61 t61_85) 62 t62_87) 63 t63_89) 64 t64_91) 56 t64_91) 65 t65_93) 66 t66_95) 11 t11_97) 12 t66_95) 67 t67_100) 68 (f48 1)) 69 (f48 8)) 70 t70_102) 71 t71_104) 72 t72_106) 73 t73_108) w109)) (
  binW Try.prog .neq 26 true t51_77 (.int .i64 15) w80 fun t75_110 w111 =>
  gstep t75_110 false w111 (fun K => K (f48 5) w111) fun t77_112 w113 =>
  gstep t75_110 false w113 (fun K => fnW Try.prog 37 #[t77_112] w113 K) fun t78_114 w115 =>
  gstep t75_110 false w115 (fun K => K t38_61 w115) fun t79_116 w117 =>
  gstep t75_110 false w117 (fun K => fnW Try.prog 30 #[t78_114, t79_116] w117 K) fun t80_118 w119 =>
  gstep t75_110 false w119 (fun K => insW Try.prog (Op.unary .not t80_118) w119 K) fun t81_120 w121 =>
  pickW t75_110 (.bool true) t81_120 w121 fun t82_122 w123 =>
  condW t82_122 (
  K50 .ret (pf 99 (pf 99 (pf 99 (pf 99 (pf 99 (pf 99 (pf 99 (pf 99 (pf 99 (pf 99 (pf 99 (pf 99 (pf 99 (pf 99 (pf 99 (pf 99 (pf 99 (pf 99 (pf 99 (pf 99 (pf 99 (pf 99 (pf 99 (pf 99 (pf 99 (pf 99 (pf 99 (pf 99 (pf 99 (pf 99 (pf 99 (pf 99 (pf 99 f48 31 (f48 8)) 32 (f48 1)) 33 t33_51) 34 t34_53) 37 (f48 5)) 38 t38_61) 9 t38_61) 39 (f48 5)) 40 (f48 1)) 41 (f48 8)) 42 t42_63) 43 t43_65) 44 t44_67) 45 t45_69) 46 (f48 1)) 47 (f48 8)) 48 t48_71) 49 t49_73) 50 t50_75) 51 t51_77) 10 t51_77) 52 t51_77) 53 t53_79) 74 t51_77) 75 t75_110) 76 t75_110) 77 t77_112) 78 t78_114) 79 t79_116) 80 t80_118) 81 t81_120) 82 t82_122) 4 (.bool false)) w123) (
  K55 .normal (pf 99 (pf 99 (pf 99 (pf 99 (pf 99 (pf 99 (pf 99 (pf 99 (pf 99 (pf 99 (pf 99 (pf 99 (pf 99 (pf 99 (pf 99 (pf 99 (pf 99 (pf 99 (pf 99 (pf 99 (pf 99 (pf 99 (pf 99 (pf 99 (pf 99 (pf 99 (pf 99 (pf 99 (pf 99 (pf 99 (pf 99 (pf 99 f48 31 (f48 8)) 32 (f48 1)) 33 t33_51) 34 t34_53) 37 (f48 5)) 38 t38_61) 9 t38_61) 39 (f48 5)) 40 (f48 1)) 41 (f48 8)) 42 t42_63) 43 t43_65) 44 t44_67) 45 t45_69) 46 (f48 1)) 47 (f48 8)) 48 t48_71) 49 t49_73) 50 t50_75) 51 t51_77) 10 t51_77) 52 t51_77) 53 t53_79) 74 t51_77) 75 t75_110) 76 t75_110) 77 t77_112) 78 t78_114) 79 t79_116) 80 t80_118) 81 t81_120) 82 t82_122) w123))) (
  K50 (.exit 0) (pf 99 (pf 99 (pf 99 (pf 99 f48 31 (f48 8)) 32 (f48 1)) 33 t33_51) 34 t34_53) w54)) (pf 99 (pf 99 (pf 99 (pf 99 (pf 99 (pf 99 (pf 99 (pf 99 (pf 99 (pf 99 (pf 99 (pf 99 (pf 99 (pf 99 (pf 99 (pf 99 (pf 99 (pf 99 (pf 99 (pf 99 (pf 99 (pf 99 (argF [x0, x1]) 4 (.bool false)) 14 t14_0) 15 t15_2) 16 x1) 17 t17_4) 19 t19_6) 18 t19_6) 20 t20_8) 21 t21_10) 5 t20_8) 6 t21_10) 22 t21_10) 23 t23_12) 24 t23_12) 25 t25_14) 26 t26_16) 27 t27_18) 28 t20_8) 29 x0) 30 t30_20) 7 (.int .i64 0)) 8 (.int .i64 0)) w21 K47)))
theorem c6_eq (x0 x1 : Value) (w : World) (K : VPost) : c6 x0 x1 w K = WP false Try.prog 99 [(14, 4096, [0, 0, 0, 6, 8, 16, 32, 0, 0, 384, 512, 1024, 2113, 8191], [0, 0, 0, 6, 14, 30, 62, 0, 0, 384, 896, 1920, 4095, 8191]), (18, 0, [0, 0, 0, 6, 8, 16, 33], [0, 0, 0, 6, 14, 30, 63])] (bodyOf Try.f6) (argF [x0, x1]) w [.tmp 4] K := by kernel_rfl
theorem c6_calls (x0 x1 : Value) (w : World) (K : VPost) (h : c6 x0 x1 w K) : Calls Try.prog 6 #[x0, x1] w (retK K) :=
  calls_of_WP (c6_eq x0 x1 w K) mixedG Try.func6 (by kernel_rfl) Try.ntmps6 (by kernel_rfl) (by kernel_rfl) h

/-- imprimatur/imprimaturlaw03.DiskParts -/
def c7 (x0 x1 : Value) (w : World) (K : VPost) : Prop :=
  boxW 33 x0 w fun t2_0 w1 =>
  fnW Try.prog 19 #[] w1 fun t18_2 w3 =>
  insW Try.prog (Op.unary .not t18_2) w3 fun t19_4 w5 =>
  condW t19_4 (
  K (.bool false) w5) (
  lenW Try.prog (some true) #[34] 3 #[x1] w5 fun t21_6 w7 =>
  binW Try.prog .gtr 3 true t21_6 (.int .i64 8) w7 fun t22_8 w9 =>
  gstep t22_8 false w9 (fun K => K x1 w9) fun t24_10 w11 =>
  gstep t22_8 false w11 (fun K => lenW Try.prog (some true) #[34] 3 #[t24_10] w11 K) fun t25_12 w13 =>
  gstep t22_8 false w13 (fun K => binW Try.prog .eql 3 true t25_12 (.int .i64 0) w13 K) fun t26_14 w15 =>
  pickW t22_8 (.bool true) t26_14 w15 fun t27_16 w17 =>
  condW t27_16 (
  K (.bool true) w17) (
  fnW Try.prog 21 #[(.int .i64 8)] w17 fun t29_18 w19 =>
  extrW t29_18 0 w19 fun t30_20 w21 =>
  extrW t29_18 1 w21 fun t31_22 w23 =>
  binW Try.prog .neq 26 true t31_22 (.int .i64 0) w23 fun t33_24 w25 =>
  gstep t33_24 false w25 (fun K => K t30_20 w25) fun t35_26 w27 =>
  gstep t33_24 false w27 (fun K => binW Try.prog .eql 25 true t35_26 (.pointer none) w27 K) fun t36_28 w29 =>
  pickW t33_24 (.bool true) t36_28 w29 fun t37_30 w31 =>
  condW t37_30 (
  K (.bool false) w31) (
  bindX (endW Try.prog [.tmp 4] K) fun K32 =>
  bindX (seqX (fun f34 w35 =>
  fnW Try.prog 28 #[(f34 5), (f34 1)] w35 fun t48_36 w37 =>
  bindX (seqX (fun f39 w40 =>
  binW Try.prog .eql 3 false (f39 8) (f39 9) w40 fun t108_41 w42 =>
  K t108_41 w42) K32) fun K38 =>
  bindX (blkX 2 K38) fun K43 =>
  loopW (fun f44 w45 K46 =>
  binW Try.prog .lss 3 true (f44 10) (.int .i64 8) w45 fun t50_47 w48 =>
  condW t50_47 (
  bindX (seqX (fun f50 w51 =>
  binW Try.prog .add 3 true (f50 10) (.int .i64 1) w51 fun t52_52 w53 =>
  K46 .normal (pf 109 (pf 109 (pf 109 f50 51 (f50 10)) 52 t52_52) 10 t52_52) w53) K46) fun K49 =>
  bindX (blkX 3 K49) fun K54 =>
  lenW Try.prog (some true) #[34] 3 #[(f44 1)] w48 fun t56_55 w56 =>
  binW Try.prog .rem 3 false (f44 10) t56_55 w56 fun t57_57 w58 =>
  idxW (some (none, 1)) (f44 1) t57_57 w58 fun t58_59 w60 =>
  loadW (some (false, 1)) t58_59 w60 fun t59_61 w62 =>
  insW Try.prog (convert 5 3 t59_61) w62 fun t60_63 w64 =>
  fnW Try.prog 33 #[(f44 5), (f44 10)] w64 fun t64_65 w66 =>
  extrW t64_65 0 w66 fun t65_67 w68 =>
  extrW t64_65 1 w68 fun t66_69 w70 =>
  allocW (zeroO Try.prog 33) 33 w70 fun t12_71 w72 =>
  storeW (some (true, 64)) t12_71 t65_67 w72 fun w73 =>
  bindX (seqX (fun f75 w76 =>
  bindX (seqX (fun f78 w79 =>
  bindX (seqX (fun f81 w82 =>
  bindX (seqX (fun f84 w85 =>
  bindX (blkX 4 K54) fun K86 =>
  loopW (fun f87 w88 K89 =>
  binW Try.prog .lss 3 true (f87 16) (.int .i64 64) w88 fun t87_90 w91 =>
  condW t87_90 (
  bindX (seqX (fun f93 w94 =>
  binW Try.prog .add 3 true (f93 16) (.int .i64 1) w94 fun t89_95 w96 =>
  K89 .normal (pf 109 (pf 109 (pf 109 f93 88 (f93 16)) 89 t89_95) 16 t89_95) w96) K89) fun K92 =>
  bindX (blkX 5 K92) fun K97 =>
  bindX (seqX (fun f99 w100 =>
  idxW (some ((some 64), 1)) (f99 12) (f99 16) w100 fun t102_101 w102 =>
  loadW (some (false, 1)) t102_101 w102 fun t103_103 w104 =>
  binW Try.prog .neq 5 false t103_103 (f99 17) w104 fun t105_105 w106 =>
  condW t105_105 (
  K89 .ret (pf 109 (pf 109 (pf 109 (pf 109 (pf 109 (pf 109 f99 101 (f99 16)) 102 t102_101) 103 t103_103) 104 (f99 17)) 105 t105_105) 4 (.bool false)) w106) (
  K92 .normal (pf 109 (pf 109 (pf 109 (pf 109 (pf 109 f99 101 (f99 16)) 102 t102_101) 103 t103_103) 104 (f99 17)) 105 t105_105) w106)) K97) fun K98 =>
  binW Try.prog .geq 3 false (f87 16) (f87 14) w91 fun t92_107 w108 =>
  gstep t92_107 true w108 (fun K => K (f87 16) w108) fun t94_109 w110 =>
  gstep t92_107 true w110 (fun K => K (f87 15) w110) fun t95_111 w112 =>
  gstep t92_107 true w112 (fun K => binW Try.prog .lss 3 false t94_109 t95_111 w112 K) fun t96_113 w114 =>
  pickW t92_107 t96_113 (.bool false) w114 fun t97_115 w116 =>
  condW t97_115 (
  idxW (some ((some 64), 1)) (f87 2) (f87 16) w116 fun t99_117 w118 =>
  loadW (some (false, 1)) t99_117 w118 fun t100_119 w120 =>
  K98 .normal (pf 109 (pf 109 (pf 109 (pf 109 (pf 109 (pf 109 (pf 109 (pf 109 (pf 109 (pf 109 (pf 109 (pf 109 (pf 109 (pf 109 (pf 109 f87 86 (f87 16)) 87 t87_90) 17 (.int .u8 0)) 90 (f87 16)) 91 (f87 14)) 92 t92_107) 93 t92_107) 94 t94_109) 95 t95_111) 96 t96_113) 97 t97_115) 98 (f87 16)) 99 t99_117) 100 t100_119) 17 t100_119) w120) (
  K98 .normal (pf 109 (pf 109 (pf 109 (pf 109 (pf 109 (pf 109 (pf 109 (pf 109 (pf 109 (pf 109 (pf 109 f87 86 (f87 16)) 87 t87_90) 17 (.int .u8 0)) 90 (f87 16)) 91 (f87 14)) 92 t92_107) 93 t92_107) 94 t94_109) 95 t95_111) 96 t96_113) 97 t97_115) w116)) (
  K89 (.exit 4) (pf 109 (pf 109 f87 86 (f87 16)) 87 t87_90) w91)) (pf 109 f84 16 (.int .i64 0)) w85 K86) K54) fun K83 =>
  binW Try.prog .shr 3 true (f81 11) (.int .u64 6) w82 fun t82_121 w122 =>
  binW Try.prog .gtr 3 true t82_121 (.int .i64 0) w122 fun t83_123 w124 =>
  condW t83_123 (
  binW Try.prog .add 3 true (f81 9) (.int .i64 1) w124 fun t85_125 w126 =>
  K83 .normal (pf 109 (pf 109 (pf 109 (pf 109 (pf 109 (pf 109 f81 81 (f81 11)) 82 t82_121) 83 t83_123) 84 (f81 9)) 85 t85_125) 9 t85_125) w126) (
  K83 .normal (pf 109 (pf 109 (pf 109 f81 81 (f81 11)) 82 t82_121) 83 t83_123) w124)) K54) fun K80 =>
  binW Try.prog .shr 3 true (f78 11) (.int .u64 6) w79 fun t76_127 w128 =>
  binW Try.prog .eql 3 true t76_127 (.int .i64 3) w128 fun t77_129 w130 =>
  condW t77_129 (
  binW Try.prog .and 3 true (f78 11) (.int .i64 63) w130 fun t79_131 w132 =>
  binW Try.prog .sub 3 true (.int .i64 64) t79_131 w132 fun t80_133 w134 =>
  K80 .normal (pf 109 (pf 109 (pf 109 (pf 109 (pf 109 (pf 109 (pf 109 (pf 109 f78 75 (f78 11)) 76 t76_127) 77 t77_129) 78 (f78 11)) 79 t79_131) 80 t80_133) 14 t80_133) 15 (.int .i64 64)) w134) (
  K80 .normal (pf 109 (pf 109 (pf 109 f78 75 (f78 11)) 76 t76_127) 77 t77_129) w130)) K54) fun K77 =>
  binW Try.prog .shr 3 true (f75 11) (.int .u64 6) w76 fun t71_135 w136 =>
  binW Try.prog .eql 3 true t71_135 (.int .i64 2) w136 fun t72_137 w138 =>
  condW t72_137 (
  binW Try.prog .and 3 true (f75 11) (.int .i64 63) w138 fun t74_139 w140 =>
  K77 .normal (pf 109 (pf 109 (pf 109 (pf 109 (pf 109 (pf 109 f75 70 (f75 11)) 71 t71_135) 72 t72_137) 73 (f75 11)) 74 t74_139) 15 t74_139) w140) (
  K77 .normal (pf 109 (pf 109 (pf 109 f75 70 (f75 11)) 71 t71_135) 72 t72_137) w138)) K54) fun K74 =>
  binW Try.prog .shr 3 true t60_63 (.int .u64 6) w73 fun t68_141 w142 =>
  binW Try.prog .eql 3 true t68_141 (.int .i64 1) w142 fun t69_143 w144 =>
  condW t69_143 (
  K74 .normal (pf 109 (pf 109 (pf 109 (pf 109 (pf 109 (pf 109 (pf 109 (pf 109 (pf 109 (pf 109 (pf 109 (pf 109 (pf 109 (pf 109 (pf 109 (pf 109 (pf 109 (pf 109 (pf 109 (pf 109 (pf 109 (pf 109 (pf 109 (pf 109 (pf 109 f44 49 (f44 10)) 50 t50_47) 53 (f44 1)) 54 (f44 10)) 55 (f44 1)) 56 t56_55) 57 t57_57) 58 t58_59) 59 t59_61) 60 t60_63) 11 t60_63) 62 (f44 5)) 63 (f44 10)) 64 t64_65) 61 t64_65) 65 t65_67) 66 t66_69) 12 t12_71) 13 t66_69) 14 (.int .i64 0)) 15 (.int .i64 0)) 67 t60_63) 68 t68_141) 69 t69_143) 15 (.int .i64 64)) w144) (
  K74 .normal (pf 109 (pf 109 (pf 109 (pf 109 (pf 109 (pf 109 (pf 109 (pf 109 (pf 109 (pf 109 (pf 109 (pf 109 (pf 109 (pf 109 (pf 109 (pf 109 (pf 109 (pf 109 (pf 109 (pf 109 (pf 109 (pf 109 (pf 109 (pf 109 f44 49 (f44 10)) 50 t50_47) 53 (f44 1)) 54 (f44 10)) 55 (f44 1)) 56 t56_55) 57 t57_57) 58 t58_59) 59 t59_61) 60 t60_63) 11 t60_63) 62 (f44 5)) 63 (f44 10)) 64 t64_65) 61 t64_65) 65 t65_67) 66 t66_69) 12 t12_71) 13 t66_69) 14 (.int .i64 0)) 15 (.int .i64 0)) 67 t60_63) 68 t68_141) 69 t69_143) w144)) (
  K46 (.exit 2) (pf 109 (pf 109 f44 49 (f44 10)) 50 t50_47) w48)) (pf 109 (pf 109 (pf 109 (pf 109 (pf 109 (pf 109 f34 46 (f34 5)) 47 (f34 1)) 48 t48_36) 8 t48_36) 9 (.int .i64 0)) 10 (.int .i64 0)) w37 K43) K32) fun K33 =>
  bindX (blkX 0 K33) fun K145 =>
  loopW (fun f146 w147 K148 =>
  binW Try.prog .lss 3 true (f146 7) (.int .i64 8) w147 fun t39_149 w150 =>
  condW t39_149 (
  loadW (some (true, 64)) (f146 2) w150 fun t44_151 w152 =>
  fnW Try.prog 23 #[(f146 5), (f146 7), t44_151] w152 fun t45_153 w154 =>
  binW Try.prog .add 3 true (f146 7) (.int .i64 1) w154 fun t41_155 w156 =>
  K148 .normal (pf 109 (pf 109 (pf 109 (pf 109 (pf 109 (pf 109 (pf 109 (pf 109 (pf 109 f146 38 (f146 7)) 39 t39_149) 42 (f146 5)) 43 (f146 7)) 44 t44_151) 45 t45_153) 40 (f146 7)) 41 t41_155) 7 t41_155) w156) (
  K148 (.exit 0) (pf 109 (pf 109 f146 38 (f146 7)) 39 t39_149) w150)) (pf 109 (pf 109 (pf 109 (pf 109 (pf 109 (pf 109 (pf 109 (pf 109 (pf 109 (pf 109 (pf 109 (pf 109 (pf 109 (pf 109 (pf 109 (pf 109 (pf 109 (pf 109 (pf 109 (pf 109 (pf 109 (pf 109 (pf 109 (pf 109 (pf 109 (argF [x0, x1]) 2 t2_0) 4 (.bool false)) 18 t18_2) 19 t19_4) 20 x1) 21 t21_6) 22 t22_8) 23 t22_8) 24 t24_10) 25 t25_12) 26 t26_14) 27 t27_16) 29 t29_18) 28 t29_18) 30 t30_20) 31 t31_22) 5 t30_20) 6 t31_22) 32 t31_22) 33 t33_24) 34 t33_24) 35 t35_26) 36 t36_28) 37 t37_30) 7 (.int .i64 0)) w31 K145)))
theorem c7_eq (x0 x1 : Value) (w : World) (K : VPost) : c7 x0 x1 w K = WP false Try.prog 109 [] (bodyOf Try.f7) (argF [x0, x1]) w [.tmp 4] K := by kernel_rfl
theorem c7_calls (x0 x1 : Value) (w : World) (K : VPost) (h : c7 x0 x1 w K) : Calls Try.prog 7 #[x0, x1] w (retK K) :=
  calls_of_WP (c7_eq x0 x1 w K) mixedG Try.func7 (by kernel_rfl) Try.ntmps7 (by kernel_rfl) (by kernel_rfl) h

end Go.Proofs.Ytedebapgmfnflaa
