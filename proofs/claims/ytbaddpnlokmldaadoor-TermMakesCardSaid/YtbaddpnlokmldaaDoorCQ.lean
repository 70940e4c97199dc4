/- The clean forms of some of the program's functions, written by a program of ours; each is the model's own by the kernel's reckoning. -/
import Derived.Test.YtbaddpnlokmldaaDoorGB
import Derived.KernelRfl
namespace Go.Proofs.YtbaddpnlokmldaaDoor
open Go
set_option maxRecDepth 100000

/-- imprimatur/imprimaturlaw08.Great -/
def c10 (x0 : Value) (w : World) (K : VPost) : Prop :=
  boxW 27 x0 w fun t1_0 w1 =>
  loadW (some (true, 5)) t1_0 w1 fun t3_2 w3 =>
  fnW Tryd.prog 11 #[t3_2, (.int .i64 3600)] w3 fun t4_4 w5 =>
  binN Tryd.prog .gtr 3 true t4_4 (.int .i64 3600) w5 fun t5_6 w7 =>
  K t5_6 w7
theorem c10_eq (x0 : Value) (w : World) (K : VPost) : c10 x0 w K = WP true Tryd.prog 6 [] (bodyOf Tryd.f10) (argF [x0]) w [.tmp 2] K := by kernel_rfl
theorem c10_calls (x0 : Value) (w : World) (K : VPost) (h : c10 x0 w K) : Calls Tryd.prog 10 #[x0] w (retK K) :=
  calls_of_WP (c10_eq x0 w K) mixedG Tryd.func10 (by kernel_rfl) Tryd.ntmps10 (by kernel_rfl) (by kernel_rfl) h

/-- imprimatur/imprimaturlaw08.TermMakes -/
def c4 (x0 x1 x2 : Value) (w : World) (K : VPost) : Prop :=
  boxW 27 x0 w fun t3_0 w1 =>
  fnW Tryd.prog 7 #[] w1 fun t16_2 w3 =>
  unN Tryd.prog .not t16_2 w3 fun t17_4 w5 =>
  condW t17_4 (
  K (.bool false) w5) (
  loadW (some (true, 5)) t3_0 w5 fun t18_6 w7 =>
  fnW Tryd.prog 10 #[t18_6] w7 fun t19_8 w9 =>
  gstep t19_8 false w9 (fun K => K x1 w9) fun t21_10 w11 =>
  gstep t19_8 false w11 (fun K => lenW Tryd.prog (some true) #[25] 3 #[t21_10] w11 K) fun t22_12 w13 =>
  gstep t19_8 false w13 (fun K => binN Tryd.prog .gtr 3 true t22_12 (.int .i64 8) w13 K) fun t23_14 w15 =>
  pickW t19_8 (.bool true) t23_14 w15 fun t24_16 w17 =>
  condW t24_16 (
  K (.bool true) w17) (
  bindX (endW Tryd.prog [.tmp 6] K) fun K18 =>
  bindX (seqX (fun f20 w21 =>
  loadW (some (true, 5)) (f20 3) w21 fun t37_22 w23 =>
  fnW Tryd.prog 12 #[t37_22, (f20 1)] w23 fun t39_24 w25 =>
  allocW (zeroO Tryd.prog 27) 27 w25 fun t8_26 w27 =>
  storeW (some (true, 5)) t8_26 t39_24 w27 fun w28 =>
  loadW (some (true, 5)) (f20 3) w28 fun t41_29 w30 =>
  fnW Tryd.prog 13 #[(f20 2), t41_29, (f20 1)] w30 fun t43_31 w32 =>
  allocW (zeroO Tryd.prog 27) 27 w32 fun t9_33 w34 =>
  storeW (some (true, 5)) t9_33 t43_31 w34 fun w35 =>
  loadW (some (true, 5)) t8_26 w35.drew fun t44_36 w37 =>
  loadW (some (true, 5)) (f20 3) w37 fun t45_38 w39 =>
  fnW Tryd.prog 15 #[t45_38, (f20 1)] w39 fun t47_40 w41 =>
  (loadW (some (true, 5)) t8_26 w41 fun t44_42 w43 => t44_42 = t44_36 ∧ w43 = w41) ∧
  fnW Tryd.prog 14 #[t44_36, t47_40] w41 fun t48_44 w45 =>
  unN Tryd.prog .not t48_44 w45 fun t49_46 w47 =>
  gstep t49_46 false w47 (fun K => loadW (some (true, 5)) t9_33 w47 K) fun t51_48 w49 =>
  gstep t49_46 false w49 (fun K => K (f20 2) w49) fun t52_50 w51 =>
  gstep t49_46 false w51 (fun K => loadW (some (true, 5)) (f20 3) w51 K) fun t53_52 w53 =>
  gstep t49_46 false w53 (fun K => K (f20 1) w53) fun t54_54 w55 =>
  gstep t49_46 false w55 (fun K => fnW Tryd.prog 16 #[t52_50, t53_52, t54_54] w55 K) fun t55_56 w57 =>
  (gstep t49_46 false w57 (fun K => loadW (some (true, 5)) t9_33 w57 K) fun t51_58 w59 => t51_58 = t51_48 ∧ w59 = w57) ∧
  gstep t49_46 false w57 (fun K => fnW Tryd.prog 14 #[t51_48, t55_56] w57 K) fun t56_60 w61 =>
  gstep t49_46 false w61 (fun K => unN Tryd.prog .not t56_60 w61 K) fun t57_62 w63 =>
  pickW t49_46 (.bool true) t57_62 w63 fun t58_64 w65 =>
  condW t58_64 (
  K (.bool false) w65) (
  loadW (some (true, 5)) t8_26 w65 fun t60_66 w67 =>
  fnW Tryd.prog 17 #[t60_66] w67 fun t61_68 w69 =>
  extrW t61_68 0 w69 fun t62_70 w71 =>
  extrW t61_68 1 w71 fun t63_72 w73 =>
  allocW (zeroO Tryd.prog 27) 27 w73 fun t10_74 w75 =>
  storeW (some (true, 5)) t10_74 t62_70 w75 fun w76 =>
  loadW (some (true, 5)) (f20 3) w76 fun t65_77 w78 =>
  fnW Tryd.prog 17 #[t65_77] w78 fun t66_79 w80 =>
  extrW t66_79 0 w80 fun t67_81 w82 =>
  extrW t66_79 1 w82 fun t68_83 w84 =>
  allocW (zeroO Tryd.prog 27) 27 w84 fun t12_85 w86 =>
  storeW (some (true, 5)) t12_85 t67_81 w86 fun w87 =>
  loadW (some (true, 5)) t9_33 w87 fun t70_88 w89 =>
  fnW Tryd.prog 18 #[t70_88, (f20 2)] w89 fun t72_90 w91 =>
  extrW t72_90 0 w91 fun t73_92 w93 =>
  extrW t72_90 1 w93 fun t74_94 w95 =>
  allocW (zeroO Tryd.prog 27) 27 w95 fun t15_96 w97 =>
  storeW (some (true, 5)) t15_96 t74_94 w97 fun w98 =>
  loadW (some (true, 5)) t10_74 w98 fun t75_99 w100 =>
  loadW (some (true, 5)) t12_85 w100 fun t76_101 w102 =>
  fnW Tryd.prog 14 #[t75_99, t76_101] w102 fun t77_103 w104 =>
  unN Tryd.prog .not t77_103 w104 fun t78_105 w106 =>
  gstep t78_105 false w106 (fun K => K t63_72 w106) fun t80_107 w108 =>
  gstep t78_105 false w108 (fun K => lenW Tryd.prog (some true) #[25] 3 #[t80_107] w108 K) fun t81_109 w110 =>
  gstep t78_105 false w110 (fun K => K t68_83 w110) fun t82_111 w112 =>
  gstep t78_105 false w112 (fun K => lenW Tryd.prog (some true) #[25] 3 #[t82_111] w112 K) fun t83_113 w114 =>
  gstep t78_105 false w114 (fun K => K (f20 1) w114) fun t84_115 w116 =>
  gstep t78_105 false w116 (fun K => lenW Tryd.prog (some true) #[25] 3 #[t84_115] w116 K) fun t85_117 w118 =>
  gstep t78_105 false w118 (fun K => binN Tryd.prog .add 3 false t83_113 t85_117 w118 K) fun t86_119 w120 =>
  gstep t78_105 false w120 (fun K => binN Tryd.prog .neq 3 false t81_109 t86_119 w120 K) fun t87_121 w122 =>
  pickW t78_105 (.bool true) t87_121 w122 fun t88_123 w124 =>
  gstep t88_123 false w124 (fun K => K t73_92 w124) fun t90_125 w126 =>
  gstep t88_123 false w126 (fun K => lenW Tryd.prog (some true) #[25] 3 #[t90_125] w126 K) fun t91_127 w128 =>
  gstep t88_123 false w128 (fun K => K (f20 1) w128) fun t92_129 w130 =>
  gstep t88_123 false w130 (fun K => lenW Tryd.prog (some true) #[25] 3 #[t92_129] w130 K) fun t93_131 w132 =>
  gstep t88_123 false w132 (fun K => binN Tryd.prog .lss 3 false t91_127 t93_131 w132 K) fun t94_133 w134 =>
  pickW t88_123 (.bool true) t94_133 w134 fun t95_135 w136 =>
  condW t95_135 (
  K (.bool false) w136) (
  lenW Tryd.prog (some true) #[25] 3 #[t68_83] w136 fun t98_137 w138 =>
  sliceW (.sl 5) t63_72 (some t98_137) none none w138 fun t99_139 w140 =>
  fnW Tryd.prog 19 #[t99_139, (f20 1)] w140 fun t101_141 w142 =>
  gstep t101_141 true w142 (fun K => K t73_92 w142) fun t103_143 w144 =>
  gstep t101_141 true w144 (fun K => K (f20 1) w144) fun t104_145 w146 =>
  gstep t101_141 true w146 (fun K => lenW Tryd.prog (some true) #[25] 3 #[t104_145] w146 K) fun t105_147 w148 =>
  gstep t101_141 true w148 (fun K => sliceW (.sl 5) t103_143 none (some t105_147) none w148 K) fun t106_149 w150 =>
  gstep t101_141 true w150 (fun K => K (f20 1) w150) fun t107_151 w152 =>
  gstep t101_141 true w152 (fun K => fnW Tryd.prog 19 #[t106_149, t107_151] w152 K) fun t108_153 w154 =>
  pickW t101_141 t108_153 (.bool false) w154 fun t109_155 w156 =>
  gstep t109_155 true w156 (fun K => offW (some 0) (f20 3) w156 K) fun t111_157 w158 =>
  gstep t109_155 true w158 (fun K => loadW (some (false, 1)) t111_157 w158 K) fun t112_159 w160 =>
  gstep t109_155 true w160 (fun K => K (f20 2) w160) fun t113_161 w162 =>
  gstep t109_155 true w162 (fun K => binN Tryd.prog .eql 3 false t112_159 t113_161 w162 K) fun t114_163 w164 =>
  gstep t109_155 true w164 (fun K => K t114_163 w164) fun t115_165 w166 =>
  gstep t115_165 false w166 (fun K => loadW (some (true, 5)) t15_96 w166 K) fun t116_167 w168 =>
  gstep t115_165 false w168 (fun K => loadW (some (true, 5)) (f20 3) w168 K) fun t117_169 w170 =>
  gstep t115_165 false w170 (fun K => fnW Tryd.prog 14 #[t116_167, t117_169] w170 K) fun t118_171 w172 =>
  gstep t109_155 true w172 (fun K => pickW t115_165 (.bool true) t118_171 w172 K) fun t119_173 w174 =>
  pickW t109_155 t119_173 (.bool false) w174 fun t120_175 w176 =>
  K t120_175 w176))) K18) fun K19 =>
  bindX (blkX 0 K19) fun K177 =>
  loopW (fun f178 w179 K180 =>
  lenW Tryd.prog (some true) #[25] 3 #[(f178 1)] w179 fun t27_181 w182 =>
  binN Tryd.prog .lss 3 false (f178 7) t27_181 w182 fun t28_183 w184 =>
  condW t28_183 (
  idxW (some (none, 5)) (f178 1) (f178 7) w184 fun t33_185 w186 =>
  loadW (some (true, 5)) t33_185 w186 fun t34_187 w188 =>
  fnW Tryd.prog 11 #[t34_187, (.int .i64 400)] w188 fun t35_189 w190 =>
  binN Tryd.prog .gtr 3 true t35_189 (.int .i64 400) w190 fun t36_191 w192 =>
  condW t36_191 (
  K180 .ret (pf 121 (pf 121 (pf 121 (pf 121 (pf 121 (pf 121 (pf 121 (pf 121 (pf 121 (pf 121 (pf 121 f178 25 (f178 7)) 26 (f178 1)) 27 t27_181) 28 t28_183) 31 (f178 1)) 32 (f178 7)) 33 t33_185) 34 t34_187) 35 t35_189) 36 t36_191) 6 (.bool true)) w192) (
  binN Tryd.prog .add 3 true (f178 7) (.int .i64 1) w192 fun t30_193 w194 =>
  K180 .normal (pf 121 (pf 121 (pf 121 (pf 121 (pf 121 (pf 121 (pf 121 (pf 121 (pf 121 (pf 121 (pf 121 (pf 121 (pf 121 f178 25 (f178 7)) 26 (f178 1)) 27 t27_181) 28 t28_183) 31 (f178 1)) 32 (f178 7)) 33 t33_185) 34 t34_187) 35 t35_189) 36 t36_191) 29 (f178 7)) 30 t30_193) 7 t30_193) w194)) (
  K180 (.exit 0) (pf 121 (pf 121 (pf 121 (pf 121 f178 25 (f178 7)) 26 (f178 1)) 27 t27_181) 28 t28_183) w184)) (pf 121 (pf 121 (pf 121 (pf 121 (pf 121 (pf 121 (pf 121 (pf 121 (pf 121 (pf 121 (pf 121 (pf 121 (argF [x0, x1, x2]) 3 t3_0) 6 (.bool false)) 16 t16_2) 17 t17_4) 18 t18_6) 19 t19_8) 20 t19_8) 21 t21_10) 22 t22_12) 23 t23_14) 24 t24_16) 7 (.int .i64 0)) w17 K177))
theorem c4_eq (x0 x1 x2 : Value) (w : World) (K : VPost) : c4 x0 x1 x2 w K = WP true Tryd.prog 121 [(12, 6168, [0, 0, 0, 6, 9, 16, 48, 64, 64, 64, 64, 1856, 2240, 4160, 8256], [0, 0, 0, 6, 15, 31, 63, 127, 127, 127, 127, 1919, 4095, 8191, 16383])] (bodyOf Tryd.f4) (argF [x0, x1, x2]) w [.tmp 6] K := by kernel_rfl
theorem c4_calls (x0 x1 x2 : Value) (w : World) (K : VPost) (h : c4 x0 x1 x2 w K) : Calls Tryd.prog 4 #[x0, x1, x2] w (retK K) :=
  calls_of_WP (c4_eq x0 x1 x2 w K) mixedG Tryd.func4 (by kernel_rfl) Tryd.ntmps4 (by kernel_rfl) (by kernel_rfl) h

/-- imprimatur/imprimaturlaw08.TermRights -/
def c5 (x0 x1 x2 x3 : Value) (w : World) (K : VPost) : Prop :=
  boxW 27 x0 w fun t4_0 w1 =>
  fnW Tryd.prog 7 #[] w1 fun t10_2 w3 =>
  unN Tryd.prog .not t10_2 w3 fun t11_4 w5 =>
  condW t11_4 (
  K (.bool false) w5) (
  loadW (some (true, 5)) t4_0 w5 fun t12_6 w7 =>
  fnW Tryd.prog 10 #[t12_6] w7 fun t13_8 w9 =>
  gstep t13_8 false w9 (fun K => K x3 w9) fun t15_10 w11 =>
  gstep t13_8 false w11 (fun K => binN Tryd.prog .lss 3 true t15_10 (.int .i64 0) w11 K) fun t16_12 w13 =>
  pickW t13_8 (.bool true) t16_12 w13 fun t17_14 w15 =>
  gstep t17_14 false w15 (fun K => K x3 w15) fun t19_16 w17 =>
  gstep t17_14 false w17 (fun K => binN Tryd.prog .gtr 3 true t19_16 (.int .i64 1000) w17 K) fun t20_18 w19 =>
  pickW t17_14 (.bool true) t20_18 w19 fun t21_20 w21 =>
  gstep t21_20 false w21 (fun K => K x2 w21) fun t23_22 w23 =>
  gstep t21_20 false w23 (fun K => binN Tryd.prog .gtr 3 true t23_22 (.int .i64 1000) w23 K) fun t24_24 w25 =>
  pickW t21_20 (.bool true) t24_24 w25 fun t25_26 w27 =>
  gstep t25_26 false w27 (fun K => loadW (some (true, 5)) t4_0 w27 K) fun t27_28 w29 =>
  gstep t25_26 false w29 (fun K => K x1 w29) fun t28_30 w31 =>
  gstep t25_26 false w31 (fun K => K x2 w31) fun t29_32 w33 =>
  gstep t25_26 false w33 (fun K => fnW Tryd.prog 20 #[t27_28, t28_30, t29_32] w33 K) fun t30_34 w35 =>
  gstep t25_26 false w35 (fun K => unN Tryd.prog .not t30_34 w35 K) fun t31_36 w37 =>
  pickW t25_26 (.bool true) t31_36 w37 fun t32_38 w39 =>
  condW t32_38 (
  K (.bool true) w39) (
  loadW (some (true, 5)) t4_0 w39 fun t33_40 w41 =>
  fnW Tryd.prog 21 #[t33_40] w41 fun t34_42 w43 =>
  loadW (some (true, 5)) t4_0 w43 fun t35_44 w45 =>
  fnW Tryd.prog 20 #[t35_44, (.int .i64 4), x2] w45 fun t37_46 w47 =>
  gstep t37_46 true w47 (fun K => loadW (some (true, 5)) t4_0 w47 K) fun t39_48 w49 =>
  gstep t37_46 true w49 (fun K => K x1 w49) fun t40_50 w51 =>
  gstep t37_46 true w51 (fun K => K x2 w51) fun t41_52 w53 =>
  gstep t37_46 true w53 (fun K => K x3 w53) fun t42_54 w55 =>
  gstep t37_46 true w55 (fun K => binN Tryd.prog .add 3 false t41_52 t42_54 w55 K) fun t43_56 w57 =>
  gstep t37_46 true w57 (fun K => fnW Tryd.prog 20 #[t39_48, t40_50, t43_56] w57 K) fun t44_58 w59 =>
  pickW t37_46 t44_58 (.bool false) w59 fun t45_60 w61 =>
  gstep t45_60 true w61 (fun K => K t34_42 w61) fun t47_62 w63 =>
  gstep t45_60 true w63 (fun K => K x2 w63) fun t48_64 w65 =>
  gstep t45_60 true w65 (fun K => binN Tryd.prog .leq 3 false t47_62 t48_64 w65 K) fun t49_66 w67 =>
  pickW t45_60 t49_66 (.bool false) w67 fun t50_68 w69 =>
  gstep t50_68 true w69 (fun K => loadW (some (true, 5)) t4_0 w69 K) fun t52_70 w71 =>
  gstep t50_68 true w71 (fun K => K x1 w71) fun t53_72 w73 =>
  gstep t50_68 true w73 (fun K => K t34_42 w73) fun t54_74 w75 =>
  gstep t50_68 true w75 (fun K => fnW Tryd.prog 20 #[t52_70, t53_72, t54_74] w75 K) fun t55_76 w77 =>
  pickW t50_68 t55_76 (.bool false) w77 fun t56_78 w79 =>
  gstep t56_78 true w79 (fun K => K t34_42 w79) fun t58_80 w81 =>
  gstep t56_78 true w81 (fun K => binN Tryd.prog .eql 3 true t58_80 (.int .i64 0) w81 K) fun t59_82 w83 =>
  gstep t56_78 true w83 (fun K => K t59_82 w83) fun t60_84 w85 =>
  gstep t60_84 false w85 (fun K => loadW (some (true, 5)) t4_0 w85 K) fun t61_86 w87 =>
  gstep t60_84 false w87 (fun K => K x1 w87) fun t62_88 w89 =>
  gstep t60_84 false w89 (fun K => K t34_42 w89) fun t63_90 w91 =>
  gstep t60_84 false w91 (fun K => binN Tryd.prog .sub 3 true t63_90 (.int .i64 1) w91 K) fun t64_92 w93 =>
  gstep t60_84 false w93 (fun K => fnW Tryd.prog 20 #[t61_86, t62_88, t64_92] w93 K) fun t65_94 w95 =>
  gstep t60_84 false w95 (fun K => unN Tryd.prog .not t65_94 w95 K) fun t66_96 w97 =>
  gstep t60_84 false w97 (fun K => K t66_96 w97) fun t67_98 w99 =>
  gstep t67_98 true w99 (fun K => loadW (some (true, 5)) t4_0 w99 K) fun t68_100 w101 =>
  gstep t67_98 true w101 (fun K => K t34_42 w101) fun t69_102 w103 =>
  gstep t67_98 true w103 (fun K => binN Tryd.prog .sub 3 true t69_102 (.int .i64 1) w103 K) fun t70_104 w105 =>
  gstep t67_98 true w105 (fun K => fnW Tryd.prog 22 #[t68_100, t70_104] w105 K) fun t71_106 w107 =>
  gstep t67_98 true w107 (fun K => binN Tryd.prog .gtr 3 true t71_106 (.int .i64 0) w107 K) fun t72_108 w109 =>
  gstep t60_84 false w109 (fun K => pickW t67_98 t72_108 (.bool false) w109 K) fun t73_110 w111 =>
  gstep t56_78 true w111 (fun K => pickW t60_84 (.bool true) t73_110 w111 K) fun t74_112 w113 =>
  pickW t56_78 t74_112 (.bool false) w113 fun t75_114 w115 =>
  K t75_114 w115))
theorem c5_eq (x0 x1 x2 x3 : Value) (w : World) (K : VPost) : c5 x0 x1 x2 x3 w K = WP true Tryd.prog 76 [] (bodyOf Tryd.f5) (argF [x0, x1, x2, x3]) w [.tmp 8] K := by kernel_rfl
theorem c5_calls (x0 x1 x2 x3 : Value) (w : World) (K : VPost) (h : c5 x0 x1 x2 x3 w K) : Calls Tryd.prog 5 #[x0, x1, x2, x3] w (retK K) :=
  calls_of_WP (c5_eq x0 x1 x2 x3 w K) mixedG Tryd.func5 (by kernel_rfl) Tryd.ntmps5 (by kernel_rfl) (by kernel_rfl) h

/-- imprimatur/imprimaturlaw08.TermSpines -/
def c6 (x0 : Value) (w : World) (K : VPost) : Prop :=
  boxW 27 x0 w fun t1_0 w1 =>
  fnW Tryd.prog 7 #[] w1 fun t9_2 w3 =>
  unN Tryd.prog .not t9_2 w3 fun t10_4 w5 =>
  condW t10_4 (
  K (.bool false) w5) (
  loadW (some (true, 5)) t1_0 w5 fun t11_6 w7 =>
  fnW Tryd.prog 10 #[t11_6] w7 fun t12_8 w9 =>
  gstep t12_8 false w9 (fun K => loadW (some (true, 5)) t1_0 w9 K) fun t14_10 w11 =>
  gstep t12_8 false w11 (fun K => fnW Tryd.prog 23 #[t14_10] w11 K) fun t15_12 w13 =>
  gstep t12_8 false w13 (fun K => unN Tryd.prog .not t15_12 w13 K) fun t16_14 w15 =>
  pickW t12_8 (.bool true) t16_14 w15 fun t17_16 w17 =>
  condW t17_16 (
  K (.bool true) w17) (
  loadW (some (true, 5)) t1_0 w17 fun t19_18 w19 =>
  fnW Tryd.prog 17 #[t19_18] w19 fun t20_20 w21 =>
  extrW t20_20 0 w21 fun t21_22 w23 =>
  extrW t20_20 1 w23 fun t22_24 w25 =>
  allocW (zeroO Tryd.prog 27) 27 w25 fun t3_26 w27 =>
  storeW (some (true, 5)) t3_26 t21_22 w27 fun w28 =>
  loadW (some (true, 5)) t1_0 w28 fun t24_29 w30 =>
  fnW Tryd.prog 18 #[t24_29, (.int .i64 7)] w30 fun t25_31 w32 =>
  extrW t25_31 0 w32 fun t26_33 w34 =>
  extrW t25_31 1 w34 fun t27_35 w36 =>
  allocW (zeroO Tryd.prog 27) 27 w36 fun t6_37 w38 =>
  storeW (some (true, 5)) t6_37 t27_35 w38 fun w39 =>
  loadW (some (true, 5)) t1_0 w39 fun t29_40 w41 =>
  fnW Tryd.prog 18 #[t29_40, (.int .i64 6)] w41 fun t30_42 w43 =>
  extrW t30_42 0 w43 fun t31_44 w45 =>
  extrW t30_42 1 w45 fun t32_46 w47 =>
  allocW (zeroO Tryd.prog 27) 27 w47 fun t8_48 w49 =>
  storeW (some (true, 5)) t8_48 t32_46 w49 fun w50 =>
  loadW (some (true, 5)) t3_26 w50.drew fun t33_51 w52 =>
  loadW (some (true, 5)) t1_0 w52 fun t36_53 w54 =>
  fnW Tryd.prog 12 #[t33_51, t22_24] w54 fun t35_55 w56 =>
  (loadW (some (true, 5)) t1_0 w56 fun t36_57 w58 => t36_57 = t36_53 ∧ w58 = w56) ∧
  fnW Tryd.prog 14 #[t35_55, t36_53] w56 fun t37_59 w60 =>
  gstep t37_59 true w60 (fun K => loadW (some (true, 5)) t6_37 w60 K) fun t39_61 w62 =>
  gstep t37_59 true w62 (fun K => K t26_33 w62) fun t40_63 w64 =>
  gstep t37_59 true w64 (fun K => loadW (some (true, 5)) t1_0 w64 K) fun t42_65 w66 =>
  gstep t37_59 true w66 (fun K => fnW Tryd.prog 13 #[(.int .i64 7), t39_61, t40_63] w66 K) fun t41_67 w68 =>
  (gstep t37_59 true w68 (fun K => loadW (some (true, 5)) t1_0 w68 K) fun t42_69 w70 => t42_69 = t42_65 ∧ w70 = w68) ∧
  gstep t37_59 true w68 (fun K => fnW Tryd.prog 14 #[t41_67, t42_65] w68 K) fun t43_71 w72 =>
  pickW t37_59 t43_71 (.bool false) w72 fun t44_73 w74 =>
  gstep t44_73 true w74 (fun K => loadW (some (true, 5)) t8_48 w74 K) fun t46_75 w76 =>
  gstep t44_73 true w76 (fun K => K t31_44 w76) fun t47_77 w78 =>
  gstep t44_73 true w78 (fun K => loadW (some (true, 5)) t1_0 w78 K) fun t49_79 w80 =>
  gstep t44_73 true w80 (fun K => fnW Tryd.prog 13 #[(.int .i64 6), t46_75, t47_77] w80 K) fun t48_81 w82 =>
  (gstep t44_73 true w82 (fun K => loadW (some (true, 5)) t1_0 w82 K) fun t49_83 w84 => t49_83 = t49_79 ∧ w84 = w82) ∧
  gstep t44_73 true w82 (fun K => fnW Tryd.prog 14 #[t48_81, t49_79] w82 K) fun t50_85 w86 =>
  pickW t44_73 t50_85 (.bool false) w86 fun t51_87 w88 =>
  gstep t51_87 true w88 (fun K => offW (some 0) t3_26 w88 K) fun t53_89 w90 =>
  gstep t51_87 true w90 (fun K => loadW (some (false, 1)) t53_89 w90 K) fun t54_91 w92 =>
  gstep t51_87 true w92 (fun K => binN Tryd.prog .neq 3 true t54_91 (.int .i64 5) w92 K) fun t55_93 w94 =>
  pickW t51_87 t55_93 (.bool false) w94 fun t56_95 w96 =>
  gstep t56_95 true w96 (fun K => offW (some 0) t6_37 w96 K) fun t58_97 w98 =>
  gstep t56_95 true w98 (fun K => loadW (some (false, 1)) t58_97 w98 K) fun t59_99 w100 =>
  gstep t56_95 true w100 (fun K => binN Tryd.prog .neq 3 true t59_99 (.int .i64 7) w100 K) fun t60_101 w102 =>
  pickW t56_95 t60_101 (.bool false) w102 fun t61_103 w104 =>
  gstep t61_103 true w104 (fun K => offW (some 0) t8_48 w104 K) fun t63_105 w106 =>
  gstep t61_103 true w106 (fun K => loadW (some (false, 1)) t63_105 w106 K) fun t64_107 w108 =>
  gstep t61_103 true w108 (fun K => binN Tryd.prog .neq 3 true t64_107 (.int .i64 6) w108 K) fun t65_109 w110 =>
  pickW t61_103 t65_109 (.bool false) w110 fun t66_111 w112 =>
  K t66_111 w112))
theorem c6_eq (x0 : Value) (w : World) (K : VPost) : c6 x0 w K = WP true Tryd.prog 67 [(8, 165140, [0, 0, 3, 0, 12, 16, 32, 32, 224, 32, 800, 1056, 3072, 4096, 4096, 28672, 4096, 102400, 135168, 393216, 524288, 1572864, 2621440, 4718592, 8912896, 16777216, 50331648, 83886080, 150994944, 285212672, 536870912, 1610612736, 2684354560, 4831838208, 17179869183], [0, 0, 3, 0, 15, 31, 63, 63, 255, 63, 1023, 2047, 4095, 8191, 8191, 32767, 8191, 131071, 262143, 524287, 1048575, 2097151, 4194303, 8388607, 16777215, 33554431, 67108863, 134217727, 268435455, 536870911, 1073741823, 2147483647, 4294967295, 8589934591, 17179869183])] (bodyOf Tryd.f6) (argF [x0]) w [.tmp 2] K := by kernel_rfl
theorem c6_calls (x0 : Value) (w : World) (K : VPost) (h : c6 x0 w K) : Calls Tryd.prog 6 #[x0] w (retK K) :=
  calls_of_WP (c6_eq x0 w K) mixedG Tryd.func6 (by kernel_rfl) Tryd.ntmps6 (by kernel_rfl) (by kernel_rfl) h

/-- imprimatur/imprimaturlaw08.TermWords -/
def c3 (x0 : Value) (w : World) (K : VPost) : Prop :=
  fnW Tryd.prog 7 #[] w fun t3_0 w1 =>
  unN Tryd.prog .not t3_0 w1 fun t4_2 w3 =>
  condW t4_2 (
  K (.bool false) w3) (
  lenW Tryd.prog (some false) #[9] 3 #[x0] w3 fun t6_4 w5 =>
  binN Tryd.prog .gtr 3 true t6_4 (.int .i64 500) w5 fun t7_6 w7 =>
  gstep t7_6 false w7 (fun K => K x0 w7) fun t9_8 w9 =>
  gstep t7_6 false w9 (fun K => fnW Tryd.prog 8 #[t9_8] w9 K) fun t10_10 w11 =>
  gstep t7_6 false w11 (fun K => K x0 w11) fun t11_12 w13 =>
  gstep t7_6 false w13 (fun K => fnW Tryd.prog 9 #[t11_12] w13 K) fun t12_14 w15 =>
  gstep t7_6 false w15 (fun K => binW Tryd.prog .eql 4 false t10_10 t12_14 w15 K) fun t13_16 w17 =>
  pickW t7_6 (.bool true) t13_16 w17 fun t14_18 w19 =>
  K t14_18 w19)
theorem c3_eq (x0 : Value) (w : World) (K : VPost) : c3 x0 w K = WP true Tryd.prog 15 [] (bodyOf Tryd.f3) (argF [x0]) w [.tmp 2] K := by kernel_rfl
theorem c3_calls (x0 : Value) (w : World) (K : VPost) (h : c3 x0 w K) : Calls Tryd.prog 3 #[x0] w (retK K) :=
  calls_of_WP (c3_eq x0 w K) mixedG Tryd.func3 (by kernel_rfl) Tryd.ntmps3 (by kernel_rfl) (by kernel_rfl) h

/-- imprimatur/imprimaturlaw08.alive -/
def c7 (w : World) (K : VPost) : Prop :=
  insW Tryd.prog (Instr.build 27 #[(0, (.int .i64 2))]) w fun t8_0 w1 =>
  allocW (zeroO Tryd.prog 27) 27 w1 fun t1_2 w3 =>
  storeW (some (true, 5)) t1_2 t8_0 w3 fun w4 =>
  loadW (some (true, 5)) t1_2 w4.drew fun t10_5 w6 =>
  bindV (fun (t9_8 : Value) (t11_9 : Value) (t12_10 : Value) (t13_11 : Value) (t2_12 : Value) (w14 : World) =>
  storeW (some (true, 5)) t2_12 t13_11 w14 fun w15 =>
  loadW (some (true, 5)) t2_12 w15 fun t15_16 w17 =>
  fnW Tryd.prog 18 #[t15_16, (.int .i64 7)] w17 fun t16_18 w19 =>
  extrW t16_18 0 w19 fun t17_20 w21 =>
  extrW t16_18 1 w21 fun t18_22 w23 =>
  allocW (zeroO Tryd.prog 27) 27 w23 fun t4_24 w25 =>
  storeW (some (true, 5)) t4_24 t18_22 w25 fun w26 =>
  loadW (some (true, 5)) t1_2 w26.drew fun t21_27 w28 =>
  bindV (fun (t20_30 : Value) (t22_31 : Value) (t23_32 : Value) (t24_33 : Value) (t25_34 : Value) (t19_35 : Value) (t26_36 : Value) (t27_37 : Value) (t5_38 : Value) (w40 : World) =>
  storeW (some (true, 5)) t5_38 t26_36 w40 fun w41 =>
  fnW Tryd.prog 26 #[(.int .i64 1), (.int .i64 0)] w41 fun t28_42 w43 =>
  insW Tryd.prog (Instr.buildSlice 24 1 #[(0, t28_42)]) w43 fun t29_44 w45 =>
  insW Tryd.prog (Instr.build 27 #[(0, (.int .i64 3)), (3, t29_44)]) w45 fun t30_46 w47 =>
  allocW (zeroO Tryd.prog 27) 27 w47 fun t7_48 w49 =>
  storeW (some (true, 5)) t7_48 t30_46 w49 fun w50 =>
  loadW (some (true, 5)) t2_12 w50.drew fun t31_51 w52 =>
  fnW Tryd.prog 20 #[t31_51, (.int .i64 0), (.int .i64 0)] w52 fun t32_53 w54 =>
  gstep t32_53 true w54 (fun K => fnW Tryd.prog 24 #[(.int .i64 1)] w54 K) fun t34_55 w56 =>
  gstep t32_53 true w56 (fun K => fnW Tryd.prog 20 #[t34_55, (.int .i64 0), (.int .i64 1)] w56 K) fun t35_57 w58 =>
  gstep t32_53 true w58 (fun K => unN Tryd.prog .not t35_57 w58 K) fun t36_59 w60 =>
  pickW t32_53 t36_59 (.bool false) w60 fun t37_61 w62 =>
  gstep t37_61 true w62 (fun K => loadW (some (true, 5)) t7_48 w62 K) fun t39_63 w64 =>
  gstep t37_61 true w64 (fun K => fnW Tryd.prog 20 #[t39_63, (.int .i64 2), (.int .i64 0)] w64 K) fun t40_65 w66 =>
  pickW t37_61 t40_65 (.bool false) w66 fun t41_67 w68 =>
  gstep t41_67 true w68 (fun K => loadW (some (true, 5)) t7_48 w68 K) fun t43_69 w70 =>
  gstep t41_67 true w70 (fun K => fnW Tryd.prog 20 #[t43_69, (.int .i64 1), (.int .i64 0)] w70 K) fun t44_71 w72 =>
  gstep t41_67 true w72 (fun K => unN Tryd.prog .not t44_71 w72 K) fun t45_73 w74 =>
  pickW t41_67 t45_73 (.bool false) w74 fun t46_75 w76 =>
  gstep t46_75 true w76 (fun K => K t17_20 w76) fun t48_77 w78 =>
  gstep t46_75 true w78 (fun K => lenW Tryd.prog (some true) #[25] 3 #[t48_77] w78 K) fun t49_79 w80 =>
  gstep t46_75 true w80 (fun K => binN Tryd.prog .eql 3 true t49_79 (.int .i64 2) w80 K) fun t50_81 w82 =>
  pickW t46_75 t50_81 (.bool false) w82 fun t51_83 w84 =>
  gstep t51_83 true w84 (fun K => loadW (some (true, 5)) t4_24 w84 K) fun t53_85 w86 =>
  gstep t51_83 true w86 (fun K => fnW Tryd.prog 24 #[(.int .i64 1)] w86 K) fun t54_87 w88 =>
  (gstep t51_83 true w88 (fun K => loadW (some (true, 5)) t4_24 w88 K) fun t53_89 w90 => t53_89 = t53_85 ∧ w90 = w88) ∧
  gstep t51_83 true w88 (fun K => fnW Tryd.prog 14 #[t53_85, t54_87] w88 K) fun t55_91 w92 =>
  pickW t51_83 t55_91 (.bool false) w92 fun t56_93 w94 =>
  gstep t56_93 true w94 (fun K => offW (some 2) t5_38 w94 K) fun t58_95 w96 =>
  gstep t56_93 true w96 (fun K => loadW (some (false, 1)) t58_95 w96 K) fun t59_97 w98 =>
  gstep t56_93 true w98 (fun K => binW Tryd.prog .eql 9 true t59_97 (.string ⟨#[102]⟩) w98 K) fun t60_99 w100 =>
  w100 = w98 ∧
  pickW t56_93 t60_99 (.bool false) w100 fun t61_101 w102 =>
  gstep t61_101 true w102 (fun K => K t27_37 w102) fun t63_103 w104 =>
  gstep t61_101 true w104 (fun K => lenW Tryd.prog (some true) #[25] 3 #[t63_103] w104 K) fun t64_105 w106 =>
  gstep t61_101 true w106 (fun K => binN Tryd.prog .eql 3 true t64_105 (.int .i64 2) w106 K) fun t65_107 w108 =>
  pickW t61_101 t65_107 (.bool false) w108 fun t66_109 w110 =>
  gstep t66_109 true w110 (fun K => loadW (some (true, 5)) t2_12 w110 K) fun t68_111 w112 =>
  gstep t66_109 true w112 (fun K => fnW Tryd.prog 27 #[t68_111] w112 K) fun t69_113 w114 =>
  gstep t66_109 true w114 (fun K => binN Tryd.prog .eql 3 true t69_113 (.int .i64 5) w114 K) fun t70_115 w116 =>
  pickW t66_109 t70_115 (.bool false) w116 fun t71_117 w118 =>
  gstep t71_117 true w118 (fun K => fnW Tryd.prog 24 #[(.int .i64 2)] w118 K) fun t73_119 w120 =>
  gstep t71_117 true w120 (fun K => fnW Tryd.prog 21 #[t73_119] w120 K) fun t74_121 w122 =>
  gstep t71_117 true w122 (fun K => binN Tryd.prog .eql 3 true t74_121 (.int .i64 3) w122 K) fun t75_123 w124 =>
  pickW t71_117 t75_123 (.bool false) w124 fun t76_125 w126 =>
  gstep t76_125 true w126 (fun K => fnW Tryd.prog 8 #[(.string ⟨#[97, 46, 98, 95, 49]⟩)] w126 K) fun t78_127 w128 =>
  pickW t76_125 t78_127 (.bool false) w128 fun t79_129 w130 =>
  gstep t79_129 true w130 (fun K => fnW Tryd.prog 8 #[(.string ⟨#[80, 114, 111, 112]⟩)] w130 K) fun t81_131 w132 =>
  gstep t79_129 true w132 (fun K => unN Tryd.prog .not t81_131 w132 K) fun t82_133 w134 =>
  pickW t79_129 t82_133 (.bool false) w134 fun t83_135 w136 =>
  gstep t83_135 true w136 (fun K => fnW Tryd.prog 8 #[(.string ⟨#[97, 46]⟩)] w136 K) fun t85_137 w138 =>
  gstep t83_135 true w138 (fun K => unN Tryd.prog .not t85_137 w138 K) fun t86_139 w140 =>
  pickW t83_135 t86_139 (.bool false) w140 fun t87_141 w142 =>
  gstep t87_141 true w142 (fun K => loadW (some (true, 5)) t2_12 w142 K) fun t89_143 w144 =>
  gstep t87_141 true w144 (fun K => loadW (some (true, 5)) t2_12 w144 K) fun t90_145 w146 =>
  gstep t87_141 true w146 (fun K => fnW Tryd.prog 29 #[t90_145] w146 K) fun t91_147 w148 =>
  (gstep t87_141 true w148 (fun K => loadW (some (true, 5)) t2_12 w148 K) fun t89_149 w150 => t89_149 = t89_143 ∧ w150 = w148) ∧
  gstep t87_141 true w148 (fun K => fnW Tryd.prog 28 #[t89_143, t91_147] w148 K) fun t92_151 w152 =>
  pickW t87_141 t92_151 (.bool false) w152 fun t93_153 w154 =>
  gstep t93_153 true w154 (fun K => loadW (some (true, 5)) t2_12 w154 K) fun t95_155 w156 =>
  gstep t93_153 true w156 (fun K => fnW Tryd.prog 22 #[t95_155, (.int .i64 0)] w156 K) fun t96_157 w158 =>
  gstep t93_153 true w158 (fun K => binN Tryd.prog .eql 3 true t96_157 (.int .i64 0) w158 K) fun t97_159 w160 =>
  pickW t93_153 t97_159 (.bool false) w160 fun t98_161 w162 =>
  bindV (fun (t100_164 : Value) (t101_165 : Value) (t102_166 : Value) (t103_167 : Value) (t104_168 : Value) (t105_169 : Value) (w171 : World) =>
  gstep t98_161 true w171 (fun K => fnW Tryd.prog 30 #[t104_168, t105_169] w171 K) fun t106_172 w173 =>
  pickW t98_161 t106_172 (.bool false) w173 fun t107_174 w175 =>
  K t107_174 w175) fun J163 =>
  (gstep t98_161 true w162 (fun K => fnW Tryd.prog 25 #[(.string ⟨#[98]⟩)] w162 K) fun t100_176 w177 =>
  (gstep t98_161 true w177 (fun K => fnW Tryd.prog 25 #[(.string ⟨#[97]⟩)] w177 K) fun t101_178 w179 =>
  (gstep t98_161 true w179 (fun K => insW Tryd.prog (Instr.buildSlice 25 1 #[(0, t101_178)]) w179 K) fun t102_180 w181 =>
  (gstep t98_161 true w181 (fun K => fnW Tryd.prog 12 #[t100_176, t102_180] w181 K) fun t103_182 w183 =>
  (gstep t98_161 true w183 (fun K => fnW Tryd.prog 31 #[t103_182] w183 K) fun t104_184 w185 =>
  gstep t98_161 true w185 (fun K => insW Tryd.prog (Instr.buildSlice 52 2 #[(0, (.string ⟨#[97]⟩)), (1, (.string ⟨#[98]⟩))]) w185 K) fun t105_186 w187 =>
  J163 t100_176 t101_178 t102_180 t103_182 t104_184 t105_186 w187) ∧
  (gstep t98_161 true w183 (fun K => insW Tryd.prog (Instr.buildSlice 52 2 #[(0, (.string ⟨#[97]⟩)), (1, (.string ⟨#[98]⟩))]) w183 K) fun t105_188 w189 =>
  gstep t98_161 true w189 (fun K => fnW Tryd.prog 31 #[t103_182] w189 K) fun t104_190 w191 =>
  J163 t100_176 t101_178 t102_180 t103_182 t104_190 t105_188 w191)) ∧
  (gstep t98_161 true w181 (fun K => insW Tryd.prog (Instr.buildSlice 52 2 #[(0, (.string ⟨#[97]⟩)), (1, (.string ⟨#[98]⟩))]) w181 K) fun t105_192 w193 =>
  gstep t98_161 true w193 (fun K => fnW Tryd.prog 12 #[t100_176, t102_180] w193 K) fun t103_194 w195 =>
  gstep t98_161 true w195 (fun K => fnW Tryd.prog 31 #[t103_194] w195 K) fun t104_196 w197 =>
  J163 t100_176 t101_178 t102_180 t103_194 t104_196 t105_192 w197)) ∧
  (gstep t98_161 true w179 (fun K => insW Tryd.prog (Instr.buildSlice 52 2 #[(0, (.string ⟨#[97]⟩)), (1, (.string ⟨#[98]⟩))]) w179 K) fun t105_198 w199 =>
  gstep t98_161 true w199 (fun K => insW Tryd.prog (Instr.buildSlice 25 1 #[(0, t101_178)]) w199 K) fun t102_200 w201 =>
  gstep t98_161 true w201 (fun K => fnW Tryd.prog 12 #[t100_176, t102_200] w201 K) fun t103_202 w203 =>
  gstep t98_161 true w203 (fun K => fnW Tryd.prog 31 #[t103_202] w203 K) fun t104_204 w205 =>
  J163 t100_176 t101_178 t102_200 t103_202 t104_204 t105_198 w205)) ∧
  (gstep t98_161 true w177 (fun K => insW Tryd.prog (Instr.buildSlice 52 2 #[(0, (.string ⟨#[97]⟩)), (1, (.string ⟨#[98]⟩))]) w177 K) fun t105_206 w207 =>
  gstep t98_161 true w207 (fun K => fnW Tryd.prog 25 #[(.string ⟨#[97]⟩)] w207 K) fun t101_208 w209 =>
  gstep t98_161 true w209 (fun K => insW Tryd.prog (Instr.buildSlice 25 1 #[(0, t101_208)]) w209 K) fun t102_210 w211 =>
  gstep t98_161 true w211 (fun K => fnW Tryd.prog 12 #[t100_176, t102_210] w211 K) fun t103_212 w213 =>
  gstep t98_161 true w213 (fun K => fnW Tryd.prog 31 #[t103_212] w213 K) fun t104_214 w215 =>
  J163 t100_176 t101_208 t102_210 t103_212 t104_214 t105_206 w215)) ∧
  (gstep t98_161 true w162 (fun K => insW Tryd.prog (Instr.buildSlice 52 2 #[(0, (.string ⟨#[97]⟩)), (1, (.string ⟨#[98]⟩))]) w162 K) fun t105_216 w217 =>
  gstep t98_161 true w217 (fun K => fnW Tryd.prog 25 #[(.string ⟨#[98]⟩)] w217 K) fun t100_218 w219 =>
  gstep t98_161 true w219 (fun K => fnW Tryd.prog 25 #[(.string ⟨#[97]⟩)] w219 K) fun t101_220 w221 =>
  gstep t98_161 true w221 (fun K => insW Tryd.prog (Instr.buildSlice 25 1 #[(0, t101_220)]) w221 K) fun t102_222 w223 =>
  gstep t98_161 true w223 (fun K => fnW Tryd.prog 12 #[t100_218, t102_222] w223 K) fun t103_224 w225 =>
  gstep t98_161 true w225 (fun K => fnW Tryd.prog 31 #[t103_224] w225 K) fun t104_226 w227 =>
  J163 t100_218 t101_220 t102_222 t103_224 t104_226 t105_216 w227)) fun J29 =>
  (fnW Tryd.prog 25 #[(.string ⟨#[102]⟩)] w28 fun t20_228 w229 =>
  (loadW (some (true, 5)) t1_2 w229 fun t21_230 w231 => t21_230 = t21_27 ∧ w231 = w229) ∧
  (fnW Tryd.prog 24 #[(.int .i64 2)] w229 fun t22_232 w233 =>
  (loadW (some (true, 5)) t1_2 w233 fun t21_234 w235 => t21_234 = t21_27 ∧ w235 = w233) ∧
  (insW Tryd.prog (Instr.buildSlice 25 2 #[(0, t21_27), (1, t22_232)]) w233 fun t23_236 w237 =>
  (fnW Tryd.prog 12 #[t20_228, t23_236] w237 fun t24_238 w239 =>
  (fnW Tryd.prog 17 #[t24_238] w239 fun t25_240 w241 =>
  extrW t25_240 0 w241 fun t26_242 w243 =>
  extrW t25_240 1 w243 fun t27_244 w245 =>
  allocW (zeroO Tryd.prog 27) 27 w245 fun t5_246 w247 =>
  (loadW (some (true, 5)) t1_2 w247 fun t21_248 w249 => t21_248 = t21_27 ∧ w249 = w247) ∧
  J29 t20_228 t22_232 t23_236 t24_238 t25_240 t25_240 t26_242 t27_244 t5_246 w247) ∧
  (allocW (zeroO Tryd.prog 27) 27 w239 fun t5_250 w251 =>
  (loadW (some (true, 5)) t1_2 w251 fun t21_252 w253 => t21_252 = t21_27 ∧ w253 = w251) ∧
  fnW Tryd.prog 17 #[t24_238] w251 fun t25_254 w255 =>
  extrW t25_254 0 w255 fun t26_256 w257 =>
  extrW t25_254 1 w257 fun t27_258 w259 =>
  J29 t20_228 t22_232 t23_236 t24_238 t25_254 t25_254 t26_256 t27_258 t5_250 w259)) ∧
  (allocW (zeroO Tryd.prog 27) 27 w237 fun t5_260 w261 =>
  (loadW (some (true, 5)) t1_2 w261 fun t21_262 w263 => t21_262 = t21_27 ∧ w263 = w261) ∧
  fnW Tryd.prog 12 #[t20_228, t23_236] w261 fun t24_264 w265 =>
  fnW Tryd.prog 17 #[t24_264] w265 fun t25_266 w267 =>
  extrW t25_266 0 w267 fun t26_268 w269 =>
  extrW t25_266 1 w269 fun t27_270 w271 =>
  J29 t20_228 t22_232 t23_236 t24_264 t25_266 t25_266 t26_268 t27_270 t5_260 w271)) ∧
  (allocW (zeroO Tryd.prog 27) 27 w233 fun t5_272 w273 =>
  (loadW (some (true, 5)) t1_2 w273 fun t21_274 w275 => t21_274 = t21_27 ∧ w275 = w273) ∧
  insW Tryd.prog (Instr.buildSlice 25 2 #[(0, t21_27), (1, t22_232)]) w273 fun t23_276 w277 =>
  fnW Tryd.prog 12 #[t20_228, t23_276] w277 fun t24_278 w279 =>
  fnW Tryd.prog 17 #[t24_278] w279 fun t25_280 w281 =>
  extrW t25_280 0 w281 fun t26_282 w283 =>
  extrW t25_280 1 w283 fun t27_284 w285 =>
  J29 t20_228 t22_232 t23_276 t24_278 t25_280 t25_280 t26_282 t27_284 t5_272 w285)) ∧
  (allocW (zeroO Tryd.prog 27) 27 w229 fun t5_286 w287 =>
  (loadW (some (true, 5)) t1_2 w287 fun t21_288 w289 => t21_288 = t21_27 ∧ w289 = w287) ∧
  fnW Tryd.prog 24 #[(.int .i64 2)] w287 fun t22_290 w291 =>
  (loadW (some (true, 5)) t1_2 w291 fun t21_292 w293 => t21_292 = t21_27 ∧ w293 = w291) ∧
  insW Tryd.prog (Instr.buildSlice 25 2 #[(0, t21_27), (1, t22_290)]) w291 fun t23_294 w295 =>
  fnW Tryd.prog 12 #[t20_228, t23_294] w295 fun t24_296 w297 =>
  fnW Tryd.prog 17 #[t24_296] w297 fun t25_298 w299 =>
  extrW t25_298 0 w299 fun t26_300 w301 =>
  extrW t25_298 1 w301 fun t27_302 w303 =>
  J29 t20_228 t22_290 t23_294 t24_296 t25_298 t25_298 t26_300 t27_302 t5_286 w303)) ∧
  (allocW (zeroO Tryd.prog 27) 27 w28 fun t5_304 w305 =>
  (loadW (some (true, 5)) t1_2 w305 fun t21_306 w307 => t21_306 = t21_27 ∧ w307 = w305) ∧
  fnW Tryd.prog 25 #[(.string ⟨#[102]⟩)] w305 fun t20_308 w309 =>
  (loadW (some (true, 5)) t1_2 w309 fun t21_310 w311 => t21_310 = t21_27 ∧ w311 = w309) ∧
  fnW Tryd.prog 24 #[(.int .i64 2)] w309 fun t22_312 w313 =>
  (loadW (some (true, 5)) t1_2 w313 fun t21_314 w315 => t21_314 = t21_27 ∧ w315 = w313) ∧
  insW Tryd.prog (Instr.buildSlice 25 2 #[(0, t21_27), (1, t22_312)]) w313 fun t23_316 w317 =>
  fnW Tryd.prog 12 #[t20_308, t23_316] w317 fun t24_318 w319 =>
  fnW Tryd.prog 17 #[t24_318] w319 fun t25_320 w321 =>
  extrW t25_320 0 w321 fun t26_322 w323 =>
  extrW t25_320 1 w323 fun t27_324 w325 =>
  J29 t20_308 t22_312 t23_316 t24_318 t25_320 t25_320 t26_322 t27_324 t5_304 w325)) fun J7 =>
  (fnW Tryd.prog 24 #[(.int .i64 1)] w6 fun t9_326 w327 =>
  (loadW (some (true, 5)) t1_2 w327 fun t10_328 w329 => t10_328 = t10_5 ∧ w329 = w327) ∧
  (fnW Tryd.prog 24 #[(.int .i64 0)] w327 fun t11_330 w331 =>
  (loadW (some (true, 5)) t1_2 w331 fun t10_332 w333 => t10_332 = t10_5 ∧ w333 = w331) ∧
  (insW Tryd.prog (Instr.buildSlice 25 2 #[(0, t10_5), (1, t11_330)]) w331 fun t12_334 w335 =>
  (fnW Tryd.prog 13 #[(.int .i64 7), t9_326, t12_334] w335 fun t13_336 w337 =>
  allocW (zeroO Tryd.prog 27) 27 w337 fun t2_338 w339 =>
  (loadW (some (true, 5)) t1_2 w339 fun t10_340 w341 => t10_340 = t10_5 ∧ w341 = w339) ∧
  J7 t9_326 t11_330 t12_334 t13_336 t2_338 w339) ∧
  (allocW (zeroO Tryd.prog 27) 27 w335 fun t2_342 w343 =>
  (loadW (some (true, 5)) t1_2 w343 fun t10_344 w345 => t10_344 = t10_5 ∧ w345 = w343) ∧
  fnW Tryd.prog 13 #[(.int .i64 7), t9_326, t12_334] w343 fun t13_346 w347 =>
  J7 t9_326 t11_330 t12_334 t13_346 t2_342 w347)) ∧
  (allocW (zeroO Tryd.prog 27) 27 w331 fun t2_348 w349 =>
  (loadW (some (true, 5)) t1_2 w349 fun t10_350 w351 => t10_350 = t10_5 ∧ w351 = w349) ∧
  insW Tryd.prog (Instr.buildSlice 25 2 #[(0, t10_5), (1, t11_330)]) w349 fun t12_352 w353 =>
  fnW Tryd.prog 13 #[(.int .i64 7), t9_326, t12_352] w353 fun t13_354 w355 =>
  J7 t9_326 t11_330 t12_352 t13_354 t2_348 w355)) ∧
  (allocW (zeroO Tryd.prog 27) 27 w327 fun t2_356 w357 =>
  (loadW (some (true, 5)) t1_2 w357 fun t10_358 w359 => t10_358 = t10_5 ∧ w359 = w357) ∧
  fnW Tryd.prog 24 #[(.int .i64 0)] w357 fun t11_360 w361 =>
  (loadW (some (true, 5)) t1_2 w361 fun t10_362 w363 => t10_362 = t10_5 ∧ w363 = w361) ∧
  insW Tryd.prog (Instr.buildSlice 25 2 #[(0, t10_5), (1, t11_360)]) w361 fun t12_364 w365 =>
  fnW Tryd.prog 13 #[(.int .i64 7), t9_326, t12_364] w365 fun t13_366 w367 =>
  J7 t9_326 t11_360 t12_364 t13_366 t2_356 w367)) ∧
  (allocW (zeroO Tryd.prog 27) 27 w6 fun t2_368 w369 =>
  (loadW (some (true, 5)) t1_2 w369 fun t10_370 w371 => t10_370 = t10_5 ∧ w371 = w369) ∧
  fnW Tryd.prog 24 #[(.int .i64 1)] w369 fun t9_372 w373 =>
  (loadW (some (true, 5)) t1_2 w373 fun t10_374 w375 => t10_374 = t10_5 ∧ w375 = w373) ∧
  fnW Tryd.prog 24 #[(.int .i64 0)] w373 fun t11_376 w377 =>
  (loadW (some (true, 5)) t1_2 w377 fun t10_378 w379 => t10_378 = t10_5 ∧ w379 = w377) ∧
  insW Tryd.prog (Instr.buildSlice 25 2 #[(0, t10_5), (1, t11_376)]) w377 fun t12_380 w381 =>
  fnW Tryd.prog 13 #[(.int .i64 7), t9_372, t12_380] w381 fun t13_382 w383 =>
  J7 t9_372 t11_376 t12_380 t13_382 t2_368 w383)
theorem c7_eq (w : World) (K : VPost) : c7  w K = WP true Tryd.prog 108 [(2, 125, [0, 0, 1, 6, 13, 0, 63], [0, 0, 1, 7, 15, 0, 63]), (4, 1597, [0, 0, 1, 6, 13, 16, 32, 64, 64, 0, 767, 2047], [0, 0, 1, 7, 15, 31, 63, 127, 127, 0, 767, 2047]), (6, 75007939462721804706330, [0, 1, 2, 4, 12, 20, 36, 80, 128, 384, 640, 1536, 2048, 6144, 10240, 18432, 40960, 65536, 196608, 327680, 589824, 1114112, 2097152, 2097152, 14680064, 18874368, 50331648, 67108864, 201326592, 335544320, 603979776, 1140850688, 2147483648, 6442450944, 10737418240, 19327352832, 36507222016, 68719476736, 206158430208, 343597383680, 618475290624, 1374389534720, 2199023255552, 6597069766656, 10995116277760, 19791209299968, 43980465111040, 70368744177664, 211106232532992, 422212465065984, 562949953421312, 1688849860263936, 2814749767106560, 5629499534213120, 9007199254740992, 27021597764222976, 45035996273704960, 90071992547409920, 144115188075855872, 144115188075855872, 720575940379279360, 1585267068834414592, 2449958197289549824, 6917529027641081856, 9223372036854775808, 27670116110564327424, 46116860184273879040, 83010348331692982272, 184467440737095516160, 295147905179352825856, 885443715538058477568, 1475739525896764129280, 4427218577690292387840, 5017514388048998039552, 295147905179352825856, 28629346802397224108032, 38074079768136514535424, 151115727451828646838271], [0, 1, 3, 7, 15, 31, 63, 127, 255, 511, 1023, 2047, 4095, 8191, 16383, 32767, 65535, 131071, 262143, 524287, 1048575, 2097151, 4194303, 4194303, 16777215, 33554431, 67108863, 134217727, 268435455, 536870911, 1073741823, 2147483647, 4294967295, 8589934591, 17179869183, 34359738367, 68719476735, 137438953471, 274877906943, 549755813887, 1099511627775, 2199023255551, 4398046511103, 8796093022207, 17592186044415, 35184372088831, 70368744177663, 140737488355327, 281474976710655, 562949953421311, 1125899906842623, 2251799813685247, 4503599627370495, 9007199254740991, 18014398509481983, 36028797018963967, 72057594037927935, 144115188075855871, 288230376151711743, 288230376151711743, 864691128455135231, 2305843009213693951, 4611686018427387903, 9223372036854775807, 18446744073709551615, 36893488147419103231, 73786976294838206463, 147573952589676412927, 295147905179352825855, 590295810358705651711, 1180591620717411303423, 2361183241434822606847, 4722366482869645213695, 9444732965739290427391, 590295810358705651711, 37778931862957161709567, 75557863725914323419135, 151115727451828646838271])] (bodyOf Tryd.f7) (argF []) w [.tmp 0] K := by kernel_rfl
theorem c7_calls (w : World) (K : VPost) (h : c7  w K) : Calls Tryd.prog 7 #[] w (retK K) :=
  calls_of_WP (c7_eq  w K) mixedG Tryd.func7 (by kernel_rfl) Tryd.ntmps7 (by kernel_rfl) (by kernel_rfl) h

/-- imprimatur/imprimaturlaw08.constant -/
def c25 (x0 : Value) (w : World) (K : VPost) : Prop :=
  allocW (zeroO Tryd.prog 27) 27 w fun t2_0 w1 =>
  insW Tryd.prog (Instr.build 27 #[(0, (.int .i64 4)), (2, x0)]) w1 fun t4_2 w3 =>
  storeW (some (true, 5)) t2_0 t4_2 w3 fun w4 =>
  loadW (some (true, 5)) t2_0 w4 fun r5 _ =>
  K r5 w4
theorem c25_eq (x0 : Value) (w : World) (K : VPost) : c25 x0 w K = WP true Tryd.prog 5 [] (bodyOf Tryd.f25) (argF [x0]) w [.cell 2 27] K := by kernel_rfl
theorem c25_calls (x0 : Value) (w : World) (K : VPost) (h : c25 x0 w K) : Calls Tryd.prog 25 #[x0] w (retK K) :=
  calls_of_WP (c25_eq x0 w K) mixedG Tryd.func25 (by kernel_rfl) Tryd.ntmps25 (by kernel_rfl) (by kernel_rfl) h

/-- imprimatur/imprimaturlaw08.same -/
def c19 (x0 x1 : Value) (w : World) (K : VPost) : Prop :=
  lenW Tryd.prog (some true) #[25] 3 #[x0] w fun t7_0 w1 =>
  lenW Tryd.prog (some true) #[25] 3 #[x1] w1 fun t9_2 w3 =>
  binN Tryd.prog .neq 3 false t7_0 t9_2 w3 fun t10_4 w5 =>
  condW t10_4 (
  K (.bool false) w5) (
  bindX (endW Tryd.prog [.tmp 4] K) fun K6 =>
  bindX (seqX (fun _ w9 =>
  K (.bool true) w9) K6) fun K7 =>
  bindX (blkX 0 K7) fun K10 =>
  loopW (fun f11 w12 K13 =>
  lenW Tryd.prog (some true) #[25] 3 #[(f11 0)] w12 fun t13_14 w15 =>
  binN Tryd.prog .lss 3 false (f11 5) t13_14 w15 fun t14_16 w17 =>
  condW t14_16 (
  idxW (some (none, 5)) (f11 0) (f11 5) w17.drew fun t19_18 w19 =>
  loadW (some (true, 5)) t19_18 w19 fun t20_20 w21 =>
  idxW (some (none, 5)) (f11 1) (f11 5) w21 fun t23_22 w23 =>
  loadW (some (true, 5)) t23_22 w23 fun t24_24 w25 =>
  fnW Tryd.prog 14 #[t20_20, t24_24] w25 fun t25_26 w27 =>
  unN Tryd.prog .not t25_26 w27 fun t26_28 w29 =>
  condW t26_28 (
  K13 .ret (pf 27 (pf 27 (pf 27 (pf 27 (pf 27 (pf 27 (pf 27 (pf 27 (pf 27 (pf 27 (pf 27 (pf 27 (pf 27 (pf 27 (pf 27 f11 11 (f11 5)) 12 (f11 0)) 13 t13_14) 14 t14_16) 17 (f11 0)) 18 (f11 5)) 19 t19_18) 20 t20_20) 21 (f11 1)) 22 (f11 5)) 23 t23_22) 24 t24_24) 25 t25_26) 26 t26_28) 4 (.bool false)) w29) (
  binN Tryd.prog .add 3 true (f11 5) (.int .i64 1) w29 fun t16_30 w31 =>
  K13 .normal (pf 27 (pf 27 (pf 27 (pf 27 (pf 27 (pf 27 (pf 27 (pf 27 (pf 27 (pf 27 (pf 27 (pf 27 (pf 27 (pf 27 (pf 27 (pf 27 (pf 27 f11 11 (f11 5)) 12 (f11 0)) 13 t13_14) 14 t14_16) 17 (f11 0)) 18 (f11 5)) 19 t19_18) 20 t20_20) 21 (f11 1)) 22 (f11 5)) 23 t23_22) 24 t24_24) 25 t25_26) 26 t26_28) 15 (f11 5)) 16 t16_30) 5 t16_30) w31)) (
  K13 (.exit 0) (pf 27 (pf 27 (pf 27 (pf 27 f11 11 (f11 5)) 12 (f11 0)) 13 t13_14) 14 t14_16) w17)) (pf 27 (pf 27 (pf 27 (pf 27 (pf 27 (pf 27 (pf 27 (argF [x0, x1]) 4 (.bool false)) 6 x0) 7 t7_0) 8 x1) 9 t9_2) 10 t10_4) 5 (.int .i64 0)) w5 K10)
theorem c19_eq (x0 x1 : Value) (w : World) (K : VPost) : c19 x0 x1 w K = WP true Tryd.prog 27 [(6, 256, [0, 0, 3, 4, 0, 0, 48, 64, 136, 256], [0, 0, 3, 7, 0, 0, 48, 112, 255, 511])] (bodyOf Tryd.f19) (argF [x0, x1]) w [.tmp 4] K := by kernel_rfl
theorem c19_calls (x0 x1 : Value) (w : World) (K : VPost) (h : c19 x0 x1 w K) : Calls Tryd.prog 19 #[x0, x1] w (retK K) :=
  calls_of_WP (c19_eq x0 x1 w K) mixedG Tryd.func19 (by kernel_rfl) Tryd.ntmps19 (by kernel_rfl) (by kernel_rfl) h

/-- imprimatur/imprimaturlaw08.variable -/
def c24 (x0 : Value) (w : World) (K : VPost) : Prop :=
  allocW (zeroO Tryd.prog 27) 27 w fun t2_0 w1 =>
  insW Tryd.prog (Instr.build 27 #[(0, (.int .i64 1)), (1, x0)]) w1 fun t4_2 w3 =>
  storeW (some (true, 5)) t2_0 t4_2 w3 fun w4 =>
  loadW (some (true, 5)) t2_0 w4 fun r5 _ =>
  K r5 w4
theorem c24_eq (x0 : Value) (w : World) (K : VPost) : c24 x0 w K = WP true Tryd.prog 5 [] (bodyOf Tryd.f24) (argF [x0]) w [.cell 2 27] K := by kernel_rfl
theorem c24_calls (x0 : Value) (w : World) (K : VPost) (h : c24 x0 w K) : Calls Tryd.prog 24 #[x0] w (retK K) :=
  calls_of_WP (c24_eq x0 w K) mixedG Tryd.func24 (by kernel_rfl) Tryd.ntmps24 (by kernel_rfl) (by kernel_rfl) h

end Go.Proofs.YtbaddpnlokmldaaDoor
