/- The clean forms of some of the program's functions, written by a program of ours; each is the model's own by the kernel's reckoning. -/
import Derived.Test.YtedebapgmfnflaaG7
import Derived.KernelRfl
namespace Go.Proofs.Ytedebapgmfnflaa
open Go
set_option maxRecDepth 100000

/-- imprimatur/imprimaturlaw01.alive -/
def c40 (w : World) (K : VPost) : Prop :=
  insW Try.prog (Instr.buildSlice 34 3 #[(0, (.int .u8 97)), (1, (.int .u8 98)), (2, (.int .u8 99))]) w fun t5_0 w1 =>
  fnW Try.prog 46 #[t5_0] w1 fun t6_2 w3 =>
  allocW (zeroO Try.prog 62) 62 w3 fun t1_4 w5 =>
  storeW (some (true, 32)) t1_4 t6_2 w5 fun w6 =>
  fnW Try.prog 46 #[(.slice none 0 0)] w6 fun t7_7 w8 =>
  allocW (zeroO Try.prog 62) 62 w8 fun t2_9 w10 =>
  storeW (some (true, 32)) t2_9 t7_7 w10 fun w11 =>
  fnW Try.prog 42 #[] w11 fun t8_12 w13 =>
  binW Try.prog .eql 58 true t8_12 (.pointer none) w13 fun t10_14 w15 =>
  condW t10_14 (
  K (.bool false) w15) (
  insW Try.prog (Instr.buildSlice 34 1 #[(0, (.int .u8 97))]) w15 fun t12_16 w17 =>
  insW Try.prog (Instr.buildSlice 34 2 #[(0, (.int .u8 98)), (1, (.int .u8 99))]) w17 fun t13_18 w19 =>
  insW Try.prog (Instr.buildSlice 56 2 #[(0, t12_16), (1, t13_18)]) w19 fun t14_20 w21 =>
  fnW Try.prog 43 #[t8_12, t14_20] w21 fun t15_22 w23 =>
  fnW Try.prog 47 #[t8_12] w23 fun t17_24 w25 =>
  binW Try.prog .eql 58 true t17_24 (.pointer none) w25 fun t19_26 w27 =>
  condW t19_26 (
  K (.bool false) w27) (
  insW Try.prog (Instr.buildSlice 34 1 #[(0, (.int .u8 100))]) w27 fun t21_28 w29 =>
  insW Try.prog (Instr.buildSlice 56 1 #[(0, t21_28)]) w29 fun t22_30 w31 =>
  fnW Try.prog 43 #[t17_24, t22_30] w31 fun t23_32 w33 =>
  sliceW (.arr 32 1) t1_4 none (some (.int .i64 4)) none w33.drew fun t24_34 w35 =>
  insW Try.prog (Instr.buildSlice 34 4 #[(0, (.int .u8 186)), (1, (.int .u8 120)), (2, (.int .u8 22)), (3, (.int .u8 191))]) w35 fun t25_36 w37 =>
  fnW Try.prog 30 #[t24_34, t25_36] w37 fun t26_38 w39 =>
  gstep t26_38 true w39 (fun K => sliceW (.arr 32 1) t2_9 none (some (.int .i64 4)) none w39 K) fun t28_40 w41 =>
  gstep t26_38 true w41 (fun K => insW Try.prog (Instr.buildSlice 34 4 #[(0, (.int .u8 227)), (1, (.int .u8 176)), (2, (.int .u8 196)), (3, (.int .u8 66))]) w41 K) fun t29_42 w43 =>
  gstep t26_38 true w43 (fun K => fnW Try.prog 30 #[t28_40, t29_42] w43 K) fun t30_44 w45 =>
  pickW t26_38 t30_44 (.bool false) w45 fun t31_46 w47 =>
  gstep t31_46 true w47 (fun K => K t8_12 w47) fun t33_48 w49 =>
  gstep t31_46 true w49 (fun K => loadW (some (true, 32)) t1_4 w49 K) fun t35_50 w51 =>
  gstep t31_46 true w51 (fun K => fnW Try.prog 45 #[t33_48] w51 K) fun t34_52 w53 =>
  (gstep t31_46 true w53 (fun K => loadW (some (true, 32)) t1_4 w53 K) fun t35_54 w55 => t35_54 = t35_50 ∧ w55 = w53) ∧
  gstep t31_46 true w53 (fun K => binW Try.prog .eql 62 false t34_52 t35_50 w53 K) fun t36_56 w57 =>
  w57 = w53 ∧
  pickW t31_46 t36_56 (.bool false) w57 fun t37_58 w59 =>
  gstep t37_58 true w59 (fun K => K t8_12 w59) fun t39_60 w61 =>
  gstep t37_58 true w61 (fun K => fnW Try.prog 44 #[t39_60] w61 K) fun t40_62 w63 =>
  gstep t37_58 true w63 (fun K => binN Try.prog .eql 3 true t40_62 (.int .i64 3) w63 K) fun t41_64 w65 =>
  pickW t37_58 t41_64 (.bool false) w65 fun t42_66 w67 =>
  gstep t42_66 true w67 (fun K => K t17_24 w67) fun t44_68 w69 =>
  gstep t42_66 true w69 (fun K => fnW Try.prog 44 #[t44_68] w69 K) fun t45_70 w71 =>
  gstep t42_66 true w71 (fun K => binN Try.prog .eql 3 true t45_70 (.int .i64 4) w71 K) fun t46_72 w73 =>
  pickW t42_66 t46_72 (.bool false) w73 fun t47_74 w75 =>
  gstep t47_74 true w75 (fun K => K t17_24 w75) fun t49_76 w77 =>
  gstep t47_74 true w77 (fun K => loadW (some (true, 32)) t1_4 w77 K) fun t51_78 w79 =>
  gstep t47_74 true w79 (fun K => fnW Try.prog 45 #[t49_76] w79 K) fun t50_80 w81 =>
  (gstep t47_74 true w81 (fun K => loadW (some (true, 32)) t1_4 w81 K) fun t51_82 w83 => t51_82 = t51_78 ∧ w83 = w81) ∧
  gstep t47_74 true w81 (fun K => binW Try.prog .neq 62 false t50_80 t51_78 w81 K) fun t52_84 w85 =>
  w85 = w81 ∧
  pickW t47_74 t52_84 (.bool false) w85 fun t53_86 w87 =>
  gstep t53_86 true w87 (fun K => fnW Try.prog 48 #[(.int .i64 0)] w87 K) fun t55_88 w89 =>
  gstep t53_86 true w89 (fun K => lenW Try.prog (some true) #[34] 3 #[t55_88] w89 K) fun t56_90 w91 =>
  gstep t53_86 true w91 (fun K => binN Try.prog .eql 3 true t56_90 (.int .i64 64) w91 K) fun t57_92 w93 =>
  pickW t53_86 t57_92 (.bool false) w93 fun t58_94 w95 =>
  K t58_94 w95))
theorem c40_eq (w : World) (K : VPost) : c40  w K = WP true Try.prog 59 [(11, 2216756326, [0, 0, 3, 4, 8, 8, 56, 72, 192, 256, 768, 256, 3328, 4352, 9216, 16384, 49152, 81920, 147456, 327680, 524288, 1572864, 2621440, 4718592, 10485760, 16777216, 50331648, 16777216, 218103808, 285212672, 603979776, 1073741824, 3221225472, 5368709120, 9663676416, 34359738367], [0, 0, 3, 7, 15, 15, 63, 127, 255, 511, 1023, 511, 4095, 8191, 16383, 32767, 65535, 131071, 262143, 524287, 1048575, 2097151, 4194303, 8388607, 16777215, 33554431, 67108863, 33554431, 268435455, 536870911, 1073741823, 2147483647, 4294967295, 8589934591, 17179869183, 34359738367])] (bodyOf Try.f40) (argF []) w [.tmp 0] K := by kernel_rfl
theorem c40_calls (w : World) (K : VPost) (h : c40  w K) : Calls Try.prog 40 #[] w (retK K) :=
  calls_of_WP (c40_eq  w K) mixedG Try.func40 (by kernel_rfl) Try.ntmps40 (by kernel_rfl) (by kernel_rfl) h

/-- imprimatur/imprimaturref00.Rows -/
def c41 (x0 x1 : Value) (w : World) (K : VPost) : Prop :=
  lenW Try.prog (some true) #[56] 3 #[x0] w fun t8_0 w1 =>
  binN Try.prog .gtr 3 false t8_0 x1 w1 fun t10_2 w3 =>
  condW t10_2 (
  binN Try.prog .add 3 true x1 (.int .i64 1) w3 fun t12_4 w5 =>
  K t12_4 w5) (
  bindX (endW Try.prog [.tmp 4] K) fun K6 =>
  bindX (seqX (fun f8 w9 =>
  K (f8 5) w9) K6) fun K7 =>
  bindX (blkX 0 K7) fun K10 =>
  loopW (fun f11 w12 K13 =>
  lenW Try.prog (some true) #[56] 3 #[(f11 0)] w12 fun t15_14 w15 =>
  binN Try.prog .lss 3 false (f11 6) t15_14 w15 fun t16_16 w17 =>
  gstep t16_16 true w17 (fun K => K (f11 5) w17) fun t18_18 w19 =>
  gstep t16_16 true w19 (fun K => K (f11 1) w19) fun t19_20 w21 =>
  gstep t16_16 true w21 (fun K => binN Try.prog .leq 3 false t18_18 t19_20 w21 K) fun t20_22 w23 =>
  pickW t16_16 t20_22 (.bool false) w23 fun t21_24 w25 =>
  condW t21_24 (
  idxW (some (none, 1)) (f11 0) (f11 6) w25 fun t27_26 w27 =>
  loadW (some (false, 1)) t27_26 w27 fun t28_28 w29 =>
  lenW Try.prog (some true) #[34] 3 #[t28_28] w29 fun t29_30 w31 =>
  binN Try.prog .add 3 true (.int .i64 1) t29_30 w31 fun t30_32 w33 =>
  binN Try.prog .add 3 false (f11 5) t30_32 w33 fun t31_34 w35 =>
  binN Try.prog .add 3 true (f11 6) (.int .i64 1) w35 fun t23_36 w37 =>
  K13 .normal (pf 33 (pf 33 (pf 33 (pf 33 (pf 33 (pf 33 (pf 33 (pf 33 (pf 33 (pf 33 (pf 33 (pf 33 (pf 33 (pf 33 (pf 33 (pf 33 (pf 33 (pf 33 (pf 33 (pf 33 (pf 33 f11 13 (f11 6)) 14 (f11 0)) 15 t15_14) 16 t16_16) 17 t16_16) 18 t18_18) 19 t19_20) 20 t20_22) 21 t21_24) 24 (f11 5)) 25 (f11 0)) 26 (f11 6)) 27 t27_26) 28 t28_28) 29 t29_30) 30 t30_32) 31 t31_34) 5 t31_34) 22 (f11 6)) 23 t23_36) 6 t23_36) w37) (
  K13 (.exit 0) (pf 33 (pf 33 (pf 33 (pf 33 (pf 33 (pf 33 (pf 33 (pf 33 (pf 33 f11 13 (f11 6)) 14 (f11 0)) 15 t15_14) 16 t16_16) 17 t16_16) 18 t18_18) 19 t19_20) 20 t20_22) 21 t21_24) w25)) (pf 33 (pf 33 (pf 33 (pf 33 (pf 33 (pf 33 (pf 33 (argF [x0, x1]) 4 (.int .i64 0)) 7 x0) 8 t8_0) 9 x1) 10 t10_2) 5 (.int .i64 0)) 6 (.int .i64 0)) w3 K10)
theorem c41_eq (x0 x1 : Value) (w : World) (K : VPost) : c41 x0 x1 w K = WP true Try.prog 33 [] (bodyOf Try.f41) (argF [x0, x1]) w [.tmp 4] K := by kernel_rfl
theorem c41_calls (x0 x1 : Value) (w : World) (K : VPost) (h : c41 x0 x1 w K) : Calls Try.prog 41 #[x0, x1] w (retK K) :=
  calls_of_WP (c41_eq x0 x1 w K) mixedG Try.func41 (by kernel_rfl) Try.ntmps41 (by kernel_rfl) (by kernel_rfl) h

/-- imprimatur/imprimaturlaw01.ShaParts -/
def c8 (x0 : Value) (w : World) (K : VPost) : Prop :=
  fnW Try.prog 40 #[] w fun t9_0 w1 =>
  unN Try.prog .not t9_0 w1 fun t10_2 w3 =>
  condW t10_2 (
  K (.bool false) w3) (
  fnW Try.prog 41 #[x0, (.int .i64 4000)] w3 fun t12_4 w5 =>
  binN Try.prog .gtr 3 true t12_4 (.int .i64 4000) w5 fun t13_6 w7 =>
  condW t13_6 (
  K (.bool true) w7) (
  fnW Try.prog 42 #[] w7 fun t14_8 w9 =>
  insW Try.prog (Instr.buildSlice 34 0 #[]) w9 fun t15_10 w11 =>
  binW Try.prog .eql 58 true t14_8 (.pointer none) w11 fun t17_12 w13 =>
  condW t17_12 (
  K (.bool false) w13) (
  bindX (endW Try.prog [.tmp 2] K) fun K14 =>
  bindX (seqX (fun f16 w17 =>
  fnW Try.prog 42 #[] w17 fun t70_18 w19 =>
  binW Try.prog .eql 58 true t70_18 (.pointer none) w19 fun t72_20 w21 =>
  condW t72_20 (
  K (.bool false) w21) (
  fnW Try.prog 43 #[t70_18, (f16 0)] w21 fun t75_22 w23 =>
  fnW Try.prog 45 #[t70_18] w23 fun t77_24 w25 =>
  fnW Try.prog 45 #[(f16 3)] w25 fun t79_26 w27 =>
  binW Try.prog .eql 62 false t77_24 t79_26 w27 fun t80_28 w29 =>
  K t80_28 w29)) K14) fun K15 =>
  bindX (blkX 0 K15) fun K30 =>
  loopW (fun f31 w32 K33 =>
  lenW Try.prog (some true) #[56] 3 #[(f31 0)] w32 fun t20_34 w35 =>
  binN Try.prog .lss 3 false (f31 5) t20_34 w35 fun t21_36 w37 =>
  condW t21_36 (
  bindX (seqX (fun f39 w40 =>
  binN Try.prog .add 3 true (f39 5) (.int .i64 1) w40 fun t23_41 w42 =>
  K33 .normal (pf 81 (pf 81 (pf 81 f39 22 (f39 5)) 23 t23_41) 5 t23_41) w42) K33) fun K38 =>
  bindX (blkX 1 K38) fun K43 =>
  idxW (some (none, 1)) (f31 0) (f31 5) w37 fun t26_44 w45 =>
  loadW (some (false, 1)) t26_44 w45 fun t27_46 w47 =>
  fnW Try.prog 27 #[t27_46] w47 fun t28_48 w49 =>
  insW Try.prog (Instr.buildSlice 56 1 #[(0, t28_48)]) w49 fun t31_50 w51 =>
  fnW Try.prog 43 #[(f31 3), t31_50] w51 fun t32_52 w53 =>
  bindX (seqX (fun f55 w56 =>
  idxW (some (none, 1)) (f55 0) (f55 5) w56 fun t48_57 w58 =>
  loadW (some (false, 1)) t48_57 w58 fun t49_59 w60 =>
  insW Try.prog (Builtin.append_ #[34, 34] 34 #[(f55 4), t49_59]) w60 fun t50_61 w62 =>
  fnW Try.prog 44 #[(f55 3)] w62 fun t52_63 w64 =>
  lenW Try.prog (some true) #[34] 3 #[t50_61] w64 fun t54_65 w66 =>
  binN Try.prog .neq 3 false t52_63 t54_65 w66 fun t55_67 w68 =>
  gstep t55_67 false w68 (fun K => K (f55 3) w68) fun t57_69 w70 =>
  gstep t55_67 false w70 (fun K => fnW Try.prog 45 #[t57_69] w70 K) fun t58_71 w72 =>
  gstep t55_67 false w72 (fun K => K t50_61 w72) fun t59_73 w74 =>
  gstep t55_67 false w74 (fun K => fnW Try.prog 46 #[t59_73] w74 K) fun t60_75 w76 =>
  gstep t55_67 false w76 (fun K => binW Try.prog .neq 62 false t58_71 t60_75 w76 K) fun t61_77 w78 =>
  pickW t55_67 (.bool true) t61_77 w78 fun t62_79 w80 =>
  gstep t62_79 false w80 (fun K => K (f55 3) w80) fun t64_81 w82 =>
  gstep t62_79 false w82 (fun K => fnW Try.prog 45 #[t64_81] w82 K) fun t65_83 w84 =>
  gstep t62_79 false w84 (fun K => K (f55 3) w84) fun t66_85 w86 =>
  gstep t62_79 false w86 (fun K => fnW Try.prog 45 #[t66_85] w86 K) fun t67_87 w88 =>
  gstep t62_79 false w88 (fun K => binW Try.prog .neq 62 false t65_83 t67_87 w88 K) fun t68_89 w90 =>
  pickW t62_79 (.bool true) t68_89 w90 fun t69_91 w92 =>
  condW t69_91 (
  K33 .ret (pf 81 (pf 81 (pf 81 (pf 81 (pf 81 (pf 81 (pf 81 (pf 81 (pf 81 (pf 81 (pf 81 (pf 81 (pf 81 (pf 81 (pf 81 (pf 81 (pf 81 (pf 81 (pf 81 (pf 81 (pf 81 (pf 81 (pf 81 (pf 81 (pf 81 (pf 81 (pf 81 f55 45 (f55 4)) 46 (f55 0)) 47 (f55 5)) 48 t48_57) 49 t49_59) 50 t50_61) 4 t50_61) 51 (f55 3)) 52 t52_63) 53 t50_61) 54 t54_65) 55 t55_67) 56 t55_67) 57 t57_69) 58 t58_71) 59 t59_73) 60 t60_75) 61 t61_77) 62 t62_79) 63 t62_79) 64 t64_81) 65 t65_83) 66 t66_85) 67 t67_87) 68 t68_89) 69 t69_91) 2 (.bool false)) w92) (
  K38 .normal (pf 81 (pf 81 (pf 81 (pf 81 (pf 81 (pf 81 (pf 81 (pf 81 (pf 81 (pf 81 (pf 81 (pf 81 (pf 81 (pf 81 (pf 81 (pf 81 (pf 81 (pf 81 (pf 81 (pf 81 (pf 81 (pf 81 (pf 81 (pf 81 (pf 81 (pf 81 f55 45 (f55 4)) 46 (f55 0)) 47 (f55 5)) 48 t48_57) 49 t49_59) 50 t50_61) 4 t50_61) 51 (f55 3)) 52 t52_63) 53 t50_61) 54 t54_65) 55 t55_67) 56 t55_67) 57 t57_69) 58 t58_71) 59 t59_73) 60 t60_75) 61 t61_77) 62 t62_79) 63 t62_79) 64 t64_81) 65 t65_83) 66 t66_85) 67 t67_87) 68 t68_89) 69 t69_91) w92)) K43) fun K54 =>
  bindX (blkX 2 K54) fun K93 =>
  loopW (fun f94 w95 K96 =>
  lenW Try.prog (some true) #[34] 3 #[(f94 6)] w95 fun t35_97 w98 =>
  binN Try.prog .lss 3 false (f94 7) t35_97 w98 fun t36_99 w100 =>
  condW t36_99 (
  idxW (some (none, 1)) (f94 6) (f94 7) w100 fun t41_101 w102 =>
  loadW (some (false, 1)) t41_101 w102 fun t42_103 w104 =>
  binN Try.prog .add 5 true t42_103 (.int .u8 1) w104 fun t43_105 w106 =>
  idxW (some (none, 1)) (f94 6) (f94 7) w106 fun t44_107 w108 =>
  storeW (some (false, 1)) t44_107 t43_105 w108 fun w109 =>
  binN Try.prog .add 3 true (f94 7) (.int .i64 1) w109 fun t38_110 w111 =>
  K96 .normal (pf 81 (pf 81 (pf 81 (pf 81 (pf 81 (pf 81 (pf 81 (pf 81 (pf 81 (pf 81 (pf 81 (pf 81 (pf 81 f94 33 (f94 7)) 34 (f94 6)) 35 t35_97) 36 t36_99) 39 (f94 6)) 40 (f94 7)) 41 t41_101) 42 t42_103) 43 t43_105) 44 t44_107) 37 (f94 7)) 38 t38_110) 7 t38_110) w111) (
  K96 (.exit 2) (pf 81 (pf 81 (pf 81 (pf 81 f94 33 (f94 7)) 34 (f94 6)) 35 t35_97) 36 t36_99) w100)) (pf 81 (pf 81 (pf 81 (pf 81 (pf 81 (pf 81 (pf 81 (pf 81 (pf 81 (pf 81 (pf 81 (pf 81 (pf 81 (pf 81 (pf 81 f31 18 (f31 5)) 19 (f31 0)) 20 t20_34) 21 t21_36) 24 (f31 0)) 25 (f31 5)) 26 t26_44) 27 t27_46) 28 t28_48) 6 t28_48) 29 (f31 3)) 30 t28_48) 31 t31_50) 32 t32_52) 7 (.int .i64 0)) w53 K93) (
  K33 (.exit 0) (pf 81 (pf 81 (pf 81 (pf 81 f31 18 (f31 5)) 19 (f31 0)) 20 t20_34) 21 t21_36) w37)) (pf 81 (pf 81 (pf 81 (pf 81 (pf 81 (pf 81 (pf 81 (pf 81 (pf 81 (pf 81 (pf 81 (pf 81 (pf 81 (argF [x0]) 2 (.bool false)) 9 t9_0) 10 t10_2) 11 x0) 12 t12_4) 13 t13_6) 14 t14_8) 3 t14_8) 15 t15_10) 4 t15_10) 16 t14_8) 17 t17_12) 5 (.int .i64 0)) w13 K30)))
theorem c8_eq (x0 : Value) (w : World) (K : VPost) : c8 x0 w K = WP true Try.prog 81 [] (bodyOf Try.f8) (argF [x0]) w [.tmp 2] K := by kernel_rfl
theorem c8_calls (x0 : Value) (w : World) (K : VPost) (h : c8 x0 w K) : Calls Try.prog 8 #[x0] w (retK K) :=
  calls_of_WP (c8_eq x0 w K) mixedG Try.func8 (by kernel_rfl) Try.ntmps8 (by kernel_rfl) (by kernel_rfl) h

/-- imprimatur/imprimaturlaw01.ShaForks -/
def c9 (x0 x1 x2 : Value) (w : World) (K : VPost) : Prop :=
  fnW Try.prog 40 #[] w fun t11_0 w1 =>
  unN Try.prog .not t11_0 w1 fun t12_2 w3 =>
  condW t12_2 (
  K (.bool false) w3) (
  lenW Try.prog (some true) #[34] 3 #[x0] w3 fun t14_4 w5 =>
  binN Try.prog .gtr 3 true t14_4 (.int .i64 1000) w5 fun t15_6 w7 =>
  gstep t15_6 false w7 (fun K => K x1 w7) fun t17_8 w9 =>
  gstep t15_6 false w9 (fun K => lenW Try.prog (some true) #[34] 3 #[t17_8] w9 K) fun t18_10 w11 =>
  gstep t15_6 false w11 (fun K => binN Try.prog .gtr 3 true t18_10 (.int .i64 1000) w11 K) fun t19_12 w13 =>
  pickW t15_6 (.bool true) t19_12 w13 fun t20_14 w15 =>
  gstep t20_14 false w15 (fun K => K x2 w15) fun t22_16 w17 =>
  gstep t20_14 false w17 (fun K => lenW Try.prog (some true) #[34] 3 #[t22_16] w17 K) fun t23_18 w19 =>
  gstep t20_14 false w19 (fun K => binN Try.prog .gtr 3 true t23_18 (.int .i64 1000) w19 K) fun t24_20 w21 =>
  pickW t20_14 (.bool true) t24_20 w21 fun t25_22 w23 =>
  condW t25_22 (
  K (.bool true) w23) (
  fnW Try.prog 42 #[] w23 fun t26_24 w25 =>
  binW Try.prog .eql 58 true t26_24 (.pointer none) w25 fun t28_26 w27 =>
  condW t28_26 (
  K (.bool false) w27) (
  insW Try.prog (Instr.buildSlice 56 1 #[(0, x0)]) w27 fun t31_28 w29 =>
  fnW Try.prog 43 #[t26_24, t31_28] w29 fun t32_30 w31 =>
  fnW Try.prog 47 #[t26_24] w31 fun t34_32 w33 =>
  binW Try.prog .eql 58 true t34_32 (.pointer none) w33 fun t36_34 w35 =>
  condW t36_34 (
  K (.bool false) w35) (
  insW Try.prog (Instr.buildSlice 56 1 #[(0, x1)]) w35 fun t39_36 w37 =>
  fnW Try.prog 43 #[t34_32, t39_36] w37 fun t40_38 w39 =>
  insW Try.prog (Instr.buildSlice 56 1 #[(0, x2)]) w39 fun t43_40 w41 =>
  fnW Try.prog 43 #[t26_24, t43_40] w41 fun t44_42 w43 =>
  fnW Try.prog 27 #[x0] w43 fun t46_44 w45 =>
  insW Try.prog (Builtin.append_ #[34, 34] 34 #[t46_44, x1]) w45 fun t48_46 w47 =>
  fnW Try.prog 27 #[x0] w47 fun t50_48 w49 =>
  insW Try.prog (Builtin.append_ #[34, 34] 34 #[t50_48, x2]) w49 fun t52_50 w51 =>
  fnW Try.prog 45 #[t34_32] w51 fun t54_52 w53 =>
  fnW Try.prog 46 #[t48_46] w53 fun t56_54 w55 =>
  binW Try.prog .eql 62 false t54_52 t56_54 w55 fun t57_56 w57 =>
  gstep t57_56 true w57 (fun K => K t26_24 w57) fun t59_58 w59 =>
  gstep t57_56 true w59 (fun K => fnW Try.prog 45 #[t59_58] w59 K) fun t60_60 w61 =>
  gstep t57_56 true w61 (fun K => K t52_50 w61) fun t61_62 w63 =>
  gstep t57_56 true w63 (fun K => fnW Try.prog 46 #[t61_62] w63 K) fun t62_64 w65 =>
  gstep t57_56 true w65 (fun K => binW Try.prog .eql 62 false t60_60 t62_64 w65 K) fun t63_66 w67 =>
  pickW t57_56 t63_66 (.bool false) w67 fun t64_68 w69 =>
  K t64_68 w69))))
theorem c9_eq (x0 x1 x2 : Value) (w : World) (K : VPost) : c9 x0 x1 x2 w K = WP true Try.prog 65 [] (bodyOf Try.f9) (argF [x0, x1, x2]) w [.tmp 6] K := by kernel_rfl
theorem c9_calls (x0 x1 x2 : Value) (w : World) (K : VPost) (h : c9 x0 x1 x2 w K) : Calls Try.prog 9 #[x0, x1, x2] w (retK K) :=
  calls_of_WP (c9_eq x0 x1 x2 w K) mixedG Try.func9 (by kernel_rfl) Try.ntmps9 (by kernel_rfl) (by kernel_rfl) h

/-- imprimatur/imprimaturlaw01.ShaPads -/
def c10 (x0 : Value) (w : World) (K : VPost) : Prop :=
  fnW Try.prog 40 #[] w fun t6_0 w1 =>
  unN Try.prog .not t6_0 w1 fun t7_2 w3 =>
  condW t7_2 (
  K (.bool false) w3) (
  fnW Try.prog 48 #[x0] w3 fun t9_4 w5 =>
  binN Try.prog .lss 3 true x0 (.int .i64 0) w5 fun t11_6 w7 =>
  gstep t11_6 false w7 (fun K => K x0 w7) fun t13_8 w9 =>
  gstep t11_6 false w9 (fun K => binN Try.prog .gtr 3 true t13_8 (.int .i64 1125899906842624) w9 K) fun t14_10 w11 =>
  pickW t11_6 (.bool true) t14_10 w11 fun t15_12 w13 =>
  condW t15_12 (
  lenW Try.prog (some true) #[34] 3 #[t9_4] w13 fun t17_14 w15 =>
  binN Try.prog .eql 3 true t17_14 (.int .i64 0) w15 fun t18_16 w17 =>
  K t18_16 w17) (
  lenW Try.prog (some true) #[34] 3 #[t9_4] w13 fun t20_18 w19 =>
  binN Try.prog .lss 3 true t20_18 (.int .i64 9) w19 fun t21_20 w21 =>
  gstep t21_20 false w21 (fun K => K t9_4 w21) fun t23_22 w23 =>
  gstep t21_20 false w23 (fun K => lenW Try.prog (some true) #[34] 3 #[t23_22] w23 K) fun t24_24 w25 =>
  gstep t21_20 false w25 (fun K => binN Try.prog .gtr 3 true t24_24 (.int .i64 72) w25 K) fun t25_26 w27 =>
  pickW t21_20 (.bool true) t25_26 w27 fun t26_28 w29 =>
  gstep t26_28 false w29 (fun K => K x0 w29) fun t28_30 w31 =>
  gstep t26_28 false w31 (fun K => K t9_4 w31) fun t29_32 w33 =>
  gstep t26_28 false w33 (fun K => lenW Try.prog (some true) #[34] 3 #[t29_32] w33 K) fun t30_34 w35 =>
  gstep t26_28 false w35 (fun K => binN Try.prog .add 3 false t28_30 t30_34 w35 K) fun t31_36 w37 =>
  gstep t26_28 false w37 (fun K => binN Try.prog .rem 3 true t31_36 (.int .i64 64) w37 K) fun t32_38 w39 =>
  gstep t26_28 false w39 (fun K => binN Try.prog .neq 3 true t32_38 (.int .i64 0) w39 K) fun t33_40 w41 =>
  pickW t26_28 (.bool true) t33_40 w41 fun t34_42 w43 =>
  gstep t34_42 false w43 (fun K => K t9_4 w43) fun t36_44 w45 =>
  gstep t34_42 false w45 (fun K => idxW (some (none, 1)) t36_44 (.int .i64 0) w45 K) fun t37_46 w47 =>
  gstep t34_42 false w47 (fun K => loadW (some (false, 1)) t37_46 w47 K) fun t38_48 w49 =>
  gstep t34_42 false w49 (fun K => binN Try.prog .neq 5 true t38_48 (.int .u8 128) w49 K) fun t39_50 w51 =>
  pickW t34_42 (.bool true) t39_50 w51 fun t40_52 w53 =>
  condW t40_52 (
  K (.bool false) w53) (
  bindX (endW Try.prog [.tmp 2] K) fun K54 =>
  bindX (seqX (fun f56 w57 =>
  binN Try.prog .mul 3 true (.int .i64 8) (f56 0) w57 fun t71_58 w59 =>
  binN Try.prog .eql 3 false (f56 4) t71_58 w59 fun t72_60 w61 =>
  K t72_60 w61) K54) fun K55 =>
  bindX (blkX 0 K55) fun K62 =>
  loopW (fun f63 w64 K65 =>
  lenW Try.prog (some true) #[34] 3 #[(f63 3)] w64 fun t43_66 w67 =>
  binN Try.prog .lss 3 false (f63 5) t43_66 w67 fun t44_68 w69 =>
  condW t44_68 (
  bindX (seqX (fun f71 w72 =>
  binN Try.prog .add 3 true (f71 5) (.int .i64 1) w72 fun t46_73 w74 =>
  K65 .normal (pf 73 (pf 73 (pf 73 f71 45 (f71 5)) 46 t46_73) 5 t46_73) w74) K65) fun K70 =>
  bindX (blkX 1 K70) fun K75 =>
  lenW Try.prog (some true) #[34] 3 #[(f63 3)] w69 fun t49_76 w77 =>
  binN Try.prog .sub 3 true t49_76 (.int .i64 8) w77 fun t50_78 w79 =>
  binN Try.prog .geq 3 false (f63 5) t50_78 w79 fun t51_80 w81 =>
  condW t51_80 (
  binN Try.prog .shl 3 true (f63 4) (.int .u64 8) w81 fun t53_82 w83 =>
  idxW (some (none, 1)) (f63 3) (f63 5) w83 fun t56_84 w85 =>
  loadW (some (false, 1)) t56_84 w85 fun t57_86 w87 =>
  convN Try.prog 5 3 t57_86 w87 fun t58_88 w89 =>
  binN Try.prog .or 3 false t53_82 t58_88 w89 fun t59_90 w91 =>
  K70 .normal (pf 73 (pf 73 (pf 73 (pf 73 (pf 73 (pf 73 (pf 73 (pf 73 (pf 73 (pf 73 (pf 73 (pf 73 (pf 73 (pf 73 (pf 73 (pf 73 (pf 73 (pf 73 f63 41 (f63 5)) 42 (f63 3)) 43 t43_66) 44 t44_68) 47 (f63 5)) 48 (f63 3)) 49 t49_76) 50 t50_78) 51 t51_80) 52 (f63 4)) 53 t53_82) 54 (f63 3)) 55 (f63 5)) 56 t56_84) 57 t57_86) 58 t58_88) 59 t59_90) 4 t59_90) w91) (
  binN Try.prog .gtr 3 true (f63 5) (.int .i64 0) w81 fun t61_92 w93 =>
  gstep t61_92 true w93 (fun K => K (f63 3) w93) fun t63_94 w95 =>
  gstep t61_92 true w95 (fun K => K (f63 5) w95) fun t64_96 w97 =>
  gstep t61_92 true w97 (fun K => idxW (some (none, 1)) t63_94 t64_96 w97 K) fun t65_98 w99 =>
  gstep t61_92 true w99 (fun K => loadW (some (false, 1)) t65_98 w99 K) fun t66_100 w101 =>
  gstep t61_92 true w101 (fun K => binN Try.prog .neq 5 true t66_100 (.int .u8 0) w101 K) fun t67_102 w103 =>
  pickW t61_92 t67_102 (.bool false) w103 fun t68_104 w105 =>
  condW t68_104 (
  K65 .ret (pf 73 (pf 73 (pf 73 (pf 73 (pf 73 (pf 73 (pf 73 (pf 73 (pf 73 (pf 73 (pf 73 (pf 73 (pf 73 (pf 73 (pf 73 (pf 73 (pf 73 (pf 73 (pf 73 f63 41 (f63 5)) 42 (f63 3)) 43 t43_66) 44 t44_68) 47 (f63 5)) 48 (f63 3)) 49 t49_76) 50 t50_78) 51 t51_80) 60 (f63 5)) 61 t61_92) 62 t61_92) 63 t63_94) 64 t64_96) 65 t65_98) 66 t66_100) 67 t67_102) 68 t68_104) 2 (.bool false)) w105) (
  K70 .normal (pf 73 (pf 73 (pf 73 (pf 73 (pf 73 (pf 73 (pf 73 (pf 73 (pf 73 (pf 73 (pf 73 (pf 73 (pf 73 (pf 73 (pf 73 (pf 73 (pf 73 (pf 73 f63 41 (f63 5)) 42 (f63 3)) 43 t43_66) 44 t44_68) 47 (f63 5)) 48 (f63 3)) 49 t49_76) 50 t50_78) 51 t51_80) 60 (f63 5)) 61 t61_92) 62 t61_92) 63 t63_94) 64 t64_96) 65 t65_98) 66 t66_100) 67 t67_102) 68 t68_104) w105))) (
  K65 (.exit 0) (pf 73 (pf 73 (pf 73 (pf 73 f63 41 (f63 5)) 42 (f63 3)) 43 t43_66) 44 t44_68) w69)) (pf 73 (pf 73 (pf 73 (pf 73 (pf 73 (pf 73 (pf 73 (pf 73 (pf 73 (pf 73 (pf 73 (pf 73 (pf 73 (pf 73 (pf 73 (pf 73 (pf 73 (pf 73 (pf 73 (pf 73 (pf 73 (pf 73 (pf 73 (pf 73 (pf 73 (pf 73 (pf 73 (pf 73 (pf 73 (pf 73 (pf 73 (pf 73 (pf 73 (pf 73 (pf 73 (pf 73 (argF [x0]) 2 (.bool false)) 6 t6_0) 7 t7_2) 8 x0) 9 t9_4) 3 t9_4) 10 x0) 11 t11_6) 12 t11_6) 13 t13_8) 14 t14_10) 15 t15_12) 19 t9_4) 20 t20_18) 21 t21_20) 22 t21_20) 23 t23_22) 24 t24_24) 25 t25_26) 26 t26_28) 27 t26_28) 28 t28_30) 29 t29_32) 30 t30_34) 31 t31_36) 32 t32_38) 33 t33_40) 34 t34_42) 35 t34_42) 36 t36_44) 37 t37_46) 38 t38_48) 39 t39_50) 40 t40_52) 4 (.int .i64 0)) 5 (.int .i64 0)) w53 K62)))
theorem c10_eq (x0 : Value) (w : World) (K : VPost) : c10 x0 w K = WP true Try.prog 73 [] (bodyOf Try.f10) (argF [x0]) w [.tmp 2] K := by kernel_rfl
theorem c10_calls (x0 : Value) (w : World) (K : VPost) (h : c10 x0 w K) : Calls Try.prog 10 #[x0] w (retK K) :=
  calls_of_WP (c10_eq x0 w K) mixedG Try.func10 (by kernel_rfl) Try.ntmps10 (by kernel_rfl) (by kernel_rfl) h

/-- imprimatur/imprimaturlaw01.ShaSums -/
def c11 (x0 x1 x2 x3 : Value) (w : World) (K : VPost) : Prop :=
  boxW 70 x1 w fun t5_0 w1 =>
  boxW 32 x2 w1 fun t6_2 w3 =>
  fnW Try.prog 40 #[] w3 fun t10_4 w5 =>
  unN Try.prog .not t10_4 w5 fun t11_6 w7 =>
  condW t11_6 (
  K (.bool false) w7) (
  lenW Try.prog (some true) #[34] 3 #[x0] w7 fun t13_8 w9 =>
  binN Try.prog .gtr 3 true t13_8 (.int .i64 1000) w9 fun t14_10 w11 =>
  condW t14_10 (
  K (.bool true) w11) (
  fnW Try.prog 27 #[x0] w11 fun t16_12 w13 =>
  fnW Try.prog 46 #[t16_12] w13.drew fun t18_14 w15 =>
  fnW Try.prog 49 #[x0] w15 fun t20_16 w17 =>
  binW Try.prog .eql 62 false t18_14 t20_16 w17 fun t21_18 w19 =>
  w19 = w17 ∧
  gstep t21_18 true w19 (fun K => loadW (some (true, 8)) t5_0 w19 K) fun t23_20 w21 =>
  gstep t21_18 true w21 (fun K => loadW (some (true, 64)) t6_2 w21 K) fun t24_22 w23 =>
  gstep t21_18 true w23 (fun K => loadW (some (true, 8)) t5_0 w23 K) fun t26_24 w25 =>
  gstep t21_18 true w25 (fun K => loadW (some (true, 64)) t6_2 w25 K) fun t27_26 w27 =>
  gstep t21_18 true w27 (fun K => fnW Try.prog 50 #[t23_20, t24_22] w27 K) fun t25_28 w29 =>
  (gstep t21_18 true w29 (fun K => loadW (some (true, 8)) t5_0 w29 K) fun t26_30 w31 => t26_30 = t26_24 ∧ w31 = w29) ∧
  (gstep t21_18 true w29 (fun K => loadW (some (true, 64)) t6_2 w29 K) fun t27_32 w33 => t27_32 = t27_26 ∧ w33 = w29) ∧
  gstep t21_18 true w29 (fun K => fnW Try.prog 51 #[t26_24, t27_26] w29 K) fun t28_34 w35 =>
  gstep t21_18 true w35 (fun K => binW Try.prog .eql 70 false t25_28 t28_34 w35 K) fun t29_36 w37 =>
  w37 = w35 ∧
  pickW t21_18 t29_36 (.bool false) w37 fun t30_38 w39 =>
  gstep t30_38 true w39 (fun K => K x3 w39) fun t32_40 w41 =>
  gstep t30_38 true w41 (fun K => K x3 w41) fun t34_42 w43 =>
  gstep t30_38 true w43 (fun K => fnW Try.prog 48 #[t32_40] w43 K) fun t33_44 w45 =>
  gstep t30_38 true w45 (fun K => fnW Try.prog 52 #[t34_42] w45 K) fun t35_46 w47 =>
  gstep t30_38 true w47 (fun K => fnW Try.prog 30 #[t33_44, t35_46] w47 K) fun t36_48 w49 =>
  pickW t30_38 t36_48 (.bool false) w49 fun t37_50 w51 =>
  gstep t37_50 true w51 (fun K => K t16_12 w51) fun t39_52 w53 =>
  gstep t37_50 true w53 (fun K => K x0 w53) fun t40_54 w55 =>
  gstep t37_50 true w55 (fun K => fnW Try.prog 30 #[t39_52, t40_54] w55 K) fun t41_56 w57 =>
  pickW t37_50 t41_56 (.bool false) w57 fun t42_58 w59 =>
  K t42_58 w59))
theorem c11_eq (x0 x1 x2 x3 : Value) (w : World) (K : VPost) : c11 x0 x1 x2 x3 w K = WP true Try.prog 43 [(6, 17631498, [0, 1, 0, 6, 10, 24, 32, 32, 224, 32, 32, 1824, 2336, 4128, 10240, 16384, 49152, 16384, 212992, 344064, 540672, 1572864, 2097152, 2097152, 14680064, 18874368, 67108863], [0, 1, 0, 7, 15, 31, 63, 63, 255, 63, 63, 2047, 4095, 8191, 16383, 32767, 65535, 32767, 262143, 524287, 1048575, 2097151, 4194303, 4194303, 16777215, 33554431, 67108863])] (bodyOf Try.f11) (argF [x0, x1, x2, x3]) w [.tmp 8] K := by kernel_rfl
theorem c11_calls (x0 x1 x2 x3 : Value) (w : World) (K : VPost) (h : c11 x0 x1 x2 x3 w K) : Calls Try.prog 11 #[x0, x1, x2, x3] w (retK K) :=
  calls_of_WP (c11_eq x0 x1 x2 x3 w K) mixedG Try.func11 (by kernel_rfl) Try.ntmps11 (by kernel_rfl) (by kernel_rfl) h

/-- imprimatur/imprimaturlaw01.ShaBlocks -/
def c12 (x0 : Value) (w : World) (K : VPost) : Prop :=
  fnW Try.prog 40 #[] w fun t11_0 w1 =>
  unN Try.prog .not t11_0 w1 fun t12_2 w3 =>
  condW t12_2 (
  K (.bool false) w3) (
  lenW Try.prog (some true) #[73] 3 #[x0] w3 fun t14_4 w5 =>
  binN Try.prog .gtr 3 true t14_4 (.int .i64 20) w5 fun t15_6 w7 =>
  condW t15_6 (
  K (.bool true) w7) (
  insW Try.prog (Instr.buildSlice 34 0 #[]) w7 fun t16_8 w9 =>
  insW Try.prog (Instr.build 70 #[(0, (.int .u32 1779033703)), (1, (.int .u32 3144134277)), (2, (.int .u32 1013904242)), (3, (.int .u32 2773480762)), (4, (.int .u32 1359893119)), (5, (.int .u32 2600822924)), (6, (.int .u32 528734635)), (7, (.int .u32 1541459225))]) w9 fun t17_10 w11 =>
  allocW (zeroO Try.prog 70) 70 w11 fun t4_12 w13 =>
  storeW (some (true, 8)) t4_12 t17_10 w13 fun w14 =>
  bindX (endW Try.prog [.tmp 2] K) fun K15 =>
  bindX (seqX (fun f17 w18 =>
  lenW Try.prog (some true) #[34] 3 #[(f17 3)] w18 fun t37_19 w20 =>
  fnW Try.prog 48 #[t37_19] w20 fun t38_21 w22 =>
  lenW Try.prog (some true) #[34] 3 #[t38_21] w22 fun t40_23 w24 =>
  binN Try.prog .neq 3 true t40_23 (.int .i64 64) w24 fun t41_25 w26 =>
  condW t41_25 (
  K (.bool false) w26) (
  insW Try.prog (Instr.build 32 #[]) w26 fun t42_27 w28 =>
  allocW (zeroO Try.prog 32) 32 w28 fun t7_29 w30 =>
  storeW (some (true, 64)) t7_29 t42_27 w30 fun w31 =>
  bindX (seqX (fun f33 w34 =>
  loadW (some (true, 8)) (f33 4) w34 fun t53_35 w36 =>
  loadW (some (true, 64)) (f33 7) w36 fun t54_37 w38 =>
  fnW Try.prog 50 #[t53_35, t54_37] w38 fun t55_39 w40 =>
  storeW (some (true, 8)) (f33 4) t55_39 w40 fun w41 =>
  fnW Try.prog 46 #[(f33 3)] w41 fun t57_42 w43 =>
  allocW (zeroO Try.prog 62) 62 w43 fun t9_44 w45 =>
  storeW (some (true, 32)) t9_44 t57_42 w45 fun w46 =>
  bindX (seqX (fun f48 w49 =>
  K (.bool true) w49) K15) fun K47 =>
  bindX (blkX 4 K47) fun K50 =>
  loopW (fun f51 w52 K53 =>
  binN Try.prog .lss 3 true (f51 10) (.int .i64 32) w52 fun t59_54 w55 =>
  condW t59_54 (
  idxW (some ((some 32), 1)) (f51 9) (f51 10) w55.drew fun t63_56 w57 =>
  loadW (some (false, 1)) t63_56 w57 fun t64_58 w59 =>
  binN Try.prog .quo 3 true (f51 10) (.int .i64 4) w59 fun t66_60 w61 =>
  idxW (some ((some 8), 1)) (f51 4) t66_60 w61 fun t67_62 w63 =>
  loadW (some (false, 1)) t67_62 w63 fun t68_64 w65 =>
  binN Try.prog .and 3 true (f51 10) (.int .i64 3) w65 fun t70_66 w67 =>
  binN Try.prog .mul 3 true (.int .i64 8) t70_66 w67 fun t71_68 w69 =>
  binN Try.prog .sub 3 true (.int .i64 24) t71_68 w69 fun t72_70 w71 =>
  convN Try.prog 3 54 t72_70 w71 fun t73_72 w73 =>
  binN Try.prog .shr 69 false t68_64 t73_72 w73 fun t74_74 w75 =>
  convN Try.prog 69 5 t74_74 w75 fun t75_76 w77 =>
  binN Try.prog .neq 5 false t64_58 t75_76 w77 fun t76_78 w79 =>
  condW t76_78 (
  K53 .ret (pf 77 (pf 77 (pf 77 (pf 77 (pf 77 (pf 77 (pf 77 (pf 77 (pf 77 (pf 77 (pf 77 (pf 77 (pf 77 (pf 77 (pf 77 (pf 77 (pf 77 (pf 77 f51 58 (f51 10)) 59 t59_54) 62 (f51 10)) 63 t63_56) 64 t64_58) 65 (f51 10)) 66 t66_60) 67 t67_62) 68 t68_64) 69 (f51 10)) 70 t70_66) 71 t71_68) 72 t72_70) 73 t73_72) 74 t74_74) 75 t75_76) 76 t76_78) 2 (.bool false)) w79) (
  binN Try.prog .add 3 true (f51 10) (.int .i64 1) w79 fun t61_80 w81 =>
  K53 .normal (pf 77 (pf 77 (pf 77 (pf 77 (pf 77 (pf 77 (pf 77 (pf 77 (pf 77 (pf 77 (pf 77 (pf 77 (pf 77 (pf 77 (pf 77 (pf 77 (pf 77 (pf 77 (pf 77 (pf 77 f51 58 (f51 10)) 59 t59_54) 62 (f51 10)) 63 t63_56) 64 t64_58) 65 (f51 10)) 66 t66_60) 67 t67_62) 68 t68_64) 69 (f51 10)) 70 t70_66) 71 t71_68) 72 t72_70) 73 t73_72) 74 t74_74) 75 t75_76) 76 t76_78) 60 (f51 10)) 61 t61_80) 10 t61_80) w81)) (
  K53 (.exit 4) (pf 77 (pf 77 f51 58 (f51 10)) 59 t59_54) w55)) (pf 77 (pf 77 (pf 77 (pf 77 (pf 77 (pf 77 (pf 77 f33 53 t53_35) 54 t54_37) 55 t55_39) 56 (f33 3)) 57 t57_42) 9 t9_44) 10 (.int .i64 0)) w46 K50) K15) fun K32 =>
  bindX (blkX 2 K32) fun K82 =>
  loopW (fun f83 w84 K85 =>
  binN Try.prog .lss 3 true (f83 8) (.int .i64 64) w84 fun t44_86 w87 =>
  condW t44_86 (
  idxW (some (none, 1)) (f83 6) (f83 8) w87 fun t50_88 w89 =>
  loadW (some (false, 1)) t50_88 w89 fun t51_90 w91 =>
  idxW (some ((some 64), 1)) (f83 7) (f83 8) w91 fun t52_92 w93 =>
  storeW (some (false, 1)) t52_92 t51_90 w93 fun w94 =>
  binN Try.prog .add 3 true (f83 8) (.int .i64 1) w94 fun t46_95 w96 =>
  K85 .normal (pf 77 (pf 77 (pf 77 (pf 77 (pf 77 (pf 77 (pf 77 (pf 77 (pf 77 (pf 77 (pf 77 f83 43 (f83 8)) 44 t44_86) 47 (f83 8)) 48 (f83 6)) 49 (f83 8)) 50 t50_88) 51 t51_90) 52 t52_92) 45 (f83 8)) 46 t46_95) 8 t46_95) w96) (
  K85 (.exit 2) (pf 77 (pf 77 f83 43 (f83 8)) 44 t44_86) w87)) (pf 77 (pf 77 (pf 77 (pf 77 (pf 77 (pf 77 (pf 77 (pf 77 (pf 77 (pf 77 f17 36 (f17 3)) 37 t37_19) 38 t38_21) 6 t38_21) 39 t38_21) 40 t40_23) 41 t41_25) 42 t42_27) 7 t7_29) 8 (.int .i64 0)) w31 K82)) K15) fun K16 =>
  bindX (blkX 0 K16) fun K97 =>
  loopW (fun f98 w99 K100 =>
  lenW Try.prog (some true) #[73] 3 #[(f98 0)] w99 fun t20_101 w102 =>
  binN Try.prog .lss 3 false (f98 5) t20_101 w102 fun t21_103 w104 =>
  condW t21_103 (
  idxW (some (none, 64)) (f98 0) (f98 5) w104 fun t27_105 w106 =>
  sliceW (.arr 64 1) t27_105 none none none w106 fun t28_107 w108 =>
  insW Try.prog (Builtin.append_ #[34, 34] 34 #[(f98 3), t28_107]) w108 fun t29_109 w110 =>
  loadW (some (true, 8)) (f98 4) w110.drew fun t30_111 w112 =>
  idxW (some (none, 64)) (f98 0) (f98 5) w112 fun t33_113 w114 =>
  loadW (some (true, 64)) t33_113 w114 fun t34_115 w116 =>
  fnW Try.prog 50 #[t30_111, t34_115] w116 fun t35_117 w118 =>
  storeW (some (true, 8)) (f98 4) t35_117 w118 fun w119 =>
  binN Try.prog .add 3 true (f98 5) (.int .i64 1) w119 fun t23_120 w121 =>
  K100 .normal (pf 77 (pf 77 (pf 77 (pf 77 (pf 77 (pf 77 (pf 77 (pf 77 (pf 77 (pf 77 (pf 77 (pf 77 (pf 77 (pf 77 (pf 77 (pf 77 (pf 77 (pf 77 (pf 77 (pf 77 f98 18 (f98 5)) 19 (f98 0)) 20 t20_101) 21 t21_103) 24 (f98 3)) 25 (f98 0)) 26 (f98 5)) 27 t27_105) 28 t28_107) 29 t29_109) 3 t29_109) 30 t30_111) 31 (f98 0)) 32 (f98 5)) 33 t33_113) 34 t34_115) 35 t35_117) 22 (f98 5)) 23 t23_120) 5 t23_120) w121) (
  K100 (.exit 0) (pf 77 (pf 77 (pf 77 (pf 77 f98 18 (f98 5)) 19 (f98 0)) 20 t20_101) 21 t21_103) w104)) (pf 77 (pf 77 (pf 77 (pf 77 (pf 77 (pf 77 (pf 77 (pf 77 (pf 77 (pf 77 (pf 77 (argF [x0]) 2 (.bool false)) 11 t11_0) 12 t12_2) 13 x0) 14 t14_4) 15 t15_6) 16 t16_8) 3 t16_8) 17 t17_10) 4 t4_12) 5 (.int .i64 0)) w14 K97))
theorem c12_eq (x0 : Value) (w : World) (K : VPost) : c12 x0 w K = WP true Try.prog 77 [(11, 96, [0, 0, 0, 6, 8, 17, 63], [0, 0, 0, 6, 14, 31, 63]), (25, 0, [0, 1, 2, 0, 8, 16, 32, 0, 128, 256, 512, 1024, 2112, 4096, 8196], [0, 1, 3, 0, 8, 24, 56, 0, 128, 384, 896, 1920, 4088, 8184, 16383])] (bodyOf Try.f12) (argF [x0]) w [.tmp 2] K := by kernel_rfl
theorem c12_calls (x0 : Value) (w : World) (K : VPost) (h : c12 x0 w K) : Calls Try.prog 12 #[x0] w (retK K) :=
  calls_of_WP (c12_eq x0 w K) mixedG Try.func12 (by kernel_rfl) Try.ntmps12 (by kernel_rfl) (by kernel_rfl) h

end Go.Proofs.Ytedebapgmfnflaa
