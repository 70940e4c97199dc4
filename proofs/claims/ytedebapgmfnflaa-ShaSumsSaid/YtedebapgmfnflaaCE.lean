/- The clean forms of some of the program's functions, written by a program of ours; each is the model's own by the kernel's reckoning. -/
import Derived.Test.YtedebapgmfnflaaG7
import Derived.KernelRfl
namespace Go.Proofs.Ytedebapgmfnflaa
open Go
set_option maxRecDepth 100000

/-- imprimatur/imprimaturref00.CopyBytes -/
def c27 (x0 : Value) (w : World) (K : VPost) : Prop :=
  insW Try.prog (Instr.buildSlice 34 0 #[]) w fun t4_0 w1 =>
  insW Try.prog (Builtin.append_ #[34, 34] 34 #[t4_0, x0]) w1 fun t7_2 w3 =>
  K t7_2 w3
theorem c27_eq (x0 : Value) (w : World) (K : VPost) : c27 x0 w K = WP false Try.prog 9 [] (bodyOf Try.f27) (argF [x0]) w [.tmp 2] K := by kernel_rfl
theorem c27_calls (x0 : Value) (w : World) (K : VPost) (h : c27 x0 w K) : Calls Try.prog 27 #[x0] w (retK K) :=
  calls_of_WP (c27_eq x0 w K) mixedG Try.func27 (by kernel_rfl) Try.ntmps27 (by kernel_rfl) (by kernel_rfl) h

/-- imprimatur/imprimaturref00.SameBytes -/
def c30 (x0 x1 : Value) (w : World) (K : VPost) : Prop :=
  lenW Try.prog (some true) #[34] 3 #[x0] w fun t7_0 w1 =>
  lenW Try.prog (some true) #[34] 3 #[x1] w1 fun t9_2 w3 =>
  binW Try.prog .neq 3 false t7_0 t9_2 w3 fun t10_4 w5 =>
  condW t10_4 (
  K (.bool false) w5) (
  bindX (endW Try.prog [.tmp 4] K) fun K6 =>
  bindX (seqX (fun f8 w9 =>
  K (.bool true) w9) K6) fun K7 =>
  bindX (blkX 0 K7) fun K10 =>
  loopW (fun f11 w12 K13 =>
  lenW Try.prog (some true) #[34] 3 #[(f11 0)] w12 fun t13_14 w15 =>
  binW Try.prog .lss 3 false (f11 5) t13_14 w15 fun t14_16 w17 =>
  condW t14_16 (
  idxW (some (none, 1)) (f11 0) (f11 5) w17.drew fun t19_18 w19 =>
  loadW (some (false, 1)) t19_18 w19 fun t20_20 w21 =>
  idxW (some (none, 1)) (f11 1) (f11 5) w21 fun t23_22 w23 =>
  loadW (some (false, 1)) t23_22 w23 fun t24_24 w25 =>
  binW Try.prog .neq 5 false t20_20 t24_24 w25 fun t25_26 w27 =>
  w27 = w25 ∧
  condW t25_26 (
  K13 .ret (pf 26 (pf 26 (pf 26 (pf 26 (pf 26 (pf 26 (pf 26 (pf 26 (pf 26 (pf 26 (pf 26 (pf 26 (pf 26 (pf 26 f11 11 (f11 5)) 12 (f11 0)) 13 t13_14) 14 t14_16) 17 (f11 0)) 18 (f11 5)) 19 t19_18) 20 t20_20) 21 (f11 1)) 22 (f11 5)) 23 t23_22) 24 t24_24) 25 t25_26) 4 (.bool false)) w27) (
  binW Try.prog .add 3 true (f11 5) (.int .i64 1) w27 fun t16_28 w29 =>
  K13 .normal (pf 26 (pf 26 (pf 26 (pf 26 (pf 26 (pf 26 (pf 26 (pf 26 (pf 26 (pf 26 (pf 26 (pf 26 (pf 26 (pf 26 (pf 26 (pf 26 f11 11 (f11 5)) 12 (f11 0)) 13 t13_14) 14 t14_16) 17 (f11 0)) 18 (f11 5)) 19 t19_18) 20 t20_20) 21 (f11 1)) 22 (f11 5)) 23 t23_22) 24 t24_24) 25 t25_26) 15 (f11 5)) 16 t16_28) 5 t16_28) w29)) (
  K13 (.exit 0) (pf 26 (pf 26 (pf 26 (pf 26 f11 11 (f11 5)) 12 (f11 0)) 13 t13_14) 14 t14_16) w17)) (pf 26 (pf 26 (pf 26 (pf 26 (pf 26 (pf 26 (pf 26 (argF [x0, x1]) 4 (.bool false)) 6 x0) 7 t7_0) 8 x1) 9 t9_2) 10 t10_4) 5 (.int .i64 0)) w5 K10)
theorem c30_eq (x0 x1 : Value) (w : World) (K : VPost) : c30 x0 x1 w K = WP false Try.prog 26 [(6, 0, [0, 0, 3, 4, 0, 0, 48, 64, 136], [0, 0, 3, 7, 0, 0, 48, 112, 255])] (bodyOf Try.f30) (argF [x0, x1]) w [.tmp 4] K := by kernel_rfl
theorem c30_calls (x0 x1 : Value) (w : World) (K : VPost) (h : c30 x0 x1 w K) : Calls Try.prog 30 #[x0, x1] w (retK K) :=
  calls_of_WP (c30_eq x0 x1 w K) mixedG Try.func30 (by kernel_rfl) Try.ntmps30 (by kernel_rfl) (by kernel_rfl) h

/-- imprimatur/imprimaturref03.New -/
def c22 (x0 : Value) (w : World) (K : VPost) : Prop :=
  binW Try.prog .lss 3 true x0 (.int .i64 1) w fun t5_0 w1 =>
  gstep t5_0 false w1 (fun K => K x0 w1) fun t7_2 w3 =>
  gstep t5_0 false w3 (fun K => binW Try.prog .gtr 3 true t7_2 (.int .i64 4096) w3 K) fun t8_4 w5 =>
  pickW t5_0 (.bool true) t8_4 w5 fun t9_6 w7 =>
  condW t9_6 (
  K (.tuple #[(.pointer none), (.int .i64 11)]) w7) (
  binW Try.prog .mul 3 true (.int .i64 64) x0 w7 fun t11_8 w9 =>
  insW Try.prog (Instr.makeSlice 34 t11_8 t11_8) w9 fun t12_10 w11 =>
  insW Try.prog (Instr.build 47 #[(0, t12_10), (2, (.int .i64 (-1)))]) w11 fun t13_12 w13 =>
  boxW 47 t13_12 w13 fun t14_14 w15 =>
  K (.tuple #[t14_14, (.int .i64 0)]) w15)
theorem c22_eq (x0 : Value) (w : World) (K : VPost) : c22 x0 w K = WP false Try.prog 15 [] (bodyOf Try.f22) (argF [x0]) w [.tmp 2, .tmp 3] K := by kernel_rfl
theorem c22_calls (x0 : Value) (w : World) (K : VPost) (h : c22 x0 w K) : Calls Try.prog 22 #[x0] w (retK K) :=
  calls_of_WP (c22_eq x0 w K) mixedG Try.func22 (by kernel_rfl) Try.ntmps22 (by kernel_rfl) (by kernel_rfl) h

/-- (*imprimatur/imprimaturref03.Disk).Write -/
def c24 (x0 x1 x2 : Value) (w : World) (K : VPost) : Prop :=
  boxW 33 x2 w fun t5_0 w1 =>
  fnW Try.prog 75 #[x0, x1] w1 fun t9_2 w3 =>
  insW Try.prog (Op.unary .not t9_2) w3 fun t10_4 w5 =>
  condW t10_4 (
  K (.int .i64 11) w5) (
  nilW x0 w5 fun t12_6 w7 =>
  offW (some 2) t12_6 w7 fun t13_8 w9 =>
  loadW (some (false, 1)) t13_8 w9 fun t14_10 w11 =>
  binW Try.prog .eql 3 true t14_10 (.int .i64 0) w11 fun t15_12 w13 =>
  condW t15_12 (
  K (.int .i64 15) w13) (
  bindX (endW Try.prog [.tmp 6] K) fun K14 =>
  bindX (seqX (fun f16 w17 =>
  nilW (f16 0) w17.drew fun t30_18 w19 =>
  offW (some 1) t30_18 w19 fun t31_20 w21 =>
  loadW (some (false, 1)) t31_20 w21 fun t32_22 w23 =>
  loadW (some (true, 64)) (f16 5) w23 fun t34_24 w25 =>
  insW Try.prog (Instr.build 106 #[(0, (f16 1)), (1, t34_24)]) w25 fun t35_26 w27 =>
  w27 = w25 ∧
  insW Try.prog (Instr.buildSlice 45 1 #[(0, t35_26)]) w27 fun t36_28 w29 =>
  (loadW (some (false, 1)) t31_20 w29 fun t32_30 w31 => t32_30 = t32_22 ∧ w31 = w29) ∧
  insW Try.prog (Builtin.append_ #[45, 45] 45 #[t32_22, t36_28]) w29 fun t37_32 w33 =>
  nilW (f16 0) w33 fun t38_34 w35 =>
  offW (some 1) t38_34 w35 fun t39_36 w37 =>
  storeW (some (false, 1)) t39_36 t37_32 w37 fun w38 =>
  K (.int .i64 0) w38) K14) fun K15 =>
  nilW x0 w13 fun t17_39 w40 =>
  offW (some 2) t17_39 w40 fun t18_41 w42 =>
  loadW (some (false, 1)) t18_41 w42 fun t19_43 w44 =>
  binW Try.prog .gtr 3 true t19_43 (.int .i64 0) w44 fun t20_45 w46 =>
  condW t20_45 (
  nilW x0 w46 fun t22_47 w48 =>
  offW (some 2) t22_47 w48 fun t23_49 w50 =>
  loadW (some (false, 1)) t23_49 w50 fun t24_51 w52 =>
  binW Try.prog .sub 3 true t24_51 (.int .i64 1) w52 fun t25_53 w54 =>
  nilW x0 w54 fun t26_55 w56 =>
  offW (some 2) t26_55 w56 fun t27_57 w58 =>
  storeW (some (false, 1)) t27_57 t25_53 w58 fun w59 =>
  K15 .normal (pf 40 (pf 40 (pf 40 (pf 40 (pf 40 (pf 40 (pf 40 (pf 40 (pf 40 (pf 40 (pf 40 (pf 40 (pf 40 (pf 40 (pf 40 (pf 40 (pf 40 (pf 40 (pf 40 (pf 40 (pf 40 (pf 40 (pf 40 (argF [x0, x1, x2]) 5 t5_0) 6 (.int .i64 0)) 7 x0) 8 x1) 9 t9_2) 10 t10_4) 11 x0) 12 t12_6) 13 t13_8) 14 t14_10) 15 t15_12) 16 x0) 17 t17_39) 18 t18_41) 19 t19_43) 20 t20_45) 21 x0) 22 t22_47) 23 t23_49) 24 t24_51) 25 t25_53) 26 t26_55) 27 t27_57) w59) (
  K15 .normal (pf 40 (pf 40 (pf 40 (pf 40 (pf 40 (pf 40 (pf 40 (pf 40 (pf 40 (pf 40 (pf 40 (pf 40 (pf 40 (pf 40 (pf 40 (pf 40 (argF [x0, x1, x2]) 5 t5_0) 6 (.int .i64 0)) 7 x0) 8 x1) 9 t9_2) 10 t10_4) 11 x0) 12 t12_6) 13 t13_8) 14 t14_10) 15 t15_12) 16 x0) 17 t17_39) 18 t18_41) 19 t19_43) 20 t20_45) w46)))
theorem c24_eq (x0 x1 x2 : Value) (w : World) (K : VPost) : c24 x0 x1 x2 w K = WP false Try.prog 40 [(7, 4864, [0, 0, 2, 4, 8, 0, 0, 96, 128, 272, 1023, 2047, 3071], [0, 0, 2, 6, 14, 0, 0, 96, 224, 510, 1023, 2047, 4095])] (bodyOf Try.f24) (argF [x0, x1, x2]) w [.tmp 6] K := by kernel_rfl
theorem c24_calls (x0 x1 x2 : Value) (w : World) (K : VPost) (h : c24 x0 x1 x2 w K) : Calls Try.prog 24 #[x0, x1, x2] w (retK K) :=
  calls_of_WP (c24_eq x0 x1 x2 w K) mixedG Try.func24 (by kernel_rfl) Try.ntmps24 (by kernel_rfl) (by kernel_rfl) h

/-- (*imprimatur/imprimaturref03.Disk).Flush -/
def c26 (x0 : Value) (w : World) (K : VPost) : Prop :=
  fnW Try.prog 38 #[x0] w fun t4_0 w1 =>
  nilW x0 w1 fun t5_2 w3 =>
  offW (some 0) t5_2 w3 fun t6_4 w5 =>
  storeW (some (false, 1)) t6_4 t4_0 w5 fun w6 =>
  nilW x0 w6 fun t8_7 w8 =>
  offW (some 1) t8_7 w8 fun t9_9 w10 =>
  storeW (some (false, 1)) t9_9 (.slice none 0 0) w10 fun w11 =>
  K (.tuple #[]) w11
theorem c26_eq (x0 : Value) (w : World) (K : VPost) : c26 x0 w K = WP false Try.prog 10 [] (bodyOf Try.f26) (argF [x0]) w [] K := by kernel_rfl
theorem c26_calls (x0 : Value) (w : World) (K : VPost) (h : c26 x0 w K) : Calls Try.prog 26 #[x0] w (retK K) :=
  calls_of_WP (c26_eq x0 w K) mixedG Try.func26 (by kernel_rfl) Try.ntmps26 (by kernel_rfl) (by kernel_rfl) h

/-- (*imprimatur/imprimaturref03.Disk).Crash -/
def c29 (x0 x1 : Value) (w : World) (K : VPost) : Prop :=
  bindX (endW Try.prog [.tmp 4] K) fun K0 =>
  bindX (seqX (fun f2 w3 =>
  nilW (f2 0) w3 fun t84_4 w5 =>
  offW (some 1) t84_4 w5 fun t85_6 w7 =>
  storeW (some (false, 1)) t85_6 (.slice none 0 0) w7 fun w8 =>
  nilW (f2 0) w8 fun t87_9 w10 =>
  offW (some 2) t87_9 w10 fun t88_11 w12 =>
  storeW (some (false, 1)) t88_11 (.int .i64 (-1)) w12 fun w13 =>
  K (f2 5) w13) K0) fun K1 =>
  bindX (blkX 0 K1) fun K14 =>
  loopW (fun f15 w16 K17 =>
  nilW (f15 0) w16 fun t11_18 w19 =>
  offW (some 1) t11_18 w19 fun t12_20 w21 =>
  loadW (some (false, 1)) t12_20 w21 fun t13_22 w23 =>
  lenW Try.prog (some true) #[45] 3 #[t13_22] w23 fun t14_24 w25 =>
  binW Try.prog .lss 3 false (f15 6) t14_24 w25 fun t15_26 w27 =>
  condW t15_26 (
  bindX (seqX (fun f29 w30 =>
  binW Try.prog .add 3 true (f29 6) (.int .i64 1) w30 fun t17_31 w32 =>
  K17 .normal (pf 90 (pf 90 (pf 90 f29 16 (f29 6)) 17 t17_31) 6 t17_31) w32) K17) fun K28 =>
  bindX (blkX 1 K28) fun K33 =>
  bindX (seqX (fun f35 w36 =>
  binW Try.prog .rem 5 true (f35 7) (.int .u8 64) w36 fun t29_37 w38 =>
  insW Try.prog (convert 5 3 t29_37) w38 fun t30_39 w40 =>
  bindX (seqX (fun f42 w43 =>
  binW Try.prog .quo 5 true (f42 7) (.int .u8 64) w43 fun t36_44 w45 =>
  bindX (blkX 2 K33) fun K46 =>
  binW Try.prog .eql 5 true t36_44 (.int .u8 1) w45 fun t38_47 w48 =>
  condW t38_47 (
  nilW (f42 0) w48.drew fun t40_49 w50 =>
  offW (some 0) t40_49 w50 fun t41_51 w52 =>
  loadW (some (false, 1)) t41_51 w52 fun t42_53 w54 =>
  nilW (f42 0) w54 fun t44_55 w56 =>
  offW (some 1) t44_55 w56 fun t45_57 w58 =>
  loadW (some (false, 1)) t45_57 w58 fun t46_59 w60 =>
  idxW (some (none, 65)) t46_59 (f42 6) w60 fun t48_61 w62 =>
  loadW (some (true, 65)) t48_61 w62 fun t49_63 w64 =>
  fnW Try.prog 77 #[t42_53, t49_63, (.int .i64 0), (.int .i64 64)] w64 fun t50_65 w66 =>
  K28 .normal (pf 90 (pf 90 (pf 90 (pf 90 (pf 90 (pf 90 (pf 90 (pf 90 (pf 90 (pf 90 (pf 90 (pf 90 (pf 90 (pf 90 (pf 90 (pf 90 f42 35 (f42 7)) 36 t36_44) 38 t38_47) 37 t38_47) 39 (f42 0)) 40 t40_49) 41 t41_51) 42 t42_53) 43 (f42 0)) 44 t44_55) 45 t45_57) 46 t46_59) 47 (f42 6)) 48 t48_61) 49 t49_63) 50 t50_65) w66) (
  binW Try.prog .eql 5 true t36_44 (.int .u8 2) w48 fun t52_67 w68 =>
  condW t52_67 (
  nilW (f42 0) w68.drew fun t54_69 w70 =>
  offW (some 0) t54_69 w70 fun t55_71 w72 =>
  loadW (some (false, 1)) t55_71 w72 fun t56_73 w74 =>
  nilW (f42 0) w74 fun t58_75 w76 =>
  offW (some 1) t58_75 w76 fun t59_77 w78 =>
  loadW (some (false, 1)) t59_77 w78 fun t60_79 w80 =>
  idxW (some (none, 65)) t60_79 (f42 6) w80 fun t62_81 w82 =>
  loadW (some (true, 65)) t62_81 w82 fun t63_83 w84 =>
  fnW Try.prog 77 #[t56_73, t63_83, (.int .i64 0), (f42 8)] w84 fun t65_85 w86 =>
  K28 .normal (pf 90 (pf 90 (pf 90 (pf 90 (pf 90 (pf 90 (pf 90 (pf 90 (pf 90 (pf 90 (pf 90 (pf 90 (pf 90 (pf 90 (pf 90 (pf 90 (pf 90 (pf 90 (pf 90 f42 35 (f42 7)) 36 t36_44) 38 t38_47) 37 t38_47) 52 t52_67) 51 t52_67) 53 (f42 0)) 54 t54_69) 55 t55_71) 56 t56_73) 57 (f42 0)) 58 t58_75) 59 t59_77) 60 t60_79) 61 (f42 6)) 62 t62_81) 63 t63_83) 64 (f42 8)) 65 t65_85) w86) (
  binW Try.prog .eql 5 true t36_44 (.int .u8 3) w68 fun t67_87 w88 =>
  condW t67_87 (
  nilW (f42 0) w88.drew fun t69_89 w90 =>
  offW (some 0) t69_89 w90 fun t70_91 w92 =>
  loadW (some (false, 1)) t70_91 w92 fun t71_93 w94 =>
  nilW (f42 0) w94 fun t73_95 w96 =>
  offW (some 1) t73_95 w96 fun t74_97 w98 =>
  loadW (some (false, 1)) t74_97 w98 fun t75_99 w100 =>
  idxW (some (none, 65)) t75_99 (f42 6) w100 fun t77_101 w102 =>
  loadW (some (true, 65)) t77_101 w102 fun t78_103 w104 =>
  binW Try.prog .sub 3 true (.int .i64 64) (f42 8) w104 fun t80_105 w106 =>
  w106 = w104 ∧
  fnW Try.prog 77 #[t71_93, t78_103, t80_105, (f42 8)] w106 fun t82_107 w108 =>
  K28 .normal (pf 90 (pf 90 (pf 90 (pf 90 (pf 90 (pf 90 (pf 90 (pf 90 (pf 90 (pf 90 (pf 90 (pf 90 (pf 90 (pf 90 (pf 90 (pf 90 (pf 90 (pf 90 (pf 90 (pf 90 (pf 90 (pf 90 (pf 90 f42 35 (f42 7)) 36 t36_44) 38 t38_47) 37 t38_47) 52 t52_67) 51 t52_67) 67 t67_87) 66 t67_87) 68 (f42 0)) 69 t69_89) 70 t70_91) 71 t71_93) 72 (f42 0)) 73 t73_95) 74 t74_97) 75 t75_99) 76 (f42 6)) 77 t77_101) 78 t78_103) 79 (f42 8)) 80 t80_105) 81 (f42 8)) 82 t82_107) w108) (
  K28 .normal (pf 90 (pf 90 (pf 90 (pf 90 (pf 90 (pf 90 (pf 90 (pf 90 f42 35 (f42 7)) 36 t36_44) 38 t38_47) 37 t38_47) 52 t52_67) 51 t52_67) 67 t67_87) 66 t67_87) w88)))) K33) fun K41 =>
  binW Try.prog .geq 5 true (f35 7) (.int .u8 64) w40 fun t32_109 w110 =>
  condW t32_109 (
  binW Try.prog .add 3 true (f35 5) (.int .i64 1) w110 fun t34_111 w112 =>
  K41 .normal (pf 90 (pf 90 (pf 90 (pf 90 (pf 90 (pf 90 (pf 90 (pf 90 (pf 90 f35 28 (f35 7)) 29 t29_37) 30 t30_39) 8 t30_39) 31 (f35 7)) 32 t32_109) 33 (f35 5)) 34 t34_111) 5 t34_111) w112) (
  K41 .normal (pf 90 (pf 90 (pf 90 (pf 90 (pf 90 (pf 90 f35 28 (f35 7)) 29 t29_37) 30 t30_39) 8 t30_39) 31 (f35 7)) 32 t32_109) w110)) K33) fun K34 =>
  lenW Try.prog (some true) #[34] 3 #[(f15 1)] w27 fun t19_113 w114 =>
  binW Try.prog .gtr 3 true t19_113 (.int .i64 0) w114 fun t20_115 w116 =>
  condW t20_115 (
  lenW Try.prog (some true) #[34] 3 #[(f15 1)] w116 fun t24_117 w118 =>
  binW Try.prog .rem 3 false (f15 6) t24_117 w118 fun t25_119 w120 =>
  idxW (some (none, 1)) (f15 1) t25_119 w120 fun t26_121 w122 =>
  loadW (some (false, 1)) t26_121 w122 fun t27_123 w124 =>
  K34 .normal (pf 90 (pf 90 (pf 90 (pf 90 (pf 90 (pf 90 (pf 90 (pf 90 (pf 90 (pf 90 (pf 90 (pf 90 (pf 90 (pf 90 (pf 90 (pf 90 (pf 90 (pf 90 (pf 90 f15 9 (f15 6)) 10 (f15 0)) 11 t11_18) 12 t12_20) 13 t13_22) 14 t14_24) 15 t15_26) 7 (.int .u8 0)) 18 (f15 1)) 19 t19_113) 20 t20_115) 21 (f15 1)) 22 (f15 6)) 23 (f15 1)) 24 t24_117) 25 t25_119) 26 t26_121) 27 t27_123) 7 t27_123) w124) (
  K34 .normal (pf 90 (pf 90 (pf 90 (pf 90 (pf 90 (pf 90 (pf 90 (pf 90 (pf 90 (pf 90 (pf 90 f15 9 (f15 6)) 10 (f15 0)) 11 t11_18) 12 t12_20) 13 t13_22) 14 t14_24) 15 t15_26) 7 (.int .u8 0)) 18 (f15 1)) 19 t19_113) 20 t20_115) w116)) (
  K17 (.exit 0) (pf 90 (pf 90 (pf 90 (pf 90 (pf 90 (pf 90 (pf 90 f15 9 (f15 6)) 10 (f15 0)) 11 t11_18) 12 t12_20) 13 t13_22) 14 t14_24) 15 t15_26) w27)) (pf 90 (pf 90 (pf 90 (argF [x0, x1]) 4 (.int .i64 0)) 5 (.int .i64 0)) 6 (.int .i64 0)) w K14
theorem c29_eq (x0 x1 : Value) (w : World) (K : VPost) : c29 x0 x1 w K = WP false Try.prog 90 [(13, 2048, [0, 1, 2, 4, 0, 16, 32, 64, 0, 384, 512, 1032], [0, 1, 3, 7, 0, 16, 48, 112, 0, 496, 1008, 2047]), (15, 4096, [0, 1, 2, 4, 0, 16, 32, 64, 0, 384, 512, 0, 3080], [0, 1, 3, 7, 0, 16, 48, 112, 0, 496, 1008, 0, 4095]), (17, 16384, [0, 1, 2, 4, 0, 16, 32, 64, 0, 384, 512, 0, 2048, 0, 13320], [0, 1, 3, 7, 0, 16, 48, 112, 0, 496, 1008, 0, 2048, 0, 16383])] (bodyOf Try.f29) (argF [x0, x1]) w [.tmp 4] K := by kernel_rfl
theorem c29_calls (x0 x1 : Value) (w : World) (K : VPost) (h : c29 x0 x1 w K) : Calls Try.prog 29 #[x0, x1] w (retK K) :=
  calls_of_WP (c29_eq x0 x1 w K) mixedG Try.func29 (by kernel_rfl) Try.ntmps29 (by kernel_rfl) (by kernel_rfl) h

/-- (*imprimatur/imprimaturref03.Disk).Limit -/
def c32 (x0 x1 : Value) (w : World) (K : VPost) : Prop :=
  insW Try.prog (Builtin.max_ #[3, 3] 3 #[x1, (.int .i64 (-1))]) w fun t6_0 w1 =>
  nilW x0 w1 fun t7_2 w3 =>
  offW (some 2) t7_2 w3 fun t8_4 w5 =>
  storeW (some (false, 1)) t8_4 t6_0 w5 fun w6 =>
  K (.tuple #[]) w6
theorem c32_eq (x0 x1 : Value) (w : World) (K : VPost) : c32 x0 x1 w K = WP false Try.prog 9 [] (bodyOf Try.f32) (argF [x0, x1]) w [] K := by kernel_rfl
theorem c32_calls (x0 x1 : Value) (w : World) (K : VPost) (h : c32 x0 x1 w K) : Calls Try.prog 32 #[x0, x1] w (retK K) :=
  calls_of_WP (c32_eq x0 x1 w K) mixedG Try.func32 (by kernel_rfl) Try.ntmps32 (by kernel_rfl) (by kernel_rfl) h

/-- (*imprimatur/imprimaturref03.Disk).Read -/
def c34 (x0 x1 : Value) (w : World) (K : VPost) : Prop :=
  allocW (zeroO Try.prog 33) 33 w fun t4_0 w1 =>
  insW Try.prog (Instr.build 33 #[]) w1 fun t9_2 w3 =>
  allocW (zeroO Try.prog 33) 33 w3 fun t6_4 w5 =>
  storeW (some (true, 64)) t6_4 t9_2 w5 fun w6 =>
  fnW Try.prog 75 #[x0, x1] w6 fun t12_7 w8 =>
  insW Try.prog (Op.unary .not t12_7) w8 fun t13_9 w10 =>
  condW t13_9 (
  loadW (some (true, 64)) t6_4 w10 fun t14_11 w12 =>
  storeW (some (true, 64)) t4_0 t14_11 w12 fun w13 =>
  loadW (some (true, 64)) t4_0 w13 fun r14 u15 =>
  K (.tuple #[r14, (.int .i64 11)]) w13) (
  fnW Try.prog 38 #[x0] w10 fun t16_16 w17 =>
  bindX (endW Try.prog [.cell 4 33, .tmp 5] K) fun K18 =>
  bindX (seqX (fun f20 w21 =>
  loadW (some (true, 64)) (f20 6) w21 fun t30_22 w23 =>
  storeW (some (true, 64)) (f20 4) t30_22 w23 fun w24 =>
  loadW (some (true, 64)) (f20 4) w24 fun r25 u26 =>
  K (.tuple #[r25, (.int .i64 0)]) w24) K18) fun K19 =>
  bindX (blkX 0 K19) fun K27 =>
  loopW (fun f28 w29 K30 =>
  binW Try.prog .lss 3 true (f28 8) (.int .i64 64) w29 fun t18_31 w32 =>
  condW t18_31 (
  binW Try.prog .mul 3 true (.int .i64 64) (f28 1) w32 fun t24_33 w34 =>
  binW Try.prog .add 3 false t24_33 (f28 8) w34 fun t26_35 w36 =>
  idxW (some (none, 1)) (f28 7) t26_35 w36 fun t27_37 w38 =>
  loadW (some (false, 1)) t27_37 w38 fun t28_39 w40 =>
  idxW (some ((some 64), 1)) (f28 6) (f28 8) w40 fun t29_41 w42 =>
  storeW (some (false, 1)) t29_41 t28_39 w42 fun w43 =>
  binW Try.prog .add 3 true (f28 8) (.int .i64 1) w43 fun t20_44 w45 =>
  K30 .normal (pf 31 (pf 31 (pf 31 (pf 31 (pf 31 (pf 31 (pf 31 (pf 31 (pf 31 (pf 31 (pf 31 (pf 31 (pf 31 (pf 31 f28 17 (f28 8)) 18 t18_31) 21 (f28 8)) 22 (f28 7)) 23 (f28 1)) 24 t24_33) 25 (f28 8)) 26 t26_35) 27 t27_37) 28 t28_39) 29 t29_41) 19 (f28 8)) 20 t20_44) 8 t20_44) w45) (
  K30 (.exit 0) (pf 31 (pf 31 f28 17 (f28 8)) 18 t18_31) w32)) (pf 31 (pf 31 (pf 31 (pf 31 (pf 31 (pf 31 (pf 31 (pf 31 (pf 31 (pf 31 (pf 31 (pf 31 (argF [x0, x1]) 4 t4_0) 5 (.int .i64 0)) 9 t9_2) 6 t6_4) 10 x0) 11 x1) 12 t12_7) 13 t13_9) 15 x0) 16 t16_16) 7 t16_16) 8 (.int .i64 0)) w17 K27)
theorem c34_eq (x0 x1 : Value) (w : World) (K : VPost) : c34 x0 x1 w K = WP false Try.prog 31 [] (bodyOf Try.f34) (argF [x0, x1]) w [.cell 4 33, .tmp 5] K := by kernel_rfl
theorem c34_calls (x0 x1 : Value) (w : World) (K : VPost) (h : c34 x0 x1 w K) : Calls Try.prog 34 #[x0, x1] w (retK K) :=
  calls_of_WP (c34_eq x0 x1 w K) mixedG Try.func34 (by kernel_rfl) Try.ntmps34 (by kernel_rfl) (by kernel_rfl) h

/-- (*imprimatur/imprimaturref03.Disk).Image -/
def c38 (x0 : Value) (w : World) (K : VPost) : Prop :=
  nilW x0 w fun t6_0 w1 =>
  offW (some 0) t6_0 w1 fun t7_2 w3 =>
  loadW (some (false, 1)) t7_2 w3 fun t8_4 w5 =>
  fnW Try.prog 27 #[t8_4] w5 fun t9_6 w7 =>
  bindX (endW Try.prog [.tmp 2] K) fun K8 =>
  bindX (seqX (fun f10 w11 =>
  K (f10 3) w11) K8) fun K9 =>
  bindX (blkX 0 K9) fun K12 =>
  loopW (fun f13 w14 K15 =>
  nilW (f13 0) w14 fun t12_16 w17 =>
  offW (some 1) t12_16 w17 fun t13_18 w19 =>
  loadW (some (false, 1)) t13_18 w19 fun t14_20 w21 =>
  lenW Try.prog (some true) #[45] 3 #[t14_20] w21 fun t15_22 w23 =>
  binW Try.prog .lss 3 false (f13 4) t15_22 w23 fun t16_24 w25 =>
  condW t16_24 (
  nilW (f13 0) w25 fun t21_26 w27 =>
  offW (some 1) t21_26 w27 fun t22_28 w29 =>
  loadW (some (false, 1)) t22_28 w29 fun t23_30 w31 =>
  idxW (some (none, 65)) t23_30 (f13 4) w31 fun t25_32 w33 =>
  loadW (some (true, 65)) t25_32 w33 fun t26_34 w35 =>
  fnW Try.prog 77 #[(f13 3), t26_34, (.int .i64 0), (.int .i64 64)] w35 fun t27_36 w37 =>
  binW Try.prog .add 3 true (f13 4) (.int .i64 1) w37 fun t18_38 w39 =>
  K15 .normal (pf 29 (pf 29 (pf 29 (pf 29 (pf 29 (pf 29 (pf 29 (pf 29 (pf 29 (pf 29 (pf 29 (pf 29 (pf 29 (pf 29 (pf 29 (pf 29 (pf 29 (pf 29 (pf 29 f13 10 (f13 4)) 11 (f13 0)) 12 t12_16) 13 t13_18) 14 t14_20) 15 t15_22) 16 t16_24) 19 (f13 3)) 20 (f13 0)) 21 t21_26) 22 t22_28) 23 t23_30) 24 (f13 4)) 25 t25_32) 26 t26_34) 27 t27_36) 17 (f13 4)) 18 t18_38) 4 t18_38) w39) (
  K15 (.exit 0) (pf 29 (pf 29 (pf 29 (pf 29 (pf 29 (pf 29 (pf 29 f13 10 (f13 4)) 11 (f13 0)) 12 t12_16) 13 t13_18) 14 t14_20) 15 t15_22) 16 t16_24) w25)) (pf 29 (pf 29 (pf 29 (pf 29 (pf 29 (pf 29 (pf 29 (pf 29 (argF [x0]) 2 (.slice none 0 0)) 5 x0) 6 t6_0) 7 t7_2) 8 t8_4) 9 t9_6) 3 t9_6) 4 (.int .i64 0)) w7 K12
theorem c38_eq (x0 : Value) (w : World) (K : VPost) : c38 x0 w K = WP false Try.prog 29 [] (bodyOf Try.f38) (argF [x0]) w [.tmp 2] K := by kernel_rfl
theorem c38_calls (x0 : Value) (w : World) (K : VPost) (h : c38 x0 w K) : Calls Try.prog 38 #[x0] w (retK K) :=
  calls_of_WP (c38_eq x0 w K) mixedG Try.func38 (by kernel_rfl) Try.ntmps38 (by kernel_rfl) (by kernel_rfl) h

/-- (*imprimatur/imprimaturref03.Disk).there -/
def c75 (x0 x1 : Value) (w : World) (K : VPost) : Prop :=
  binW Try.prog .geq 3 true x1 (.int .i64 0) w fun t6_0 w1 =>
  gstep t6_0 true w1 (fun K => K x1 w1) fun t8_2 w3 =>
  gstep t6_0 true w3 (fun K => K x0 w3) fun t9_4 w5 =>
  gstep t6_0 true w5 (fun K => nilW t9_4 w5 K) fun t10_6 w7 =>
  gstep t6_0 true w7 (fun K => offW (some 0) t10_6 w7 K) fun t11_8 w9 =>
  gstep t6_0 true w9 (fun K => loadW (some (false, 1)) t11_8 w9 K) fun t12_10 w11 =>
  gstep t6_0 true w11 (fun K => lenW Try.prog (some true) #[34] 3 #[t12_10] w11 K) fun t13_12 w13 =>
  gstep t6_0 true w13 (fun K => binW Try.prog .quo 3 true t13_12 (.int .i64 64) w13 K) fun t14_14 w15 =>
  gstep t6_0 true w15 (fun K => binW Try.prog .lss 3 false t8_2 t14_14 w15 K) fun t15_16 w17 =>
  pickW t6_0 t15_16 (.bool false) w17 fun t16_18 w19 =>
  K t16_18 w19
theorem c75_eq (x0 x1 : Value) (w : World) (K : VPost) : c75 x0 x1 w K = WP false Try.prog 17 [] (bodyOf Try.f75) (argF [x0, x1]) w [.tmp 4] K := by kernel_rfl
theorem c75_calls (x0 x1 : Value) (w : World) (K : VPost) (h : c75 x0 x1 w K) : Calls Try.prog 75 #[x0, x1] w (retK K) :=
  calls_of_WP (c75_eq x0 x1 w K) mixedG Try.func75 (by kernel_rfl) Try.ntmps75 (by kernel_rfl) (by kernel_rfl) h

/-- imprimatur/imprimaturref03.put -/
def c77 (x0 x1 x2 x3 : Value) (w : World) (K : VPost) : Prop :=
  boxW 106 x1 w fun t5_0 w1 =>
  bindX (endW Try.prog [] K) fun K2 =>
  bindX (blkX 0 K2) fun K3 =>
  loopW (fun f4 w5 K6 =>
  binW Try.prog .add 3 false (f4 2) (f4 3) w5 fun t13_7 w8 =>
  binW Try.prog .lss 3 false (f4 8) t13_7 w8 fun t14_9 w10 =>
  condW t14_9 (
  offW (some 0) (f4 5) w10.drew fun t18_11 w12 =>
  loadW (some (false, 1)) t18_11 w12 fun t19_13 w14 =>
  binW Try.prog .mul 3 true (.int .i64 64) t19_13 w14 fun t20_15 w16 =>
  w16 = w14 ∧
  binW Try.prog .add 3 false t20_15 (f4 8) w16 fun t22_17 w18 =>
  w18 = w16 ∧
  offW (some 1) (f4 5) w18 fun t24_19 w20 =>
  idxW (some ((some 64), 1)) t24_19 (f4 8) w20 fun t25_21 w22 =>
  loadW (some (false, 1)) t25_21 w22 fun t26_23 w24 =>
  idxW (some (none, 1)) (f4 0) t22_17 w24 fun t27_25 w26 =>
  storeW (some (false, 1)) t27_25 t26_23 w26 fun w27 =>
  binW Try.prog .add 3 true (f4 8) (.int .i64 1) w27 fun t16_28 w29 =>
  K6 .normal (pf 28 (pf 28 (pf 28 (pf 28 (pf 28 (pf 28 (pf 28 (pf 28 (pf 28 (pf 28 (pf 28 (pf 28 (pf 28 (pf 28 (pf 28 (pf 28 (pf 28 (pf 28 (pf 28 f4 10 (f4 8)) 11 (f4 2)) 12 (f4 3)) 13 t13_7) 14 t14_9) 17 (f4 0)) 18 t18_11) 19 t19_13) 20 t20_15) 21 (f4 8)) 22 t22_17) 23 (f4 8)) 24 t24_19) 25 t25_21) 26 t26_23) 27 t27_25) 15 (f4 8)) 16 t16_28) 8 t16_28) w29) (
  K6 (.exit 0) (pf 28 (pf 28 (pf 28 (pf 28 (pf 28 f4 10 (f4 8)) 11 (f4 2)) 12 (f4 3)) 13 t13_7) 14 t14_9) w10)) (pf 28 (pf 28 (pf 28 (argF [x0, x1, x2, x3]) 5 t5_0) 9 x2) 8 x2) w1 K3
theorem c77_eq (x0 x1 x2 x3 : Value) (w : World) (K : VPost) : c77 x0 x1 x2 x3 w K = WP false Try.prog 28 [(4, 2048, [0, 0, 2, 4, 0, 24, 0, 0, 192, 256, 1023, 2047], [0, 0, 2, 6, 0, 30, 0, 0, 192, 448, 1023, 2047])] (bodyOf Try.f77) (argF [x0, x1, x2, x3]) w [] K := by kernel_rfl
theorem c77_calls (x0 x1 x2 x3 : Value) (w : World) (K : VPost) (h : c77 x0 x1 x2 x3 w K) : Calls Try.prog 77 #[x0, x1, x2, x3] w (retK K) :=
  calls_of_WP (c77_eq x0 x1 x2 x3 w K) mixedG Try.func77 (by kernel_rfl) Try.ntmps77 (by kernel_rfl) (by kernel_rfl) h

end Go.Proofs.Ytedebapgmfnflaa
