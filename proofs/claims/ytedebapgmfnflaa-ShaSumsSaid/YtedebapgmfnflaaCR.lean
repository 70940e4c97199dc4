/- The clean forms of some of the program's functions, written by a program of ours; each is the model's own by the kernel's reckoning. -/
import Derived.Test.YtedebapgmfnflaaG7
import Derived.KernelRfl
namespace Go.Proofs.Ytedebapgmfnflaa
open Go
set_option maxRecDepth 100000

/-- imprimatur/imprimaturref01.Sum -/
def c49 (x0 : Value) (w : World) (K : VPost) : Prop :=
  allocW (zeroO Try.prog 62) 62 w fun t2_0 w1 =>
  insW Try.prog (Instr.buildSlice 34 0 #[]) w1 fun t11_2 w3 =>
  insW Try.prog (Builtin.append_ #[34, 34] 34 #[t11_2, x0]) w3 fun t13_4 w5 =>
  lenW Try.prog (some true) #[34] 3 #[x0] w5 fun t15_6 w7 =>
  fnW Try.prog 52 #[t15_6] w7 fun t16_8 w9 =>
  insW Try.prog (Builtin.append_ #[34, 34] 34 #[t13_4, t16_8]) w9 fun t17_10 w11 =>
  fnW Try.prog 81 #[] w11 fun t18_12 w13 =>
  fnW Try.prog 82 #[] w13 fun t19_14 w15 =>
  allocW (zeroO Try.prog 70) 70 w15 fun t5_16 w17 =>
  storeW (some (true, 8)) t5_16 t19_14 w17 fun w18 =>
  bindX (endW Try.prog [.cell 2 62] K) fun K19 =>
  bindX (seqX (fun f21 w22 =>
  insW Try.prog (Instr.build 62 #[]) w22 fun t44_23 w24 =>
  allocW (zeroO Try.prog 62) 62 w24 fun t9_25 w26 =>
  storeW (some (true, 32)) t9_25 t44_23 w26 fun w27 =>
  bindX (seqX (fun f29 w30 =>
  loadW (some (true, 32)) (f29 9) w30 fun t62_31 w32 =>
  storeW (some (true, 32)) (f29 2) t62_31 w32 fun w33 =>
  loadW (some (true, 32)) (f29 2) w33 fun r34 u35 =>
  K r34 w33) K19) fun K28 =>
  bindX (blkX 4 K28) fun K36 =>
  loopW (fun f37 w38 K39 =>
  binN Try.prog .lss 3 true (f37 10) (.int .i64 32) w38 fun t46_40 w41 =>
  condW t46_40 (
  binN Try.prog .quo 3 true (f37 10) (.int .i64 4) w41 fun t51_42 w43 =>
  idxW (some ((some 8), 1)) (f37 5) t51_42 w43 fun t52_44 w45 =>
  loadW (some (false, 1)) t52_44 w45 fun t53_46 w47 =>
  binN Try.prog .rem 3 true (f37 10) (.int .i64 4) w47 fun t55_48 w49 =>
  binN Try.prog .mul 3 true (.int .i64 8) t55_48 w49 fun t56_50 w51 =>
  binN Try.prog .sub 3 true (.int .i64 24) t56_50 w51 fun t57_52 w53 =>
  convN Try.prog 3 54 t57_52 w53 fun t58_54 w55 =>
  binN Try.prog .shr 69 false t53_46 t58_54 w55 fun t59_56 w57 =>
  convN Try.prog 69 5 t59_56 w57 fun t60_58 w59 =>
  idxW (some ((some 32), 1)) (f37 9) (f37 10) w59 fun t61_60 w61 =>
  storeW (some (false, 1)) t61_60 t60_58 w61 fun w62 =>
  binN Try.prog .add 3 true (f37 10) (.int .i64 1) w62 fun t48_63 w64 =>
  K39 .normal (pf 63 (pf 63 (pf 63 (pf 63 (pf 63 (pf 63 (pf 63 (pf 63 (pf 63 (pf 63 (pf 63 (pf 63 (pf 63 (pf 63 (pf 63 (pf 63 (pf 63 (pf 63 f37 45 (f37 10)) 46 t46_40) 49 (f37 10)) 50 (f37 10)) 51 t51_42) 52 t52_44) 53 t53_46) 54 (f37 10)) 55 t55_48) 56 t56_50) 57 t57_52) 58 t58_54) 59 t59_56) 60 t60_58) 61 t61_60) 47 (f37 10)) 48 t48_63) 10 t48_63) w64) (
  K39 (.exit 4) (pf 63 (pf 63 f37 45 (f37 10)) 46 t46_40) w41)) (pf 63 (pf 63 (pf 63 f21 44 t44_23) 9 t9_25) 10 (.int .i64 0)) w27 K36) K19) fun K20 =>
  bindX (blkX 0 K20) fun K65 =>
  loopW (fun f66 w67 K68 =>
  binN Try.prog .add 3 true (f66 6) (.int .i64 64) w67 fun t21_69 w70 =>
  lenW Try.prog (some true) #[34] 3 #[(f66 3)] w70 fun t23_71 w72 =>
  binN Try.prog .leq 3 false t21_69 t23_71 w72 fun t24_73 w74 =>
  condW t24_73 (
  bindX (seqX (fun f76 w77 =>
  binN Try.prog .add 3 true (f76 6) (.int .i64 64) w77 fun t26_78 w79 =>
  K68 .normal (pf 63 (pf 63 (pf 63 f76 25 (f76 6)) 26 t26_78) 6 t26_78) w79) K68) fun K75 =>
  bindX (blkX 1 K75) fun K80 =>
  insW Try.prog (Instr.build 32 #[]) w74 fun t27_81 w82 =>
  allocW (zeroO Try.prog 32) 32 w82 fun t7_83 w84 =>
  storeW (some (true, 64)) t7_83 t27_81 w84 fun w85 =>
  bindX (seqX (fun f87 w88 =>
  loadW (some (true, 8)) (f87 5) w88 fun t40_89 w90 =>
  loadW (some (true, 64)) (f87 7) w90 fun t41_91 w92 =>
  fnW Try.prog 83 #[t40_89, t41_91, (f87 4)] w92 fun t43_93 w94 =>
  storeW (some (true, 8)) (f87 5) t43_93 w94 fun w95 =>
  K75 .normal (pf 63 (pf 63 (pf 63 (pf 63 f87 40 t40_89) 41 t41_91) 42 (f87 4)) 43 t43_93) w95) K80) fun K86 =>
  bindX (blkX 2 K86) fun K96 =>
  loopW (fun f97 w98 K99 =>
  binN Try.prog .lss 3 true (f97 8) (.int .i64 64) w98 fun t29_100 w101 =>
  condW t29_100 (
  binN Try.prog .add 3 false (f97 6) (f97 8) w101 fun t36_102 w103 =>
  idxW (some (none, 1)) (f97 3) t36_102 w103 fun t37_104 w105 =>
  loadW (some (false, 1)) t37_104 w105 fun t38_106 w107 =>
  idxW (some ((some 64), 1)) (f97 7) (f97 8) w107 fun t39_108 w109 =>
  storeW (some (false, 1)) t39_108 t38_106 w109 fun w110 =>
  binN Try.prog .add 3 true (f97 8) (.int .i64 1) w110 fun t31_111 w112 =>
  K99 .normal (pf 63 (pf 63 (pf 63 (pf 63 (pf 63 (pf 63 (pf 63 (pf 63 (pf 63 (pf 63 (pf 63 (pf 63 (pf 63 f97 28 (f97 8)) 29 t29_100) 32 (f97 8)) 33 (f97 3)) 34 (f97 6)) 35 (f97 8)) 36 t36_102) 37 t37_104) 38 t38_106) 39 t39_108) 30 (f97 8)) 31 t31_111) 8 t31_111) w112) (
  K99 (.exit 2) (pf 63 (pf 63 f97 28 (f97 8)) 29 t29_100) w101)) (pf 63 (pf 63 (pf 63 (pf 63 (pf 63 (pf 63 (pf 63 (pf 63 f66 20 (f66 6)) 21 t21_69) 22 (f66 3)) 23 t23_71) 24 t24_73) 27 t27_81) 7 t7_83) 8 (.int .i64 0)) w85 K96) (
  K68 (.exit 0) (pf 63 (pf 63 (pf 63 (pf 63 (pf 63 f66 20 (f66 6)) 21 t21_69) 22 (f66 3)) 23 t23_71) 24 t24_73) w74)) (pf 63 (pf 63 (pf 63 (pf 63 (pf 63 (pf 63 (pf 63 (pf 63 (pf 63 (pf 63 (pf 63 (pf 63 (pf 63 (pf 63 (argF [x0]) 2 t2_0) 11 t11_2) 12 x0) 13 t13_4) 14 x0) 15 t15_6) 16 t16_8) 17 t17_10) 3 t17_10) 18 t18_12) 4 t18_12) 19 t19_14) 5 t5_16) 6 (.int .i64 0)) w18 K65
theorem c49_eq (x0 : Value) (w : World) (K : VPost) : c49 x0 w K = WP true Try.prog 63 [] (bodyOf Try.f49) (argF [x0]) w [.cell 2 62] K := by kernel_rfl
theorem c49_calls (x0 : Value) (w : World) (K : VPost) (h : c49 x0 w K) : Calls Try.prog 49 #[x0] w (retK K) :=
  calls_of_WP (c49_eq x0 w K) mixedG Try.func49 (by kernel_rfl) Try.ntmps49 (by kernel_rfl) (by kernel_rfl) h

/-- imprimatur/imprimaturref01.Compress -/
def c51 (x0 x1 : Value) (w : World) (K : VPost) : Prop :=
  boxW 70 x0 w fun t2_0 w1 =>
  boxW 32 x1 w1 fun t3_2 w3 =>
  allocW (zeroO Try.prog 70) 70 w3 fun t4_4 w5 =>
  loadW (some (true, 8)) t2_0 w5.drew fun t5_6 w7 =>
  loadW (some (true, 64)) t3_2 w7 fun t6_8 w9 =>
  fnW Try.prog 81 #[] w9 fun t7_10 w11 =>
  (loadW (some (true, 8)) t2_0 w11 fun t5_12 w13 => t5_12 = t5_6 ∧ w13 = w11) ∧
  (loadW (some (true, 64)) t3_2 w11 fun t6_14 w15 => t6_14 = t6_8 ∧ w15 = w11) ∧
  fnW Try.prog 83 #[t5_6, t6_8, t7_10] w11 fun t8_16 w17 =>
  storeW (some (true, 8)) t4_4 t8_16 w17 fun w18 =>
  loadW (some (true, 8)) t4_4 w18 fun r19 u20 =>
  K r19 w18
theorem c51_eq (x0 x1 : Value) (w : World) (K : VPost) : c51 x0 x1 w K = WP true Try.prog 9 [(1, 28, [0, 0, 0, 7, 15], [0, 0, 0, 7, 15])] (bodyOf Try.f51) (argF [x0, x1]) w [.cell 4 70] K := by kernel_rfl
theorem c51_calls (x0 x1 : Value) (w : World) (K : VPost) (h : c51 x0 x1 w K) : Calls Try.prog 51 #[x0, x1] w (retK K) :=
  calls_of_WP (c51_eq x0 x1 w K) mixedG Try.func51 (by kernel_rfl) Try.ntmps51 (by kernel_rfl) (by kernel_rfl) h

/-- imprimatur/imprimaturref01.Pad -/
def c52 (x0 : Value) (w : World) (K : VPost) : Prop :=
  binN Try.prog .lss 3 true x0 (.int .i64 0) w fun t7_0 w1 =>
  gstep t7_0 false w1 (fun K => K x0 w1) fun t9_2 w3 =>
  gstep t7_0 false w3 (fun K => binN Try.prog .gtr 3 true t9_2 (.int .i64 1125899906842624) w3 K) fun t10_4 w5 =>
  pickW t7_0 (.bool true) t10_4 w5 fun t11_6 w7 =>
  condW t11_6 (
  K (.slice none 0 0) w7) (
  insW Try.prog (Instr.buildSlice 34 1 #[(0, (.int .u8 128))]) w7 fun t12_8 w9 =>
  bindX (endW Try.prog [.tmp 2] K) fun K10 =>
  bindX (seqX (fun f12 w13 =>
  binN Try.prog .mul 3 true (f12 0) (.int .i64 8) w13 fun t23_14 w15 =>
  bindX (seqX (fun f17 w18 =>
  K (f17 3) w18) K10) fun K16 =>
  bindX (blkX 2 K16) fun K19 =>
  loopW (fun f20 w21 K22 =>
  binN Try.prog .geq 3 true (f20 5) (.int .i64 0) w21 fun t25_23 w24 =>
  condW t25_23 (
  binN Try.prog .mul 3 true (.int .i64 8) (f20 5) w24 fun t31_25 w26 =>
  convN Try.prog 3 54 t31_25 w26 fun t32_27 w28 =>
  binN Try.prog .shr 3 false (f20 4) t32_27 w28 fun t33_29 w30 =>
  convN Try.prog 3 5 t33_29 w30 fun t34_31 w32 =>
  insW Try.prog (Instr.buildSlice 34 1 #[(0, t34_31)]) w32 fun t35_33 w34 =>
  insW Try.prog (Builtin.append_ #[34, 34] 34 #[(f20 3), t35_33]) w34 fun t36_35 w36 =>
  binN Try.prog .sub 3 true (f20 5) (.int .i64 1) w36 fun t27_37 w38 =>
  K22 .normal (pf 38 (pf 38 (pf 38 (pf 38 (pf 38 (pf 38 (pf 38 (pf 38 (pf 38 (pf 38 (pf 38 (pf 38 (pf 38 (pf 38 (pf 38 f20 24 (f20 5)) 25 t25_23) 28 (f20 3)) 29 (f20 4)) 30 (f20 5)) 31 t31_25) 32 t32_27) 33 t33_29) 34 t34_31) 35 t35_33) 36 t36_35) 3 t36_35) 26 (f20 5)) 27 t27_37) 5 t27_37) w38) (
  K22 (.exit 2) (pf 38 (pf 38 f20 24 (f20 5)) 25 t25_23) w24)) (pf 38 (pf 38 (pf 38 (pf 38 f12 22 (f12 0)) 23 t23_14) 4 t23_14) 5 (.int .i64 7)) w15 K19) K10) fun K11 =>
  bindX (blkX 0 K11) fun K39 =>
  loopW (fun f40 w41 K42 =>
  lenW Try.prog (some true) #[34] 3 #[(f40 3)] w41 fun t15_43 w44 =>
  binN Try.prog .add 3 false (f40 0) t15_43 w44 fun t16_45 w46 =>
  binN Try.prog .rem 3 true t16_45 (.int .i64 64) w46 fun t17_47 w48 =>
  binN Try.prog .neq 3 true t17_47 (.int .i64 56) w48 fun t18_49 w50 =>
  condW t18_49 (
  insW Try.prog (Instr.buildSlice 34 1 #[(0, (.int .u8 0))]) w50 fun t20_51 w52 =>
  insW Try.prog (Builtin.append_ #[34, 34] 34 #[(f40 3), t20_51]) w52 fun t21_53 w54 =>
  K42 .normal (pf 38 (pf 38 (pf 38 (pf 38 (pf 38 (pf 38 (pf 38 (pf 38 (pf 38 (pf 38 f40 13 (f40 0)) 14 (f40 3)) 15 t15_43) 16 t16_45) 17 t17_47) 18 t18_49) 19 (f40 3)) 20 t20_51) 21 t21_53) 3 t21_53) w54) (
  K42 (.exit 0) (pf 38 (pf 38 (pf 38 (pf 38 (pf 38 (pf 38 f40 13 (f40 0)) 14 (f40 3)) 15 t15_43) 16 t16_45) 17 t17_47) 18 t18_49) w50)) (pf 38 (pf 38 (pf 38 (pf 38 (pf 38 (pf 38 (pf 38 (pf 38 (pf 38 (argF [x0]) 2 (.slice none 0 0)) 6 x0) 7 t7_0) 8 t7_0) 9 t9_2) 10 t10_4) 11 t11_6) 12 t12_8) 3 t12_8) w9 K39)
theorem c52_eq (x0 : Value) (w : World) (K : VPost) : c52 x0 w K = WP true Try.prog 38 [] (bodyOf Try.f52) (argF [x0]) w [.tmp 2] K := by kernel_rfl
theorem c52_calls (x0 : Value) (w : World) (K : VPost) (h : c52 x0 w K) : Calls Try.prog 52 #[x0] w (retK K) :=
  calls_of_WP (c52_eq x0 w K) mixedG Try.func52 (by kernel_rfl) Try.ntmps52 (by kernel_rfl) (by kernel_rfl) h

/-- imprimatur/imprimaturref01.constants -/
def c81 (w : World) (K : VPost) : Prop :=
  fnW Try.prog 98 #[(.int .i64 64)] w fun t4_0 w1 =>
  insW Try.prog (Instr.buildSlice 114 0 #[]) w1 fun t5_2 w3 =>
  bindX (endW Try.prog [.tmp 0] K) fun K4 =>
  bindX (seqX (fun f6 w7 =>
  K (f6 2) w7) K4) fun K5 =>
  bindX (blkX 0 K5) fun K8 =>
  loopW (fun f9 w10 K11 =>
  binN Try.prog .lss 3 true (f9 3) (.int .i64 64) w10 fun t7_12 w13 =>
  condW t7_12 (
  idxW (some (none, 1)) (f9 1) (f9 3) w13 fun t13_14 w15 =>
  loadW (some (false, 1)) t13_14 w15 fun t14_16 w17 =>
  fnW Try.prog 99 #[t14_16] w17 fun t15_18 w19 =>
  insW Try.prog (Instr.buildSlice 114 1 #[(0, t15_18)]) w19 fun t16_20 w21 =>
  insW Try.prog (Builtin.append_ #[114, 114] 114 #[(f9 2), t16_20]) w21 fun t17_22 w23 =>
  binN Try.prog .add 3 true (f9 3) (.int .i64 1) w23 fun t9_24 w25 =>
  K11 .normal (pf 19 (pf 19 (pf 19 (pf 19 (pf 19 (pf 19 (pf 19 (pf 19 (pf 19 (pf 19 (pf 19 (pf 19 (pf 19 (pf 19 f9 6 (f9 3)) 7 t7_12) 10 (f9 2)) 11 (f9 1)) 12 (f9 3)) 13 t13_14) 14 t14_16) 15 t15_18) 16 t16_20) 17 t17_22) 2 t17_22) 8 (f9 3)) 9 t9_24) 3 t9_24) w25) (
  K11 (.exit 0) (pf 19 (pf 19 f9 6 (f9 3)) 7 t7_12) w13)) (pf 19 (pf 19 (pf 19 (pf 19 (pf 19 (pf 19 (argF []) 0 (.slice none 0 0)) 4 t4_0) 1 t4_0) 5 t5_2) 2 t5_2) 3 (.int .i64 0)) w3 K8
theorem c81_eq (w : World) (K : VPost) : c81  w K = WP true Try.prog 19 [] (bodyOf Try.f81) (argF []) w [.tmp 0] K := by kernel_rfl
theorem c81_calls (w : World) (K : VPost) (h : c81  w K) : Calls Try.prog 81 #[] w (retK K) :=
  calls_of_WP (c81_eq  w K) mixedG Try.func81 (by kernel_rfl) Try.ntmps81 (by kernel_rfl) (by kernel_rfl) h

/-- imprimatur/imprimaturref01.First -/
def c82 (w : World) (K : VPost) : Prop :=
  allocW (zeroO Try.prog 70) 70 w fun t0_0 w1 =>
  fnW Try.prog 98 #[(.int .i64 8)] w1 fun t4_2 w3 =>
  insW Try.prog (Instr.build 70 #[]) w3 fun t5_4 w5 =>
  allocW (zeroO Try.prog 70) 70 w5 fun t2_6 w7 =>
  storeW (some (true, 8)) t2_6 t5_4 w7 fun w8 =>
  bindX (endW Try.prog [.cell 0 70] K) fun K9 =>
  bindX (seqX (fun f11 w12 =>
  loadW (some (true, 8)) (f11 2) w12 fun t17_13 w14 =>
  storeW (some (true, 8)) (f11 0) t17_13 w14 fun w15 =>
  loadW (some (true, 8)) (f11 0) w15 fun r16 u17 =>
  K r16 w15) K9) fun K10 =>
  bindX (blkX 0 K10) fun K18 =>
  loopW (fun f19 w20 K21 =>
  binN Try.prog .lss 3 true (f19 3) (.int .i64 8) w20 fun t7_22 w23 =>
  condW t7_22 (
  idxW (some (none, 1)) (f19 1) (f19 3) w23 fun t13_24 w25 =>
  loadW (some (false, 1)) t13_24 w25 fun t14_26 w27 =>
  fnW Try.prog 100 #[t14_26] w27 fun t15_28 w29 =>
  idxW (some ((some 8), 1)) (f19 2) (f19 3) w29 fun t16_30 w31 =>
  storeW (some (false, 1)) t16_30 t15_28 w31 fun w32 =>
  binN Try.prog .add 3 true (f19 3) (.int .i64 1) w32 fun t9_33 w34 =>
  K21 .normal (pf 18 (pf 18 (pf 18 (pf 18 (pf 18 (pf 18 (pf 18 (pf 18 (pf 18 (pf 18 (pf 18 (pf 18 f19 6 (f19 3)) 7 t7_22) 10 (f19 3)) 11 (f19 1)) 12 (f19 3)) 13 t13_24) 14 t14_26) 15 t15_28) 16 t16_30) 8 (f19 3)) 9 t9_33) 3 t9_33) w34) (
  K21 (.exit 0) (pf 18 (pf 18 f19 6 (f19 3)) 7 t7_22) w23)) (pf 18 (pf 18 (pf 18 (pf 18 (pf 18 (pf 18 (argF []) 0 t0_0) 4 t4_2) 1 t4_2) 5 t5_4) 2 t2_6) 3 (.int .i64 0)) w8 K18
theorem c82_eq (w : World) (K : VPost) : c82  w K = WP true Try.prog 18 [] (bodyOf Try.f82) (argF []) w [.cell 0 70] K := by kernel_rfl
theorem c82_calls (w : World) (K : VPost) (h : c82  w K) : Calls Try.prog 82 #[] w (retK K) :=
  calls_of_WP (c82_eq  w K) mixedG Try.func82 (by kernel_rfl) Try.ntmps82 (by kernel_rfl) (by kernel_rfl) h

/-- imprimatur/imprimaturref01.taken -/
def c83 (x0 x1 x2 : Value) (w : World) (K : VPost) : Prop :=
  boxW 70 x0 w fun t3_0 w1 =>
  boxW 32 x1 w1 fun t4_2 w3 =>
  allocW (zeroO Try.prog 70) 70 w3 fun t6_4 w5 =>
  insW Try.prog (Instr.makeSlice 114 (.int .i64 64) (.int .i64 64)) w5 fun t23_6 w7 =>
  bindX (endW Try.prog [.cell 6 70] K) fun K8 =>
  bindX (seqX (fun f10 w11 =>
  loadW (some (true, 8)) (f10 3) w11 fun t106_12 w13 =>
  allocW (zeroO Try.prog 70) 70 w13 fun t13_14 w15 =>
  storeW (some (true, 8)) t13_14 t106_12 w15 fun w16 =>
  bindX (seqX (fun f18 w19 =>
  insW Try.prog (Instr.build 70 #[]) w19 fun t193_20 w21 =>
  allocW (zeroO Try.prog 70) 70 w21 fun t21_22 w23 =>
  storeW (some (true, 8)) t21_22 t193_20 w23 fun w24 =>
  bindX (seqX (fun f26 w27 =>
  loadW (some (true, 8)) (f26 21) w27 fun t207_28 w29 =>
  storeW (some (true, 8)) (f26 6) t207_28 w29 fun w30 =>
  loadW (some (true, 8)) (f26 6) w30 fun r31 u32 =>
  K r31 w30) K8) fun K25 =>
  bindX (blkX 4 K25) fun K33 =>
  loopW (fun f34 w35 K36 =>
  binN Try.prog .lss 3 true (f34 22) (.int .i64 8) w35 fun t195_37 w38 =>
  condW t195_37 (
  idxW (some ((some 8), 1)) (f34 3) (f34 22) w38.drew fun t200_39 w40 =>
  loadW (some (false, 1)) t200_39 w40 fun t201_41 w42 =>
  idxW (some ((some 8), 1)) (f34 13) (f34 22) w42 fun t203_43 w44 =>
  loadW (some (false, 1)) t203_43 w44 fun t204_45 w46 =>
  binN Try.prog .add 69 false t201_41 t204_45 w46 fun t205_47 w48 =>
  idxW (some ((some 8), 1)) (f34 21) (f34 22) w48 fun t206_49 w50 =>
  storeW (some (false, 1)) t206_49 t205_47 w50 fun w51 =>
  binN Try.prog .add 3 true (f34 22) (.int .i64 1) w51 fun t197_52 w53 =>
  K36 .normal (pf 208 (pf 208 (pf 208 (pf 208 (pf 208 (pf 208 (pf 208 (pf 208 (pf 208 (pf 208 (pf 208 (pf 208 (pf 208 (pf 208 f34 194 (f34 22)) 195 t195_37) 198 (f34 22)) 199 (f34 22)) 200 t200_39) 201 t201_41) 202 (f34 22)) 203 t203_43) 204 t204_45) 205 t205_47) 206 t206_49) 196 (f34 22)) 197 t197_52) 22 t197_52) w53) (
  K36 (.exit 4) (pf 208 (pf 208 f34 194 (f34 22)) 195 t195_37) w38)) (pf 208 (pf 208 (pf 208 f18 193 t193_20) 21 t21_22) 22 (.int .i64 0)) w24 K33) K8) fun K17 =>
  bindX (blkX 2 K17) fun K54 =>
  loopW (fun f55 w56 K57 =>
  binN Try.prog .lss 3 true (f55 14) (.int .i64 64) w56 fun t108_58 w59 =>
  condW t108_58 (
  idxW (some ((some 8), 1)) (f55 13) (.int .i64 0) w59 fun t111_60 w61 =>
  loadW (some (false, 1)) t111_60 w61 fun t112_62 w63 =>
  idxW (some ((some 8), 1)) (f55 13) (.int .i64 4) w63 fun t113_64 w65 =>
  loadW (some (false, 1)) t113_64 w65 fun t114_66 w67 =>
  idxW (some ((some 8), 1)) (f55 13) (.int .i64 5) w67 fun t116_68 w69 =>
  loadW (some (false, 1)) t116_68 w69 fun t117_70 w71 =>
  binN Try.prog .and 69 false t114_66 t117_70 w71 fun t118_72 w73 =>
  unN Try.prog .xor t114_66 w73 fun t120_74 w75 =>
  idxW (some ((some 8), 1)) (f55 13) (.int .i64 6) w75 fun t121_76 w77 =>
  loadW (some (false, 1)) t121_76 w77 fun t122_78 w79 =>
  binN Try.prog .and 69 false t120_74 t122_78 w79 fun t123_80 w81 =>
  binN Try.prog .or 69 false t118_72 t123_80 w81 fun t124_82 w83 =>
  idxW (some ((some 8), 1)) (f55 13) (.int .i64 1) w83 fun t126_84 w85 =>
  loadW (some (false, 1)) t126_84 w85 fun t127_86 w87 =>
  binN Try.prog .and 69 false t112_62 t127_86 w87 fun t128_88 w89 =>
  idxW (some ((some 8), 1)) (f55 13) (.int .i64 2) w89 fun t130_90 w91 =>
  loadW (some (false, 1)) t130_90 w91 fun t131_92 w93 =>
  binN Try.prog .and 69 false t112_62 t131_92 w93 fun t132_94 w95 =>
  binN Try.prog .or 69 false t128_88 t132_94 w95 fun t133_96 w97 =>
  idxW (some ((some 8), 1)) (f55 13) (.int .i64 1) w97 fun t134_98 w99 =>
  loadW (some (false, 1)) t134_98 w99 fun t135_100 w101 =>
  idxW (some ((some 8), 1)) (f55 13) (.int .i64 2) w101 fun t136_102 w103 =>
  loadW (some (false, 1)) t136_102 w103 fun t137_104 w105 =>
  binN Try.prog .and 69 false t135_100 t137_104 w105 fun t138_106 w107 =>
  binN Try.prog .or 69 false t133_96 t138_106 w107 fun t139_108 w109 =>
  idxW (some ((some 8), 1)) (f55 13) (.int .i64 7) w109.drew fun t140_110 w111 =>
  loadW (some (false, 1)) t140_110 w111 fun t141_112 w113 =>
  idxW (some (none, 1)) (f55 2) (f55 14) w113 fun t155_114 w115 =>
  loadW (some (false, 1)) t155_114 w115 fun t156_116 w117 =>
  idxW (some (none, 1)) (f55 7) (f55 14) w117 fun t160_118 w119 =>
  loadW (some (false, 1)) t160_118 w119 fun t161_120 w121 =>
  fnW Try.prog 101 #[t114_66, (.int .u64 6)] w121 fun t143_122 w123 =>
  (loadW (some (false, 1)) t140_110 w123 fun t141_124 w125 => t141_124 = t141_112 ∧ w125 = w123) ∧
  (loadW (some (false, 1)) t155_114 w123 fun t156_126 w127 => t156_126 = t156_116 ∧ w127 = w123) ∧
  (loadW (some (false, 1)) t160_118 w123 fun t161_128 w129 => t161_128 = t161_120 ∧ w129 = w123) ∧
  fnW Try.prog 101 #[t114_66, (.int .u64 11)] w123 fun t145_130 w131 =>
  (loadW (some (false, 1)) t140_110 w131 fun t141_132 w133 => t141_132 = t141_112 ∧ w133 = w131) ∧
  (loadW (some (false, 1)) t155_114 w131 fun t156_134 w135 => t156_134 = t156_116 ∧ w135 = w131) ∧
  (loadW (some (false, 1)) t160_118 w131 fun t161_136 w137 => t161_136 = t161_120 ∧ w137 = w131) ∧
  binN Try.prog .xor 69 false t143_122 t145_130 w131 fun t146_138 w139 =>
  fnW Try.prog 101 #[t114_66, (.int .u64 25)] w139 fun t148_140 w141 =>
  (loadW (some (false, 1)) t140_110 w141 fun t141_142 w143 => t141_142 = t141_112 ∧ w143 = w141) ∧
  (loadW (some (false, 1)) t155_114 w141 fun t156_144 w145 => t156_144 = t156_116 ∧ w145 = w141) ∧
  (loadW (some (false, 1)) t160_118 w141 fun t161_146 w147 => t161_146 = t161_120 ∧ w147 = w141) ∧
  binN Try.prog .xor 69 false t146_138 t148_140 w141 fun t149_148 w149 =>
  binN Try.prog .add 69 false t141_112 t149_148 w149 fun t150_150 w151 =>
  binN Try.prog .add 69 false t150_150 t124_82 w151 fun t152_152 w153 =>
  binN Try.prog .add 69 false t152_152 t156_116 w153 fun t157_154 w155 =>
  binN Try.prog .add 69 false t157_154 t161_120 w155 fun t162_156 w157 =>
  fnW Try.prog 101 #[t112_62, (.int .u64 2)] w157 fun t164_158 w159 =>
  fnW Try.prog 101 #[t112_62, (.int .u64 13)] w159 fun t166_160 w161 =>
  binN Try.prog .xor 69 false t164_158 t166_160 w161 fun t167_162 w163 =>
  fnW Try.prog 101 #[t112_62, (.int .u64 22)] w163 fun t169_164 w165 =>
  binN Try.prog .xor 69 false t167_162 t169_164 w165 fun t170_166 w167 =>
  binN Try.prog .add 69 false t170_166 t139_108 w167 fun t172_168 w169 =>
  binN Try.prog .add 69 false t162_156 t172_168 w169 fun t175_170 w171 =>
  idxW (some ((some 8), 1)) (f55 13) (.int .i64 0) w171 fun t176_172 w173 =>
  loadW (some (false, 1)) t176_172 w173 fun t177_174 w175 =>
  idxW (some ((some 8), 1)) (f55 13) (.int .i64 1) w175 fun t178_176 w177 =>
  loadW (some (false, 1)) t178_176 w177 fun t179_178 w179 =>
  idxW (some ((some 8), 1)) (f55 13) (.int .i64 2) w179 fun t180_180 w181 =>
  loadW (some (false, 1)) t180_180 w181 fun t181_182 w183 =>
  idxW (some ((some 8), 1)) (f55 13) (.int .i64 3) w183 fun t182_184 w185 =>
  loadW (some (false, 1)) t182_184 w185 fun t183_186 w187 =>
  binN Try.prog .add 69 false t183_186 t162_156 w187 fun t185_188 w189 =>
  idxW (some ((some 8), 1)) (f55 13) (.int .i64 4) w189 fun t186_190 w191 =>
  loadW (some (false, 1)) t186_190 w191 fun t187_192 w193 =>
  idxW (some ((some 8), 1)) (f55 13) (.int .i64 5) w193 fun t188_194 w195 =>
  loadW (some (false, 1)) t188_194 w195 fun t189_196 w197 =>
  idxW (some ((some 8), 1)) (f55 13) (.int .i64 6) w197 fun t190_198 w199 =>
  loadW (some (false, 1)) t190_198 w199 fun t191_200 w201 =>
  insW Try.prog (Instr.build 70 #[(0, t175_170), (1, t177_174), (2, t179_178), (3, t181_182), (4, t185_188), (5, t187_192), (6, t189_196), (7, t191_200)]) w201 fun t192_202 w203 =>
  storeW (some (true, 8)) (f55 13) t192_202 w203 fun w204 =>
  binN Try.prog .add 3 true (f55 14) (.int .i64 1) w204 fun t110_205 w206 =>
  K57 .normal (pf 208 (pf 208 (pf 208 (pf 208 (pf 208 (pf 208 (pf 208 (pf 208 (pf 208 (pf 208 (pf 208 (pf 208 (pf 208 (pf 208 (pf 208 (pf 208 (pf 208 (pf 208 (pf 208 (pf 208 (pf 208 (pf 208 (pf 208 (pf 208 (pf 208 (pf 208 (pf 208 (pf 208 (pf 208 (pf 208 (pf 208 (pf 208 (pf 208 (pf 208 (pf 208 (pf 208 (pf 208 (pf 208 (pf 208 (pf 208 (pf 208 (pf 208 (pf 208 (pf 208 (pf 208 (pf 208 (pf 208 (pf 208 (pf 208 (pf 208 (pf 208 (pf 208 (pf 208 (pf 208 (pf 208 (pf 208 (pf 208 (pf 208 (pf 208 (pf 208 (pf 208 (pf 208 (pf 208 (pf 208 (pf 208 (pf 208 (pf 208 (pf 208 (pf 208 (pf 208 (pf 208 (pf 208 (pf 208 (pf 208 (pf 208 (pf 208 (pf 208 (pf 208 (pf 208 (pf 208 (pf 208 (pf 208 (pf 208 (pf 208 (pf 208 (pf 208 (pf 208 (pf 208 (pf 208 (pf 208 (pf 208 (pf 208 (pf 208 f55 107 (f55 14)) 108 t108_58) 111 t111_60) 112 t112_62) 15 t112_62) 113 t113_64) 114 t114_66) 16 t114_66) 115 t114_66) 116 t116_68) 117 t117_70) 118 t118_72) 119 t114_66) 120 t120_74) 121 t121_76) 122 t122_78) 123 t123_80) 124 t124_82) 17 t124_82) 125 t112_62) 126 t126_84) 127 t127_86) 128 t128_88) 129 t112_62) 130 t130_90) 131 t131_92) 132 t132_94) 133 t133_96) 134 t134_98) 135 t135_100) 136 t136_102) 137 t137_104) 138 t138_106) 139 t139_108) 18 t139_108) 140 t140_110) 141 t141_112) 142 t114_66) 144 t114_66) 147 t114_66) 151 t124_82) 153 (f55 2)) 154 (f55 14)) 155 t155_114) 156 t156_116) 158 (f55 7)) 159 (f55 14)) 160 t160_118) 161 t161_120) 143 t143_122) 145 t145_130) 146 t146_138) 148 t148_140) 149 t149_148) 150 t150_150) 152 t152_152) 157 t157_154) 162 t162_156) 19 t162_156) 163 t112_62) 164 t164_158) 165 t112_62) 166 t166_160) 167 t167_162) 168 t112_62) 169 t169_164) 170 t170_166) 171 t139_108) 172 t172_168) 20 t172_168) 173 t162_156) 174 t172_168) 175 t175_170) 176 t176_172) 177 t177_174) 178 t178_176) 179 t179_178) 180 t180_180) 181 t181_182) 182 t182_184) 183 t183_186) 184 t162_156) 185 t185_188) 186 t186_190) 187 t187_192) 188 t188_194) 189 t189_196) 190 t190_198) 191 t191_200) 192 t192_202) 109 (f55 14)) 110 t110_205) 14 t110_205) w206) (
  K57 (.exit 2) (pf 208 (pf 208 f55 107 (f55 14)) 108 t108_58) w59)) (pf 208 (pf 208 (pf 208 f10 106 t106_12) 13 t13_14) 14 (.int .i64 0)) w16 K54) K8) fun K9 =>
  bindX (blkX 0 K9) fun K207 =>
  loopW (fun f208 w209 K210 =>
  binN Try.prog .lss 3 true (f208 8) (.int .i64 64) w209 fun t25_211 w212 =>
  condW t25_211 (
  bindX (seqX (fun f214 w215 =>
  binN Try.prog .add 3 true (f214 8) (.int .i64 1) w215 fun t27_216 w217 =>
  K210 .normal (pf 208 (pf 208 (pf 208 f214 26 (f214 8)) 27 t27_216) 8 t27_216) w217) K210) fun K213 =>
  bindX (blkX 1 K213) fun K218 =>
  binN Try.prog .lss 3 true (f208 8) (.int .i64 16) w212 fun t29_219 w220 =>
  condW t29_219 (
  binN Try.prog .mul 3 true (.int .i64 4) (f208 8) w220.drew fun t33_221 w222 =>
  idxW (some ((some 64), 1)) (f208 4) t33_221 w222 fun t34_223 w224 =>
  loadW (some (false, 1)) t34_223 w224 fun t35_225 w226 =>
  convN Try.prog 5 69 t35_225 w226 fun t36_227 w228 =>
  binN Try.prog .shl 69 true t36_227 (.int .u64 24) w228 fun t37_229 w230 =>
  binN Try.prog .mul 3 true (.int .i64 4) (f208 8) w230 fun t39_231 w232 =>
  binN Try.prog .add 3 true t39_231 (.int .i64 1) w232 fun t40_233 w234 =>
  idxW (some ((some 64), 1)) (f208 4) t40_233 w234 fun t41_235 w236 =>
  loadW (some (false, 1)) t41_235 w236 fun t42_237 w238 =>
  convN Try.prog 5 69 t42_237 w238 fun t43_239 w240 =>
  binN Try.prog .shl 69 true t43_239 (.int .u64 16) w240 fun t44_241 w242 =>
  binN Try.prog .or 69 false t37_229 t44_241 w242 fun t45_243 w244 =>
  binN Try.prog .mul 3 true (.int .i64 4) (f208 8) w244 fun t47_245 w246 =>
  binN Try.prog .add 3 true t47_245 (.int .i64 2) w246 fun t48_247 w248 =>
  idxW (some ((some 64), 1)) (f208 4) t48_247 w248 fun t49_249 w250 =>
  loadW (some (false, 1)) t49_249 w250 fun t50_251 w252 =>
  convN Try.prog 5 69 t50_251 w252 fun t51_253 w254 =>
  binN Try.prog .shl 69 true t51_253 (.int .u64 8) w254 fun t52_255 w256 =>
  binN Try.prog .or 69 false t45_243 t52_255 w256 fun t53_257 w258 =>
  binN Try.prog .mul 3 true (.int .i64 4) (f208 8) w258 fun t55_259 w260 =>
  binN Try.prog .add 3 true t55_259 (.int .i64 3) w260 fun t56_261 w262 =>
  idxW (some ((some 64), 1)) (f208 4) t56_261 w262 fun t57_263 w264 =>
  loadW (some (false, 1)) t57_263 w264 fun t58_265 w266 =>
  convN Try.prog 5 69 t58_265 w266 fun t59_267 w268 =>
  binN Try.prog .or 69 false t53_257 t59_267 w268 fun t60_269 w270 =>
  idxW (some (none, 1)) (f208 7) (f208 8) w270 fun t61_271 w272 =>
  storeW (some (false, 1)) t61_271 t60_269 w272 fun w273 =>
  K213 .normal (pf 208 (pf 208 (pf 208 (pf 208 (pf 208 (pf 208 (pf 208 (pf 208 (pf 208 (pf 208 (pf 208 (pf 208 (pf 208 (pf 208 (pf 208 (pf 208 (pf 208 (pf 208 (pf 208 (pf 208 (pf 208 (pf 208 (pf 208 (pf 208 (pf 208 (pf 208 (pf 208 (pf 208 (pf 208 (pf 208 (pf 208 (pf 208 (pf 208 (pf 208 (pf 208 (pf 208 f208 24 (f208 8)) 25 t25_211) 28 (f208 8)) 29 t29_219) 30 (f208 7)) 31 (f208 8)) 32 (f208 8)) 33 t33_221) 34 t34_223) 35 t35_225) 36 t36_227) 37 t37_229) 38 (f208 8)) 39 t39_231) 40 t40_233) 41 t41_235) 42 t42_237) 43 t43_239) 44 t44_241) 45 t45_243) 46 (f208 8)) 47 t47_245) 48 t48_247) 49 t49_249) 50 t50_251) 51 t51_253) 52 t52_255) 53 t53_257) 54 (f208 8)) 55 t55_259) 56 t56_261) 57 t57_263) 58 t58_265) 59 t59_267) 60 t60_269) 61 t61_271) w273) (
  binN Try.prog .sub 3 true (f208 8) (.int .i64 15) w220 fun t64_274 w275 =>
  idxW (some (none, 1)) (f208 7) t64_274 w275 fun t65_276 w277 =>
  loadW (some (false, 1)) t65_276 w277 fun t66_278 w279 =>
  binN Try.prog .sub 3 true (f208 8) (.int .i64 2) w279 fun t69_280 w281 =>
  idxW (some (none, 1)) (f208 7) t69_280 w281 fun t70_282 w283 =>
  loadW (some (false, 1)) t70_282 w283 fun t71_284 w285 =>
  fnW Try.prog 101 #[t66_278, (.int .u64 7)] w285 fun t73_286 w287 =>
  fnW Try.prog 101 #[t66_278, (.int .u64 18)] w287 fun t75_288 w289 =>
  binN Try.prog .xor 69 false t73_286 t75_288 w289 fun t76_290 w291 =>
  binN Try.prog .shr 69 true t66_278 (.int .u64 3) w291 fun t78_292 w293 =>
  binN Try.prog .xor 69 false t76_290 t78_292 w293 fun t79_294 w295 =>
  fnW Try.prog 101 #[t71_284, (.int .u64 17)] w295 fun t81_296 w297 =>
  fnW Try.prog 101 #[t71_284, (.int .u64 19)] w297 fun t83_298 w299 =>
  binN Try.prog .xor 69 false t81_296 t83_298 w299 fun t84_300 w301 =>
  binN Try.prog .shr 69 true t71_284 (.int .u64 10) w301 fun t86_302 w303 =>
  binN Try.prog .xor 69 false t84_300 t86_302 w303 fun t87_304 w305 =>
  binN Try.prog .sub 3 true (f208 8) (.int .i64 16) w305.drew fun t92_306 w307 =>
  idxW (some (none, 1)) (f208 7) t92_306 w307 fun t93_308 w309 =>
  loadW (some (false, 1)) t93_308 w309 fun t94_310 w311 =>
  binN Try.prog .add 69 false t94_310 t79_294 w311 fun t96_312 w313 =>
  binN Try.prog .sub 3 true (f208 8) (.int .i64 7) w313 fun t99_314 w315 =>
  idxW (some (none, 1)) (f208 7) t99_314 w315 fun t100_316 w317 =>
  loadW (some (false, 1)) t100_316 w317 fun t101_318 w319 =>
  binN Try.prog .add 69 false t96_312 t101_318 w319 fun t102_320 w321 =>
  binN Try.prog .add 69 false t102_320 t87_304 w321 fun t104_322 w323 =>
  idxW (some (none, 1)) (f208 7) (f208 8) w323 fun t105_324 w325 =>
  storeW (some (false, 1)) t105_324 t104_322 w325 fun w326 =>
  K213 .normal (pf 208 (pf 208 (pf 208 (pf 208 (pf 208 (pf 208 (pf 208 (pf 208 (pf 208 (pf 208 (pf 208 (pf 208 (pf 208 (pf 208 (pf 208 (pf 208 (pf 208 (pf 208 (pf 208 (pf 208 (pf 208 (pf 208 (pf 208 (pf 208 (pf 208 (pf 208 (pf 208 (pf 208 (pf 208 (pf 208 (pf 208 (pf 208 (pf 208 (pf 208 (pf 208 (pf 208 (pf 208 (pf 208 (pf 208 (pf 208 (pf 208 (pf 208 (pf 208 (pf 208 (pf 208 (pf 208 (pf 208 (pf 208 (pf 208 (pf 208 (pf 208 (pf 208 f208 24 (f208 8)) 25 t25_211) 28 (f208 8)) 29 t29_219) 62 (f208 7)) 63 (f208 8)) 64 t64_274) 65 t65_276) 66 t66_278) 9 t66_278) 67 (f208 7)) 68 (f208 8)) 69 t69_280) 70 t70_282) 71 t71_284) 10 t71_284) 72 t66_278) 73 t73_286) 74 t66_278) 75 t75_288) 76 t76_290) 77 t66_278) 78 t78_292) 79 t79_294) 11 t79_294) 80 t71_284) 81 t81_296) 82 t71_284) 83 t83_298) 84 t84_300) 85 t71_284) 86 t86_302) 87 t87_304) 12 t87_304) 88 (f208 7)) 89 (f208 8)) 90 (f208 7)) 91 (f208 8)) 92 t92_306) 93 t93_308) 94 t94_310) 95 t79_294) 96 t96_312) 97 (f208 7)) 98 (f208 8)) 99 t99_314) 100 t100_316) 101 t101_318) 102 t102_320) 103 t87_304) 104 t104_322) 105 t105_324) w326)) (
  K210 (.exit 0) (pf 208 (pf 208 f208 24 (f208 8)) 25 t25_211) w212)) (pf 208 (pf 208 (pf 208 (pf 208 (pf 208 (pf 208 (argF [x0, x1, x2]) 3 t3_0) 4 t4_2) 6 t6_4) 23 t23_6) 7 t23_6) 8 (.int .i64 0)) w7 K207
theorem c83_eq (x0 x1 x2 : Value) (w : World) (K : VPost) : c83 x0 x1 x2 w K = WP true Try.prog 208 [(6, 4294967296, [0, 0, 0, 4, 8, 16, 32, 64, 0, 256, 512, 1024, 2048, 4096, 8192, 16512, 0, 65536, 131072, 262144, 524288, 1048576, 2097152, 4227072, 0, 16777216, 33554432, 67108864, 134217728, 268435456, 545259520, 2147483647, 4294967295], [0, 0, 0, 4, 12, 28, 60, 124, 0, 256, 768, 1792, 3840, 7936, 16128, 32764, 0, 65536, 196608, 458752, 983040, 2031616, 4128768, 8388604, 0, 16777216, 50331648, 117440512, 251658240, 520093696, 1073741820, 2147483647, 4294967295]), (11, 262144, [0, 0, 0, 0, 8, 20, 32, 0, 192, 0, 0, 1024, 2560, 4096, 8448, 0, 49152, 131071, 262143], [0, 0, 0, 0, 8, 28, 60, 0, 252, 0, 0, 1024, 3584, 7680, 16380, 0, 65532, 131071, 262143]), (20, 296, [0, 1, 0, 4, 0, 24, 40, 0, 160, 320, 514, 0, 3072, 0, 0, 24576, 32768, 69632, 0, 0, 786432, 1048576, 2228224, 8388607], [0, 1, 0, 4, 0, 28, 60, 0, 188, 508, 1023, 0, 4095, 0, 0, 24576, 57344, 131071, 0, 0, 786432, 1835008, 4194303, 8388607]), (27, 512, [0, 0, 2, 4, 0, 16, 32, 72, 255, 511], [0, 0, 2, 6, 0, 16, 48, 126, 255, 511])] (bodyOf Try.f83) (argF [x0, x1, x2]) w [.cell 6 70] K := by kernel_rfl
theorem c83_calls (x0 x1 x2 : Value) (w : World) (K : VPost) (h : c83 x0 x1 x2 w K) : Calls Try.prog 83 #[x0, x1, x2] w (retK K) :=
  calls_of_WP (c83_eq x0 x1 x2 w K) mixedG Try.func83 (by kernel_rfl) Try.ntmps83 (by kernel_rfl) (by kernel_rfl) h

/-- imprimatur/imprimaturref01.primes -/
def c98 (x0 : Value) (w : World) (K : VPost) : Prop :=
  insW Try.prog (Instr.buildSlice 133 0 #[]) w fun t7_0 w1 =>
  bindX (endW Try.prog [.tmp 2] K) fun K2 =>
  bindX (seqX (fun f4 w5 =>
  K (f4 3) w5) K2) fun K3 =>
  bindX (blkX 0 K3) fun K6 =>
  loopW (fun f7 w8 K9 =>
  lenW Try.prog (some true) #[133] 3 #[(f7 3)] w8 fun t9_10 w11 =>
  binN Try.prog .lss 3 false t9_10 (f7 0) w11 fun t11_12 w13 =>
  condW t11_12 (
  bindX (seqX (fun f15 w16 =>
  binN Try.prog .add 136 true (f15 4) (.int .u64 1) w16 fun t13_17 w18 =>
  K9 .normal (pf 31 (pf 31 (pf 31 f15 12 (f15 4)) 13 t13_17) 4 t13_17) w18) K9) fun K14 =>
  bindX (blkX 1 K14) fun K19 =>
  bindX (seqX (fun f21 w22 =>
  condW (f21 5) (
  insW Try.prog (Instr.buildSlice 133 1 #[(0, (f21 4))]) w22 fun t28_23 w24 =>
  insW Try.prog (Builtin.append_ #[133, 133] 133 #[(f21 3), t28_23]) w24 fun t29_25 w26 =>
  K14 .normal (pf 31 (pf 31 (pf 31 (pf 31 (pf 31 (pf 31 f21 25 (f21 5)) 26 (f21 3)) 27 (f21 4)) 28 t28_23) 29 t29_25) 3 t29_25) w26) (
  K14 .normal (pf 31 f21 25 (f21 5)) w22)) K19) fun K20 =>
  bindX (blkX 2 K20) fun K27 =>
  loopW (fun f28 w29 K30 =>
  binN Try.prog .mul 136 false (f28 6) (f28 6) w29 fun t16_31 w32 =>
  binN Try.prog .leq 136 false t16_31 (f28 4) w32 fun t18_33 w34 =>
  condW t18_33 (
  bindX (seqX (fun f36 w37 =>
  binN Try.prog .add 136 true (f36 6) (.int .u64 1) w37 fun t20_38 w39 =>
  K30 .normal (pf 31 (pf 31 (pf 31 f36 19 (f36 6)) 20 t20_38) 6 t20_38) w39) K30) fun K35 =>
  bindX (blkX 3 K35) fun K40 =>
  binN Try.prog .rem 136 false (f28 4) (f28 6) w34 fun t23_41 w42 =>
  binN Try.prog .eql 136 true t23_41 (.int .u64 0) w42 fun t24_43 w44 =>
  condW t24_43 (
  K35 .normal (pf 31 (pf 31 (pf 31 (pf 31 (pf 31 (pf 31 (pf 31 (pf 31 (pf 31 (pf 31 f28 14 (f28 6)) 15 (f28 6)) 16 t16_31) 17 (f28 4)) 18 t18_33) 21 (f28 4)) 22 (f28 6)) 23 t23_41) 24 t24_43) 5 (.bool false)) w44) (
  K35 .normal (pf 31 (pf 31 (pf 31 (pf 31 (pf 31 (pf 31 (pf 31 (pf 31 (pf 31 f28 14 (f28 6)) 15 (f28 6)) 16 t16_31) 17 (f28 4)) 18 t18_33) 21 (f28 4)) 22 (f28 6)) 23 t23_41) 24 t24_43) w44)) (
  K30 (.exit 2) (pf 31 (pf 31 (pf 31 (pf 31 (pf 31 f28 14 (f28 6)) 15 (f28 6)) 16 t16_31) 17 (f28 4)) 18 t18_33) w34)) (pf 31 (pf 31 (pf 31 (pf 31 (pf 31 (pf 31 f7 8 (f7 3)) 9 t9_10) 10 (f7 0)) 11 t11_12) 5 (.bool true)) 6 (.int .u64 2)) w13 K27) (
  K9 (.exit 0) (pf 31 (pf 31 (pf 31 (pf 31 f7 8 (f7 3)) 9 t9_10) 10 (f7 0)) 11 t11_12) w13)) (pf 31 (pf 31 (pf 31 (pf 31 (argF [x0]) 2 (.slice none 0 0)) 7 t7_0) 3 t7_0) 4 (.int .u64 2)) w1 K6
theorem c98_eq (x0 : Value) (w : World) (K : VPost) : c98 x0 w K = WP true Try.prog 31 [] (bodyOf Try.f98) (argF [x0]) w [.tmp 2] K := by kernel_rfl
theorem c98_calls (x0 : Value) (w : World) (K : VPost) (h : c98 x0 w K) : Calls Try.prog 98 #[x0] w (retK K) :=
  calls_of_WP (c98_eq x0 w K) mixedG Try.func98 (by kernel_rfl) Try.ntmps98 (by kernel_rfl) (by kernel_rfl) h

/-- imprimatur/imprimaturref01.cube -/
def c99 (x0 : Value) (w : World) (K : VPost) : Prop :=
  bindX (endW Try.prog [.tmp 2] K) fun K0 =>
  bindX (seqX (fun f2 w3 =>
  convN Try.prog 136 69 (f2 3) w3 fun t20_4 w5 =>
  K t20_4 w5) K0) fun K1 =>
  bindX (blkX 0 K1) fun K6 =>
  loopW (fun f7 w8 K9 =>
  binN Try.prog .geq 3 true (f7 4) (.int .i64 0) w8 fun t7_10 w11 =>
  condW t7_10 (
  bindX (seqX (fun f13 w14 =>
  binN Try.prog .sub 3 true (f13 4) (.int .i64 1) w14 fun t9_15 w16 =>
  K9 .normal (pf 21 (pf 21 (pf 21 f13 8 (f13 4)) 9 t9_15) 4 t9_15) w16) K9) fun K12 =>
  bindX (blkX 1 K12) fun K17 =>
  convN Try.prog 3 54 (f7 4) w11 fun t12_18 w19 =>
  binN Try.prog .shl 136 true (.int .u64 1) t12_18 w19 fun t13_20 w21 =>
  binN Try.prog .add 136 false (f7 3) t13_20 w21 fun t14_22 w23 =>
  fnW Try.prog 111 #[t14_22, (f7 0)] w23 fun t17_24 w25 =>
  condW t17_24 (
  K12 .normal (pf 21 (pf 21 (pf 21 (pf 21 (pf 21 (pf 21 (pf 21 (pf 21 (pf 21 (pf 21 (pf 21 (pf 21 (pf 21 f7 6 (f7 4)) 7 t7_10) 10 (f7 3)) 11 (f7 4)) 12 t12_18) 13 t13_20) 14 t14_22) 5 t14_22) 15 t14_22) 16 (f7 0)) 17 t17_24) 18 t14_22) 3 t14_22) w25) (
  K12 .normal (pf 21 (pf 21 (pf 21 (pf 21 (pf 21 (pf 21 (pf 21 (pf 21 (pf 21 (pf 21 (pf 21 f7 6 (f7 4)) 7 t7_10) 10 (f7 3)) 11 (f7 4)) 12 t12_18) 13 t13_20) 14 t14_22) 5 t14_22) 15 t14_22) 16 (f7 0)) 17 t17_24) w25)) (
  K9 (.exit 0) (pf 21 (pf 21 f7 6 (f7 4)) 7 t7_10) w11)) (pf 21 (pf 21 (pf 21 (argF [x0]) 2 (.int .u32 0)) 3 (.int .u64 0)) 4 (.int .i64 34)) w K6
theorem c99_eq (x0 : Value) (w : World) (K : VPost) : c99 x0 w K = WP true Try.prog 21 [] (bodyOf Try.f99) (argF [x0]) w [.tmp 2] K := by kernel_rfl
theorem c99_calls (x0 : Value) (w : World) (K : VPost) (h : c99 x0 w K) : Calls Try.prog 99 #[x0] w (retK K) :=
  calls_of_WP (c99_eq x0 w K) mixedG Try.func99 (by kernel_rfl) Try.ntmps99 (by kernel_rfl) (by kernel_rfl) h

/-- imprimatur/imprimaturref01.square -/
def c100 (x0 : Value) (w : World) (K : VPost) : Prop :=
  bindX (endW Try.prog [.tmp 2] K) fun K0 =>
  bindX (seqX (fun f2 w3 =>
  convN Try.prog 136 69 (f2 3) w3 fun t61_4 w5 =>
  K t61_4 w5) K0) fun K1 =>
  bindX (blkX 0 K1) fun K6 =>
  loopW (fun f7 w8 K9 =>
  binN Try.prog .geq 3 true (f7 4) (.int .i64 0) w8 fun t12_10 w11 =>
  condW t12_10 (
  bindX (seqX (fun f13 w14 =>
  binN Try.prog .sub 3 true (f13 4) (.int .i64 1) w14 fun t14_15 w16 =>
  K9 .normal (pf 62 (pf 62 (pf 62 f13 13 (f13 4)) 14 t14_15) 4 t14_15) w16) K9) fun K12 =>
  bindX (blkX 1 K12) fun K17 =>
  convN Try.prog 3 54 (f7 4) w11 fun t17_18 w19 =>
  binN Try.prog .shl 136 true (.int .u64 1) t17_18 w19 fun t18_20 w21 =>
  binN Try.prog .add 136 false (f7 3) t18_20 w21 fun t19_22 w23 =>
  binN Try.prog .shr 136 true t19_22 (.int .u64 32) w23 fun t21_24 w25 =>
  binN Try.prog .and 136 true t19_22 (.int .u64 4294967295) w25 fun t23_26 w27 =>
  binN Try.prog .mul 136 true (.int .u64 2) t21_24 w27 fun t25_28 w29 =>
  binN Try.prog .mul 136 false t25_28 t23_26 w29 fun t27_30 w31 =>
  binN Try.prog .mul 136 false t23_26 t23_26 w31 fun t30_32 w33 =>
  binN Try.prog .shr 136 true t30_32 (.int .u64 32) w33 fun t31_34 w35 =>
  binN Try.prog .add 136 false t27_30 t31_34 w35 fun t32_36 w37 =>
  binN Try.prog .mul 136 false t21_24 t21_24 w37 fun t35_38 w39 =>
  binN Try.prog .shr 136 true t32_36 (.int .u64 32) w39 fun t37_40 w41 =>
  binN Try.prog .add 136 false t35_38 t37_40 w41 fun t38_42 w43 =>
  binN Try.prog .and 136 true t32_36 (.int .u64 4294967295) w43 fun t40_44 w45 =>
  binN Try.prog .shl 136 true t40_44 (.int .u64 32) w45 fun t41_46 w47 =>
  binN Try.prog .mul 136 false t23_26 t23_26 w47 fun t44_48 w49 =>
  binN Try.prog .and 136 true t44_48 (.int .u64 4294967295) w49 fun t45_50 w51 =>
  binN Try.prog .or 136 false t41_46 t45_50 w51 fun t46_52 w53 =>
  binN Try.prog .lss 136 false t38_42 (f7 0) w53 fun t49_54 w55 =>
  gstep t49_54 false w55 (fun K => K t38_42 w55) fun t51_56 w57 =>
  gstep t49_54 false w57 (fun K => K (f7 0) w57) fun t52_58 w59 =>
  gstep t49_54 false w59 (fun K => binN Try.prog .eql 136 false t51_56 t52_58 w59 K) fun t53_60 w61 =>
  gstep t49_54 false w61 (fun K => K t53_60 w61) fun t54_62 w63 =>
  gstep t54_62 true w63 (fun K => K t46_52 w63) fun t55_64 w65 =>
  gstep t54_62 true w65 (fun K => binN Try.prog .eql 136 true t55_64 (.int .u64 0) w65 K) fun t56_66 w67 =>
  gstep t49_54 false w67 (fun K => pickW t54_62 t56_66 (.bool false) w67 K) fun t57_68 w69 =>
  pickW t49_54 (.bool true) t57_68 w69 fun t58_70 w71 =>
  condW t58_70 (
  K12 .normal (pf 62 (pf 62 (pf 62 (pf 62 (pf 62 (pf 62 (pf 62 (pf 62 (pf 62 (pf 62 (pf 62 (pf 62 (pf 62 (pf 62 (pf 62 (pf 62 (pf 62 (pf 62 (pf 62 (pf 62 (pf 62 (pf 62 (pf 62 (pf 62 (pf 62 (pf 62 (pf 62 (pf 62 (pf 62 (pf 62 (pf 62 (pf 62 (pf 62 (pf 62 (pf 62 (pf 62 (pf 62 (pf 62 (pf 62 (pf 62 (pf 62 (pf 62 (pf 62 (pf 62 (pf 62 (pf 62 (pf 62 (pf 62 (pf 62 (pf 62 (pf 62 (pf 62 (pf 62 (pf 62 f7 11 (f7 4)) 12 t12_10) 15 (f7 3)) 16 (f7 4)) 17 t17_18) 18 t18_20) 19 t19_22) 5 t19_22) 20 t19_22) 21 t21_24) 6 t21_24) 22 t19_22) 23 t23_26) 7 t23_26) 24 t21_24) 25 t25_28) 26 t23_26) 27 t27_30) 28 t23_26) 29 t23_26) 30 t30_32) 31 t31_34) 32 t32_36) 8 t32_36) 33 t21_24) 34 t21_24) 35 t35_38) 36 t32_36) 37 t37_40) 38 t38_42) 9 t38_42) 39 t32_36) 40 t40_44) 41 t41_46) 42 t23_26) 43 t23_26) 44 t44_48) 45 t45_50) 46 t46_52) 10 t46_52) 47 t38_42) 48 (f7 0)) 49 t49_54) 50 t49_54) 51 t51_56) 52 t52_58) 53 t53_60) 54 t54_62) 55 t55_64) 56 t56_66) 57 t57_68) 58 t58_70) 59 t19_22) 3 t19_22) w71) (
  K12 .normal (pf 62 (pf 62 (pf 62 (pf 62 (pf 62 (pf 62 (pf 62 (pf 62 (pf 62 (pf 62 (pf 62 (pf 62 (pf 62 (pf 62 (pf 62 (pf 62 (pf 62 (pf 62 (pf 62 (pf 62 (pf 62 (pf 62 (pf 62 (pf 62 (pf 62 (pf 62 (pf 62 (pf 62 (pf 62 (pf 62 (pf 62 (pf 62 (pf 62 (pf 62 (pf 62 (pf 62 (pf 62 (pf 62 (pf 62 (pf 62 (pf 62 (pf 62 (pf 62 (pf 62 (pf 62 (pf 62 (pf 62 (pf 62 (pf 62 (pf 62 (pf 62 (pf 62 f7 11 (f7 4)) 12 t12_10) 15 (f7 3)) 16 (f7 4)) 17 t17_18) 18 t18_20) 19 t19_22) 5 t19_22) 20 t19_22) 21 t21_24) 6 t21_24) 22 t19_22) 23 t23_26) 7 t23_26) 24 t21_24) 25 t25_28) 26 t23_26) 27 t27_30) 28 t23_26) 29 t23_26) 30 t30_32) 31 t31_34) 32 t32_36) 8 t32_36) 33 t21_24) 34 t21_24) 35 t35_38) 36 t32_36) 37 t37_40) 38 t38_42) 9 t38_42) 39 t32_36) 40 t40_44) 41 t41_46) 42 t23_26) 43 t23_26) 44 t44_48) 45 t45_50) 46 t46_52) 10 t46_52) 47 t38_42) 48 (f7 0)) 49 t49_54) 50 t49_54) 51 t51_56) 52 t52_58) 53 t53_60) 54 t54_62) 55 t55_64) 56 t56_66) 57 t57_68) 58 t58_70) w71)) (
  K9 (.exit 0) (pf 62 (pf 62 f7 11 (f7 4)) 12 t12_10) w11)) (pf 62 (pf 62 (pf 62 (argF [x0]) 2 (.int .u32 0)) 3 (.int .u64 0)) 4 (.int .i64 35)) w K6
theorem c100_eq (x0 : Value) (w : World) (K : VPost) : c100 x0 w K = WP true Try.prog 62 [] (bodyOf Try.f100) (argF [x0]) w [.tmp 2] K := by kernel_rfl
theorem c100_calls (x0 : Value) (w : World) (K : VPost) (h : c100 x0 w K) : Calls Try.prog 100 #[x0] w (retK K) :=
  calls_of_WP (c100_eq x0 w K) mixedG Try.func100 (by kernel_rfl) Try.ntmps100 (by kernel_rfl) (by kernel_rfl) h

/-- imprimatur/imprimaturref01.turn -/
def c101 (x0 x1 : Value) (w : World) (K : VPost) : Prop :=
  binN Try.prog .shr 69 false x0 x1 w fun t7_0 w1 =>
  binN Try.prog .sub 54 true (.int .u64 32) x1 w1 fun t10_2 w3 =>
  binN Try.prog .shl 69 false x0 t10_2 w3 fun t11_4 w5 =>
  binN Try.prog .or 69 false t7_0 t11_4 w5 fun t12_6 w7 =>
  K t12_6 w7
theorem c101_eq (x0 x1 : Value) (w : World) (K : VPost) : c101 x0 x1 w K = WP true Try.prog 13 [] (bodyOf Try.f101) (argF [x0, x1]) w [.tmp 4] K := by kernel_rfl
theorem c101_calls (x0 x1 : Value) (w : World) (K : VPost) (h : c101 x0 x1 w K) : Calls Try.prog 101 #[x0, x1] w (retK K) :=
  calls_of_WP (c101_eq x0 x1 w K) mixedG Try.func101 (by kernel_rfl) Try.ntmps101 (by kernel_rfl) (by kernel_rfl) h

/-- imprimatur/imprimaturref01.below -/
def c111 (x0 x1 : Value) (w : World) (K : VPost) : Prop :=
  binN Try.prog .and 136 true x0 (.int .u64 65535) w fun t10_0 w1 =>
  binN Try.prog .shr 136 true x0 (.int .u64 16) w1 fun t12_2 w3 =>
  binN Try.prog .and 136 true t12_2 (.int .u64 65535) w3 fun t13_4 w5 =>
  binN Try.prog .shr 136 true x0 (.int .u64 32) w5 fun t15_6 w7 =>
  insW Try.prog (Instr.buildSlice 133 3 #[(0, t10_0), (1, t13_4), (2, t15_6)]) w7 fun t16_8 w9 =>
  fnW Try.prog 124 #[t16_8, t16_8] w9 fun t19_10 w11 =>
  fnW Try.prog 124 #[t19_10, t16_8] w11 fun t21_12 w13 =>
  lenW Try.prog (some true) #[133] 3 #[t21_12] w13 fun t23_14 w15 =>
  binN Try.prog .add 3 true t23_14 (.int .i64 7) w15 fun t24_16 w17 =>
  insW Try.prog (Instr.makeSlice 133 t24_16 t24_16) w17 fun t25_18 w19 =>
  idxW (some (none, 1)) t25_18 (.int .i64 6) w19 fun t28_20 w21 =>
  storeW (some (false, 1)) t28_20 x1 w21 fun w22 =>
  bindX (endW Try.prog [.tmp 4] K) fun K23 =>
  bindX (seqX (fun f25 w26 =>
  bindX (seqX (fun f28 w29 =>
  K (.bool true) w29) K23) fun K27 =>
  lenW Try.prog (some true) #[133] 3 #[(f25 7)] w26 fun t38_30 w31 =>
  binN Try.prog .sub 3 true t38_30 (.int .i64 1) w31 fun t39_32 w33 =>
  bindX (blkX 2 K27) fun K34 =>
  loopW (fun f35 w36 K37 =>
  binN Try.prog .geq 3 true (f35 8) (.int .i64 0) w36 fun t41_38 w39 =>
  condW t41_38 (
  idxW (some (none, 1)) (f35 6) (f35 8) w39.drew fun t46_40 w41 =>
  loadW (some (false, 1)) t46_40 w41 fun t47_42 w43 =>
  idxW (some (none, 1)) (f35 7) (f35 8) w43 fun t50_44 w45 =>
  loadW (some (false, 1)) t50_44 w45 fun t51_46 w47 =>
  binN Try.prog .neq 136 false t47_42 t51_46 w47 fun t52_48 w49 =>
  condW t52_48 (
  idxW (some (none, 1)) (f35 6) (f35 8) w49.drew fun t55_50 w51 =>
  loadW (some (false, 1)) t55_50 w51 fun t56_52 w53 =>
  idxW (some (none, 1)) (f35 7) (f35 8) w53 fun t59_54 w55 =>
  loadW (some (false, 1)) t59_54 w55 fun t60_56 w57 =>
  binN Try.prog .lss 136 false t56_52 t60_56 w57 fun t61_58 w59 =>
  K37 .ret (pf 62 (pf 62 (pf 62 (pf 62 (pf 62 (pf 62 (pf 62 (pf 62 (pf 62 (pf 62 (pf 62 (pf 62 (pf 62 (pf 62 (pf 62 (pf 62 (pf 62 (pf 62 (pf 62 (pf 62 (pf 62 f35 40 (f35 8)) 41 t41_38) 44 (f35 6)) 45 (f35 8)) 46 t46_40) 47 t47_42) 48 (f35 7)) 49 (f35 8)) 50 t50_44) 51 t51_46) 52 t52_48) 53 (f35 6)) 54 (f35 8)) 55 t55_50) 56 t56_52) 57 (f35 7)) 58 (f35 8)) 59 t59_54) 60 t60_56) 61 t61_58) 4 t61_58) w59) (
  binN Try.prog .sub 3 true (f35 8) (.int .i64 1) w49 fun t43_60 w61 =>
  K37 .normal (pf 62 (pf 62 (pf 62 (pf 62 (pf 62 (pf 62 (pf 62 (pf 62 (pf 62 (pf 62 (pf 62 (pf 62 (pf 62 (pf 62 f35 40 (f35 8)) 41 t41_38) 44 (f35 6)) 45 (f35 8)) 46 t46_40) 47 t47_42) 48 (f35 7)) 49 (f35 8)) 50 t50_44) 51 t51_46) 52 t52_48) 42 (f35 8)) 43 t43_60) 8 t43_60) w61)) (
  K37 (.exit 2) (pf 62 (pf 62 f35 40 (f35 8)) 41 t41_38) w39)) (pf 62 (pf 62 (pf 62 (pf 62 f25 37 (f25 7)) 38 t38_30) 39 t39_32) 8 t39_32) w33 K34) K23) fun K24 =>
  bindX (blkX 0 K24) fun K62 =>
  loopW (fun f63 w64 K65 =>
  lenW Try.prog (some true) #[133] 3 #[(f63 6)] w64 fun t30_66 w67 =>
  lenW Try.prog (some true) #[133] 3 #[(f63 7)] w67 fun t32_68 w69 =>
  binN Try.prog .lss 3 false t30_66 t32_68 w69 fun t33_70 w71 =>
  condW t33_70 (
  insW Try.prog (Instr.buildSlice 133 1 #[(0, (.int .u64 0))]) w71 fun t35_72 w73 =>
  insW Try.prog (Builtin.append_ #[133, 133] 133 #[(f63 6), t35_72]) w73 fun t36_74 w75 =>
  K65 .normal (pf 62 (pf 62 (pf 62 (pf 62 (pf 62 (pf 62 (pf 62 (pf 62 (pf 62 f63 29 (f63 6)) 30 t30_66) 31 (f63 7)) 32 t32_68) 33 t33_70) 34 (f63 6)) 35 t35_72) 36 t36_74) 6 t36_74) w75) (
  K65 (.exit 0) (pf 62 (pf 62 (pf 62 (pf 62 (pf 62 f63 29 (f63 6)) 30 t30_66) 31 (f63 7)) 32 t32_68) 33 t33_70) w71)) (pf 62 (pf 62 (pf 62 (pf 62 (pf 62 (pf 62 (pf 62 (pf 62 (pf 62 (pf 62 (pf 62 (pf 62 (pf 62 (pf 62 (pf 62 (pf 62 (pf 62 (pf 62 (pf 62 (pf 62 (pf 62 (pf 62 (pf 62 (pf 62 (argF [x0, x1]) 4 (.bool false)) 9 x0) 10 t10_0) 11 x0) 12 t12_2) 13 t13_4) 14 x0) 15 t15_6) 16 t16_8) 5 t16_8) 17 t16_8) 18 t16_8) 19 t19_10) 20 t16_8) 21 t21_12) 6 t21_12) 22 t21_12) 23 t23_14) 24 t24_16) 25 t25_18) 7 t25_18) 26 t25_18) 27 x1) 28 t28_20) w22 K62
theorem c111_eq (x0 x1 : Value) (w : World) (K : VPost) : c111 x0 x1 w K = WP true Try.prog 62 [(10, 0, [0, 0, 3, 4, 0, 0, 48, 64, 136], [0, 0, 3, 7, 0, 0, 48, 112, 255]), (11, 0, [0, 0, 3, 4, 0, 0, 48, 64, 136, 511], [0, 0, 3, 7, 0, 0, 48, 112, 255, 511])] (bodyOf Try.f111) (argF [x0, x1]) w [.tmp 4] K := by kernel_rfl
theorem c111_calls (x0 x1 : Value) (w : World) (K : VPost) (h : c111 x0 x1 w K) : Calls Try.prog 111 #[x0, x1] w (retK K) :=
  calls_of_WP (c111_eq x0 x1 w K) mixedG Try.func111 (by kernel_rfl) Try.ntmps111 (by kernel_rfl) (by kernel_rfl) h

/-- imprimatur/imprimaturref01.times -/
def c124 (x0 x1 : Value) (w : World) (K : VPost) : Prop :=
  lenW Try.prog (some true) #[133] 3 #[x0] w fun t11_0 w1 =>
  lenW Try.prog (some true) #[133] 3 #[x1] w1 fun t13_2 w3 =>
  binN Try.prog .add 3 false t11_0 t13_2 w3 fun t14_4 w5 =>
  insW Try.prog (Instr.makeSlice 133 t14_4 t14_4) w5 fun t15_6 w7 =>
  bindX (endW Try.prog [.tmp 4] K) fun K8 =>
  bindX (seqX (fun f10 w11 =>
  K (f10 5) w11) K8) fun K9 =>
  bindX (blkX 0 K9) fun K12 =>
  loopW (fun f13 w14 K15 =>
  lenW Try.prog (some true) #[133] 3 #[(f13 0)] w14 fun t18_16 w17 =>
  binN Try.prog .lss 3 false (f13 6) t18_16 w17 fun t19_18 w19 =>
  condW t19_18 (
  bindX (seqX (fun f21 w22 =>
  binN Try.prog .add 3 true (f21 6) (.int .i64 1) w22 fun t21_23 w24 =>
  K15 .normal (pf 66 (pf 66 (pf 66 f21 20 (f21 6)) 21 t21_23) 6 t21_23) w24) K15) fun K20 =>
  bindX (blkX 1 K20) fun K25 =>
  bindX (seqX (fun f27 w28 =>
  lenW Try.prog (some true) #[133] 3 #[(f27 1)] w28 fun t58_29 w30 =>
  binN Try.prog .add 3 false (f27 6) t58_29 w30 fun t59_31 w32 =>
  idxW (some (none, 1)) (f27 5) t59_31 w32 fun t60_33 w34 =>
  loadW (some (false, 1)) t60_33 w34 fun t61_35 w36 =>
  binN Try.prog .add 136 false t61_35 (f27 7) w36 fun t63_37 w38 =>
  idxW (some (none, 1)) (f27 5) t59_31 w38 fun t64_39 w40 =>
  storeW (some (false, 1)) t64_39 t63_37 w40 fun w41 =>
  K20 .normal (pf 66 (pf 66 (pf 66 (pf 66 (pf 66 (pf 66 (pf 66 (pf 66 (pf 66 (pf 66 f27 55 (f27 5)) 56 (f27 6)) 57 (f27 1)) 58 t58_29) 59 t59_31) 60 t60_33) 61 t61_35) 62 (f27 7)) 63 t63_37) 64 t64_39) w41) K25) fun K26 =>
  bindX (blkX 2 K26) fun K42 =>
  loopW (fun f43 w44 K45 =>
  lenW Try.prog (some true) #[133] 3 #[(f43 1)] w44 fun t24_46 w47 =>
  binN Try.prog .lss 3 false (f43 8) t24_46 w47 fun t25_48 w49 =>
  condW t25_48 (
  binN Try.prog .add 3 false (f43 6) (f43 8) w49.drew fun t31_50 w51 =>
  idxW (some (none, 1)) (f43 5) t31_50 w51 fun t32_52 w53 =>
  loadW (some (false, 1)) t32_52 w53 fun t33_54 w55 =>
  idxW (some (none, 1)) (f43 0) (f43 6) w55 fun t36_56 w57 =>
  loadW (some (false, 1)) t36_56 w57 fun t37_58 w59 =>
  idxW (some (none, 1)) (f43 1) (f43 8) w59 fun t40_60 w61 =>
  loadW (some (false, 1)) t40_60 w61 fun t41_62 w63 =>
  binN Try.prog .mul 136 false t37_58 t41_62 w63 fun t42_64 w65 =>
  binN Try.prog .add 136 false t33_54 t42_64 w65 fun t43_66 w67 =>
  binN Try.prog .add 136 false t43_66 (f43 7) w67 fun t45_68 w69 =>
  binN Try.prog .add 3 false (f43 6) (f43 8) w69 fun t49_70 w71 =>
  binN Try.prog .and 136 true t45_68 (.int .u64 65535) w71 fun t51_72 w73 =>
  idxW (some (none, 1)) (f43 5) t49_70 w73 fun t52_74 w75 =>
  storeW (some (false, 1)) t52_74 t51_72 w75 fun w76 =>
  binN Try.prog .shr 136 true t45_68 (.int .u64 16) w76 fun t54_77 w78 =>
  binN Try.prog .add 3 true (f43 8) (.int .i64 1) w78 fun t27_79 w80 =>
  K45 .normal (pf 66 (pf 66 (pf 66 (pf 66 (pf 66 (pf 66 (pf 66 (pf 66 (pf 66 (pf 66 (pf 66 (pf 66 (pf 66 (pf 66 (pf 66 (pf 66 (pf 66 (pf 66 (pf 66 (pf 66 (pf 66 (pf 66 (pf 66 (pf 66 (pf 66 (pf 66 (pf 66 (pf 66 (pf 66 (pf 66 (pf 66 (pf 66 (pf 66 (pf 66 (pf 66 (pf 66 f43 22 (f43 8)) 23 (f43 1)) 24 t24_46) 25 t25_48) 28 (f43 5)) 29 (f43 6)) 30 (f43 8)) 31 t31_50) 32 t32_52) 33 t33_54) 34 (f43 0)) 35 (f43 6)) 36 t36_56) 37 t37_58) 38 (f43 1)) 39 (f43 8)) 40 t40_60) 41 t41_62) 42 t42_64) 43 t43_66) 44 (f43 7)) 45 t45_68) 9 t45_68) 46 (f43 5)) 47 (f43 6)) 48 (f43 8)) 49 t49_70) 50 t45_68) 51 t51_72) 52 t52_74) 53 t45_68) 54 t54_77) 7 t54_77) 26 (f43 8)) 27 t27_79) 8 t27_79) w80) (
  K45 (.exit 2) (pf 66 (pf 66 (pf 66 (pf 66 f43 22 (f43 8)) 23 (f43 1)) 24 t24_46) 25 t25_48) w49)) (pf 66 (pf 66 (pf 66 (pf 66 (pf 66 (pf 66 f13 16 (f13 6)) 17 (f13 0)) 18 t18_16) 19 t19_18) 7 (.int .u64 0)) 8 (.int .i64 0)) w19 K42) (
  K15 (.exit 0) (pf 66 (pf 66 (pf 66 (pf 66 f13 16 (f13 6)) 17 (f13 0)) 18 t18_16) 19 t19_18) w19)) (pf 66 (pf 66 (pf 66 (pf 66 (pf 66 (pf 66 (pf 66 (pf 66 (pf 66 (argF [x0, x1]) 4 (.slice none 0 0)) 10 x0) 11 t11_0) 12 x1) 13 t13_2) 14 t14_4) 15 t15_6) 5 t15_6) 6 (.int .i64 0)) w7 K12
theorem c124_eq (x0 x1 : Value) (w : World) (K : VPost) : c124 x0 x1 w K = WP true Try.prog 66 [(9, 0, [0, 0, 0, 6, 9, 16, 0, 0, 192, 256, 0, 0, 3072, 4096, 8704, 16416, 0, 98304, 262143], [0, 0, 0, 6, 15, 31, 0, 0, 192, 448, 0, 0, 3072, 7168, 16320, 32767, 0, 131071, 262143])] (bodyOf Try.f124) (argF [x0, x1]) w [.tmp 4] K := by kernel_rfl
theorem c124_calls (x0 x1 : Value) (w : World) (K : VPost) (h : c124 x0 x1 w K) : Calls Try.prog 124 #[x0, x1] w (retK K) :=
  calls_of_WP (c124_eq x0 x1 w K) mixedG Try.func124 (by kernel_rfl) Try.ntmps124 (by kernel_rfl) (by kernel_rfl) h

end Go.Proofs.Ytedebapgmfnflaa
