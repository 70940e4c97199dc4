/- The clean forms of some of the program's functions, written by a program of ours; each is the model's own by the kernel's reckoning. -/
import Derived.Test.YtedebapgmfnflaaG7
import Derived.KernelRfl
namespace Go.Proofs.Ytedebapgmfnflaa
open Go
set_option maxRecDepth 100000

/-- imprimatur/sha.New -/
def c42 (w : World) (K : VPost) : Prop :=
  fnW Try.prog 79 #[] w fun t1_0 w1 =>
  insW Try.prog (Instr.build 112 #[(0, t1_0)]) w1 fun t2_2 w3 =>
  boxW 112 t2_2 w3 fun t3_4 w5 =>
  K t3_4 w5
theorem c42_eq (w : World) (K : VPost) : c42  w K = WP true Try.prog 4 [] (bodyOf Try.f42) (argF []) w [.tmp 0] K := by kernel_rfl
theorem c42_calls (w : World) (K : VPost) (h : c42  w K) : Calls Try.prog 42 #[] w (retK K) :=
  calls_of_WP (c42_eq  w K) mixedG Try.func42 (by kernel_rfl) Try.ntmps42 (by kernel_rfl) (by kernel_rfl) h

/-- (*imprimatur/sha.Hash).Write -/
def c43 (x0 x1 : Value) (w : World) (K : VPost) : Prop :=
  lenW Try.prog (some true) #[56] 3 #[x1] w fun t7_0 w1 =>
  bindX (endW Try.prog [] K) fun K2 =>
  bindX (blkX 0 K2) fun K3 =>
  loopW (fun f4 w5 K6 =>
  binN Try.prog .lss 3 false (f4 8) (f4 7) w5 fun t9_7 w8 =>
  condW t9_7 (
  idxW (some (none, 1)) (f4 6) (f4 8) w8 fun t10_9 w10 =>
  loadW (some (false, 1)) t10_9 w10 fun t11_11 w12 =>
  fnW Try.prog 80 #[(f4 0), t11_11] w12 fun t14_13 w14 =>
  binN Try.prog .add 3 true (f4 8) (.int .i64 1) w14 fun t15_15 w16 =>
  K6 .normal (pf 16 (pf 16 (pf 16 (pf 16 (pf 16 (pf 16 (pf 16 (pf 16 (pf 16 f4 9 t9_7) 10 t10_9) 11 t11_11) 5 t11_11) 12 (f4 0)) 13 t11_11) 14 t14_13) 15 t15_15) 8 t15_15) w16) (
  K6 (.exit 0) (pf 16 f4 9 t9_7) w8)) (pf 16 (pf 16 (pf 16 (argF [x0, x1]) 6 x1) 7 t7_0) 8 (.int .i64 0)) w1 K3
theorem c43_eq (x0 x1 : Value) (w : World) (K : VPost) : c43 x0 x1 w K = WP true Try.prog 16 [] (bodyOf Try.f43) (argF [x0, x1]) w [] K := by kernel_rfl
theorem c43_calls (x0 x1 : Value) (w : World) (K : VPost) (h : c43 x0 x1 w K) : Calls Try.prog 43 #[x0, x1] w (retK K) :=
  calls_of_WP (c43_eq x0 x1 w K) mixedG Try.func43 (by kernel_rfl) Try.ntmps43 (by kernel_rfl) (by kernel_rfl) h

/-- (*imprimatur/sha.Hash).Len -/
def c44 (x0 : Value) (w : World) (K : VPost) : Prop :=
  nilW x0 w fun t4_0 w1 =>
  offW (some 9) t4_0 w1 fun t5_2 w3 =>
  loadW (some (false, 1)) t5_2 w3 fun t6_4 w5 =>
  K t6_4 w5
theorem c44_eq (x0 : Value) (w : World) (K : VPost) : c44 x0 w K = WP true Try.prog 7 [] (bodyOf Try.f44) (argF [x0]) w [.tmp 2] K := by kernel_rfl
theorem c44_calls (x0 : Value) (w : World) (K : VPost) (h : c44 x0 w K) : Calls Try.prog 44 #[x0] w (retK K) :=
  calls_of_WP (c44_eq x0 w K) mixedG Try.func44 (by kernel_rfl) Try.ntmps44 (by kernel_rfl) (by kernel_rfl) h

/-- (*imprimatur/sha.Hash).Sum -/
def c45 (x0 : Value) (w : World) (K : VPost) : Prop :=
  allocW (zeroO Try.prog 62) 62 w fun t2_0 w1 =>
  fnW Try.prog 47 #[x0] w1 fun t7_2 w3 =>
  nilW x0 w3 fun t10_4 w5 =>
  offW (some 9) t10_4 w5 fun t11_6 w7 =>
  loadW (some (false, 1)) t11_6 w7 fun t12_8 w9 =>
  fnW Try.prog 48 #[t12_8] w9 fun t13_10 w11 =>
  fnW Try.prog 80 #[t7_2, t13_10] w11 fun t14_12 w13 =>
  allocW (zeroO Try.prog 62) 62 w13 fun t4_14 w15 =>
  bindX (endW Try.prog [.cell 2 62] K) fun K16 =>
  bindX (seqX (fun f18 w19 =>
  loadW (some (true, 32)) (f18 4) w19 fun t34_20 w21 =>
  storeW (some (true, 32)) (f18 2) t34_20 w21 fun w22 =>
  loadW (some (true, 32)) (f18 2) w22 fun r23 u24 =>
  K r23 w22) K16) fun K17 =>
  bindX (blkX 0 K17) fun K25 =>
  loopW (fun f26 w27 K28 =>
  binN Try.prog .lss 3 true (f26 15) (.int .i64 32) w27 fun t16_29 w30 =>
  condW t16_29 (
  binN Try.prog .quo 3 true (f26 15) (.int .i64 4) w30 fun t21_31 w32 =>
  nilW (f26 3) w32 fun t22_33 w34 =>
  offW (some 0) t22_33 w34 fun t23_35 w36 =>
  idxW (some ((some 8), 1)) t23_35 t21_31 w36 fun t24_37 w38 =>
  loadW (some (false, 1)) t24_37 w38 fun t25_39 w40 =>
  binN Try.prog .rem 3 true (f26 15) (.int .i64 4) w40 fun t27_41 w42 =>
  binN Try.prog .mul 3 true (.int .i64 8) t27_41 w42 fun t28_43 w44 =>
  binN Try.prog .sub 3 true (.int .i64 24) t28_43 w44 fun t29_45 w46 =>
  binN Try.prog .shr 69 false t25_39 t29_45 w46 fun t30_47 w48 =>
  convN Try.prog 69 5 t30_47 w48 fun t31_49 w50 =>
  idxW (some ((some 32), 1)) (f26 4) (f26 15) w50 fun t32_51 w52 =>
  storeW (some (false, 1)) t32_51 t31_49 w52 fun w53 =>
  binN Try.prog .add 3 true (f26 15) (.int .i64 1) w53 fun t33_54 w55 =>
  K28 .normal (pf 35 (pf 35 (pf 35 (pf 35 (pf 35 (pf 35 (pf 35 (pf 35 (pf 35 (pf 35 (pf 35 (pf 35 (pf 35 (pf 35 (pf 35 (pf 35 (pf 35 (pf 35 (pf 35 (pf 35 f26 16 t16_29) 17 (f26 15)) 5 (f26 15)) 18 (f26 15)) 19 (f26 3)) 20 (f26 15)) 21 t21_31) 22 t22_33) 23 t23_35) 24 t24_37) 25 t25_39) 26 (f26 15)) 27 t27_41) 28 t28_43) 29 t29_45) 30 t30_47) 31 t31_49) 32 t32_51) 33 t33_54) 15 t33_54) w55) (
  K28 (.exit 0) (pf 35 f26 16 t16_29) w30)) (pf 35 (pf 35 (pf 35 (pf 35 (pf 35 (pf 35 (pf 35 (pf 35 (pf 35 (pf 35 (pf 35 (pf 35 (pf 35 (argF [x0]) 2 t2_0) 6 x0) 7 t7_2) 3 t7_2) 8 t7_2) 9 x0) 10 t10_4) 11 t11_6) 12 t12_8) 13 t13_10) 14 t14_12) 4 t4_14) 15 (.int .i64 0)) w15 K25
theorem c45_eq (x0 : Value) (w : World) (K : VPost) : c45 x0 w K = WP true Try.prog 35 [] (bodyOf Try.f45) (argF [x0]) w [.cell 2 62] K := by kernel_rfl
theorem c45_calls (x0 : Value) (w : World) (K : VPost) (h : c45 x0 w K) : Calls Try.prog 45 #[x0] w (retK K) :=
  calls_of_WP (c45_eq x0 w K) mixedG Try.func45 (by kernel_rfl) Try.ntmps45 (by kernel_rfl) (by kernel_rfl) h

/-- imprimatur/sha.Sum -/
def c46 (x0 : Value) (w : World) (K : VPost) : Prop :=
  allocW (zeroO Try.prog 62) 62 w fun t2_0 w1 =>
  fnW Try.prog 42 #[] w1 fun t4_2 w3 =>
  insW Try.prog (Instr.buildSlice 56 1 #[(0, x0)]) w3 fun t7_4 w5 =>
  fnW Try.prog 43 #[t4_2, t7_4] w5 fun t8_6 w7 =>
  fnW Try.prog 45 #[t4_2] w7 fun t10_8 w9 =>
  storeW (some (true, 32)) t2_0 t10_8 w9 fun w10 =>
  loadW (some (true, 32)) t2_0 w10 fun r11 u12 =>
  K r11 w10
theorem c46_eq (x0 : Value) (w : World) (K : VPost) : c46 x0 w K = WP true Try.prog 11 [] (bodyOf Try.f46) (argF [x0]) w [.cell 2 62] K := by kernel_rfl
theorem c46_calls (x0 : Value) (w : World) (K : VPost) (h : c46 x0 w K) : Calls Try.prog 46 #[x0] w (retK K) :=
  calls_of_WP (c46_eq x0 w K) mixedG Try.func46 (by kernel_rfl) Try.ntmps46 (by kernel_rfl) (by kernel_rfl) h

/-- (*imprimatur/sha.Hash).Fork -/
def c47 (x0 : Value) (w : World) (K : VPost) : Prop :=
  nilW x0 w.drew fun t4_0 w1 =>
  offW (some 0) t4_0 w1 fun t5_2 w3 =>
  loadW (some (true, 8)) t5_2 w3 fun t6_4 w5 =>
  nilW x0 w5 fun t9_6 w7 =>
  offW (some 8) t9_6 w7 fun t10_8 w9 =>
  loadW (some (false, 1)) t10_8 w9 fun t11_10 w11 =>
  nilW x0 w11 fun t14_12 w13 =>
  offW (some 9) t14_12 w13 fun t15_14 w15 =>
  loadW (some (false, 1)) t15_14 w15 fun t16_16 w17 =>
  insW Try.prog (Instr.buildSlice 34 0 #[]) w17 fun t7_18 w19 =>
  (loadW (some (true, 8)) t5_2 w19 fun t6_20 w21 => t6_20 = t6_4 ∧ w21 = w19) ∧
  (loadW (some (false, 1)) t10_8 w19 fun t11_22 w23 => t11_22 = t11_10 ∧ w23 = w19) ∧
  (loadW (some (false, 1)) t15_14 w19 fun t16_24 w25 => t16_24 = t16_16 ∧ w25 = w19) ∧
  insW Try.prog (Builtin.append_ #[34, 34] 34 #[t7_18, t11_10]) w19 fun t12_26 w27 =>
  (loadW (some (true, 8)) t5_2 w27 fun t6_28 w29 => t6_28 = t6_4 ∧ w29 = w27) ∧
  (loadW (some (false, 1)) t15_14 w27 fun t16_30 w31 => t16_30 = t16_16 ∧ w31 = w27) ∧
  insW Try.prog (Instr.build 112 #[(0, t6_4), (1, t12_26), (2, t16_16)]) w27 fun t17_32 w33 =>
  boxW 112 t17_32 w33 fun t18_34 w35 =>
  K t18_34 w35
theorem c47_eq (x0 : Value) (w : World) (K : VPost) : c47 x0 w K = WP true Try.prog 19 [(1, 33296, [0, 1, 2, 4, 0, 0, 32, 64, 128, 272, 0, 1024, 2048, 4096, 8712, 16384, 65535], [0, 1, 3, 7, 0, 0, 32, 96, 224, 496, 0, 1024, 3072, 7168, 16383, 32767, 65535])] (bodyOf Try.f47) (argF [x0]) w [.tmp 2] K := by kernel_rfl
theorem c47_calls (x0 : Value) (w : World) (K : VPost) (h : c47 x0 w K) : Calls Try.prog 47 #[x0] w (retK K) :=
  calls_of_WP (c47_eq x0 w K) mixedG Try.func47 (by kernel_rfl) Try.ntmps47 (by kernel_rfl) (by kernel_rfl) h

/-- imprimatur/sha.Pad -/
def c48 (x0 : Value) (w : World) (K : VPost) : Prop :=
  binN Try.prog .lss 3 true x0 (.int .i64 0) w fun t7_0 w1 =>
  gstep t7_0 false w1 (fun K => K x0 w1) fun t9_2 w3 =>
  gstep t7_0 false w3 (fun K => binN Try.prog .gtr 3 true t9_2 (.int .i64 1125899906842624) w3 K) fun t10_4 w5 =>
  pickW t7_0 (.bool true) t10_4 w5 fun t11_6 w7 =>
  condW t11_6 (
  K (.slice none 0 0) w7) (
  binN Try.prog .rem 3 true x0 (.int .i64 64) w7 fun t13_8 w9 =>
  binN Try.prog .sub 3 true (.int .i64 119) t13_8 w9 fun t14_10 w11 =>
  binN Try.prog .rem 3 true t14_10 (.int .i64 64) w11 fun t15_12 w13 =>
  insW Try.prog (Instr.buildSlice 34 1 #[(0, (.int .u8 128))]) w13 fun t16_14 w15 =>
  insW Try.prog (Builtin.append_ #[34, 3] 34 #[t16_14, t15_12]) w15 fun t18_16 w17 =>
  bindX (endW Try.prog [.tmp 2] K) fun K18 =>
  bindX (seqX (fun f20 w21 =>
  K (f20 4) w21) K18) fun K19 =>
  bindX (blkX 0 K19) fun K22 =>
  loopW (fun f23 w24 K25 =>
  binN Try.prog .geq 3 true (f23 5) (.int .i64 0) w24 fun t20_26 w27 =>
  condW t20_26 (
  binN Try.prog .mul 3 true (f23 0) (.int .i64 8) w27 fun t25_28 w29 =>
  binN Try.prog .shr 3 false t25_28 (f23 5) w29 fun t27_30 w31 =>
  convN Try.prog 3 5 t27_30 w31 fun t28_32 w33 =>
  insW Try.prog (Instr.buildSlice 34 1 #[(0, t28_32)]) w33 fun t29_34 w35 =>
  insW Try.prog (Builtin.append_ #[34, 34] 34 #[(f23 4), t29_34]) w35 fun t30_36 w37 =>
  binN Try.prog .sub 3 true (f23 5) (.int .i64 8) w37 fun t22_38 w39 =>
  K25 .normal (pf 32 (pf 32 (pf 32 (pf 32 (pf 32 (pf 32 (pf 32 (pf 32 (pf 32 (pf 32 (pf 32 (pf 32 (pf 32 (pf 32 f23 19 (f23 5)) 20 t20_26) 23 (f23 4)) 24 (f23 0)) 25 t25_28) 26 (f23 5)) 27 t27_30) 28 t28_32) 29 t29_34) 30 t30_36) 4 t30_36) 21 (f23 5)) 22 t22_38) 5 t22_38) w39) (
  K25 (.exit 0) (pf 32 (pf 32 f23 19 (f23 5)) 20 t20_26) w27)) (pf 32 (pf 32 (pf 32 (pf 32 (pf 32 (pf 32 (pf 32 (pf 32 (pf 32 (pf 32 (pf 32 (pf 32 (pf 32 (pf 32 (pf 32 (pf 32 (pf 32 (argF [x0]) 2 (.slice none 0 0)) 6 x0) 7 t7_0) 8 t7_0) 9 t9_2) 10 t10_4) 11 t11_6) 12 x0) 13 t13_8) 14 t14_10) 15 t15_12) 3 t15_12) 16 t16_14) 17 t15_12) 18 t18_16) 4 t18_16) 5 (.int .i64 56)) w17 K22)
theorem c48_eq (x0 : Value) (w : World) (K : VPost) : c48 x0 w K = WP true Try.prog 32 [] (bodyOf Try.f48) (argF [x0]) w [.tmp 2] K := by kernel_rfl
theorem c48_calls (x0 : Value) (w : World) (K : VPost) (h : c48 x0 w K) : Calls Try.prog 48 #[x0] w (retK K) :=
  calls_of_WP (c48_eq x0 w K) mixedG Try.func48 (by kernel_rfl) Try.ntmps48 (by kernel_rfl) (by kernel_rfl) h

/-- imprimatur/sha.Compress -/
def c50 (x0 x1 : Value) (w : World) (K : VPost) : Prop :=
  boxW 70 x0 w fun t2_0 w1 =>
  boxW 32 x1 w1 fun t3_2 w3 =>
  allocW (zeroO Try.prog 70) 70 w3 fun t4_4 w5 =>
  loadW (some (true, 8)) t2_0 w5.drew fun t5_6 w7 =>
  sliceW (.arr 64 1) t3_2 none none none w7 fun t6_8 w9 =>
  fnW Try.prog 84 #[t5_6, t6_8] w9 fun t7_10 w11 =>
  storeW (some (true, 8)) t4_4 t7_10 w11 fun w12 =>
  loadW (some (true, 8)) t4_4 w12 fun r13 u14 =>
  K r13 w12
theorem c50_eq (x0 x1 : Value) (w : World) (K : VPost) : c50 x0 x1 w K = WP true Try.prog 8 [(1, 12, [0, 0, 3, 7], [0, 0, 3, 7])] (bodyOf Try.f50) (argF [x0, x1]) w [.cell 4 70] K := by kernel_rfl
theorem c50_calls (x0 x1 : Value) (w : World) (K : VPost) (h : c50 x0 x1 w K) : Calls Try.prog 50 #[x0, x1] w (retK K) :=
  calls_of_WP (c50_eq x0 x1 w K) mixedG Try.func50 (by kernel_rfl) Try.ntmps50 (by kernel_rfl) (by kernel_rfl) h

/-- imprimatur/sha.first -/
def c79 (w : World) (K : VPost) : Prop :=
  allocW (zeroO Try.prog 70) 70 w fun t0_0 w1 =>
  insW Try.prog (Instr.build 70 #[(0, (.int .u32 1779033703)), (1, (.int .u32 3144134277)), (2, (.int .u32 1013904242)), (3, (.int .u32 2773480762)), (4, (.int .u32 1359893119)), (5, (.int .u32 2600822924)), (6, (.int .u32 528734635)), (7, (.int .u32 1541459225))]) w1 fun t1_2 w3 =>
  storeW (some (true, 8)) t0_0 t1_2 w3 fun w4 =>
  loadW (some (true, 8)) t0_0 w4 fun r5 u6 =>
  K r5 w4
theorem c79_eq (w : World) (K : VPost) : c79  w K = WP true Try.prog 2 [] (bodyOf Try.f79) (argF []) w [.cell 0 70] K := by kernel_rfl
theorem c79_calls (w : World) (K : VPost) (h : c79  w K) : Calls Try.prog 79 #[] w (retK K) :=
  calls_of_WP (c79_eq  w K) mixedG Try.func79 (by kernel_rfl) Try.ntmps79 (by kernel_rfl) (by kernel_rfl) h

/-- (*imprimatur/sha.Hash).take -/
def c80 (x0 x1 : Value) (w : World) (K : VPost) : Prop :=
  nilW x0 w fun t6_0 w1 =>
  offW (some 8) t6_0 w1 fun t7_2 w3 =>
  loadW (some (false, 1)) t7_2 w3 fun t8_4 w5 =>
  insW Try.prog (Builtin.append_ #[34, 34] 34 #[t8_4, x1]) w5 fun t10_6 w7 =>
  nilW x0 w7 fun t11_8 w9 =>
  offW (some 8) t11_8 w9 fun t12_10 w11 =>
  storeW (some (false, 1)) t12_10 t10_6 w11 fun w12 =>
  nilW x0 w12 fun t14_13 w14 =>
  offW (some 9) t14_13 w14 fun t15_15 w16 =>
  loadW (some (false, 1)) t15_15 w16 fun t16_17 w18 =>
  lenW Try.prog (some true) #[34] 3 #[x1] w18 fun t18_19 w20 =>
  binN Try.prog .add 3 false t16_17 t18_19 w20 fun t19_21 w22 =>
  nilW x0 w22 fun t20_23 w24 =>
  offW (some 9) t20_23 w24 fun t21_25 w26 =>
  storeW (some (false, 1)) t21_25 t19_21 w26 fun w27 =>
  bindX (endW Try.prog [] K) fun K28 =>
  bindX (blkX 0 K28) fun K29 =>
  loopW (fun f30 w31 K32 =>
  nilW (f30 0) w31 fun t23_33 w34 =>
  offW (some 8) t23_33 w34 fun t24_35 w36 =>
  loadW (some (false, 1)) t24_35 w36 fun t25_37 w38 =>
  lenW Try.prog (some true) #[34] 3 #[t25_37] w38 fun t26_39 w40 =>
  binN Try.prog .geq 3 true t26_39 (.int .i64 64) w40 fun t27_41 w42 =>
  condW t27_41 (
  nilW (f30 0) w42.drew fun t30_43 w44 =>
  offW (some 0) t30_43 w44 fun t31_45 w46 =>
  loadW (some (true, 8)) t31_45 w46 fun t32_47 w48 =>
  nilW (f30 0) w48 fun t34_49 w50 =>
  offW (some 8) t34_49 w50 fun t35_51 w52 =>
  loadW (some (false, 1)) t35_51 w52 fun t36_53 w54 =>
  sliceW (.sl 1) t36_53 none (some (.int .i64 64)) none w54 fun t37_55 w56 =>
  fnW Try.prog 84 #[t32_47, t37_55] w56 fun t38_57 w58 =>
  nilW (f30 0) w58 fun t39_59 w60 =>
  offW (some 0) t39_59 w60 fun t40_61 w62 =>
  storeW (some (true, 8)) t40_61 t38_57 w62 fun w63 =>
  nilW (f30 0) w63 fun t43_64 w65 =>
  offW (some 8) t43_64 w65 fun t44_66 w67 =>
  loadW (some (false, 1)) t44_66 w67 fun t45_68 w69 =>
  sliceW (.sl 1) t45_68 (some (.int .i64 64)) none none w69 fun t46_70 w71 =>
  nilW (f30 0) w71 fun t47_72 w73 =>
  offW (some 8) t47_72 w73 fun t48_74 w75 =>
  storeW (some (false, 1)) t48_74 t46_70 w75 fun w76 =>
  K32 .normal (pf 49 (pf 49 (pf 49 (pf 49 (pf 49 (pf 49 (pf 49 (pf 49 (pf 49 (pf 49 (pf 49 (pf 49 (pf 49 (pf 49 (pf 49 (pf 49 (pf 49 (pf 49 (pf 49 (pf 49 (pf 49 (pf 49 (pf 49 (pf 49 (pf 49 (pf 49 (pf 49 f30 22 (f30 0)) 23 t23_33) 24 t24_35) 25 t25_37) 26 t26_39) 27 t27_41) 28 (f30 0)) 29 (f30 0)) 30 t30_43) 31 t31_45) 32 t32_47) 33 (f30 0)) 34 t34_49) 35 t35_51) 36 t36_53) 37 t37_55) 38 t38_57) 39 t39_59) 40 t40_61) 41 (f30 0)) 42 (f30 0)) 43 t43_64) 44 t44_66) 45 t45_68) 46 t46_70) 47 t47_72) 48 t48_74) w76) (
  K32 (.exit 0) (pf 49 (pf 49 (pf 49 (pf 49 (pf 49 (pf 49 f30 22 (f30 0)) 23 t23_33) 24 t24_35) 25 t25_37) 26 t26_39) 27 t27_41) w42)) (pf 49 (pf 49 (pf 49 (pf 49 (pf 49 (pf 49 (pf 49 (pf 49 (pf 49 (pf 49 (pf 49 (pf 49 (pf 49 (pf 49 (pf 49 (pf 49 (pf 49 (pf 49 (argF [x0, x1]) 4 x0) 5 x0) 6 t6_0) 7 t7_2) 8 t8_4) 9 x1) 10 t10_6) 11 t11_8) 12 t12_10) 13 x0) 14 t14_13) 15 t15_15) 16 t16_17) 17 x1) 18 t18_19) 19 t19_21) 20 t20_23) 21 t21_25) w27 K29
theorem c80_eq (x0 x1 : Value) (w : World) (K : VPost) : c80 x0 x1 w K = WP true Try.prog 49 [(3, 9216, [0, 0, 2, 4, 8, 0, 32, 64, 128, 256, 528, 2047, 4095, 6143], [0, 0, 2, 6, 14, 0, 32, 96, 224, 480, 1022, 2047, 4095, 8191])] (bodyOf Try.f80) (argF [x0, x1]) w [] K := by kernel_rfl
theorem c80_calls (x0 x1 : Value) (w : World) (K : VPost) (h : c80 x0 x1 w K) : Calls Try.prog 80 #[x0, x1] w (retK K) :=
  calls_of_WP (c80_eq x0 x1 w K) mixedG Try.func80 (by kernel_rfl) Try.ntmps80 (by kernel_rfl) (by kernel_rfl) h

/-- imprimatur/sha.compress -/
def c84 (x0 x1 : Value) (w : World) (K : VPost) : Prop :=
  boxW 70 x0 w fun t2_0 w1 =>
  allocW (zeroO Try.prog 70) 70 w1 fun t4_2 w3 =>
  fnW Try.prog 102 #[] w3 fun t20_4 w5 =>
  fnW Try.prog 103 #[x1] w5 fun t22_6 w7 =>
  allocW (zeroO Try.prog 138) 138 w7 fun t5_8 w9 =>
  allocW (zeroO Try.prog 138) 138 w9 fun t6_10 w11 =>
  storeW (some (true, 64)) t5_8 t20_4 w11 fun w12 =>
  storeW (some (true, 64)) t6_10 t22_6 w12 fun w13 =>
  idxW (some ((some 8), 1)) t2_0 (.int .i64 0) w13.drew fun t23_14 w15 =>
  loadW (some (false, 1)) t23_14 w15 fun t24_16 w17 =>
  idxW (some ((some 8), 1)) t2_0 (.int .i64 1) w17 fun t25_18 w19 =>
  loadW (some (false, 1)) t25_18 w19 fun t26_20 w21 =>
  idxW (some ((some 8), 1)) t2_0 (.int .i64 2) w21 fun t27_22 w23 =>
  loadW (some (false, 1)) t27_22 w23 fun t28_24 w25 =>
  idxW (some ((some 8), 1)) t2_0 (.int .i64 3) w25 fun t29_26 w27 =>
  loadW (some (false, 1)) t29_26 w27 fun t30_28 w29 =>
  idxW (some ((some 8), 1)) t2_0 (.int .i64 4) w29 fun t31_30 w31 =>
  loadW (some (false, 1)) t31_30 w31 fun t32_32 w33 =>
  idxW (some ((some 8), 1)) t2_0 (.int .i64 5) w33 fun t33_34 w35 =>
  loadW (some (false, 1)) t33_34 w35 fun t34_36 w37 =>
  idxW (some ((some 8), 1)) t2_0 (.int .i64 6) w37 fun t35_38 w39 =>
  loadW (some (false, 1)) t35_38 w39 fun t36_40 w41 =>
  idxW (some ((some 8), 1)) t2_0 (.int .i64 7) w41 fun t37_42 w43 =>
  loadW (some (false, 1)) t37_42 w43 fun t38_44 w45 =>
  bindX (endW Try.prog [.cell 4 70] K) fun K46 =>
  bindX (seqX (fun f48 w49 =>
  bindX (seqX (fun f51 w52 =>
  loadW (some (true, 8)) (f51 2) w52 fun t114_53 w54 =>
  storeW (some (true, 8)) (f51 4) t114_53 w54 fun w55 =>
  loadW (some (true, 8)) (f51 4) w55 fun r56 u57 =>
  K r56 w55) K46) fun K50 =>
  insW Try.prog (Instr.build 70 #[(0, (f48 7)), (1, (f48 8)), (2, (f48 9)), (3, (f48 10)), (4, (f48 11)), (5, (f48 12)), (6, (f48 13)), (7, (f48 14))]) w49 fun t102_58 w59 =>
  bindX (blkX 2 K50) fun K60 =>
  loopW (fun f61 w62 K63 =>
  binN Try.prog .lss 3 true (f61 103) (.int .i64 8) w62 fun t104_64 w65 =>
  condW t104_64 (
  ixvW (.arr 8 false 1) (f61 102) (f61 103) w65 fun t106_66 w67 =>
  idxW (some ((some 8), 1)) (f61 2) (f61 103) w67 fun t108_68 w69 =>
  loadW (some (false, 1)) t108_68 w69 fun t109_70 w71 =>
  binN Try.prog .add 69 false t109_70 t106_66 w71 fun t111_72 w73 =>
  idxW (some ((some 8), 1)) (f61 2) (f61 103) w73 fun t112_74 w75 =>
  storeW (some (false, 1)) t112_74 t111_72 w75 fun w76 =>
  binN Try.prog .add 3 true (f61 103) (.int .i64 1) w76 fun t113_77 w78 =>
  K63 .normal (pf 115 (pf 115 (pf 115 (pf 115 (pf 115 (pf 115 (pf 115 (pf 115 (pf 115 (pf 115 (pf 115 (pf 115 (pf 115 f61 104 t104_64) 105 (f61 103)) 106 t106_66) 18 (f61 103)) 19 t106_66) 107 (f61 103)) 108 t108_68) 109 t109_70) 110 t106_66) 111 t111_72) 112 t112_74) 113 t113_77) 103 t113_77) w78) (
  K63 (.exit 2) (pf 115 f61 104 t104_64) w65)) (pf 115 (pf 115 (pf 115 (pf 115 (pf 115 (pf 115 (pf 115 (pf 115 (pf 115 (pf 115 f48 94 (f48 7)) 95 (f48 8)) 96 (f48 9)) 97 (f48 10)) 98 (f48 11)) 99 (f48 12)) 100 (f48 13)) 101 (f48 14)) 102 t102_58) 103 (.int .i64 0)) w59 K60) K46) fun K47 =>
  bindX (blkX 0 K47) fun K79 =>
  loopW (fun f80 w81 K82 =>
  binN Try.prog .lss 3 true (f80 39) (.int .i64 64) w81 fun t40_83 w84 =>
  condW t40_83 (
  binN Try.prog .and 69 false (f80 11) (f80 12) w84.drew fun t50_85 w86 =>
  unN Try.prog .xor (f80 11) w86 fun t52_87 w88 =>
  binN Try.prog .and 69 false t52_87 (f80 13) w88 fun t54_89 w90 =>
  binN Try.prog .xor 69 false t50_85 t54_89 w90 fun t55_91 w92 =>
  idxW (some ((some 64), 1)) (f80 5) (f80 39) w92 fun t58_93 w94 =>
  loadW (some (false, 1)) t58_93 w94 fun t59_95 w96 =>
  idxW (some ((some 64), 1)) (f80 6) (f80 39) w96 fun t62_97 w98 =>
  loadW (some (false, 1)) t62_97 w98 fun t63_99 w100 =>
  fnW Try.prog 105 #[(f80 11), (.int .i64 (-25))] w100 fun t45_101 w102 =>
  (loadW (some (false, 1)) t58_93 w102 fun t59_103 w104 => t59_103 = t59_95 ∧ w104 = w102) ∧
  (loadW (some (false, 1)) t62_97 w102 fun t63_105 w106 => t63_105 = t63_99 ∧ w106 = w102) ∧
  fnW Try.prog 104 #[(f80 11), (.int .i64 6), (.int .i64 11), t45_101] w102 fun t46_107 w108 =>
  (loadW (some (false, 1)) t58_93 w108 fun t59_109 w110 => t59_109 = t59_95 ∧ w110 = w108) ∧
  (loadW (some (false, 1)) t62_97 w108 fun t63_111 w112 => t63_111 = t63_99 ∧ w112 = w108) ∧
  binN Try.prog .add 69 false (f80 14) t46_107 w108 fun t47_113 w114 =>
  binN Try.prog .add 69 false t47_113 t55_91 w114 fun t56_115 w116 =>
  binN Try.prog .add 69 false t56_115 t59_95 w116 fun t60_117 w118 =>
  binN Try.prog .add 69 false t60_117 t63_99 w118 fun t64_119 w120 =>
  fnW Try.prog 105 #[(f80 7), (.int .i64 (-22))] w120 fun t67_121 w122 =>
  fnW Try.prog 104 #[(f80 7), (.int .i64 2), (.int .i64 13), t67_121] w122 fun t68_123 w124 =>
  binN Try.prog .and 69 false (f80 7) (f80 8) w124 fun t71_125 w126 =>
  binN Try.prog .and 69 false (f80 7) (f80 9) w126 fun t74_127 w128 =>
  binN Try.prog .xor 69 false t71_125 t74_127 w128 fun t75_129 w130 =>
  binN Try.prog .and 69 false (f80 8) (f80 9) w130 fun t78_131 w132 =>
  binN Try.prog .xor 69 false t75_129 t78_131 w132 fun t79_133 w134 =>
  binN Try.prog .add 69 false t68_123 t79_133 w134 fun t80_135 w136 =>
  binN Try.prog .add 69 false t64_119 t80_135 w136 fun t83_137 w138 =>
  binN Try.prog .add 69 false (f80 10) t64_119 w138 fun t89_139 w140 =>
  binN Try.prog .add 3 true (f80 39) (.int .i64 1) w140 fun t93_141 w142 =>
  K82 .normal (pf 115 (pf 115 (pf 115 (pf 115 (pf 115 (pf 115 (pf 115 (pf 115 (pf 115 (pf 115 (pf 115 (pf 115 (pf 115 (pf 115 (pf 115 (pf 115 (pf 115 (pf 115 (pf 115 (pf 115 (pf 115 (pf 115 (pf 115 (pf 115 (pf 115 (pf 115 (pf 115 (pf 115 (pf 115 (pf 115 (pf 115 (pf 115 (pf 115 (pf 115 (pf 115 (pf 115 (pf 115 (pf 115 (pf 115 (pf 115 (pf 115 (pf 115 (pf 115 (pf 115 (pf 115 (pf 115 (pf 115 (pf 115 (pf 115 (pf 115 (pf 115 (pf 115 (pf 115 (pf 115 (pf 115 (pf 115 (pf 115 (pf 115 (pf 115 (pf 115 (pf 115 (pf 115 (pf 115 (pf 115 (pf 115 (pf 115 f80 40 t40_83) 41 (f80 39)) 15 (f80 39)) 42 (f80 14)) 43 (f80 11)) 44 (f80 11)) 48 (f80 11)) 49 (f80 12)) 50 t50_85) 51 (f80 11)) 52 t52_87) 53 (f80 13)) 54 t54_89) 55 t55_91) 57 (f80 39)) 58 t58_93) 59 t59_95) 61 (f80 39)) 62 t62_97) 63 t63_99) 45 t45_101) 46 t46_107) 47 t47_113) 56 t56_115) 60 t60_117) 64 t64_119) 16 t64_119) 65 (f80 7)) 66 (f80 7)) 67 t67_121) 68 t68_123) 69 (f80 7)) 70 (f80 8)) 71 t71_125) 72 (f80 7)) 73 (f80 9)) 74 t74_127) 75 t75_129) 76 (f80 8)) 77 (f80 9)) 78 t78_131) 79 t79_133) 80 t80_135) 17 t80_135) 81 t64_119) 82 t80_135) 83 t83_137) 84 (f80 7)) 85 (f80 8)) 86 (f80 9)) 87 (f80 10)) 88 t64_119) 89 t89_139) 90 (f80 11)) 91 (f80 12)) 92 (f80 13)) 7 t83_137) 8 (f80 7)) 9 (f80 8)) 10 (f80 9)) 11 t89_139) 12 (f80 11)) 13 (f80 12)) 14 (f80 13)) 93 t93_141) 39 t93_141) w142) (
  K82 (.exit 0) (pf 115 f80 40 t40_83) w84)) (pf 115 (pf 115 (pf 115 (pf 115 (pf 115 (pf 115 (pf 115 (pf 115 (pf 115 (pf 115 (pf 115 (pf 115 (pf 115 (pf 115 (pf 115 (pf 115 (pf 115 (pf 115 (pf 115 (pf 115 (pf 115 (pf 115 (pf 115 (pf 115 (pf 115 (pf 115 (pf 115 (pf 115 (pf 115 (pf 115 (pf 115 (pf 115 (argF [x0, x1]) 2 t2_0) 4 t4_2) 20 t20_4) 21 x1) 22 t22_6) 5 t5_8) 6 t6_10) 23 t23_14) 24 t24_16) 25 t25_18) 26 t26_20) 27 t27_22) 28 t28_24) 29 t29_26) 30 t30_28) 31 t31_30) 32 t32_32) 33 t33_34) 34 t34_36) 35 t35_38) 36 t36_40) 37 t37_42) 38 t38_44) 7 t24_16) 8 t26_20) 9 t28_24) 10 t30_28) 11 t32_32) 12 t34_36) 13 t36_40) 14 t38_44) 39 (.int .i64 0)) w45 K79
theorem c84_eq (x0 x1 : Value) (w : World) (K : VPost) : c84 x0 x1 w K = WP true Try.prog 115 [(2, 0, [0, 1, 0, 4, 0, 16, 0, 64, 0, 256, 0, 1024, 0, 4096, 0, 16384, 3, 65551, 196671, 459007, 984063, 2035711, 4145151, 8388607], [0, 1, 0, 4, 0, 16, 0, 64, 0, 256, 0, 1024, 0, 4096, 0, 16384, 3, 65551, 196671, 459007, 984063, 2035711, 4145151, 8388607]), (6, 24, [0, 0, 0, 4, 10, 17, 0, 0, 192, 0, 512, 0, 3072, 4352, 8224, 0, 32768, 65536, 147456, 0, 524288, 1048576, 2359296, 8388607], [0, 0, 0, 4, 14, 31, 0, 0, 192, 0, 512, 0, 3584, 8128, 16383, 0, 32768, 98304, 262143, 0, 524288, 1572864, 4194303, 8388607])] (bodyOf Try.f84) (argF [x0, x1]) w [.cell 4 70] K := by kernel_rfl
theorem c84_calls (x0 x1 : Value) (w : World) (K : VPost) (h : c84 x0 x1 w K) : Calls Try.prog 84 #[x0, x1] w (retK K) :=
  calls_of_WP (c84_eq x0 x1 w K) mixedG Try.func84 (by kernel_rfl) Try.ntmps84 (by kernel_rfl) (by kernel_rfl) h

/-- imprimatur/sha.constants -/
def c102 (w : World) (K : VPost) : Prop :=
  allocW (zeroO Try.prog 138) 138 w fun t0_0 w1 =>
  insW Try.prog (Instr.build 138 #[(0, (.int .u32 1116352408)), (1, (.int .u32 1899447441)), (2, (.int .u32 3049323471)), (3, (.int .u32 3921009573)), (4, (.int .u32 961987163)), (5, (.int .u32 1508970993)), (6, (.int .u32 2453635748)), (7, (.int .u32 2870763221)), (8, (.int .u32 3624381080)), (9, (.int .u32 310598401)), (10, (.int .u32 607225278)), (11, (.int .u32 1426881987)), (12, (.int .u32 1925078388)), (13, (.int .u32 2162078206)), (14, (.int .u32 2614888103)), (15, (.int .u32 3248222580)), (16, (.int .u32 3835390401)), (17, (.int .u32 4022224774)), (18, (.int .u32 264347078)), (19, (.int .u32 604807628)), (20, (.int .u32 770255983)), (21, (.int .u32 1249150122)), (22, (.int .u32 1555081692)), (23, (.int .u32 1996064986)), (24, (.int .u32 2554220882)), (25, (.int .u32 2821834349)), (26, (.int .u32 2952996808)), (27, (.int .u32 3210313671)), (28, (.int .u32 3336571891)), (29, (.int .u32 3584528711)), (30, (.int .u32 113926993)), (31, (.int .u32 338241895)), (32, (.int .u32 666307205)), (33, (.int .u32 773529912)), (34, (.int .u32 1294757372)), (35, (.int .u32 1396182291)), (36, (.int .u32 1695183700)), (37, (.int .u32 1986661051)), (38, (.int .u32 2177026350)), (39, (.int .u32 2456956037)), (40, (.int .u32 2730485921)), (41, (.int .u32 2820302411)), (42, (.int .u32 3259730800)), (43, (.int .u32 3345764771)), (44, (.int .u32 3516065817)), (45, (.int .u32 3600352804)), (46, (.int .u32 4094571909)), (47, (.int .u32 275423344)), (48, (.int .u32 430227734)), (49, (.int .u32 506948616)), (50, (.int .u32 659060556)), (51, (.int .u32 883997877)), (52, (.int .u32 958139571)), (53, (.int .u32 1322822218)), (54, (.int .u32 1537002063)), (55, (.int .u32 1747873779)), (56, (.int .u32 1955562222)), (57, (.int .u32 2024104815)), (58, (.int .u32 2227730452)), (59, (.int .u32 2361852424)), (60, (.int .u32 2428436474)), (61, (.int .u32 2756734187)), (62, (.int .u32 3204031479)), (63, (.int .u32 3329325298))]) w1 fun t1_2 w3 =>
  storeW (some (true, 64)) t0_0 t1_2 w3 fun w4 =>
  loadW (some (true, 64)) t0_0 w4 fun r5 u6 =>
  K r5 w4
theorem c102_eq (w : World) (K : VPost) : c102  w K = WP true Try.prog 2 [] (bodyOf Try.f102) (argF []) w [.cell 0 138] K := by kernel_rfl
theorem c102_calls (w : World) (K : VPost) (h : c102  w K) : Calls Try.prog 102 #[] w (retK K) :=
  calls_of_WP (c102_eq  w K) mixedG Try.func102 (by kernel_rfl) Try.ntmps102 (by kernel_rfl) (by kernel_rfl) h

/-- imprimatur/sha.schedule -/
def c103 (x0 : Value) (w : World) (K : VPost) : Prop :=
  allocW (zeroO Try.prog 138) 138 w fun t2_0 w1 =>
  bindX (endW Try.prog [.cell 2 138] K) fun K2 =>
  bindX (seqX (fun f4 w5 =>
  loadW (some (true, 64)) (f4 2) w5 fun t65_6 w7 =>
  storeW (some (true, 64)) (f4 2) t65_6 w7 fun w8 =>
  loadW (some (true, 64)) (f4 2) w8 fun r9 u10 =>
  K r9 w8) K2) fun K3 =>
  bindX (blkX 0 K3) fun K11 =>
  loopW (fun f12 w13 K14 =>
  binN Try.prog .lss 3 true (f12 8) (.int .i64 64) w13 fun t9_15 w16 =>
  condW t9_15 (
  bindX (seqX (fun f18 w19 =>
  binN Try.prog .add 3 true (f18 8) (.int .i64 1) w19 fun t64_20 w21 =>
  K14 .normal (pf 66 (pf 66 f18 64 t64_20) 8 t64_20) w21) K14) fun K17 =>
  bindX (blkX 1 K17) fun K22 =>
  bindX (seqX (fun f24 w25 =>
  binN Try.prog .sub 3 true (f24 3) (.int .i64 15) w25.drew fun t36_26 w27 =>
  idxW (some ((some 64), 1)) (f24 2) t36_26 w27 fun t37_28 w29 =>
  loadW (some (false, 1)) t37_28 w29 fun t38_30 w31 =>
  binN Try.prog .sub 3 true (f24 3) (.int .i64 2) w31 fun t40_32 w33 =>
  idxW (some ((some 64), 1)) (f24 2) t40_32 w33 fun t41_34 w35 =>
  loadW (some (false, 1)) t41_34 w35 fun t42_36 w37 =>
  binN Try.prog .sub 3 true (f24 3) (.int .i64 16) w37.drew fun t45_38 w39 =>
  idxW (some ((some 64), 1)) (f24 2) t45_38 w39 fun t46_40 w41 =>
  loadW (some (false, 1)) t46_40 w41 fun t47_42 w43 =>
  binN Try.prog .shr 69 true t38_30 (.int .u64 3) w43 fun t50_44 w45 =>
  binN Try.prog .sub 3 true (f24 3) (.int .i64 7) w45 fun t54_46 w47 =>
  idxW (some ((some 64), 1)) (f24 2) t54_46 w47 fun t55_48 w49 =>
  loadW (some (false, 1)) t55_48 w49 fun t56_50 w51 =>
  binN Try.prog .shr 69 true t42_36 (.int .u64 10) w51 fun t60_52 w53 =>
  fnW Try.prog 104 #[t38_30, (.int .i64 7), (.int .i64 18), t50_44] w53 fun t51_54 w55 =>
  (loadW (some (false, 1)) t46_40 w55 fun t47_56 w57 => t47_56 = t47_42 ∧ w57 = w55) ∧
  (loadW (some (false, 1)) t55_48 w55 fun t56_58 w59 => t56_58 = t56_50 ∧ w59 = w55) ∧
  binN Try.prog .add 69 false t47_42 t51_54 w55 fun t52_60 w61 =>
  binN Try.prog .add 69 false t52_60 t56_50 w61 fun t57_62 w63 =>
  fnW Try.prog 104 #[t42_36, (.int .i64 17), (.int .i64 19), t60_52] w63 fun t61_64 w65 =>
  (loadW (some (false, 1)) t46_40 w65 fun t47_66 w67 => t47_66 = t47_42 ∧ w67 = w65) ∧
  (loadW (some (false, 1)) t55_48 w65 fun t56_68 w69 => t56_68 = t56_50 ∧ w69 = w65) ∧
  binN Try.prog .add 69 false t57_62 t61_64 w65 fun t62_70 w71 =>
  idxW (some ((some 64), 1)) (f24 2) (f24 3) w71 fun t63_72 w73 =>
  storeW (some (false, 1)) t63_72 t62_70 w73 fun w74 =>
  K17 .normal (pf 66 (pf 66 (pf 66 (pf 66 (pf 66 (pf 66 (pf 66 (pf 66 (pf 66 (pf 66 (pf 66 (pf 66 (pf 66 (pf 66 (pf 66 (pf 66 (pf 66 (pf 66 (pf 66 (pf 66 (pf 66 (pf 66 (pf 66 (pf 66 (pf 66 (pf 66 (pf 66 (pf 66 (pf 66 (pf 66 (pf 66 f24 35 (f24 3)) 36 t36_26) 37 t37_28) 38 t38_30) 39 (f24 3)) 40 t40_32) 41 t41_34) 42 t42_36) 6 t38_30) 7 t42_36) 43 (f24 3)) 44 (f24 3)) 45 t45_38) 46 t46_40) 47 t47_42) 48 t38_30) 49 t38_30) 50 t50_44) 53 (f24 3)) 54 t54_46) 55 t55_48) 56 t56_50) 58 t42_36) 59 t42_36) 60 t60_52) 51 t51_54) 52 t52_60) 57 t57_62) 61 t61_64) 62 t62_70) 63 t63_72) w74) K22) fun K23 =>
  binN Try.prog .lss 3 true (f12 8) (.int .i64 16) w16 fun t12_75 w76 =>
  condW t12_75 (
  bindX (seqX (fun f78 w79 =>
  K17 .normal f78 w79) K23) fun K77 =>
  binN Try.prog .mul 3 true (.int .i64 4) (f12 8) w76 fun t15_80 w81 =>
  binN Try.prog .mul 3 true (.int .i64 4) (f12 8) w81 fun t17_82 w83 =>
  binN Try.prog .add 3 true t17_82 (.int .i64 4) w83 fun t18_84 w85 =>
  sliceW (.sl 1) (f12 0) (some t15_80) (some t18_84) none w85 fun t19_86 w87 =>
  lenW Try.prog (some true) #[34] 3 #[t19_86] w87 fun t20_88 w89 =>
  bindX (blkX 2 K77) fun K90 =>
  loopW (fun f91 w92 K93 =>
  binN Try.prog .lss 3 false (f91 21) (f91 20) w92 fun t22_94 w95 =>
  condW t22_94 (
  idxW (some (none, 1)) (f91 19) (f91 21) w95 fun t23_96 w97 =>
  loadW (some (false, 1)) t23_96 w97 fun t24_98 w99 =>
  idxW (some ((some 64), 1)) (f91 2) (f91 3) w99 fun t27_100 w101 =>
  loadW (some (false, 1)) t27_100 w101 fun t28_102 w103 =>
  binN Try.prog .shl 69 true t28_102 (.int .u64 8) w103 fun t29_104 w105 =>
  convN Try.prog 5 69 t24_98 w105 fun t31_106 w107 =>
  binN Try.prog .or 69 false t29_104 t31_106 w107 fun t32_108 w109 =>
  idxW (some ((some 64), 1)) (f91 2) (f91 3) w109 fun t33_110 w111 =>
  storeW (some (false, 1)) t33_110 t32_108 w111 fun w112 =>
  binN Try.prog .add 3 true (f91 21) (.int .i64 1) w112 fun t34_113 w114 =>
  K93 .normal (pf 66 (pf 66 (pf 66 (pf 66 (pf 66 (pf 66 (pf 66 (pf 66 (pf 66 (pf 66 (pf 66 (pf 66 (pf 66 (pf 66 (pf 66 f91 22 t22_94) 23 t23_96) 24 t24_98) 5 t24_98) 25 (f91 3)) 26 (f91 3)) 27 t27_100) 28 t28_102) 29 t29_104) 30 t24_98) 31 t31_106) 32 t32_108) 33 t33_110) 34 t34_113) 21 t34_113) w114) (
  K93 (.exit 2) (pf 66 f91 22 t22_94) w95)) (pf 66 (pf 66 (pf 66 (pf 66 (pf 66 (pf 66 (pf 66 (pf 66 (pf 66 (pf 66 (pf 66 (pf 66 (pf 66 (pf 66 f12 9 t9_15) 10 (f12 8)) 3 (f12 8)) 11 (f12 8)) 12 t12_75) 13 (f12 0)) 14 (f12 8)) 15 t15_80) 16 (f12 8)) 17 t17_82) 18 t18_84) 19 t19_86) 20 t20_88) 21 (.int .i64 0)) w89 K90) (
  K23 .normal (pf 66 (pf 66 (pf 66 (pf 66 (pf 66 f12 9 t9_15) 10 (f12 8)) 3 (f12 8)) 11 (f12 8)) 12 t12_75) w76)) (
  K14 (.exit 0) (pf 66 f12 9 t9_15) w16)) (pf 66 (pf 66 (argF [x0]) 2 t2_0) 8 (.int .i64 0)) w1 K11
theorem c103_eq (x0 : Value) (w : World) (K : VPost) : c103 x0 w K = WP true Try.prog 66 [(10, 0, [0, 1, 2, 4, 0, 16, 32, 64, 15, 511], [0, 1, 3, 7, 0, 16, 48, 112, 15, 511]), (11, 2359552, [0, 0, 2, 4, 8, 0, 0, 64, 160, 272, 0, 1024, 2048, 4096, 8704, 0, 0, 65536, 164096, 278528, 1048575, 2097151], [0, 0, 2, 6, 14, 0, 0, 64, 224, 510, 0, 1024, 3072, 7168, 16382, 0, 0, 65536, 229856, 524286, 1048575, 2097151])] (bodyOf Try.f103) (argF [x0]) w [.cell 2 138] K := by kernel_rfl
theorem c103_calls (x0 : Value) (w : World) (K : VPost) (h : c103 x0 w K) : Calls Try.prog 103 #[x0] w (retK K) :=
  calls_of_WP (c103_eq x0 w K) mixedG Try.func103 (by kernel_rfl) Try.ntmps103 (by kernel_rfl) (by kernel_rfl) h

/-- imprimatur/sha.mix -/
def c104 (x0 x1 x2 x3 : Value) (w : World) (K : VPost) : Prop :=
  unN Try.prog .neg x1 w fun t11_0 w1 =>
  fnW Try.prog 105 #[x0, t11_0] w1 fun t12_2 w3 =>
  unN Try.prog .neg x2 w3 fun t15_4 w5 =>
  fnW Try.prog 105 #[x0, t15_4] w5 fun t16_6 w7 =>
  binN Try.prog .xor 69 false t12_2 t16_6 w7 fun t17_8 w9 =>
  binN Try.prog .xor 69 false t17_8 x3 w9 fun t19_10 w11 =>
  K t19_10 w11
theorem c104_eq (x0 x1 x2 x3 : Value) (w : World) (K : VPost) : c104 x0 x1 x2 x3 w K = WP true Try.prog 20 [] (bodyOf Try.f104) (argF [x0, x1, x2, x3]) w [.tmp 8] K := by kernel_rfl
theorem c104_calls (x0 x1 x2 x3 : Value) (w : World) (K : VPost) (h : c104 x0 x1 x2 x3 w K) : Calls Try.prog 104 #[x0, x1, x2, x3] w (retK K) :=
  calls_of_WP (c104_eq x0 x1 x2 x3 w K) mixedG Try.func104 (by kernel_rfl) Try.ntmps104 (by kernel_rfl) (by kernel_rfl) h

/-- math/bits.RotateLeft32 -/
def c105 (x0 x1 : Value) (w : World) (K : VPost) : Prop :=
  convN Try.prog 3 54 x1 w fun t7_0 w1 =>
  binN Try.prog .and 54 true t7_0 (.int .u64 31) w1 fun t8_2 w3 =>
  binN Try.prog .shl 69 false x0 t8_2 w3 fun t11_4 w5 =>
  binN Try.prog .sub 54 true (.int .u64 32) t8_2 w5 fun t14_6 w7 =>
  binN Try.prog .shr 69 false x0 t14_6 w7 fun t15_8 w9 =>
  binN Try.prog .or 69 false t11_4 t15_8 w9 fun t16_10 w11 =>
  K t16_10 w11
theorem c105_eq (x0 x1 : Value) (w : World) (K : VPost) : c105 x0 x1 w K = WP true Try.prog 17 [] (bodyOf Try.f105) (argF [x0, x1]) w [.tmp 4] K := by kernel_rfl
theorem c105_calls (x0 x1 : Value) (w : World) (K : VPost) (h : c105 x0 x1 w K) : Calls Try.prog 105 #[x0, x1] w (retK K) :=
  calls_of_WP (c105_eq x0 x1 w K) mixedG Try.func105 (by kernel_rfl) Try.ntmps105 (by kernel_rfl) (by kernel_rfl) h

end Go.Proofs.Ytedebapgmfnflaa
