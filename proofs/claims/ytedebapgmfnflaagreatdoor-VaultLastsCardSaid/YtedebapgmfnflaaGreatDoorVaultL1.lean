/- Texts that the law VaultLasts stands on, part 2 of 5. Conditions: see each. -/
import Derived.Test.YtedebapgmfnflaaGreatDoorVaultL0
import Derived.KernelRfl

/- The clean forms of some of the program's functions, written by a program of ours; each is the model's own by the kernel's reckoning. -/
namespace Go.Proofs.YtedebapgmfnflaaGreatDoor
open Go
set_option maxRecDepth 100000

/-- imprimatur/imprimaturref00.CopyBytes -/
def c10 (x0 : Value) (w : World) (K : VPost) : Prop :=
  insW Tryz.prog (Instr.buildSlice 36 0 #[]) w fun t4_0 w1 =>
  insW Tryz.prog (Builtin.append_ #[36, 36] 36 #[t4_0, x0]) w1 fun t7_2 w3 =>
  K t7_2 w3
theorem c10_eq (x0 : Value) (w : World) (K : VPost) : c10 x0 w K = WP false Tryz.prog 9 [] (bodyOf Tryz.f10) (argF [x0]) w [.tmp 2] K := by kernel_rfl
theorem c10_calls (x0 : Value) (w : World) (K : VPost) (h : c10 x0 w K) : Calls Tryz.prog 10 #[x0] w (retK K) :=
  calls_of_WP (c10_eq x0 w K) mixedG Tryz.func10 (by kernel_rfl) Tryz.ntmps10 (by kernel_rfl) (by kernel_rfl) h

/-- imprimatur/imprimaturref00.SameBytes -/
def c14 (x0 x1 : Value) (w : World) (K : VPost) : Prop :=
  lenW Tryz.prog (some true) #[36] 3 #[x0] w fun t7_0 w1 =>
  lenW Tryz.prog (some true) #[36] 3 #[x1] w1 fun t9_2 w3 =>
  binW Tryz.prog .neq 3 false t7_0 t9_2 w3 fun t10_4 w5 =>
  condW t10_4 (
  K (.bool false) w5) (
  bindX (endW Tryz.prog [.tmp 4] K) fun K6 =>
  bindX (seqX (fun _ w9 =>
  K (.bool true) w9) K6) fun K7 =>
  bindX (blkX 0 K7) fun K10 =>
  loopW (fun f11 w12 K13 =>
  lenW Tryz.prog (some true) #[36] 3 #[(f11 0)] w12 fun t13_14 w15 =>
  binW Tryz.prog .lss 3 false (f11 5) t13_14 w15 fun t14_16 w17 =>
  condW t14_16 (
  idxW (some (none, 1)) (f11 0) (f11 5) w17.drew fun t19_18 w19 =>
  loadW (some (false, 1)) t19_18 w19 fun t20_20 w21 =>
  idxW (some (none, 1)) (f11 1) (f11 5) w21 fun t23_22 w23 =>
  loadW (some (false, 1)) t23_22 w23 fun t24_24 w25 =>
  binW Tryz.prog .neq 5 false t20_20 t24_24 w25 fun t25_26 w27 =>
  w27 = w25 ∧
  condW t25_26 (
  K13 .ret (pf 26 (pf 26 (pf 26 (pf 26 (pf 26 (pf 26 (pf 26 (pf 26 (pf 26 (pf 26 (pf 26 (pf 26 (pf 26 (pf 26 f11 11 (f11 5)) 12 (f11 0)) 13 t13_14) 14 t14_16) 17 (f11 0)) 18 (f11 5)) 19 t19_18) 20 t20_20) 21 (f11 1)) 22 (f11 5)) 23 t23_22) 24 t24_24) 25 t25_26) 4 (.bool false)) w27) (
  binW Tryz.prog .add 3 true (f11 5) (.int .i64 1) w27 fun t16_28 w29 =>
  K13 .normal (pf 26 (pf 26 (pf 26 (pf 26 (pf 26 (pf 26 (pf 26 (pf 26 (pf 26 (pf 26 (pf 26 (pf 26 (pf 26 (pf 26 (pf 26 (pf 26 f11 11 (f11 5)) 12 (f11 0)) 13 t13_14) 14 t14_16) 17 (f11 0)) 18 (f11 5)) 19 t19_18) 20 t20_20) 21 (f11 1)) 22 (f11 5)) 23 t23_22) 24 t24_24) 25 t25_26) 15 (f11 5)) 16 t16_28) 5 t16_28) w29)) (
  K13 (.exit 0) (pf 26 (pf 26 (pf 26 (pf 26 f11 11 (f11 5)) 12 (f11 0)) 13 t13_14) 14 t14_16) w17)) (pf 26 (pf 26 (pf 26 (pf 26 (pf 26 (pf 26 (pf 26 (argF [x0, x1]) 4 (.bool false)) 6 x0) 7 t7_0) 8 x1) 9 t9_2) 10 t10_4) 5 (.int .i64 0)) w5 K10)
theorem c14_eq (x0 x1 : Value) (w : World) (K : VPost) : c14 x0 x1 w K = WP false Tryz.prog 26 [(6, 0, [0, 0, 3, 4, 0, 0, 48, 64, 136], [0, 0, 3, 7, 0, 0, 48, 112, 255])] (bodyOf Tryz.f14) (argF [x0, x1]) w [.tmp 4] K := by kernel_rfl
theorem c14_calls (x0 x1 : Value) (w : World) (K : VPost) (h : c14 x0 x1 w K) : Calls Tryz.prog 14 #[x0, x1] w (retK K) :=
  calls_of_WP (c14_eq x0 x1 w K) mixedG Tryz.func14 (by kernel_rfl) Tryz.ntmps14 (by kernel_rfl) (by kernel_rfl) h

end Go.Proofs.YtedebapgmfnflaaGreatDoor

/- The clean forms of some of the program's functions, written by a program of ours; each is the model's own by the kernel's reckoning. -/
namespace Go.Proofs.YtedebapgmfnflaaGreatDoor
open Go
set_option maxRecDepth 100000

/-- imprimatur/sha.New -/
def c82 (w : World) (K : VPost) : Prop :=
  fnW Tryz.prog 93 #[] w fun t1_0 w1 =>
  insW Tryz.prog (Instr.build 141 #[(0, t1_0)]) w1 fun t2_2 w3 =>
  boxW 141 t2_2 w3 fun t3_4 w5 =>
  K t3_4 w5
theorem c82_eq (w : World) (K : VPost) : c82  w K = WP true Tryz.prog 4 [] (bodyOf Tryz.f82) (argF []) w [.tmp 0] K := by kernel_rfl
theorem c82_calls (w : World) (K : VPost) (h : c82  w K) : Calls Tryz.prog 82 #[] w (retK K) :=
  calls_of_WP (c82_eq  w K) mixedG Tryz.func82 (by kernel_rfl) Tryz.ntmps82 (by kernel_rfl) (by kernel_rfl) h

/-- (*imprimatur/sha.Hash).Write -/
def c83 (x0 x1 : Value) (w : World) (K : VPost) : Prop :=
  lenW Tryz.prog (some true) #[71] 3 #[x1] w fun t7_0 w1 =>
  bindX (endW Tryz.prog [] K) fun K2 =>
  bindX (blkX 0 K2) fun K3 =>
  loopW (fun f4 w5 K6 =>
  binN Tryz.prog .lss 3 false (f4 8) (f4 7) w5 fun t9_7 w8 =>
  condW t9_7 (
  idxW (some (none, 1)) (f4 6) (f4 8) w8 fun t10_9 w10 =>
  loadW (some (false, 1)) t10_9 w10 fun t11_11 w12 =>
  fnW Tryz.prog 94 #[(f4 0), t11_11] w12 fun t14_13 w14 =>
  binN Tryz.prog .add 3 true (f4 8) (.int .i64 1) w14 fun t15_15 w16 =>
  K6 .normal (pf 16 (pf 16 (pf 16 (pf 16 (pf 16 (pf 16 (pf 16 (pf 16 (pf 16 f4 9 t9_7) 10 t10_9) 11 t11_11) 5 t11_11) 12 (f4 0)) 13 t11_11) 14 t14_13) 15 t15_15) 8 t15_15) w16) (
  K6 (.exit 0) (pf 16 f4 9 t9_7) w8)) (pf 16 (pf 16 (pf 16 (argF [x0, x1]) 6 x1) 7 t7_0) 8 (.int .i64 0)) w1 K3
theorem c83_eq (x0 x1 : Value) (w : World) (K : VPost) : c83 x0 x1 w K = WP true Tryz.prog 16 [] (bodyOf Tryz.f83) (argF [x0, x1]) w [] K := by kernel_rfl
theorem c83_calls (x0 x1 : Value) (w : World) (K : VPost) (h : c83 x0 x1 w K) : Calls Tryz.prog 83 #[x0, x1] w (retK K) :=
  calls_of_WP (c83_eq x0 x1 w K) mixedG Tryz.func83 (by kernel_rfl) Tryz.ntmps83 (by kernel_rfl) (by kernel_rfl) h

-- 125 has no body/-- (*imprimatur/sha.Hash).Sum -/
def c84 (x0 : Value) (w : World) (K : VPost) : Prop :=
  allocW (zeroO Tryz.prog 34) 34 w fun t2_0 w1 =>
  fnW Tryz.prog 95 #[x0] w1 fun t7_2 w3 =>
  nilW x0 w3 fun t10_4 w5 =>
  offW (some 9) t10_4 w5 fun t11_6 w7 =>
  loadW (some (false, 1)) t11_6 w7 fun t12_8 w9 =>
  fnW Tryz.prog 96 #[t12_8] w9 fun t13_10 w11 =>
  fnW Tryz.prog 94 #[t7_2, t13_10] w11 fun t14_12 w13 =>
  allocW (zeroO Tryz.prog 34) 34 w13 fun t4_14 w15 =>
  bindX (endW Tryz.prog [.cell 2 34] K) fun K16 =>
  bindX (seqX (fun f18 w19 =>
  loadW (some (true, 32)) (f18 4) w19 fun t34_20 w21 =>
  storeW (some (true, 32)) (f18 2) t34_20 w21 fun w22 =>
  loadW (some (true, 32)) (f18 2) w22 fun r23 u24 =>
  K r23 w22) K16) fun K17 =>
  bindX (blkX 0 K17) fun K25 =>
  loopW (fun f26 w27 K28 =>
  binN Tryz.prog .lss 3 true (f26 15) (.int .i64 32) w27 fun t16_29 w30 =>
  condW t16_29 (
  binN Tryz.prog .quo 3 true (f26 15) (.int .i64 4) w30 fun t21_31 w32 =>
  nilW (f26 3) w32 fun t22_33 w34 =>
  offW (some 0) t22_33 w34 fun t23_35 w36 =>
  idxW (some ((some 8), 1)) t23_35 t21_31 w36 fun t24_37 w38 =>
  loadW (some (false, 1)) t24_37 w38 fun t25_39 w40 =>
  binN Tryz.prog .rem 3 true (f26 15) (.int .i64 4) w40 fun t27_41 w42 =>
  binN Tryz.prog .mul 3 true (.int .i64 8) t27_41 w42 fun t28_43 w44 =>
  binN Tryz.prog .sub 3 true (.int .i64 24) t28_43 w44 fun t29_45 w46 =>
  binN Tryz.prog .shr 137 false t25_39 t29_45 w46 fun t30_47 w48 =>
  convN Tryz.prog 137 5 t30_47 w48 fun t31_49 w50 =>
  idxW (some ((some 32), 1)) (f26 4) (f26 15) w50 fun t32_51 w52 =>
  storeW (some (false, 1)) t32_51 t31_49 w52 fun w53 =>
  binN Tryz.prog .add 3 true (f26 15) (.int .i64 1) w53 fun t33_54 w55 =>
  K28 .normal (pf 35 (pf 35 (pf 35 (pf 35 (pf 35 (pf 35 (pf 35 (pf 35 (pf 35 (pf 35 (pf 35 (pf 35 (pf 35 (pf 35 (pf 35 (pf 35 (pf 35 (pf 35 (pf 35 (pf 35 f26 16 t16_29) 17 (f26 15)) 5 (f26 15)) 18 (f26 15)) 19 (f26 3)) 20 (f26 15)) 21 t21_31) 22 t22_33) 23 t23_35) 24 t24_37) 25 t25_39) 26 (f26 15)) 27 t27_41) 28 t28_43) 29 t29_45) 30 t30_47) 31 t31_49) 32 t32_51) 33 t33_54) 15 t33_54) w55) (
  K28 (.exit 0) (pf 35 f26 16 t16_29) w30)) (pf 35 (pf 35 (pf 35 (pf 35 (pf 35 (pf 35 (pf 35 (pf 35 (pf 35 (pf 35 (pf 35 (pf 35 (pf 35 (argF [x0]) 2 t2_0) 6 x0) 7 t7_2) 3 t7_2) 8 t7_2) 9 x0) 10 t10_4) 11 t11_6) 12 t12_8) 13 t13_10) 14 t14_12) 4 t4_14) 15 (.int .i64 0)) w15 K25
theorem c84_eq (x0 : Value) (w : World) (K : VPost) : c84 x0 w K = WP true Tryz.prog 35 [] (bodyOf Tryz.f84) (argF [x0]) w [.cell 2 34] K := by kernel_rfl
theorem c84_calls (x0 : Value) (w : World) (K : VPost) (h : c84 x0 w K) : Calls Tryz.prog 84 #[x0] w (retK K) :=
  calls_of_WP (c84_eq x0 w K) mixedG Tryz.func84 (by kernel_rfl) Tryz.ntmps84 (by kernel_rfl) (by kernel_rfl) h

/-- imprimatur/sha.Sum -/
def c79 (x0 : Value) (w : World) (K : VPost) : Prop :=
  allocW (zeroO Tryz.prog 34) 34 w fun t2_0 w1 =>
  fnW Tryz.prog 82 #[] w1 fun t4_2 w3 =>
  insW Tryz.prog (Instr.buildSlice 71 1 #[(0, x0)]) w3 fun t7_4 w5 =>
  fnW Tryz.prog 83 #[t4_2, t7_4] w5 fun _ w7 =>
  fnW Tryz.prog 84 #[t4_2] w7 fun t10_8 w9 =>
  storeW (some (true, 32)) t2_0 t10_8 w9 fun w10 =>
  loadW (some (true, 32)) t2_0 w10 fun r11 _ =>
  K r11 w10
theorem c79_eq (x0 : Value) (w : World) (K : VPost) : c79 x0 w K = WP true Tryz.prog 11 [] (bodyOf Tryz.f79) (argF [x0]) w [.cell 2 34] K := by kernel_rfl
theorem c79_calls (x0 : Value) (w : World) (K : VPost) (h : c79 x0 w K) : Calls Tryz.prog 79 #[x0] w (retK K) :=
  calls_of_WP (c79_eq x0 w K) mixedG Tryz.func79 (by kernel_rfl) Tryz.ntmps79 (by kernel_rfl) (by kernel_rfl) h

/-- (*imprimatur/sha.Hash).Fork -/
def c95 (x0 : Value) (w : World) (K : VPost) : Prop :=
  nilW x0 w.drew fun t4_0 w1 =>
  offW (some 0) t4_0 w1 fun t5_2 w3 =>
  loadW (some (true, 8)) t5_2 w3 fun t6_4 w5 =>
  nilW x0 w5 fun t9_6 w7 =>
  offW (some 8) t9_6 w7 fun t10_8 w9 =>
  loadW (some (false, 1)) t10_8 w9 fun t11_10 w11 =>
  nilW x0 w11 fun t14_12 w13 =>
  offW (some 9) t14_12 w13 fun t15_14 w15 =>
  loadW (some (false, 1)) t15_14 w15 fun t16_16 w17 =>
  insW Tryz.prog (Instr.buildSlice 36 0 #[]) w17 fun t7_18 w19 =>
  (loadW (some (true, 8)) t5_2 w19 fun t6_20 w21 => t6_20 = t6_4 ∧ w21 = w19) ∧
  (loadW (some (false, 1)) t10_8 w19 fun t11_22 w23 => t11_22 = t11_10 ∧ w23 = w19) ∧
  (loadW (some (false, 1)) t15_14 w19 fun t16_24 w25 => t16_24 = t16_16 ∧ w25 = w19) ∧
  insW Tryz.prog (Builtin.append_ #[36, 36] 36 #[t7_18, t11_10]) w19 fun t12_26 w27 =>
  (loadW (some (true, 8)) t5_2 w27 fun t6_28 w29 => t6_28 = t6_4 ∧ w29 = w27) ∧
  (loadW (some (false, 1)) t15_14 w27 fun t16_30 w31 => t16_30 = t16_16 ∧ w31 = w27) ∧
  insW Tryz.prog (Instr.build 141 #[(0, t6_4), (1, t12_26), (2, t16_16)]) w27 fun t17_32 w33 =>
  boxW 141 t17_32 w33 fun t18_34 w35 =>
  K t18_34 w35
theorem c95_eq (x0 : Value) (w : World) (K : VPost) : c95 x0 w K = WP true Tryz.prog 19 [(1, 33296, [0, 1, 2, 4, 0, 0, 32, 64, 128, 272, 0, 1024, 2048, 4096, 8712, 16384, 65535], [0, 1, 3, 7, 0, 0, 32, 96, 224, 496, 0, 1024, 3072, 7168, 16383, 32767, 65535])] (bodyOf Tryz.f95) (argF [x0]) w [.tmp 2] K := by kernel_rfl
theorem c95_calls (x0 : Value) (w : World) (K : VPost) (h : c95 x0 w K) : Calls Tryz.prog 95 #[x0] w (retK K) :=
  calls_of_WP (c95_eq x0 w K) mixedG Tryz.func95 (by kernel_rfl) Tryz.ntmps95 (by kernel_rfl) (by kernel_rfl) h

/-- imprimatur/sha.Pad -/
def c96 (x0 : Value) (w : World) (K : VPost) : Prop :=
  binN Tryz.prog .lss 3 true x0 (.int .i64 0) w fun t7_0 w1 =>
  gstep t7_0 false w1 (fun K => K x0 w1) fun t9_2 w3 =>
  gstep t7_0 false w3 (fun K => binN Tryz.prog .gtr 3 true t9_2 (.int .i64 1125899906842624) w3 K) fun t10_4 w5 =>
  pickW t7_0 (.bool true) t10_4 w5 fun t11_6 w7 =>
  condW t11_6 (
  K (.slice none 0 0) w7) (
  binN Tryz.prog .rem 3 true x0 (.int .i64 64) w7 fun t13_8 w9 =>
  binN Tryz.prog .sub 3 true (.int .i64 119) t13_8 w9 fun t14_10 w11 =>
  binN Tryz.prog .rem 3 true t14_10 (.int .i64 64) w11 fun t15_12 w13 =>
  insW Tryz.prog (Instr.buildSlice 36 1 #[(0, (.int .u8 128))]) w13 fun t16_14 w15 =>
  insW Tryz.prog (Builtin.append_ #[36, 3] 36 #[t16_14, t15_12]) w15 fun t18_16 w17 =>
  bindX (endW Tryz.prog [.tmp 2] K) fun K18 =>
  bindX (seqX (fun f20 w21 =>
  K (f20 4) w21) K18) fun K19 =>
  bindX (blkX 0 K19) fun K22 =>
  loopW (fun f23 w24 K25 =>
  binN Tryz.prog .geq 3 true (f23 5) (.int .i64 0) w24 fun t20_26 w27 =>
  condW t20_26 (
  binN Tryz.prog .mul 3 true (f23 0) (.int .i64 8) w27 fun t25_28 w29 =>
  binN Tryz.prog .shr 3 false t25_28 (f23 5) w29 fun t27_30 w31 =>
  convN Tryz.prog 3 5 t27_30 w31 fun t28_32 w33 =>
  insW Tryz.prog (Instr.buildSlice 36 1 #[(0, t28_32)]) w33 fun t29_34 w35 =>
  insW Tryz.prog (Builtin.append_ #[36, 36] 36 #[(f23 4), t29_34]) w35 fun t30_36 w37 =>
  binN Tryz.prog .sub 3 true (f23 5) (.int .i64 8) w37 fun t22_38 w39 =>
  K25 .normal (pf 32 (pf 32 (pf 32 (pf 32 (pf 32 (pf 32 (pf 32 (pf 32 (pf 32 (pf 32 (pf 32 (pf 32 (pf 32 (pf 32 f23 19 (f23 5)) 20 t20_26) 23 (f23 4)) 24 (f23 0)) 25 t25_28) 26 (f23 5)) 27 t27_30) 28 t28_32) 29 t29_34) 30 t30_36) 4 t30_36) 21 (f23 5)) 22 t22_38) 5 t22_38) w39) (
  K25 (.exit 0) (pf 32 (pf 32 f23 19 (f23 5)) 20 t20_26) w27)) (pf 32 (pf 32 (pf 32 (pf 32 (pf 32 (pf 32 (pf 32 (pf 32 (pf 32 (pf 32 (pf 32 (pf 32 (pf 32 (pf 32 (pf 32 (pf 32 (pf 32 (argF [x0]) 2 (.slice none 0 0)) 6 x0) 7 t7_0) 8 t7_0) 9 t9_2) 10 t10_4) 11 t11_6) 12 x0) 13 t13_8) 14 t14_10) 15 t15_12) 3 t15_12) 16 t16_14) 17 t15_12) 18 t18_16) 4 t18_16) 5 (.int .i64 56)) w17 K22)
theorem c96_eq (x0 : Value) (w : World) (K : VPost) : c96 x0 w K = WP true Tryz.prog 32 [] (bodyOf Tryz.f96) (argF [x0]) w [.tmp 2] K := by kernel_rfl
theorem c96_calls (x0 : Value) (w : World) (K : VPost) (h : c96 x0 w K) : Calls Tryz.prog 96 #[x0] w (retK K) :=
  calls_of_WP (c96_eq x0 w K) mixedG Tryz.func96 (by kernel_rfl) Tryz.ntmps96 (by kernel_rfl) (by kernel_rfl) h

/-- imprimatur/sha.first -/
def c93 (w : World) (K : VPost) : Prop :=
  allocW (zeroO Tryz.prog 138) 138 w fun t0_0 w1 =>
  insW Tryz.prog (Instr.build 138 #[(0, (.int .u32 1779033703)), (1, (.int .u32 3144134277)), (2, (.int .u32 1013904242)), (3, (.int .u32 2773480762)), (4, (.int .u32 1359893119)), (5, (.int .u32 2600822924)), (6, (.int .u32 528734635)), (7, (.int .u32 1541459225))]) w1 fun t1_2 w3 =>
  storeW (some (true, 8)) t0_0 t1_2 w3 fun w4 =>
  loadW (some (true, 8)) t0_0 w4 fun r5 _ =>
  K r5 w4
theorem c93_eq (w : World) (K : VPost) : c93  w K = WP true Tryz.prog 2 [] (bodyOf Tryz.f93) (argF []) w [.cell 0 138] K := by kernel_rfl
theorem c93_calls (w : World) (K : VPost) (h : c93  w K) : Calls Tryz.prog 93 #[] w (retK K) :=
  calls_of_WP (c93_eq  w K) mixedG Tryz.func93 (by kernel_rfl) Tryz.ntmps93 (by kernel_rfl) (by kernel_rfl) h

/-- (*imprimatur/sha.Hash).take -/
def c94 (x0 x1 : Value) (w : World) (K : VPost) : Prop :=
  nilW x0 w fun t6_0 w1 =>
  offW (some 8) t6_0 w1 fun t7_2 w3 =>
  loadW (some (false, 1)) t7_2 w3 fun t8_4 w5 =>
  insW Tryz.prog (Builtin.append_ #[36, 36] 36 #[t8_4, x1]) w5 fun t10_6 w7 =>
  nilW x0 w7 fun t11_8 w9 =>
  offW (some 8) t11_8 w9 fun t12_10 w11 =>
  storeW (some (false, 1)) t12_10 t10_6 w11 fun w12 =>
  nilW x0 w12 fun t14_13 w14 =>
  offW (some 9) t14_13 w14 fun t15_15 w16 =>
  loadW (some (false, 1)) t15_15 w16 fun t16_17 w18 =>
  lenW Tryz.prog (some true) #[36] 3 #[x1] w18 fun t18_19 w20 =>
  binN Tryz.prog .add 3 false t16_17 t18_19 w20 fun t19_21 w22 =>
  nilW x0 w22 fun t20_23 w24 =>
  offW (some 9) t20_23 w24 fun t21_25 w26 =>
  storeW (some (false, 1)) t21_25 t19_21 w26 fun w27 =>
  bindX (endW Tryz.prog [] K) fun K28 =>
  bindX (blkX 0 K28) fun K29 =>
  loopW (fun f30 w31 K32 =>
  nilW (f30 0) w31 fun t23_33 w34 =>
  offW (some 8) t23_33 w34 fun t24_35 w36 =>
  loadW (some (false, 1)) t24_35 w36 fun t25_37 w38 =>
  lenW Tryz.prog (some true) #[36] 3 #[t25_37] w38 fun t26_39 w40 =>
  binN Tryz.prog .geq 3 true t26_39 (.int .i64 64) w40 fun t27_41 w42 =>
  condW t27_41 (
  nilW (f30 0) w42.drew fun t30_43 w44 =>
  offW (some 0) t30_43 w44 fun t31_45 w46 =>
  loadW (some (true, 8)) t31_45 w46 fun t32_47 w48 =>
  nilW (f30 0) w48 fun t34_49 w50 =>
  offW (some 8) t34_49 w50 fun t35_51 w52 =>
  loadW (some (false, 1)) t35_51 w52 fun t36_53 w54 =>
  sliceW (.sl 1) t36_53 none (some (.int .i64 64)) none w54 fun t37_55 w56 =>
  fnW Tryz.prog 101 #[t32_47, t37_55] w56 fun t38_57 w58 =>
  nilW (f30 0) w58 fun t39_59 w60 =>
  offW (some 0) t39_59 w60 fun t40_61 w62 =>
  storeW (some (true, 8)) t40_61 t38_57 w62 fun w63 =>
  nilW (f30 0) w63 fun t43_64 w65 =>
  offW (some 8) t43_64 w65 fun t44_66 w67 =>
  loadW (some (false, 1)) t44_66 w67 fun t45_68 w69 =>
  sliceW (.sl 1) t45_68 (some (.int .i64 64)) none none w69 fun t46_70 w71 =>
  nilW (f30 0) w71 fun t47_72 w73 =>
  offW (some 8) t47_72 w73 fun t48_74 w75 =>
  storeW (some (false, 1)) t48_74 t46_70 w75 fun w76 =>
  K32 .normal (pf 49 (pf 49 (pf 49 (pf 49 (pf 49 (pf 49 (pf 49 (pf 49 (pf 49 (pf 49 (pf 49 (pf 49 (pf 49 (pf 49 (pf 49 (pf 49 (pf 49 (pf 49 (pf 49 (pf 49 (pf 49 (pf 49 (pf 49 (pf 49 (pf 49 (pf 49 (pf 49 f30 22 (f30 0)) 23 t23_33) 24 t24_35) 25 t25_37) 26 t26_39) 27 t27_41) 28 (f30 0)) 29 (f30 0)) 30 t30_43) 31 t31_45) 32 t32_47) 33 (f30 0)) 34 t34_49) 35 t35_51) 36 t36_53) 37 t37_55) 38 t38_57) 39 t39_59) 40 t40_61) 41 (f30 0)) 42 (f30 0)) 43 t43_64) 44 t44_66) 45 t45_68) 46 t46_70) 47 t47_72) 48 t48_74) w76) (
  K32 (.exit 0) (pf 49 (pf 49 (pf 49 (pf 49 (pf 49 (pf 49 f30 22 (f30 0)) 23 t23_33) 24 t24_35) 25 t25_37) 26 t26_39) 27 t27_41) w42)) (pf 49 (pf 49 (pf 49 (pf 49 (pf 49 (pf 49 (pf 49 (pf 49 (pf 49 (pf 49 (pf 49 (pf 49 (pf 49 (pf 49 (pf 49 (pf 49 (pf 49 (pf 49 (argF [x0, x1]) 4 x0) 5 x0) 6 t6_0) 7 t7_2) 8 t8_4) 9 x1) 10 t10_6) 11 t11_8) 12 t12_10) 13 x0) 14 t14_13) 15 t15_15) 16 t16_17) 17 x1) 18 t18_19) 19 t19_21) 20 t20_23) 21 t21_25) w27 K29
theorem c94_eq (x0 x1 : Value) (w : World) (K : VPost) : c94 x0 x1 w K = WP true Tryz.prog 49 [(3, 9216, [0, 0, 2, 4, 8, 0, 32, 64, 128, 256, 528, 2047, 4095, 6143], [0, 0, 2, 6, 14, 0, 32, 96, 224, 480, 1022, 2047, 4095, 8191])] (bodyOf Tryz.f94) (argF [x0, x1]) w [] K := by kernel_rfl
theorem c94_calls (x0 x1 : Value) (w : World) (K : VPost) (h : c94 x0 x1 w K) : Calls Tryz.prog 94 #[x0, x1] w (retK K) :=
  calls_of_WP (c94_eq x0 x1 w K) mixedG Tryz.func94 (by kernel_rfl) Tryz.ntmps94 (by kernel_rfl) (by kernel_rfl) h

/-- imprimatur/sha.compress -/
def c101 (x0 x1 : Value) (w : World) (K : VPost) : Prop :=
  boxW 138 x0 w fun t2_0 w1 =>
  allocW (zeroO Tryz.prog 138) 138 w1 fun t4_2 w3 =>
  fnW Tryz.prog 104 #[] w3 fun t20_4 w5 =>
  fnW Tryz.prog 105 #[x1] w5 fun t22_6 w7 =>
  allocW (zeroO Tryz.prog 148) 148 w7 fun t5_8 w9 =>
  allocW (zeroO Tryz.prog 148) 148 w9 fun t6_10 w11 =>
  storeW (some (true, 64)) t5_8 t20_4 w11 fun w12 =>
  storeW (some (true, 64)) t6_10 t22_6 w12 fun w13 =>
  idxW (some ((some 8), 1)) t2_0 (.int .i64 0) w13.drew fun t23_14 w15 =>
  loadW (some (false, 1)) t23_14 w15 fun t24_16 w17 =>
  idxW (some ((some 8), 1)) t2_0 (.int .i64 1) w17 fun t25_18 w19 =>
  loadW (some (false, 1)) t25_18 w19 fun t26_20 w21 =>
  idxW (some ((some 8), 1)) t2_0 (.int .i64 2) w21 fun t27_22 w23 =>
  loadW (some (false, 1)) t27_22 w23 fun t28_24 w25 =>
  idxW (some ((some 8), 1)) t2_0 (.int .i64 3) w25 fun t29_26 w27 =>
  loadW (some (false, 1)) t29_26 w27 fun t30_28 w29 =>
  idxW (some ((some 8), 1)) t2_0 (.int .i64 4) w29 fun t31_30 w31 =>
  loadW (some (false, 1)) t31_30 w31 fun t32_32 w33 =>
  idxW (some ((some 8), 1)) t2_0 (.int .i64 5) w33 fun t33_34 w35 =>
  loadW (some (false, 1)) t33_34 w35 fun t34_36 w37 =>
  idxW (some ((some 8), 1)) t2_0 (.int .i64 6) w37 fun t35_38 w39 =>
  loadW (some (false, 1)) t35_38 w39 fun t36_40 w41 =>
  idxW (some ((some 8), 1)) t2_0 (.int .i64 7) w41 fun t37_42 w43 =>
  loadW (some (false, 1)) t37_42 w43 fun t38_44 w45 =>
  bindX (endW Tryz.prog [.cell 4 138] K) fun K46 =>
  bindX (seqX (fun f48 w49 =>
  bindX (seqX (fun f51 w52 =>
  loadW (some (true, 8)) (f51 2) w52 fun t114_53 w54 =>
  storeW (some (true, 8)) (f51 4) t114_53 w54 fun w55 =>
  loadW (some (true, 8)) (f51 4) w55 fun r56 _ =>
  K r56 w55) K46) fun K50 =>
  insW Tryz.prog (Instr.build 138 #[(0, (f48 7)), (1, (f48 8)), (2, (f48 9)), (3, (f48 10)), (4, (f48 11)), (5, (f48 12)), (6, (f48 13)), (7, (f48 14))]) w49 fun t102_58 w59 =>
  bindX (blkX 2 K50) fun K60 =>
  loopW (fun f61 w62 K63 =>
  binN Tryz.prog .lss 3 true (f61 103) (.int .i64 8) w62 fun t104_64 w65 =>
  condW t104_64 (
  ixvW (.arr 8 false 1) (f61 102) (f61 103) w65 fun t106_66 w67 =>
  idxW (some ((some 8), 1)) (f61 2) (f61 103) w67 fun t108_68 w69 =>
  loadW (some (false, 1)) t108_68 w69 fun t109_70 w71 =>
  binN Tryz.prog .add 137 false t109_70 t106_66 w71 fun t111_72 w73 =>
  idxW (some ((some 8), 1)) (f61 2) (f61 103) w73 fun t112_74 w75 =>
  storeW (some (false, 1)) t112_74 t111_72 w75 fun w76 =>
  binN Tryz.prog .add 3 true (f61 103) (.int .i64 1) w76 fun t113_77 w78 =>
  K63 .normal (pf 115 (pf 115 (pf 115 (pf 115 (pf 115 (pf 115 (pf 115 (pf 115 (pf 115 (pf 115 (pf 115 (pf 115 (pf 115 f61 104 t104_64) 105 (f61 103)) 106 t106_66) 18 (f61 103)) 19 t106_66) 107 (f61 103)) 108 t108_68) 109 t109_70) 110 t106_66) 111 t111_72) 112 t112_74) 113 t113_77) 103 t113_77) w78) (
  K63 (.exit 2) (pf 115 f61 104 t104_64) w65)) (pf 115 (pf 115 (pf 115 (pf 115 (pf 115 (pf 115 (pf 115 (pf 115 (pf 115 (pf 115 f48 94 (f48 7)) 95 (f48 8)) 96 (f48 9)) 97 (f48 10)) 98 (f48 11)) 99 (f48 12)) 100 (f48 13)) 101 (f48 14)) 102 t102_58) 103 (.int .i64 0)) w59 K60) K46) fun K47 =>
  bindX (blkX 0 K47) fun K79 =>
  loopW (fun f80 w81 K82 =>
  binN Tryz.prog .lss 3 true (f80 39) (.int .i64 64) w81 fun t40_83 w84 =>
  condW t40_83 (
  binN Tryz.prog .and 137 false (f80 11) (f80 12) w84.drew fun t50_85 w86 =>
  unN Tryz.prog .xor (f80 11) w86 fun t52_87 w88 =>
  binN Tryz.prog .and 137 false t52_87 (f80 13) w88 fun t54_89 w90 =>
  binN Tryz.prog .xor 137 false t50_85 t54_89 w90 fun t55_91 w92 =>
  idxW (some ((some 64), 1)) (f80 5) (f80 39) w92 fun t58_93 w94 =>
  loadW (some (false, 1)) t58_93 w94 fun t59_95 w96 =>
  idxW (some ((some 64), 1)) (f80 6) (f80 39) w96 fun t62_97 w98 =>
  loadW (some (false, 1)) t62_97 w98 fun t63_99 w100 =>
  fnW Tryz.prog 107 #[(f80 11), (.int .i64 (-25))] w100 fun t45_101 w102 =>
  (loadW (some (false, 1)) t58_93 w102 fun t59_103 w104 => t59_103 = t59_95 ∧ w104 = w102) ∧
  (loadW (some (false, 1)) t62_97 w102 fun t63_105 w106 => t63_105 = t63_99 ∧ w106 = w102) ∧
  fnW Tryz.prog 106 #[(f80 11), (.int .i64 6), (.int .i64 11), t45_101] w102 fun t46_107 w108 =>
  (loadW (some (false, 1)) t58_93 w108 fun t59_109 w110 => t59_109 = t59_95 ∧ w110 = w108) ∧
  (loadW (some (false, 1)) t62_97 w108 fun t63_111 w112 => t63_111 = t63_99 ∧ w112 = w108) ∧
  binN Tryz.prog .add 137 false (f80 14) t46_107 w108 fun t47_113 w114 =>
  binN Tryz.prog .add 137 false t47_113 t55_91 w114 fun t56_115 w116 =>
  binN Tryz.prog .add 137 false t56_115 t59_95 w116 fun t60_117 w118 =>
  binN Tryz.prog .add 137 false t60_117 t63_99 w118 fun t64_119 w120 =>
  fnW Tryz.prog 107 #[(f80 7), (.int .i64 (-22))] w120 fun t67_121 w122 =>
  fnW Tryz.prog 106 #[(f80 7), (.int .i64 2), (.int .i64 13), t67_121] w122 fun t68_123 w124 =>
  binN Tryz.prog .and 137 false (f80 7) (f80 8) w124 fun t71_125 w126 =>
  binN Tryz.prog .and 137 false (f80 7) (f80 9) w126 fun t74_127 w128 =>
  binN Tryz.prog .xor 137 false t71_125 t74_127 w128 fun t75_129 w130 =>
  binN Tryz.prog .and 137 false (f80 8) (f80 9) w130 fun t78_131 w132 =>
  binN Tryz.prog .xor 137 false t75_129 t78_131 w132 fun t79_133 w134 =>
  binN Tryz.prog .add 137 false t68_123 t79_133 w134 fun t80_135 w136 =>
  binN Tryz.prog .add 137 false t64_119 t80_135 w136 fun t83_137 w138 =>
  binN Tryz.prog .add 137 false (f80 10) t64_119 w138 fun t89_139 w140 =>
  binN Tryz.prog .add 3 true (f80 39) (.int .i64 1) w140 fun t93_141 w142 =>
  K82 .normal (pf 115 (pf 115 (pf 115 (pf 115 (pf 115 (pf 115 (pf 115 (pf 115 (pf 115 (pf 115 (pf 115 (pf 115 (pf 115 (pf 115 (pf 115 (pf 115 (pf 115 (pf 115 (pf 115 (pf 115 (pf 115 (pf 115 (pf 115 (pf 115 (pf 115 (pf 115 (pf 115 (pf 115 (pf 115 (pf 115 (pf 115 (pf 115 (pf 115 (pf 115 (pf 115 (pf 115 (pf 115 (pf 115 (pf 115 (pf 115 (pf 115 (pf 115 (pf 115 (pf 115 (pf 115 (pf 115 (pf 115 (pf 115 (pf 115 (pf 115 (pf 115 (pf 115 (pf 115 (pf 115 (pf 115 (pf 115 (pf 115 (pf 115 (pf 115 (pf 115 (pf 115 (pf 115 (pf 115 (pf 115 (pf 115 (pf 115 f80 40 t40_83) 41 (f80 39)) 15 (f80 39)) 42 (f80 14)) 43 (f80 11)) 44 (f80 11)) 48 (f80 11)) 49 (f80 12)) 50 t50_85) 51 (f80 11)) 52 t52_87) 53 (f80 13)) 54 t54_89) 55 t55_91) 57 (f80 39)) 58 t58_93) 59 t59_95) 61 (f80 39)) 62 t62_97) 63 t63_99) 45 t45_101) 46 t46_107) 47 t47_113) 56 t56_115) 60 t60_117) 64 t64_119) 16 t64_119) 65 (f80 7)) 66 (f80 7)) 67 t67_121) 68 t68_123) 69 (f80 7)) 70 (f80 8)) 71 t71_125) 72 (f80 7)) 73 (f80 9)) 74 t74_127) 75 t75_129) 76 (f80 8)) 77 (f80 9)) 78 t78_131) 79 t79_133) 80 t80_135) 17 t80_135) 81 t64_119) 82 t80_135) 83 t83_137) 84 (f80 7)) 85 (f80 8)) 86 (f80 9)) 87 (f80 10)) 88 t64_119) 89 t89_139) 90 (f80 11)) 91 (f80 12)) 92 (f80 13)) 7 t83_137) 8 (f80 7)) 9 (f80 8)) 10 (f80 9)) 11 t89_139) 12 (f80 11)) 13 (f80 12)) 14 (f80 13)) 93 t93_141) 39 t93_141) w142) (
  K82 (.exit 0) (pf 115 f80 40 t40_83) w84)) (pf 115 (pf 115 (pf 115 (pf 115 (pf 115 (pf 115 (pf 115 (pf 115 (pf 115 (pf 115 (pf 115 (pf 115 (pf 115 (pf 115 (pf 115 (pf 115 (pf 115 (pf 115 (pf 115 (pf 115 (pf 115 (pf 115 (pf 115 (pf 115 (pf 115 (pf 115 (pf 115 (pf 115 (pf 115 (pf 115 (pf 115 (pf 115 (argF [x0, x1]) 2 t2_0) 4 t4_2) 20 t20_4) 21 x1) 22 t22_6) 5 t5_8) 6 t6_10) 23 t23_14) 24 t24_16) 25 t25_18) 26 t26_20) 27 t27_22) 28 t28_24) 29 t29_26) 30 t30_28) 31 t31_30) 32 t32_32) 33 t33_34) 34 t34_36) 35 t35_38) 36 t36_40) 37 t37_42) 38 t38_44) 7 t24_16) 8 t26_20) 9 t28_24) 10 t30_28) 11 t32_32) 12 t34_36) 13 t36_40) 14 t38_44) 39 (.int .i64 0)) w45 K79
theorem c101_eq (x0 x1 : Value) (w : World) (K : VPost) : c101 x0 x1 w K = WP true Tryz.prog 115 [(2, 0, [0, 1, 0, 4, 0, 16, 0, 64, 0, 256, 0, 1024, 0, 4096, 0, 16384, 3, 65551, 196671, 459007, 984063, 2035711, 4145151, 8388607], [0, 1, 0, 4, 0, 16, 0, 64, 0, 256, 0, 1024, 0, 4096, 0, 16384, 3, 65551, 196671, 459007, 984063, 2035711, 4145151, 8388607]), (6, 24, [0, 0, 0, 4, 10, 17, 0, 0, 192, 0, 512, 0, 3072, 4352, 8224, 0, 32768, 65536, 147456, 0, 524288, 1048576, 2359296, 8388607], [0, 0, 0, 4, 14, 31, 0, 0, 192, 0, 512, 0, 3584, 8128, 16383, 0, 32768, 98304, 262143, 0, 524288, 1572864, 4194303, 8388607])] (bodyOf Tryz.f101) (argF [x0, x1]) w [.cell 4 138] K := by kernel_rfl
theorem c101_calls (x0 x1 : Value) (w : World) (K : VPost) (h : c101 x0 x1 w K) : Calls Tryz.prog 101 #[x0, x1] w (retK K) :=
  calls_of_WP (c101_eq x0 x1 w K) mixedG Tryz.func101 (by kernel_rfl) Tryz.ntmps101 (by kernel_rfl) (by kernel_rfl) h

/-- imprimatur/sha.constants -/
def c104 (w : World) (K : VPost) : Prop :=
  allocW (zeroO Tryz.prog 148) 148 w fun t0_0 w1 =>
  insW Tryz.prog (Instr.build 148 #[(0, (.int .u32 1116352408)), (1, (.int .u32 1899447441)), (2, (.int .u32 3049323471)), (3, (.int .u32 3921009573)), (4, (.int .u32 961987163)), (5, (.int .u32 1508970993)), (6, (.int .u32 2453635748)), (7, (.int .u32 2870763221)), (8, (.int .u32 3624381080)), (9, (.int .u32 310598401)), (10, (.int .u32 607225278)), (11, (.int .u32 1426881987)), (12, (.int .u32 1925078388)), (13, (.int .u32 2162078206)), (14, (.int .u32 2614888103)), (15, (.int .u32 3248222580)), (16, (.int .u32 3835390401)), (17, (.int .u32 4022224774)), (18, (.int .u32 264347078)), (19, (.int .u32 604807628)), (20, (.int .u32 770255983)), (21, (.int .u32 1249150122)), (22, (.int .u32 1555081692)), (23, (.int .u32 1996064986)), (24, (.int .u32 2554220882)), (25, (.int .u32 2821834349)), (26, (.int .u32 2952996808)), (27, (.int .u32 3210313671)), (28, (.int .u32 3336571891)), (29, (.int .u32 3584528711)), (30, (.int .u32 113926993)), (31, (.int .u32 338241895)), (32, (.int .u32 666307205)), (33, (.int .u32 773529912)), (34, (.int .u32 1294757372)), (35, (.int .u32 1396182291)), (36, (.int .u32 1695183700)), (37, (.int .u32 1986661051)), (38, (.int .u32 2177026350)), (39, (.int .u32 2456956037)), (40, (.int .u32 2730485921)), (41, (.int .u32 2820302411)), (42, (.int .u32 3259730800)), (43, (.int .u32 3345764771)), (44, (.int .u32 3516065817)), (45, (.int .u32 3600352804)), (46, (.int .u32 4094571909)), (47, (.int .u32 275423344)), (48, (.int .u32 430227734)), (49, (.int .u32 506948616)), (50, (.int .u32 659060556)), (51, (.int .u32 883997877)), (52, (.int .u32 958139571)), (53, (.int .u32 1322822218)), (54, (.int .u32 1537002063)), (55, (.int .u32 1747873779)), (56, (.int .u32 1955562222)), (57, (.int .u32 2024104815)), (58, (.int .u32 2227730452)), (59, (.int .u32 2361852424)), (60, (.int .u32 2428436474)), (61, (.int .u32 2756734187)), (62, (.int .u32 3204031479)), (63, (.int .u32 3329325298))]) w1 fun t1_2 w3 =>
  storeW (some (true, 64)) t0_0 t1_2 w3 fun w4 =>
  loadW (some (true, 64)) t0_0 w4 fun r5 _ =>
  K r5 w4
theorem c104_eq (w : World) (K : VPost) : c104  w K = WP true Tryz.prog 2 [] (bodyOf Tryz.f104) (argF []) w [.cell 0 148] K := by kernel_rfl
theorem c104_calls (w : World) (K : VPost) (h : c104  w K) : Calls Tryz.prog 104 #[] w (retK K) :=
  calls_of_WP (c104_eq  w K) mixedG Tryz.func104 (by kernel_rfl) Tryz.ntmps104 (by kernel_rfl) (by kernel_rfl) h

/-- imprimatur/sha.schedule -/
def c105 (x0 : Value) (w : World) (K : VPost) : Prop :=
  allocW (zeroO Tryz.prog 148) 148 w fun t2_0 w1 =>
  bindX (endW Tryz.prog [.cell 2 148] K) fun K2 =>
  bindX (seqX (fun f4 w5 =>
  loadW (some (true, 64)) (f4 2) w5 fun t65_6 w7 =>
  storeW (some (true, 64)) (f4 2) t65_6 w7 fun w8 =>
  loadW (some (true, 64)) (f4 2) w8 fun r9 _ =>
  K r9 w8) K2) fun K3 =>
  bindX (blkX 0 K3) fun K11 =>
  loopW (fun f12 w13 K14 =>
  binN Tryz.prog .lss 3 true (f12 8) (.int .i64 64) w13 fun t9_15 w16 =>
  condW t9_15 (
  bindX (seqX (fun f18 w19 =>
  binN Tryz.prog .add 3 true (f18 8) (.int .i64 1) w19 fun t64_20 w21 =>
  K14 .normal (pf 66 (pf 66 f18 64 t64_20) 8 t64_20) w21) K14) fun K17 =>
  bindX (blkX 1 K17) fun K22 =>
  bindX (seqX (fun f24 w25 =>
  binN Tryz.prog .sub 3 true (f24 3) (.int .i64 15) w25.drew fun t36_26 w27 =>
  idxW (some ((some 64), 1)) (f24 2) t36_26 w27 fun t37_28 w29 =>
  loadW (some (false, 1)) t37_28 w29 fun t38_30 w31 =>
  binN Tryz.prog .sub 3 true (f24 3) (.int .i64 2) w31 fun t40_32 w33 =>
  idxW (some ((some 64), 1)) (f24 2) t40_32 w33 fun t41_34 w35 =>
  loadW (some (false, 1)) t41_34 w35 fun t42_36 w37 =>
  binN Tryz.prog .sub 3 true (f24 3) (.int .i64 16) w37.drew fun t45_38 w39 =>
  idxW (some ((some 64), 1)) (f24 2) t45_38 w39 fun t46_40 w41 =>
  loadW (some (false, 1)) t46_40 w41 fun t47_42 w43 =>
  binN Tryz.prog .shr 137 true t38_30 (.int .u64 3) w43 fun t50_44 w45 =>
  binN Tryz.prog .sub 3 true (f24 3) (.int .i64 7) w45 fun t54_46 w47 =>
  idxW (some ((some 64), 1)) (f24 2) t54_46 w47 fun t55_48 w49 =>
  loadW (some (false, 1)) t55_48 w49 fun t56_50 w51 =>
  binN Tryz.prog .shr 137 true t42_36 (.int .u64 10) w51 fun t60_52 w53 =>
  fnW Tryz.prog 106 #[t38_30, (.int .i64 7), (.int .i64 18), t50_44] w53 fun t51_54 w55 =>
  (loadW (some (false, 1)) t46_40 w55 fun t47_56 w57 => t47_56 = t47_42 ∧ w57 = w55) ∧
  (loadW (some (false, 1)) t55_48 w55 fun t56_58 w59 => t56_58 = t56_50 ∧ w59 = w55) ∧
  binN Tryz.prog .add 137 false t47_42 t51_54 w55 fun t52_60 w61 =>
  binN Tryz.prog .add 137 false t52_60 t56_50 w61 fun t57_62 w63 =>
  fnW Tryz.prog 106 #[t42_36, (.int .i64 17), (.int .i64 19), t60_52] w63 fun t61_64 w65 =>
  (loadW (some (false, 1)) t46_40 w65 fun t47_66 w67 => t47_66 = t47_42 ∧ w67 = w65) ∧
  (loadW (some (false, 1)) t55_48 w65 fun t56_68 w69 => t56_68 = t56_50 ∧ w69 = w65) ∧
  binN Tryz.prog .add 137 false t57_62 t61_64 w65 fun t62_70 w71 =>
  idxW (some ((some 64), 1)) (f24 2) (f24 3) w71 fun t63_72 w73 =>
  storeW (some (false, 1)) t63_72 t62_70 w73 fun w74 =>
  K17 .normal (pf 66 (pf 66 (pf 66 (pf 66 (pf 66 (pf 66 (pf 66 (pf 66 (pf 66 (pf 66 (pf 66 (pf 66 (pf 66 (pf 66 (pf 66 (pf 66 (pf 66 (pf 66 (pf 66 (pf 66 (pf 66 (pf 66 (pf 66 (pf 66 (pf 66 (pf 66 (pf 66 (pf 66 (pf 66 (pf 66 (pf 66 f24 35 (f24 3)) 36 t36_26) 37 t37_28) 38 t38_30) 39 (f24 3)) 40 t40_32) 41 t41_34) 42 t42_36) 6 t38_30) 7 t42_36) 43 (f24 3)) 44 (f24 3)) 45 t45_38) 46 t46_40) 47 t47_42) 48 t38_30) 49 t38_30) 50 t50_44) 53 (f24 3)) 54 t54_46) 55 t55_48) 56 t56_50) 58 t42_36) 59 t42_36) 60 t60_52) 51 t51_54) 52 t52_60) 57 t57_62) 61 t61_64) 62 t62_70) 63 t63_72) w74) K22) fun K23 =>
  binN Tryz.prog .lss 3 true (f12 8) (.int .i64 16) w16 fun t12_75 w76 =>
  condW t12_75 (
  bindX (seqX (fun f78 w79 =>
  K17 .normal f78 w79) K23) fun K77 =>
  binN Tryz.prog .mul 3 true (.int .i64 4) (f12 8) w76 fun t15_80 w81 =>
  binN Tryz.prog .mul 3 true (.int .i64 4) (f12 8) w81 fun t17_82 w83 =>
  binN Tryz.prog .add 3 true t17_82 (.int .i64 4) w83 fun t18_84 w85 =>
  sliceW (.sl 1) (f12 0) (some t15_80) (some t18_84) none w85 fun t19_86 w87 =>
  lenW Tryz.prog (some true) #[36] 3 #[t19_86] w87 fun t20_88 w89 =>
  bindX (blkX 2 K77) fun K90 =>
  loopW (fun f91 w92 K93 =>
  binN Tryz.prog .lss 3 false (f91 21) (f91 20) w92 fun t22_94 w95 =>
  condW t22_94 (
  idxW (some (none, 1)) (f91 19) (f91 21) w95 fun t23_96 w97 =>
  loadW (some (false, 1)) t23_96 w97 fun t24_98 w99 =>
  idxW (some ((some 64), 1)) (f91 2) (f91 3) w99 fun t27_100 w101 =>
  loadW (some (false, 1)) t27_100 w101 fun t28_102 w103 =>
  binN Tryz.prog .shl 137 true t28_102 (.int .u64 8) w103 fun t29_104 w105 =>
  convN Tryz.prog 5 137 t24_98 w105 fun t31_106 w107 =>
  binN Tryz.prog .or 137 false t29_104 t31_106 w107 fun t32_108 w109 =>
  idxW (some ((some 64), 1)) (f91 2) (f91 3) w109 fun t33_110 w111 =>
  storeW (some (false, 1)) t33_110 t32_108 w111 fun w112 =>
  binN Tryz.prog .add 3 true (f91 21) (.int .i64 1) w112 fun t34_113 w114 =>
  K93 .normal (pf 66 (pf 66 (pf 66 (pf 66 (pf 66 (pf 66 (pf 66 (pf 66 (pf 66 (pf 66 (pf 66 (pf 66 (pf 66 (pf 66 (pf 66 f91 22 t22_94) 23 t23_96) 24 t24_98) 5 t24_98) 25 (f91 3)) 26 (f91 3)) 27 t27_100) 28 t28_102) 29 t29_104) 30 t24_98) 31 t31_106) 32 t32_108) 33 t33_110) 34 t34_113) 21 t34_113) w114) (
  K93 (.exit 2) (pf 66 f91 22 t22_94) w95)) (pf 66 (pf 66 (pf 66 (pf 66 (pf 66 (pf 66 (pf 66 (pf 66 (pf 66 (pf 66 (pf 66 (pf 66 (pf 66 (pf 66 f12 9 t9_15) 10 (f12 8)) 3 (f12 8)) 11 (f12 8)) 12 t12_75) 13 (f12 0)) 14 (f12 8)) 15 t15_80) 16 (f12 8)) 17 t17_82) 18 t18_84) 19 t19_86) 20 t20_88) 21 (.int .i64 0)) w89 K90) (
  K23 .normal (pf 66 (pf 66 (pf 66 (pf 66 (pf 66 f12 9 t9_15) 10 (f12 8)) 3 (f12 8)) 11 (f12 8)) 12 t12_75) w76)) (
  K14 (.exit 0) (pf 66 f12 9 t9_15) w16)) (pf 66 (pf 66 (argF [x0]) 2 t2_0) 8 (.int .i64 0)) w1 K11
theorem c105_eq (x0 : Value) (w : World) (K : VPost) : c105 x0 w K = WP true Tryz.prog 66 [(10, 0, [0, 1, 2, 4, 0, 16, 32, 64, 15, 511], [0, 1, 3, 7, 0, 16, 48, 112, 15, 511]), (11, 2359552, [0, 0, 2, 4, 8, 0, 0, 64, 160, 272, 0, 1024, 2048, 4096, 8704, 0, 0, 65536, 164096, 278528, 1048575, 2097151], [0, 0, 2, 6, 14, 0, 0, 64, 224, 510, 0, 1024, 3072, 7168, 16382, 0, 0, 65536, 229856, 524286, 1048575, 2097151])] (bodyOf Tryz.f105) (argF [x0]) w [.cell 2 148] K := by kernel_rfl
theorem c105_calls (x0 : Value) (w : World) (K : VPost) (h : c105 x0 w K) : Calls Tryz.prog 105 #[x0] w (retK K) :=
  calls_of_WP (c105_eq x0 w K) mixedG Tryz.func105 (by kernel_rfl) Tryz.ntmps105 (by kernel_rfl) (by kernel_rfl) h

/-- imprimatur/sha.mix -/
def c106 (x0 x1 x2 x3 : Value) (w : World) (K : VPost) : Prop :=
  unN Tryz.prog .neg x1 w fun t11_0 w1 =>
  fnW Tryz.prog 107 #[x0, t11_0] w1 fun t12_2 w3 =>
  unN Tryz.prog .neg x2 w3 fun t15_4 w5 =>
  fnW Tryz.prog 107 #[x0, t15_4] w5 fun t16_6 w7 =>
  binN Tryz.prog .xor 137 false t12_2 t16_6 w7 fun t17_8 w9 =>
  binN Tryz.prog .xor 137 false t17_8 x3 w9 fun t19_10 w11 =>
  K t19_10 w11
theorem c106_eq (x0 x1 x2 x3 : Value) (w : World) (K : VPost) : c106 x0 x1 x2 x3 w K = WP true Tryz.prog 20 [] (bodyOf Tryz.f106) (argF [x0, x1, x2, x3]) w [.tmp 8] K := by kernel_rfl
theorem c106_calls (x0 x1 x2 x3 : Value) (w : World) (K : VPost) (h : c106 x0 x1 x2 x3 w K) : Calls Tryz.prog 106 #[x0, x1, x2, x3] w (retK K) :=
  calls_of_WP (c106_eq x0 x1 x2 x3 w K) mixedG Tryz.func106 (by kernel_rfl) Tryz.ntmps106 (by kernel_rfl) (by kernel_rfl) h

/-- math/bits.RotateLeft32 -/
def c107 (x0 x1 : Value) (w : World) (K : VPost) : Prop :=
  convN Tryz.prog 3 106 x1 w fun t7_0 w1 =>
  binN Tryz.prog .and 106 true t7_0 (.int .u64 31) w1 fun t8_2 w3 =>
  binN Tryz.prog .shl 137 false x0 t8_2 w3 fun t11_4 w5 =>
  binN Tryz.prog .sub 106 true (.int .u64 32) t8_2 w5 fun t14_6 w7 =>
  binN Tryz.prog .shr 137 false x0 t14_6 w7 fun t15_8 w9 =>
  binN Tryz.prog .or 137 false t11_4 t15_8 w9 fun t16_10 w11 =>
  K t16_10 w11
theorem c107_eq (x0 x1 : Value) (w : World) (K : VPost) : c107 x0 x1 w K = WP true Tryz.prog 17 [] (bodyOf Tryz.f107) (argF [x0, x1]) w [.tmp 4] K := by kernel_rfl
theorem c107_calls (x0 x1 : Value) (w : World) (K : VPost) (h : c107 x0 x1 w K) : Calls Tryz.prog 107 #[x0, x1] w (retK K) :=
  calls_of_WP (c107_eq x0 x1 w K) mixedG Tryz.func107 (by kernel_rfl) Tryz.ntmps107 (by kernel_rfl) (by kernel_rfl) h

end Go.Proofs.YtedebapgmfnflaaGreatDoor

/- The clean forms of some of the program's functions, written by a program of ours; each is the model's own by the kernel's reckoning. -/
namespace Go.Proofs.YtedebapgmfnflaaGreatDoor
open Go
set_option maxRecDepth 100000

/-- bytes.Clone -/
def c41 (x0 : Value) (w : World) (K : VPost) : Prop :=
  binW Tryz.prog .eql 36 true x0 (.slice none 0 0) w fun t4_0 w1 =>
  condW t4_0 (
  K (.slice none 0 0) w1) (
  insW Tryz.prog (Instr.buildSlice 36 0 #[]) w1 fun t5_2 w3 =>
  insW Tryz.prog (Builtin.append_ #[36, 36] 36 #[t5_2, x0]) w3 fun t7_4 w5 =>
  K t7_4 w5)
theorem c41_eq (x0 : Value) (w : World) (K : VPost) : c41 x0 w K = WP true Tryz.prog 8 [] (bodyOf Tryz.f41) (argF [x0]) w [.tmp 2] K := by kernel_rfl
theorem c41_calls (x0 : Value) (w : World) (K : VPost) (h : c41 x0 w K) : Calls Tryz.prog 41 #[x0] w (retK K) :=
  calls_of_WP (c41_eq x0 w K) mixedG Tryz.func41 (by kernel_rfl) Tryz.ntmps41 (by kernel_rfl) (by kernel_rfl) h

/-- imprimatur/imprimaturref04.Need -/
def c12 (x0 : Value) (w : World) (K : VPost) : Prop :=
  binN Tryz.prog .lss 3 true x0 (.int .i64 0) w fun t4_0 w1 =>
  gstep t4_0 false w1 (fun K => K x0 w1) fun t6_2 w3 =>
  gstep t4_0 false w3 (fun K => binN Tryz.prog .gtr 3 true t6_2 (.int .i64 2000) w3 K) fun t7_4 w5 =>
  pickW t4_0 (.bool true) t7_4 w5 fun t8_6 w7 =>
  condW t8_6 (
  K (.int .i64 0) w7) (
  binN Tryz.prog .add 3 true x0 (.int .i64 34) w7 fun t10_8 w9 =>
  binN Tryz.prog .add 3 true t10_8 (.int .i64 45) w9 fun t11_10 w11 =>
  binN Tryz.prog .quo 3 true t11_10 (.int .i64 46) w11 fun t12_12 w13 =>
  K t12_12 w13)
theorem c12_eq (x0 : Value) (w : World) (K : VPost) : c12 x0 w K = WP true Tryz.prog 13 [] (bodyOf Tryz.f12) (argF [x0]) w [.tmp 2] K := by kernel_rfl
theorem c12_calls (x0 : Value) (w : World) (K : VPost) (h : c12 x0 w K) : Calls Tryz.prog 12 #[x0] w (retK K) :=
  calls_of_WP (c12_eq x0 w K) mixedG Tryz.func12 (by kernel_rfl) Tryz.ntmps12 (by kernel_rfl) (by kernel_rfl) h

end Go.Proofs.YtedebapgmfnflaaGreatDoor

/- The clean forms of some of the program's functions, written by a program of ours; each is the model's own by the kernel's reckoning. -/
namespace Go.Proofs.YtedebapgmfnflaaGreatDoor
open Go
set_option maxRecDepth 100000

/-- imprimatur/seal.Pack -/
def c63 (x0 x1 x2 : Value) (w : World) (K : VPost) : Prop :=
  boxW 3 x0 w fun t3_0 w1 =>
  boxW 3 x1 w1 fun t4_2 w3 =>
  lenW Tryz.prog (some true) #[36] 3 #[x2] w3 fun t12_4 w5 =>
  fnW Tryz.prog 55 #[t12_4] w5 fun t13_6 w7 =>
  binN Tryz.prog .eql 3 true t13_6 (.int .i64 0) w7 fun t15_8 w9 =>
  gstep t15_8 false w9 (fun K => loadW (some (false, 1)) t3_0 w9 K) fun t17_10 w11 =>
  gstep t15_8 false w11 (fun K => binN Tryz.prog .lss 3 true t17_10 (.int .i64 1) w11 K) fun t18_12 w13 =>
  pickW t15_8 (.bool true) t18_12 w13 fun t19_14 w15 =>
  gstep t19_14 false w15 (fun K => loadW (some (false, 1)) t3_0 w15 K) fun t21_16 w17 =>
  gstep t19_14 false w17 (fun K => binN Tryz.prog .gtr 3 true t21_16 (.int .i64 4294967295) w17 K) fun t22_18 w19 =>
  pickW t19_14 (.bool true) t22_18 w19 fun t23_20 w21 =>
  gstep t23_20 false w21 (fun K => loadW (some (false, 1)) t4_2 w21 K) fun t25_22 w23 =>
  gstep t23_20 false w23 (fun K => binN Tryz.prog .lss 3 true t25_22 (.int .i64 0) w23 K) fun t26_24 w25 =>
  pickW t23_20 (.bool true) t26_24 w25 fun t27_26 w27 =>
  gstep t27_26 false w27 (fun K => loadW (some (false, 1)) t4_2 w27 K) fun t29_28 w29 =>
  gstep t27_26 false w29 (fun K => K t13_6 w29) fun t30_30 w31 =>
  gstep t27_26 false w31 (fun K => binN Tryz.prog .sub 3 true (.int .i64 4294967296) t30_30 w31 K) fun t31_32 w33 =>
  gstep t27_26 false w33 (fun K => binN Tryz.prog .gtr 3 false t29_28 t31_32 w33 K) fun t32_34 w35 =>
  pickW t27_26 (.bool true) t32_34 w35 fun t33_36 w37 =>
  condW t33_36 (
  K (.tuple #[(.slice none 0 0), (.bool false)]) w37) (
  allocW (zeroO Tryz.prog 60) 60 w37 fun t9_38 w39 =>
  fnW Tryz.prog 72 #[x2] w39 fun t35_40 w41 =>
  fnW Tryz.prog 71 #[t35_40, (.int .i64 46)] w41 fun t36_42 w43 =>
  rangeH Tryz.prog false t36_42 1 (fun xs44 w45 T46 =>
  T46 w45 fun w47 K48 =>
  loadW (some (false, 1)) t9_38 w47.drew fun t38_49 w50 =>
  loadW (some (false, 1)) t3_0 w50 fun t39_51 w52 =>
  loadW (some (false, 1)) t4_2 w52 fun t40_53 w54 =>
  loadW (some (false, 1)) t9_38 w54 fun t41_55 w56 =>
  lenW Tryz.prog (some true) #[60] 3 #[t41_55] w56 fun t42_57 w58 =>
  binN Tryz.prog .add 3 false t40_53 t42_57 w58 fun t43_59 w60 =>
  fnW Tryz.prog 73 #[t39_51, t43_59, (xs44.getD 0 undef)] w60 fun t45_61 w62 =>
  (loadW (some (false, 1)) t9_38 w62 fun t38_63 w64 => t38_63 = t38_49 ∧ w64 = w62) ∧
  insW Tryz.prog (Instr.buildSlice 60 1 #[(0, t45_61)]) w62 fun t46_65 w66 =>
  (loadW (some (false, 1)) t9_38 w66 fun t38_67 w68 => t38_67 = t38_49 ∧ w68 = w66) ∧
  insW Tryz.prog (Builtin.append_ #[60, 60] 60 #[t38_49, t46_65]) w66 fun t47_69 w70 =>
  storeW (some (false, 1)) t9_38 t47_69 w70 fun w71 =>
  K48 .normal (pf 49 (pf 49 (pf 49 (pf 49 (pf 49 (pf 49 (pf 49 (pf 49 (pf 49 (pf 49 (pf 49 (pf 49 (pf 49 (pf 49 (pf 49 (pf 49 (pf 49 (pf 49 (pf 49 (pf 49 (pf 49 (pf 49 (pf 49 (pf 49 (pf 49 (pf 49 (pf 49 (pf 49 (pf 49 (pf 49 (pf 49 (pf 49 (pf 49 (pf 49 (pf 49 (pf 49 (pf 49 (pf 49 (pf 49 (pf 49 (pf 49 (pf 49 (pf 49 (pf 49 (argF [x0, x1, x2]) 3 t3_0) 4 t4_2) 6 (.slice none 0 0)) 7 (.bool false)) 11 x2) 12 t12_4) 13 t13_6) 8 t13_6) 14 t13_6) 15 t15_8) 16 t15_8) 17 t17_10) 18 t18_12) 19 t19_14) 20 t19_14) 21 t21_16) 22 t22_18) 23 t23_20) 24 t23_20) 25 t25_22) 26 t26_24) 27 t27_26) 28 t27_26) 29 t29_28) 30 t30_30) 31 t31_32) 32 t32_34) 33 t33_36) 9 t9_38) 34 x2) 35 t35_40) 36 t36_42) 37 (xs44.getD 0 undef)) 10 (xs44.getD 0 undef)) 38 t38_49) 39 t39_51) 40 t40_53) 41 t41_55) 42 t42_57) 43 t43_59) 44 (xs44.getD 0 undef)) 45 t45_61) 46 t46_65) 47 t47_69) w71) w43 (fun D72 w73 =>
  loadW (some (false, 1)) t9_38 w73 fun t48_74 w75 =>
  w75.heap[D72]? = some (.deferred (some [])) ∧ ∀ w76, w76 = w75.putObj D72 (.deferred none) →
  K (.tuple #[t48_74, (.bool true)]) w76) (fun _ _ _ => True))
theorem c63_eq (x0 x1 x2 : Value) (w : World) (K : VPost) : c63 x0 x1 x2 w K = WH true Tryz.prog 49 [(7, 1920, [0, 0, 0, 0, 8, 20, 0, 98, 128, 385, 1023], [0, 0, 0, 0, 8, 28, 0, 126, 254, 511, 1023])] (bodyOf Tryz.f63) (argF [x0, x1, x2]) w [.tmp 6, .tmp 7] K := by kernel_rfl
theorem c63_calls (x0 x1 x2 : Value) (w : World) (K : VPost) (h : c63 x0 x1 x2 w K) : Calls Tryz.prog 63 #[x0, x1, x2] w (retK K) :=
  calls_of_WH (c63_eq x0 x1 x2 w K) mixedG Tryz.func63 (by kernel_rfl) Tryz.ntmps63 (by kernel_rfl) (by kernel_rfl) h

/-- imprimatur/seal.Need -/
def c55 (x0 : Value) (w : World) (K : VPost) : Prop :=
  binN Tryz.prog .lss 3 true x0 (.int .i64 0) w fun t4_0 w1 =>
  gstep t4_0 false w1 (fun K => K x0 w1) fun t6_2 w3 =>
  gstep t4_0 false w3 (fun K => binN Tryz.prog .gtr 3 true t6_2 (.int .i64 2000) w3 K) fun t7_4 w5 =>
  pickW t4_0 (.bool true) t7_4 w5 fun t8_6 w7 =>
  condW t8_6 (
  K (.int .i64 0) w7) (
  binN Tryz.prog .add 3 true x0 (.int .i64 34) w7 fun t10_8 w9 =>
  binN Tryz.prog .add 3 true t10_8 (.int .i64 46) w9 fun t11_10 w11 =>
  binN Tryz.prog .sub 3 true t11_10 (.int .i64 1) w11 fun t12_12 w13 =>
  binN Tryz.prog .quo 3 true t12_12 (.int .i64 46) w13 fun t13_14 w15 =>
  K t13_14 w15)
theorem c55_eq (x0 : Value) (w : World) (K : VPost) : c55 x0 w K = WP true Tryz.prog 14 [] (bodyOf Tryz.f55) (argF [x0]) w [.tmp 2] K := by kernel_rfl
theorem c55_calls (x0 : Value) (w : World) (K : VPost) (h : c55 x0 w K) : Calls Tryz.prog 55 #[x0] w (retK K) :=
  calls_of_WP (c55_eq x0 w K) mixedG Tryz.func55 (by kernel_rfl) Tryz.ntmps55 (by kernel_rfl) (by kernel_rfl) h

/-- imprimatur/seal.Unpack -/
def c67 (x0 x1 x2 : Value) (w : World) (K : VPost) : Prop :=
  lenW Tryz.prog (some true) #[60] 3 #[x0] w fun t15_0 w1 =>
  binN Tryz.prog .eql 3 true t15_0 (.int .i64 0) w1 fun t16_2 w3 =>
  gstep t16_2 false w3 (fun K => K x1 w3) fun t18_4 w5 =>
  gstep t16_2 false w5 (fun K => binN Tryz.prog .lss 3 true t18_4 (.int .i64 1) w5 K) fun t19_6 w7 =>
  pickW t16_2 (.bool true) t19_6 w7 fun t20_8 w9 =>
  gstep t20_8 false w9 (fun K => K x1 w9) fun t22_10 w11 =>
  gstep t20_8 false w11 (fun K => binN Tryz.prog .gtr 3 true t22_10 (.int .i64 4294967295) w11 K) fun t23_12 w13 =>
  pickW t20_8 (.bool true) t23_12 w13 fun t24_14 w15 =>
  gstep t24_14 false w15 (fun K => K x2 w15) fun t26_16 w17 =>
  gstep t24_14 false w17 (fun K => binN Tryz.prog .lss 3 true t26_16 (.int .i64 0) w17 K) fun t27_18 w19 =>
  pickW t24_14 (.bool true) t27_18 w19 fun t28_20 w21 =>
  gstep t28_20 false w21 (fun K => K x2 w21) fun t30_22 w23 =>
  gstep t28_20 false w23 (fun K => binN Tryz.prog .gtr 3 true t30_22 (.int .i64 4294967295) w23 K) fun t31_24 w25 =>
  pickW t28_20 (.bool true) t31_24 w25 fun t32_26 w27 =>
  condW t32_26 (
  K (.tuple #[(.slice none 0 0), (.int .i64 0), (.bool false)]) w27) (
  idxW (some (none, 64)) x0 (.int .i64 0) w27 fun t34_28 w29 =>
  loadW (some (true, 64)) t34_28 w29 fun t35_30 w31 =>
  fnW Tryz.prog 75 #[t35_30] w31 fun t36_32 w33 =>
  lenW Tryz.prog (some true) #[36] 3 #[t36_32] w33 fun t38_34 w35 =>
  binN Tryz.prog .lss 3 true t38_34 (.int .i64 2) w35 fun t39_36 w37 =>
  condW t39_36 (
  K (.tuple #[(.slice none 0 0), (.int .i64 0), (.bool false)]) w37) (
  sliceW (.sl 1) t36_32 none (some (.int .i64 2)) none w37 fun t41_38 w39 =>
  fnW Tryz.prog 70 #[t41_38] w39 fun t42_40 w41 =>
  fnW Tryz.prog 55 #[t42_40] w41 fun t44_42 w43 =>
  binN Tryz.prog .eql 3 true t44_42 (.int .i64 0) w43 fun t46_44 w45 =>
  gstep t46_44 false w45 (fun K => K t44_42 w45) fun t48_46 w47 =>
  gstep t46_44 false w47 (fun K => K x0 w47) fun t49_48 w49 =>
  gstep t46_44 false w49 (fun K => lenW Tryz.prog (some true) #[60] 3 #[t49_48] w49 K) fun t50_50 w51 =>
  gstep t46_44 false w51 (fun K => binN Tryz.prog .gtr 3 false t48_46 t50_50 w51 K) fun t51_52 w53 =>
  pickW t46_44 (.bool true) t51_52 w53 fun t52_54 w55 =>
  condW t52_54 (
  K (.tuple #[(.slice none 0 0), (.int .i64 0), (.bool false)]) w55) (
  sliceW (.sl 64) x0 none (some t44_42) none w55 fun t56_56 w57 =>
  fnW Tryz.prog 76 #[t56_56, x1, x2] w57 fun t59_58 w59 =>
  extrW t59_58 0 w59 fun t60_60 w61 =>
  extrW t59_58 1 w61 fun t61_62 w63 =>
  binN Tryz.prog .neq 3 false t61_62 t44_42 w63 fun t64_64 w65 =>
  gstep t64_64 false w65 (fun K => K t60_60 w65) fun t66_66 w67 =>
  gstep t64_64 false w67 (fun K => lenW Tryz.prog (some true) #[36] 3 #[t66_66] w67 K) fun t67_68 w69 =>
  gstep t64_64 false w69 (fun K => K t42_40 w69) fun t68_70 w71 =>
  gstep t64_64 false w71 (fun K => binN Tryz.prog .add 3 true t68_70 (.int .i64 34) w71 K) fun t69_72 w73 =>
  gstep t64_64 false w73 (fun K => binN Tryz.prog .neq 3 false t67_68 t69_72 w73 K) fun t70_74 w75 =>
  pickW t64_64 (.bool true) t70_74 w75 fun t71_76 w77 =>
  gstep t71_76 false w77 (fun K => K t60_60 w77) fun t73_78 w79 =>
  gstep t71_76 false w79 (fun K => K t42_40 w79) fun t74_80 w81 =>
  gstep t71_76 false w81 (fun K => binN Tryz.prog .add 3 true (.int .i64 2) t74_80 w81 K) fun t75_82 w83 =>
  gstep t71_76 false w83 (fun K => sliceW (.sl 1) t73_78 (some (.int .i64 2)) (some t75_82) none w83 K) fun t76_84 w85 =>
  gstep t71_76 false w85 (fun K => fnW Tryz.prog 72 #[t76_84] w85 K) fun t77_86 w87 =>
  gstep t71_76 false w87 (fun K => K t60_60 w87) fun t78_88 w89 =>
  gstep t71_76 false w89 (fun K => fnW Tryz.prog 34 #[t77_86, t78_88] w89 K) fun t79_90 w91 =>
  gstep t71_76 false w91 (fun K => unN Tryz.prog .not t79_90 w91 K) fun t80_92 w93 =>
  pickW t71_76 (.bool true) t80_92 w93 fun t81_94 w95 =>
  condW t81_94 (
  K (.tuple #[(.slice none 0 0), (.int .i64 0), (.bool false)]) w95) (
  binN Tryz.prog .add 3 true (.int .i64 2) t42_40 w95 fun t84_96 w97 =>
  sliceW (.sl 1) t60_60 (some (.int .i64 2)) (some t84_96) none w97 fun t85_98 w99 =>
  fnW Tryz.prog 41 #[t85_98] w99 fun t86_100 w101 =>
  K (.tuple #[t86_100, t44_42, (.bool true)]) w101))))
theorem c67_eq (x0 x1 x2 : Value) (w : World) (K : VPost) : c67 x0 x1 x2 w K = WP true Tryz.prog 88 [] (bodyOf Tryz.f67) (argF [x0, x1, x2]) w [.tmp 6, .tmp 7, .tmp 8] K := by kernel_rfl
theorem c67_calls (x0 x1 x2 : Value) (w : World) (K : VPost) (h : c67 x0 x1 x2 w K) : Calls Tryz.prog 67 #[x0, x1, x2] w (retK K) :=
  calls_of_WP (c67_eq x0 x1 x2 w K) mixedG Tryz.func67 (by kernel_rfl) Tryz.ntmps67 (by kernel_rfl) (by kernel_rfl) h

/-- imprimatur/seal.Mark -/
def c66 (x0 : Value) (w : World) (K : VPost) : Prop :=
  boxW 79 x0 w fun t1_0 w1 =>
  loadW (some (true, 64)) t1_0 w1 fun t5_2 w3 =>
  fnW Tryz.prog 74 #[t5_2] w3 fun t6_4 w5 =>
  unN Tryz.prog .not t6_4 w5 fun t7_6 w7 =>
  condW t7_6 (
  K (.tuple #[(.int .i64 0), (.int .i64 0), (.bool false)]) w7) (
  sliceW (.arr 64 1) t1_0 none (some (.int .i64 4)) none w7.drew fun t8_8 w9 =>
  sliceW (.arr 64 1) t1_0 (some (.int .i64 4)) (some (.int .i64 8)) none w9 fun t10_10 w11 =>
  fnW Tryz.prog 70 #[t8_8] w11 fun t9_12 w13 =>
  fnW Tryz.prog 70 #[t10_10] w13 fun t11_14 w15 =>
  K (.tuple #[t9_12, t11_14, (.bool true)]) w15)
theorem c66_eq (x0 : Value) (w : World) (K : VPost) : c66 x0 w K = WP true Tryz.prog 12 [(3, 10, [0, 1, 0, 6, 11, 31, 63], [0, 1, 0, 7, 15, 31, 63])] (bodyOf Tryz.f66) (argF [x0]) w [.tmp 2, .tmp 3, .tmp 4] K := by kernel_rfl
theorem c66_calls (x0 : Value) (w : World) (K : VPost) (h : c66 x0 w K) : Calls Tryz.prog 66 #[x0] w (retK K) :=
  calls_of_WP (c66_eq x0 w K) mixedG Tryz.func66 (by kernel_rfl) Tryz.ntmps66 (by kernel_rfl) (by kernel_rfl) h

/-- imprimatur/seal.Whole -/
def c74 (x0 : Value) (w : World) (K : VPost) : Prop :=
  boxW 79 x0 w fun t1_0 w1 =>
  sliceW (.arr 64 1) t1_0 (some (.int .i64 8)) (some (.int .i64 10)) none w1 fun t4_2 w3 =>
  fnW Tryz.prog 70 #[t4_2] w3 fun t5_4 w5 =>
  binN Tryz.prog .leq 3 true t5_4 (.int .i64 46) w5.drew fun t7_6 w7 =>
  gstep t7_6 true w7 (fun K => sliceW (.arr 64 1) t1_0 none (some (.int .i64 8)) none w7 K) fun t9_8 w9 =>
  gstep t7_6 true w9 (fun K => sliceW (.arr 64 1) t1_0 (some (.int .i64 56)) none none w9 K) fun t10_10 w11 =>
  gstep t7_6 true w11 (fun K => fnW Tryz.prog 34 #[t9_8, t10_10] w11 K) fun t11_12 w13 =>
  pickW t7_6 t11_12 (.bool false) w13 fun t12_14 w15 =>
  gstep t12_14 true w15 (fun K => K t5_4 w15) fun t14_16 w17 =>
  gstep t12_14 true w17 (fun K => binN Tryz.prog .add 3 true (.int .i64 10) t14_16 w17 K) fun t15_18 w19 =>
  gstep t12_14 true w19 (fun K => sliceW (.arr 64 1) t1_0 (some t15_18) (some (.int .i64 56)) none w19 K) fun t16_20 w21 =>
  gstep t12_14 true w21 (fun K => fnW Tryz.prog 81 #[t16_20, (.string ⟨#[0]⟩)] w21 K) fun t17_22 w23 =>
  gstep t12_14 true w23 (fun K => lenW Tryz.prog (some true) #[36] 3 #[t17_22] w23 K) fun t18_24 w25 =>
  gstep t12_14 true w25 (fun K => binN Tryz.prog .eql 3 true t18_24 (.int .i64 0) w25 K) fun t19_26 w27 =>
  pickW t12_14 t19_26 (.bool false) w27 fun t20_28 w29 =>
  K t20_28 w29
theorem c74_eq (x0 : Value) (w : World) (K : VPost) : c74 x0 w K = WP true Tryz.prog 21 [(2, 2080, [0, 1, 2, 4, 4, 28, 36, 96, 128, 384, 640, 1152, 2176, 4224, 8320, 32767], [0, 1, 3, 7, 7, 31, 63, 127, 255, 511, 1023, 2047, 4095, 8191, 16383, 32767])] (bodyOf Tryz.f74) (argF [x0]) w [.tmp 2] K := by kernel_rfl
theorem c74_calls (x0 : Value) (w : World) (K : VPost) (h : c74 x0 w K) : Calls Tryz.prog 74 #[x0] w (retK K) :=
  calls_of_WP (c74_eq x0 w K) mixedG Tryz.func74 (by kernel_rfl) Tryz.ntmps74 (by kernel_rfl) (by kernel_rfl) h

/-- imprimatur/seal.Data -/
def c75 (x0 : Value) (w : World) (K : VPost) : Prop :=
  boxW 79 x0 w fun t1_0 w1 =>
  loadW (some (true, 64)) t1_0 w1 fun t3_2 w3 =>
  fnW Tryz.prog 74 #[t3_2] w3 fun t4_4 w5 =>
  unN Tryz.prog .not t4_4 w5 fun t5_6 w7 =>
  condW t5_6 (
  K (.slice none 0 0) w7) (
  sliceW (.arr 64 1) t1_0 (some (.int .i64 8)) (some (.int .i64 10)) none w7 fun t6_8 w9 =>
  fnW Tryz.prog 70 #[t6_8] w9 fun t7_10 w11 =>
  binN Tryz.prog .add 3 true (.int .i64 10) t7_10 w11 fun t8_12 w13 =>
  sliceW (.arr 64 1) t1_0 (some (.int .i64 10)) (some t8_12) none w13 fun t9_14 w15 =>
  fnW Tryz.prog 41 #[t9_14] w15 fun t10_16 w17 =>
  K t10_16 w17)
theorem c75_eq (x0 : Value) (w : World) (K : VPost) : c75 x0 w K = WP true Tryz.prog 11 [] (bodyOf Tryz.f75) (argF [x0]) w [.tmp 2] K := by kernel_rfl
theorem c75_calls (x0 : Value) (w : World) (K : VPost) (h : c75 x0 w K) : Calls Tryz.prog 75 #[x0] w (retK K) :=
  calls_of_WP (c75_eq x0 w K) mixedG Tryz.func75 (by kernel_rfl) Tryz.ntmps75 (by kernel_rfl) (by kernel_rfl) h

/-- imprimatur/seal.Highest -/
def c62 (x0 : Value) (w : World) (K : VPost) : Prop :=
  bindX (endW Tryz.prog [.tmp 2] K) fun K0 =>
  bindX (seqX (fun f2 w3 =>
  K (f2 3) w3) K0) fun K1 =>
  lenW Tryz.prog (some true) #[60] 3 #[x0] w fun t7_4 w5 =>
  bindX (blkX 0 K1) fun K6 =>
  loopW (fun f7 w8 K9 =>
  binN Tryz.prog .lss 3 false (f7 8) (f7 7) w8 fun t9_10 w11 =>
  condW t9_10 (
  idxW (some (none, 64)) (f7 6) (f7 8) w11 fun t10_12 w13 =>
  loadW (some (true, 64)) t10_12 w13 fun t11_14 w15 =>
  allocW (zeroO Tryz.prog 79) 79 w15 fun t5_16 w17 =>
  storeW (some (true, 64)) t5_16 t11_14 w17 fun w18 =>
  sliceW (.arr 64 1) t5_16 none (some (.int .i64 4)) none w18.drew fun t13_19 w20 =>
  sliceW (.arr 64 1) t5_16 (some (.int .i64 56)) (some (.int .i64 60)) none w20 fun t15_21 w22 =>
  fnW Tryz.prog 70 #[t13_19] w22 fun t14_23 w24 =>
  fnW Tryz.prog 70 #[t15_21] w24 fun t16_25 w26 =>
  insW Tryz.prog (Builtin.max_ #[3, 3, 3] 3 #[(f7 3), t14_23, t16_25]) w26 fun t17_27 w28 =>
  w28 = w26 ∧
  binN Tryz.prog .add 3 true (f7 8) (.int .i64 1) w28 fun t18_29 w30 =>
  K9 .normal (pf 20 (pf 20 (pf 20 (pf 20 (pf 20 (pf 20 (pf 20 (pf 20 (pf 20 (pf 20 (pf 20 (pf 20 (pf 20 f7 9 t9_10) 10 t10_12) 11 t11_14) 5 t5_16) 12 (f7 3)) 13 t13_19) 15 t15_21) 14 t14_23) 16 t16_25) 17 t17_27) 3 t17_27) 18 t18_29) 8 t18_29) w30) (
  K9 (.exit 0) (pf 20 f7 9 t9_10) w11)) (pf 20 (pf 20 (pf 20 (pf 20 (pf 20 (argF [x0]) 2 (.int .i64 0)) 3 (.int .i64 0)) 6 x0) 7 t7_4) 8 (.int .i64 0)) w5 K6
theorem c62_eq (x0 : Value) (w : World) (K : VPost) : c62 x0 w K = WP true Tryz.prog 20 [(5, 84, [0, 0, 2, 0, 12, 21, 63], [0, 0, 2, 0, 14, 31, 63])] (bodyOf Tryz.f62) (argF [x0]) w [.tmp 2] K := by kernel_rfl
theorem c62_calls (x0 : Value) (w : World) (K : VPost) (h : c62 x0 w K) : Calls Tryz.prog 62 #[x0] w (retK K) :=
  calls_of_WP (c62_eq x0 w K) mixedG Tryz.func62 (by kernel_rfl) Tryz.ntmps62 (by kernel_rfl) (by kernel_rfl) h

/-- imprimatur/seal.sealed -/
def c72 (x0 : Value) (w : World) (K : VPost) : Prop :=
  lenW Tryz.prog (some true) #[36] 3 #[x0] w fun t6_0 w1 =>
  fnW Tryz.prog 78 #[t6_0, (.int .i64 2)] w1 fun t7_2 w3 =>
  insW Tryz.prog (Builtin.append_ #[36, 36] 36 #[t7_2, x0]) w3 fun t9_4 w5 =>
  fnW Tryz.prog 79 #[t9_4] w5 fun t11_6 w7 =>
  allocW (zeroO Tryz.prog 34) 34 w7 fun t4_8 w9 =>
  storeW (some (true, 32)) t4_8 t11_6 w9 fun w10 =>
  sliceW (.arr 32 1) t4_8 none none none w10 fun t13_11 w12 =>
  insW Tryz.prog (Builtin.append_ #[36, 36] 36 #[t9_4, t13_11]) w12 fun t14_13 w14 =>
  K t14_13 w14
theorem c72_eq (x0 : Value) (w : World) (K : VPost) : c72 x0 w K = WP true Tryz.prog 15 [] (bodyOf Tryz.f72) (argF [x0]) w [.tmp 2] K := by kernel_rfl
theorem c72_calls (x0 : Value) (w : World) (K : VPost) (h : c72 x0 w K) : Calls Tryz.prog 72 #[x0] w (retK K) :=
  calls_of_WP (c72_eq x0 w K) mixedG Tryz.func72 (by kernel_rfl) Tryz.ntmps72 (by kernel_rfl) (by kernel_rfl) h

/-- imprimatur/seal.sector -/
def c73 (x0 x1 x2 : Value) (w : World) (K : VPost) : Prop :=
  allocW (zeroO Tryz.prog 79) 79 w fun t6_0 w1 =>
  allocW (zeroO Tryz.prog 79) 79 w1 fun t7_2 w3 =>
  fnW Tryz.prog 78 #[x0, (.int .i64 4)] w3 fun t10_4 w5 =>
  fnW Tryz.prog 78 #[x1, (.int .i64 4)] w5 fun t12_6 w7 =>
  insW Tryz.prog (Builtin.append_ #[36, 36] 36 #[t10_4, t12_6]) w7 fun t13_8 w9 =>
  sliceW (.arr 64 1) t7_2 none none none w9.drew fun t14_10 w11 =>
  lenW Tryz.prog (some true) #[36] 3 #[x2] w11 fun t17_12 w13 =>
  fnW Tryz.prog 78 #[t17_12, (.int .i64 2)] w13 fun t18_14 w15 =>
  insW Tryz.prog (Instr.buildSlice 71 3 #[(0, t13_8), (1, t18_14), (2, x2)]) w15 fun t20_16 w17 =>
  fnW Tryz.prog 80 #[t20_16] w17 fun t21_18 w19 =>
  insW Tryz.prog (Builtin.copy_ #[36, 36] 3 #[t14_10, t21_18]) w19 fun _ w21 =>
  sliceW (.arr 64 1) t7_2 (some (.int .i64 56)) none none w21 fun t23_22 w23 =>
  insW Tryz.prog (Builtin.copy_ #[36, 36] 3 #[t23_22, t13_8]) w23 fun _ w25 =>
  loadW (some (true, 64)) t7_2 w25 fun t26_26 w27 =>
  storeW (some (true, 64)) t6_0 t26_26 w27 fun w28 =>
  loadW (some (true, 64)) t6_0 w28 fun r29 _ =>
  K r29 w28
theorem c73_eq (x0 x1 x2 : Value) (w : World) (K : VPost) : c73 x0 x1 x2 w K = WP true Tryz.prog 27 [(3, 464, [0, 0, 0, 4, 8, 0, 50, 80, 129], [0, 0, 0, 4, 12, 0, 62, 126, 255])] (bodyOf Tryz.f73) (argF [x0, x1, x2]) w [.cell 6 79] K := by kernel_rfl
theorem c73_calls (x0 x1 x2 : Value) (w : World) (K : VPost) (h : c73 x0 x1 x2 w K) : Calls Tryz.prog 73 #[x0, x1, x2] w (retK K) :=
  calls_of_WP (c73_eq x0 x1 x2 w K) mixedG Tryz.func73 (by kernel_rfl) Tryz.ntmps73 (by kernel_rfl) (by kernel_rfl) h

/-- imprimatur/seal.get -/
def c70 (x0 : Value) (w : World) (K : VPost) : Prop :=
  bindX (endW Tryz.prog [.tmp 2] K) fun K0 =>
  bindX (seqX (fun f2 w3 =>
  K (f2 3) w3) K0) fun K1 =>
  lenW Tryz.prog (some true) #[36] 3 #[x0] w fun t7_4 w5 =>
  bindX (blkX 0 K1) fun K6 =>
  loopW (fun f7 w8 K9 =>
  binN Tryz.prog .lss 3 false (f7 8) (f7 7) w8 fun t9_10 w11 =>
  condW t9_10 (
  idxW (some (none, 1)) (f7 6) (f7 8) w11 fun t10_12 w13 =>
  loadW (some (false, 1)) t10_12 w13 fun t11_14 w15 =>
  binN Tryz.prog .shl 3 true (f7 3) (.int .u64 8) w15 fun t13_16 w17 =>
  convN Tryz.prog 5 3 t11_14 w17 fun t15_18 w19 =>
  binN Tryz.prog .or 3 false t13_16 t15_18 w19 fun t16_20 w21 =>
  binN Tryz.prog .add 3 true (f7 8) (.int .i64 1) w21 fun t17_22 w23 =>
  K9 .normal (pf 19 (pf 19 (pf 19 (pf 19 (pf 19 (pf 19 (pf 19 (pf 19 (pf 19 (pf 19 (pf 19 (pf 19 f7 9 t9_10) 10 t10_12) 11 t11_14) 5 t11_14) 12 (f7 3)) 13 t13_16) 14 t11_14) 15 t15_18) 16 t16_20) 3 t16_20) 17 t17_22) 8 t17_22) w23) (
  K9 (.exit 0) (pf 19 f7 9 t9_10) w11)) (pf 19 (pf 19 (pf 19 (pf 19 (pf 19 (argF [x0]) 2 (.int .i64 0)) 3 (.int .i64 0)) 6 x0) 7 t7_4) 8 (.int .i64 0)) w5 K6
theorem c70_eq (x0 : Value) (w : World) (K : VPost) : c70 x0 w K = WP true Tryz.prog 19 [] (bodyOf Tryz.f70) (argF [x0]) w [.tmp 2] K := by kernel_rfl
theorem c70_calls (x0 : Value) (w : World) (K : VPost) (h : c70 x0 w K) : Calls Tryz.prog 70 #[x0] w (retK K) :=
  calls_of_WP (c70_eq x0 w K) mixedG Tryz.func70 (by kernel_rfl) Tryz.ntmps70 (by kernel_rfl) (by kernel_rfl) h

/-- imprimatur/seal.put -/
def c78 (x0 x1 : Value) (w : World) (K : VPost) : Prop :=
  insW Tryz.prog (Instr.makeSlice 36 x1 x1) w fun t8_0 w1 =>
  bindX (endW Tryz.prog [.tmp 4] K) fun K2 =>
  bindX (seqX (fun f4 w5 =>
  K (f4 5) w5) K2) fun K3 =>
  lenW Tryz.prog (some true) #[36] 3 #[t8_0] w1 fun t10_6 w7 =>
  bindX (blkX 0 K3) fun K8 =>
  loopW (fun f9 w10 K11 =>
  binN Tryz.prog .lss 3 false (f9 11) (f9 10) w10 fun t12_12 w13 =>
  condW t12_12 (
  binN Tryz.prog .sub 3 true (f9 1) (.int .i64 1) w13 fun t16_14 w15 =>
  binN Tryz.prog .sub 3 false t16_14 (f9 11) w15 fun t18_16 w17 =>
  binN Tryz.prog .mul 3 true (.int .i64 8) (f9 11) w17 fun t21_18 w19 =>
  binN Tryz.prog .shr 3 false (f9 0) t21_18 w19 fun t22_20 w21 =>
  convN Tryz.prog 3 5 t22_20 w21 fun t23_22 w23 =>
  idxW (some (none, 1)) (f9 5) t18_16 w23 fun t24_24 w25 =>
  storeW (some (false, 1)) t24_24 t23_22 w25 fun w26 =>
  binN Tryz.prog .add 3 true (f9 11) (.int .i64 1) w26 fun t25_27 w28 =>
  K11 .normal (pf 27 (pf 27 (pf 27 (pf 27 (pf 27 (pf 27 (pf 27 (pf 27 (pf 27 (pf 27 (pf 27 (pf 27 (pf 27 (pf 27 (pf 27 (pf 27 f9 12 t12_12) 13 (f9 11)) 6 (f9 11)) 14 (f9 5)) 15 (f9 1)) 16 t16_14) 17 (f9 11)) 18 t18_16) 19 (f9 0)) 20 (f9 11)) 21 t21_18) 22 t22_20) 23 t23_22) 24 t24_24) 25 t25_27) 11 t25_27) w28) (
  K11 (.exit 0) (pf 27 f9 12 t12_12) w13)) (pf 27 (pf 27 (pf 27 (pf 27 (pf 27 (pf 27 (pf 27 (argF [x0, x1]) 4 (.slice none 0 0)) 7 x1) 8 t8_0) 5 t8_0) 9 t8_0) 10 t10_6) 11 (.int .i64 0)) w7 K8
theorem c78_eq (x0 x1 : Value) (w : World) (K : VPost) : c78 x0 x1 w K = WP true Tryz.prog 27 [] (bodyOf Tryz.f78) (argF [x0, x1]) w [.tmp 4] K := by kernel_rfl
theorem c78_calls (x0 x1 : Value) (w : World) (K : VPost) (h : c78 x0 x1 w K) : Calls Tryz.prog 78 #[x0, x1] w (retK K) :=
  calls_of_WP (c78_eq x0 x1 w K) mixedG Tryz.func78 (by kernel_rfl) Tryz.ntmps78 (by kernel_rfl) (by kernel_rfl) h

/-- imprimatur/seal.gather -/
def c76 (x0 x1 x2 : Value) (w : World) (K : VPost) : Prop :=
  bindX (endW Tryz.prog [.tmp 6, .tmp 7] K) fun K0 =>
  bindX (seqX (fun f2 w3 =>
  lenW Tryz.prog (some true) #[60] 3 #[(f2 0)] w3 fun t63_4 w5 =>
  K (.tuple #[(f2 8), t63_4]) w5) K0) fun K1 =>
  lenW Tryz.prog (some true) #[60] 3 #[x0] w fun t16_6 w7 =>
  bindX (blkX 0 K1) fun K8 =>
  loopW (fun f9 w10 K11 =>
  binN Tryz.prog .lss 3 false (f9 17) (f9 16) w10 fun t18_12 w13 =>
  condW t18_12 (
  idxW (some (none, 64)) (f9 15) (f9 17) w13 fun t20_14 w15 =>
  loadW (some (true, 64)) t20_14 w15 fun t21_16 w17 =>
  allocW (zeroO Tryz.prog 79) 79 w17 fun t10_18 w19 =>
  storeW (some (true, 64)) t10_18 t21_16 w19 fun w20 =>
  loadW (some (true, 64)) t10_18 w20 fun t23_21 w22 =>
  fnW Tryz.prog 66 #[t23_21] w22 fun t24_23 w24 =>
  extrW t24_23 0 w24 fun t25_25 w26 =>
  extrW t24_23 1 w26 fun t26_27 w28 =>
  extrW t24_23 2 w28 fun t27_29 w30 =>
  unN Tryz.prog .not t27_29 w30 fun t29_31 w32 =>
  gstep t29_31 false w32 (fun K => K t25_25 w32) fun t31_33 w34 =>
  gstep t29_31 false w34 (fun K => K (f9 1) w34) fun t32_35 w36 =>
  gstep t29_31 false w36 (fun K => binN Tryz.prog .neq 3 false t31_33 t32_35 w36 K) fun t33_37 w38 =>
  pickW t29_31 (.bool true) t33_37 w38 fun t34_39 w40 =>
  gstep t34_39 false w40 (fun K => K t26_27 w40) fun t36_41 w42 =>
  gstep t34_39 false w42 (fun K => K (f9 2) w42) fun t37_43 w44 =>
  gstep t34_39 false w44 (fun K => K (f9 17) w44) fun t38_45 w46 =>
  gstep t34_39 false w46 (fun K => binN Tryz.prog .add 3 false t37_43 t38_45 w46 K) fun t39_47 w48 =>
  gstep t34_39 false w48 (fun K => binN Tryz.prog .neq 3 false t36_41 t39_47 w48 K) fun t40_49 w50 =>
  pickW t34_39 (.bool true) t40_49 w50 fun t41_51 w52 =>
  condW t41_51 (
  K11 .ret (pf 64 (pf 64 (pf 64 (pf 64 (pf 64 (pf 64 (pf 64 (pf 64 (pf 64 (pf 64 (pf 64 (pf 64 (pf 64 (pf 64 (pf 64 (pf 64 (pf 64 (pf 64 (pf 64 (pf 64 (pf 64 (pf 64 (pf 64 (pf 64 (pf 64 (pf 64 (pf 64 (pf 64 (pf 64 (pf 64 (pf 64 (pf 64 (pf 64 f9 18 t18_12) 19 (f9 17)) 20 t20_14) 21 t21_16) 10 t10_18) 9 (f9 17)) 23 t23_21) 24 t24_23) 22 t24_23) 25 t25_25) 26 t26_27) 27 t27_29) 11 t25_25) 12 t26_27) 13 t27_29) 28 t27_29) 29 t29_31) 30 t29_31) 31 t31_33) 32 t32_35) 33 t33_37) 34 t34_39) 35 t34_39) 36 t36_41) 37 t37_43) 38 t38_45) 39 t39_47) 40 t40_49) 41 t41_51) 42 (f9 8)) 43 (f9 17)) 6 (f9 8)) 7 (f9 17)) w52) (
  loadW (some (true, 64)) t10_18 w52 fun t44_53 w54 =>
  fnW Tryz.prog 75 #[t44_53] w54 fun t45_55 w56 =>
  insW Tryz.prog (Builtin.append_ #[36, 36] 36 #[(f9 8), t45_55]) w56 fun t48_57 w58 =>
  lenW Tryz.prog (some true) #[36] 3 #[t45_55] w58 fun t50_59 w60 =>
  binN Tryz.prog .lss 3 true t50_59 (.int .i64 46) w60 fun t51_61 w62 =>
  gstep t51_61 false w62 (fun K => K t48_57 w62) fun t53_63 w64 =>
  gstep t51_61 false w64 (fun K => lenW Tryz.prog (some true) #[36] 3 #[t53_63] w64 K) fun t54_65 w66 =>
  gstep t51_61 false w66 (fun K => binN Tryz.prog .geq 3 true t54_65 (.int .i64 2034) w66 K) fun t55_67 w68 =>
  pickW t51_61 (.bool true) t55_67 w68 fun t56_69 w70 =>
  condW t56_69 (
  binN Tryz.prog .add 3 true (f9 17) (.int .i64 1) w70 fun t59_71 w72 =>
  K11 .ret (pf 64 (pf 64 (pf 64 (pf 64 (pf 64 (pf 64 (pf 64 (pf 64 (pf 64 (pf 64 (pf 64 (pf 64 (pf 64 (pf 64 (pf 64 (pf 64 (pf 64 (pf 64 (pf 64 (pf 64 (pf 64 (pf 64 (pf 64 (pf 64 (pf 64 (pf 64 (pf 64 (pf 64 (pf 64 (pf 64 (pf 64 (pf 64 (pf 64 (pf 64 (pf 64 (pf 64 (pf 64 (pf 64 (pf 64 (pf 64 (pf 64 (pf 64 (pf 64 (pf 64 (pf 64 (pf 64 (pf 64 (pf 64 (pf 64 f9 18 t18_12) 19 (f9 17)) 20 t20_14) 21 t21_16) 10 t10_18) 9 (f9 17)) 23 t23_21) 24 t24_23) 22 t24_23) 25 t25_25) 26 t26_27) 27 t27_29) 11 t25_25) 12 t26_27) 13 t27_29) 28 t27_29) 29 t29_31) 30 t29_31) 31 t31_33) 32 t32_35) 33 t33_37) 34 t34_39) 35 t34_39) 36 t36_41) 37 t37_43) 38 t38_45) 39 t39_47) 40 t40_49) 41 t41_51) 44 t44_53) 45 t45_55) 14 t45_55) 46 (f9 8)) 47 t45_55) 48 t48_57) 8 t48_57) 49 t45_55) 50 t50_59) 51 t51_61) 52 t51_61) 53 t53_63) 54 t54_65) 55 t55_67) 56 t56_69) 57 t48_57) 58 (f9 17)) 59 t59_71) 6 t48_57) 7 t59_71) w72) (
  binN Tryz.prog .add 3 true (f9 17) (.int .i64 1) w70 fun t60_73 w74 =>
  K11 .normal (pf 64 (pf 64 (pf 64 (pf 64 (pf 64 (pf 64 (pf 64 (pf 64 (pf 64 (pf 64 (pf 64 (pf 64 (pf 64 (pf 64 (pf 64 (pf 64 (pf 64 (pf 64 (pf 64 (pf 64 (pf 64 (pf 64 (pf 64 (pf 64 (pf 64 (pf 64 (pf 64 (pf 64 (pf 64 (pf 64 (pf 64 (pf 64 (pf 64 (pf 64 (pf 64 (pf 64 (pf 64 (pf 64 (pf 64 (pf 64 (pf 64 (pf 64 (pf 64 (pf 64 (pf 64 (pf 64 f9 18 t18_12) 19 (f9 17)) 20 t20_14) 21 t21_16) 10 t10_18) 9 (f9 17)) 23 t23_21) 24 t24_23) 22 t24_23) 25 t25_25) 26 t26_27) 27 t27_29) 11 t25_25) 12 t26_27) 13 t27_29) 28 t27_29) 29 t29_31) 30 t29_31) 31 t31_33) 32 t32_35) 33 t33_37) 34 t34_39) 35 t34_39) 36 t36_41) 37 t37_43) 38 t38_45) 39 t39_47) 40 t40_49) 41 t41_51) 44 t44_53) 45 t45_55) 14 t45_55) 46 (f9 8)) 47 t45_55) 48 t48_57) 8 t48_57) 49 t45_55) 50 t50_59) 51 t51_61) 52 t51_61) 53 t53_63) 54 t54_65) 55 t55_67) 56 t56_69) 60 t60_73) 17 t60_73) w74))) (
  K11 (.exit 0) (pf 64 f9 18 t18_12) w13)) (pf 64 (pf 64 (pf 64 (pf 64 (pf 64 (pf 64 (argF [x0, x1, x2]) 6 (.slice none 0 0)) 7 (.int .i64 0)) 8 (.slice none 0 0)) 15 x0) 16 t16_6) 17 (.int .i64 0)) w7 K8
theorem c76_eq (x0 x1 x2 : Value) (w : World) (K : VPost) : c76 x0 x1 x2 w K = WP true Tryz.prog 64 [] (bodyOf Tryz.f76) (argF [x0, x1, x2]) w [.tmp 6, .tmp 7] K := by kernel_rfl
theorem c76_calls (x0 x1 x2 : Value) (w : World) (K : VPost) (h : c76 x0 x1 x2 w K) : Calls Tryz.prog 76 #[x0, x1, x2] w (retK K) :=
  calls_of_WP (c76_eq x0 x1 x2 w K) mixedG Tryz.func76 (by kernel_rfl) Tryz.ntmps76 (by kernel_rfl) (by kernel_rfl) h

/-- slices.Chunk[[]byte,byte] -/
def c71 (x0 x1 : Value) (w : World) (K : VPost) : Prop :=
  boxW 36 x0 w fun t2_0 w1 =>
  boxW 3 x1 w1 fun t3_2 w3 =>
  bindX (endW Tryz.prog [.tmp 4] K) fun K4 =>
  bindX (seqX (fun f6 w7 =>
  insW Tryz.prog (Instr.makeFunc (.func 77) #[] #[(f6 2), (f6 3)]) w7 fun t8_8 w9 =>
  K t8_8 w9) K4) fun K5 =>
  loadW (some (false, 1)) t3_2 w3 fun t5_10 w11 =>
  binN Tryz.prog .lss 3 true t5_10 (.int .i64 1) w11 fun t6_12 w13 =>
  condW t6_12 (
  insW Tryz.prog (Instr.makeInterface 9 (.string ⟨#[99, 97, 110, 110, 111, 116, 32, 98, 101, 32, 108, 101, 115, 115, 32, 116, 104, 97, 110, 32, 49]⟩)) w13 fun _ _ =>
  False) (
  K5 .normal (pf 9 (pf 9 (pf 9 (pf 9 (pf 9 (argF [x0, x1]) 2 t2_0) 3 t3_2) 4 .nilFunc) 5 t5_10) 6 t6_12) w13)
theorem c71_eq (x0 x1 : Value) (w : World) (K : VPost) : c71 x0 x1 w K = WP true Tryz.prog 9 [] (bodyOf Tryz.f71) (argF [x0, x1]) w [.tmp 4] K := by kernel_rfl
theorem c71_calls (x0 x1 : Value) (w : World) (K : VPost) (h : c71 x0 x1 w K) : Calls Tryz.prog 71 #[x0, x1] w (retK K) :=
  calls_of_WP (c71_eq x0 x1 w K) mixedG Tryz.func71 (by kernel_rfl) Tryz.ntmps71 (by kernel_rfl) (by kernel_rfl) h

/-- slices.Chunk[[]byte,byte]$1 -/
def c77 (x0 x1 x2 : Value) (w : World) (K : VPost) : Prop :=
  bindX (endW Tryz.prog [] K) fun K0 =>
  bindX (blkX 0 K0) fun K1 =>
  loopW (fun f2 w3 K4 =>
  loadW (some (false, 1)) (f2 1) w3 fun t7_5 w6 =>
  lenW Tryz.prog (some true) #[36] 3 #[t7_5] w6 fun t8_7 w8 =>
  binN Tryz.prog .lss 3 false (f2 4) t8_7 w8 fun t9_9 w10 =>
  condW t9_9 (
  loadW (some (false, 1)) (f2 2) w10.drew fun t13_11 w12 =>
  loadW (some (false, 1)) (f2 1) w12 fun t14_13 w14 =>
  sliceW (.sl 1) t14_13 (some (f2 4)) none none w14 fun t16_15 w16 =>
  lenW Tryz.prog (some true) #[36] 3 #[t16_15] w16 fun t17_17 w18 =>
  insW Tryz.prog (Builtin.min_ #[3, 3] 3 #[t13_11, t17_17]) w18 fun t18_19 w20 =>
  w20 = w18 ∧
  loadW (some (false, 1)) (f2 1) w20 fun t20_21 w22 =>
  binN Tryz.prog .add 3 false (f2 4) t18_19 w22 fun t24_23 w24 =>
  binN Tryz.prog .add 3 false (f2 4) t18_19 w24 fun t27_25 w26 =>
  sliceW (.sl 1) t20_21 (some (f2 4)) (some t24_23) (some t27_25) w26 fun t28_27 w28 =>
  dynW Tryz.prog (f2 0) #[t28_27] w28 fun t29_29 w30 =>
  unN Tryz.prog .not t29_29 w30 fun t30_31 w32 =>
  condW t30_31 (
  K4 .ret (pf 31 (pf 31 (pf 31 (pf 31 (pf 31 (pf 31 (pf 31 (pf 31 (pf 31 (pf 31 (pf 31 (pf 31 (pf 31 (pf 31 (pf 31 (pf 31 (pf 31 (pf 31 (pf 31 (pf 31 (pf 31 (pf 31 (pf 31 f2 6 (f2 4)) 7 t7_5) 8 t8_7) 9 t9_9) 13 t13_11) 14 t14_13) 15 (f2 4)) 16 t16_15) 17 t17_17) 18 t18_19) 5 t18_19) 19 (f2 0)) 20 t20_21) 21 (f2 4)) 22 (f2 4)) 23 t18_19) 24 t24_23) 25 (f2 4)) 26 t18_19) 27 t27_25) 28 t28_27) 29 t29_29) 30 t30_31) w32) (
  loadW (some (false, 1)) (f2 2) w32 fun t11_33 w34 =>
  binN Tryz.prog .add 3 false (f2 4) t11_33 w34 fun t12_35 w36 =>
  K4 .normal (pf 31 (pf 31 (pf 31 (pf 31 (pf 31 (pf 31 (pf 31 (pf 31 (pf 31 (pf 31 (pf 31 (pf 31 (pf 31 (pf 31 (pf 31 (pf 31 (pf 31 (pf 31 (pf 31 (pf 31 (pf 31 (pf 31 (pf 31 (pf 31 (pf 31 (pf 31 (pf 31 f2 6 (f2 4)) 7 t7_5) 8 t8_7) 9 t9_9) 13 t13_11) 14 t14_13) 15 (f2 4)) 16 t16_15) 17 t17_17) 18 t18_19) 5 t18_19) 19 (f2 0)) 20 t20_21) 21 (f2 4)) 22 (f2 4)) 23 t18_19) 24 t24_23) 25 (f2 4)) 26 t18_19) 27 t27_25) 28 t28_27) 29 t29_29) 30 t30_31) 10 (f2 4)) 11 t11_33) 12 t12_35) 4 t12_35) w36)) (
  K4 (.exit 0) (pf 31 (pf 31 (pf 31 (pf 31 f2 6 (f2 4)) 7 t7_5) 8 t8_7) 9 t9_9) w10)) (pf 31 (argF [x0, x1, x2]) 4 (.int .i64 0)) w K1
theorem c77_eq (x0 x1 x2 : Value) (w : World) (K : VPost) : c77 x0 x1 x2 w K = WP true Tryz.prog 31 [(3, 0, [0, 0, 0, 6, 8, 17, 63], [0, 0, 0, 6, 14, 31, 63])] (bodyOf Tryz.f77) (argF [x0, x1, x2]) w [] K := by kernel_rfl
theorem c77_calls (x0 x1 x2 : Value) (w : World) (K : VPost) (h : c77 x0 x1 x2 w K) : Calls Tryz.prog 77 #[x0, x1, x2] w (retK K) :=
  calls_of_WP (c77_eq x0 x1 x2 w K) mixedG Tryz.func77 (by kernel_rfl) Tryz.ntmps77 (by kernel_rfl) (by kernel_rfl) h

/-- slices.Concat[[]byte,byte] -/
def c80 (x0 : Value) (w : World) (K : VPost) : Prop :=
  bindX (endW Tryz.prog [.tmp 2] K) fun K0 =>
  bindX (seqX (fun f2 w3 =>
  fnW Tryz.prog 85 #[(.slice none 0 0), (f2 3)] w3 fun t24_4 w5 =>
  bindX (seqX (fun f7 w8 =>
  K (f7 6) w8) K0) fun K6 =>
  lenW Tryz.prog (some true) #[71] 3 #[(f2 0)] w5 fun t26_9 w10 =>
  bindX (blkX 2 K6) fun K11 =>
  loopW (fun f12 w13 K14 =>
  binN Tryz.prog .lss 3 false (f12 27) (f12 26) w13 fun t28_15 w16 =>
  condW t28_15 (
  idxW (some (none, 1)) (f12 25) (f12 27) w16 fun t29_17 w18 =>
  loadW (some (false, 1)) t29_17 w18 fun t30_19 w20 =>
  insW Tryz.prog (Builtin.append_ #[36, 36] 36 #[(f12 6), t30_19]) w20 fun t33_21 w22 =>
  binN Tryz.prog .add 3 true (f12 27) (.int .i64 1) w22 fun t34_23 w24 =>
  K14 .normal (pf 36 (pf 36 (pf 36 (pf 36 (pf 36 (pf 36 (pf 36 (pf 36 (pf 36 (pf 36 f12 28 t28_15) 29 t29_17) 30 t30_19) 8 t30_19) 31 (f12 6)) 32 t30_19) 33 t33_21) 6 t33_21) 34 t34_23) 27 t34_23) w24) (
  K14 (.exit 2) (pf 36 f12 28 t28_15) w16)) (pf 36 (pf 36 (pf 36 (pf 36 (pf 36 (pf 36 f2 23 (f2 3)) 24 t24_4) 6 t24_4) 25 (f2 0)) 26 t26_9) 27 (.int .i64 0)) w10 K11) K0) fun K1 =>
  lenW Tryz.prog (some true) #[71] 3 #[x0] w fun t10_25 w26 =>
  bindX (blkX 0 K1) fun K27 =>
  loopW (fun f28 w29 K30 =>
  binN Tryz.prog .lss 3 false (f28 11) (f28 10) w29 fun t12_31 w32 =>
  condW t12_31 (
  bindX (seqX (fun f34 w35 =>
  binN Tryz.prog .add 3 true (f34 11) (.int .i64 1) w35 fun t22_36 w37 =>
  K30 .normal (pf 36 (pf 36 f34 22 t22_36) 11 t22_36) w37) K30) fun K33 =>
  bindX (blkX 1 K33) fun _ =>
  idxW (some (none, 1)) (f28 9) (f28 11) w32 fun t13_39 w40 =>
  loadW (some (false, 1)) t13_39 w40 fun t14_41 w42 =>
  lenW Tryz.prog (some true) #[36] 3 #[t14_41] w42 fun t17_43 w44 =>
  binN Tryz.prog .add 3 false (f28 3) t17_43 w44 fun t18_45 w46 =>
  binN Tryz.prog .lss 3 true t18_45 (.int .i64 0) w46 fun t20_47 w48 =>
  condW t20_47 (
  insW Tryz.prog (Instr.makeInterface 9 (.string ⟨#[108, 101, 110, 32, 111, 117, 116, 32, 111, 102, 32, 114, 97, 110, 103, 101]⟩)) w48 fun _ _ =>
  False) (
  K33 .normal (pf 36 (pf 36 (pf 36 (pf 36 (pf 36 (pf 36 (pf 36 (pf 36 (pf 36 (pf 36 (pf 36 f28 12 t12_31) 13 t13_39) 14 t14_41) 5 t14_41) 15 (f28 3)) 16 t14_41) 17 t17_43) 18 t18_45) 3 t18_45) 19 t18_45) 20 t20_47) w48)) (
  K30 (.exit 0) (pf 36 f28 12 t12_31) w32)) (pf 36 (pf 36 (pf 36 (pf 36 (pf 36 (argF [x0]) 2 (.slice none 0 0)) 3 (.int .i64 0)) 9 x0) 10 t10_25) 11 (.int .i64 0)) w26 K27
theorem c80_eq (x0 : Value) (w : World) (K : VPost) : c80 x0 w K = WP true Tryz.prog 36 [] (bodyOf Tryz.f80) (argF [x0]) w [.tmp 2] K := by kernel_rfl
theorem c80_calls (x0 : Value) (w : World) (K : VPost) (h : c80 x0 w K) : Calls Tryz.prog 80 #[x0] w (retK K) :=
  calls_of_WP (c80_eq x0 w K) mixedG Tryz.func80 (by kernel_rfl) Tryz.ntmps80 (by kernel_rfl) (by kernel_rfl) h

/-- slices.Grow[[]byte,byte] -/
def c85 (x0 x1 : Value) (w : World) (K : VPost) : Prop :=
  bindX (endW Tryz.prog [.tmp 4] K) fun K0 =>
  bindX (seqX (fun f2 w3 =>
  bindX (seqX (fun f5 w6 =>
  K (f5 0) w6) K0) fun K4 =>
  insW Tryz.prog (Builtin.cap_ #[36] 3 #[(f2 0)]) w3 fun t10_7 w8 =>
  lenW Tryz.prog (some true) #[36] 3 #[(f2 0)] w8 fun t12_9 w10 =>
  binN Tryz.prog .sub 3 false t10_7 t12_9 w10 fun t13_11 w12 =>
  binN Tryz.prog .sub 3 false (f2 1) t13_11 w12 fun t14_13 w14 =>
  binN Tryz.prog .gtr 3 true t14_13 (.int .i64 0) w14 fun t16_15 w16 =>
  condW t16_15 (
  insW Tryz.prog (Builtin.cap_ #[36] 3 #[(f2 0)]) w16 fun t19_17 w18 =>
  sliceW (.sl 1) (f2 0) none (some t19_17) none w18 fun t20_19 w20 =>
  insW Tryz.prog (Builtin.append_ #[36, 3] 36 #[t20_19, t14_13]) w20 fun t22_21 w22 =>
  lenW Tryz.prog (some true) #[36] 3 #[(f2 0)] w22 fun t24_23 w24 =>
  sliceW (.sl 1) t22_21 none (some t24_23) none w24 fun t25_25 w26 =>
  K4 .normal (pf 27 (pf 27 (pf 27 (pf 27 (pf 27 (pf 27 (pf 27 (pf 27 (pf 27 (pf 27 (pf 27 (pf 27 (pf 27 (pf 27 (pf 27 (pf 27 (pf 27 (pf 27 (pf 27 (pf 27 f2 8 (f2 1)) 9 (f2 0)) 10 t10_7) 11 (f2 0)) 12 t12_9) 13 t13_11) 14 t14_13) 1 t14_13) 15 t14_13) 16 t16_15) 17 (f2 0)) 18 (f2 0)) 19 t19_17) 20 t20_19) 21 t14_13) 22 t22_21) 23 (f2 0)) 24 t24_23) 25 t25_25) 0 t25_25) w26) (
  K4 .normal (pf 27 (pf 27 (pf 27 (pf 27 (pf 27 (pf 27 (pf 27 (pf 27 (pf 27 (pf 27 f2 8 (f2 1)) 9 (f2 0)) 10 t10_7) 11 (f2 0)) 12 t12_9) 13 t13_11) 14 t14_13) 1 t14_13) 15 t14_13) 16 t16_15) w16)) K0) fun K1 =>
  binN Tryz.prog .lss 3 true x1 (.int .i64 0) w fun t6_27 w28 =>
  condW t6_27 (
  insW Tryz.prog (Instr.makeInterface 9 (.string ⟨#[99, 97, 110, 110, 111, 116, 32, 98, 101, 32, 110, 101, 103, 97, 116, 105, 118, 101]⟩)) w28 fun _ _ =>
  False) (
  K1 .normal (pf 27 (pf 27 (pf 27 (argF [x0, x1]) 4 (.slice none 0 0)) 5 x1) 6 t6_27) w28)
theorem c85_eq (x0 x1 : Value) (w : World) (K : VPost) : c85 x0 x1 w K = WP true Tryz.prog 27 [] (bodyOf Tryz.f85) (argF [x0, x1]) w [.tmp 4] K := by kernel_rfl
theorem c85_calls (x0 x1 : Value) (w : World) (K : VPost) (h : c85 x0 x1 w K) : Calls Tryz.prog 85 #[x0, x1] w (retK K) :=
  calls_of_WP (c85_eq x0 x1 w K) mixedG Tryz.func85 (by kernel_rfl) Tryz.ntmps85 (by kernel_rfl) (by kernel_rfl) h

/-- bytes.Equal -/
def c34 (x0 x1 : Value) (w : World) (K : VPost) : Prop :=
  insW Tryz.prog (convert 36 9 x0) w fun t6_0 w1 =>
  insW Tryz.prog (convert 36 9 x1) w1 fun t8_2 w3 =>
  binW Tryz.prog .eql 9 false t6_0 t8_2 w3 fun t9_4 w5 =>
  K t9_4 w5
theorem c34_eq (x0 x1 : Value) (w : World) (K : VPost) : c34 x0 x1 w K = WP true Tryz.prog 10 [] (bodyOf Tryz.f34) (argF [x0, x1]) w [.tmp 4] K := by kernel_rfl
theorem c34_calls (x0 x1 : Value) (w : World) (K : VPost) (h : c34 x0 x1 w K) : Calls Tryz.prog 34 #[x0, x1] w (retK K) :=
  calls_of_WP (c34_eq x0 x1 w K) mixedG Tryz.func34 (by kernel_rfl) Tryz.ntmps34 (by kernel_rfl) (by kernel_rfl) h

/-- bytes.Trim -/
def c81 (x0 x1 : Value) (w : World) (K : VPost) : Prop :=
  lenW Tryz.prog (some true) #[36] 3 #[x0] w fun t8_0 w1 =>
  binN Tryz.prog .eql 3 true t8_0 (.int .i64 0) w1 fun t9_2 w3 =>
  condW t9_2 (
  K (.slice none 0 0) w3) (
  binW Tryz.prog .eql 9 true x1 (.string ⟨#[]⟩) w3 fun t11_4 w5 =>
  condW t11_4 (
  K x0 w5) (
  lenW Tryz.prog (some false) #[9] 3 #[x1] w5 fun t14_6 w7 =>
  binN Tryz.prog .eql 3 true t14_6 (.int .i64 1) w7 fun t15_8 w9 =>
  gstep t15_8 true w9 (fun K => K x1 w9) fun t17_10 w11 =>
  gstep t15_8 true w11 (fun K => ixvW .str t17_10 (.int .i64 0) w11 K) fun t18_12 w13 =>
  gstep t15_8 true w13 (fun K => binN Tryz.prog .lss 5 true t18_12 (.int .u8 128) w13 K) fun t19_14 w15 =>
  pickW t15_8 t19_14 (.bool false) w15 fun t20_16 w17 =>
  condW t20_16 (
  ixvW .str x1 (.int .i64 0) w17.drew fun t23_18 w19 =>
  ixvW .str x1 (.int .i64 0) w19 fun t26_20 w21 =>
  fnW Tryz.prog 87 #[x0, t23_18] w21 fun t24_22 w23 =>
  fnW Tryz.prog 86 #[t24_22, t26_20] w23 fun t27_24 w25 =>
  K t27_24 w25) (
  fnW Tryz.prog 88 #[x1] w17 fun t30_26 w27 =>
  extrW t30_26 0 w27 fun t31_28 w29 =>
  extrW t30_26 1 w29 fun t32_30 w31 =>
  allocW (zeroO Tryz.prog 132) 132 w31 fun t5_32 w33 =>
  storeW (some (true, 256)) t5_32 t31_28 w33 fun w34 =>
  condW t32_30 (
  fnW Tryz.prog 90 #[x0, t5_32] w34 fun t35_35 w36 =>
  fnW Tryz.prog 89 #[t35_35, t5_32] w36 fun t36_37 w38 =>
  K t36_37 w38) (
  fnW Tryz.prog 92 #[x0, x1] w34 fun t39_39 w40 =>
  fnW Tryz.prog 91 #[t39_39, x1] w40 fun t41_41 w42 =>
  K t41_41 w42))))
theorem c81_eq (x0 x1 : Value) (w : World) (K : VPost) : c81 x0 x1 w K = WP true Tryz.prog 42 [(6, 72, [0, 0, 2, 5, 0, 16, 40, 127], [0, 0, 2, 7, 0, 16, 63, 127])] (bodyOf Tryz.f81) (argF [x0, x1]) w [.tmp 4] K := by kernel_rfl
theorem c81_calls (x0 x1 : Value) (w : World) (K : VPost) (h : c81 x0 x1 w K) : Calls Tryz.prog 81 #[x0, x1] w (retK K) :=
  calls_of_WP (c81_eq x0 x1 w K) mixedG Tryz.func81 (by kernel_rfl) Tryz.ntmps81 (by kernel_rfl) (by kernel_rfl) h

/-- bytes.trimLeftByte -/
def c86 (x0 x1 : Value) (w : World) (K : VPost) : Prop :=
  bindX (endW Tryz.prog [.tmp 4] K) fun K0 =>
  bindX (seqX (fun f2 w3 =>
  lenW Tryz.prog (some true) #[36] 3 #[(f2 0)] w3 fun t18_4 w5 =>
  binN Tryz.prog .eql 3 true t18_4 (.int .i64 0) w5 fun t19_6 w7 =>
  condW t19_6 (
  K (.slice none 0 0) w7) (
  K (f2 0) w7)) K0) fun K1 =>
  bindX (blkX 0 K1) fun K8 =>
  loopW (fun f9 w10 K11 =>
  lenW Tryz.prog (some true) #[36] 3 #[(f9 0)] w10 fun t6_12 w13 =>
  binN Tryz.prog .gtr 3 true t6_12 (.int .i64 0) w13 fun t7_14 w15 =>
  gstep t7_14 true w15 (fun K => K (f9 0) w15) fun t9_16 w17 =>
  gstep t7_14 true w17 (fun K => idxW (some (none, 1)) t9_16 (.int .i64 0) w17 K) fun t10_18 w19 =>
  gstep t7_14 true w19 (fun K => loadW (some (false, 1)) t10_18 w19 K) fun t11_20 w21 =>
  gstep t7_14 true w21 (fun K => K (f9 1) w21) fun t12_22 w23 =>
  gstep t7_14 true w23 (fun K => binN Tryz.prog .eql 5 false t11_20 t12_22 w23 K) fun t13_24 w25 =>
  pickW t7_14 t13_24 (.bool false) w25 fun t14_26 w27 =>
  condW t14_26 (
  sliceW (.sl 1) (f9 0) (some (.int .i64 1)) none none w27 fun t16_28 w29 =>
  K11 .normal (pf 21 (pf 21 (pf 21 (pf 21 (pf 21 (pf 21 (pf 21 (pf 21 (pf 21 (pf 21 (pf 21 (pf 21 (pf 21 f9 5 (f9 0)) 6 t6_12) 7 t7_14) 8 t7_14) 9 t9_16) 10 t10_18) 11 t11_20) 12 t12_22) 13 t13_24) 14 t14_26) 15 (f9 0)) 16 t16_28) 0 t16_28) w29) (
  K11 (.exit 0) (pf 21 (pf 21 (pf 21 (pf 21 (pf 21 (pf 21 (pf 21 (pf 21 (pf 21 (pf 21 f9 5 (f9 0)) 6 t6_12) 7 t7_14) 8 t7_14) 9 t9_16) 10 t10_18) 11 t11_20) 12 t12_22) 13 t13_24) 14 t14_26) w27)) (pf 21 (argF [x0, x1]) 4 (.slice none 0 0)) w K8
theorem c86_eq (x0 x1 : Value) (w : World) (K : VPost) : c86 x0 x1 w K = WP true Tryz.prog 21 [] (bodyOf Tryz.f86) (argF [x0, x1]) w [.tmp 4] K := by kernel_rfl
theorem c86_calls (x0 x1 : Value) (w : World) (K : VPost) (h : c86 x0 x1 w K) : Calls Tryz.prog 86 #[x0, x1] w (retK K) :=
  calls_of_WP (c86_eq x0 x1 w K) mixedG Tryz.func86 (by kernel_rfl) Tryz.ntmps86 (by kernel_rfl) (by kernel_rfl) h

/-- bytes.trimRightByte -/
def c87 (x0 x1 : Value) (w : World) (K : VPost) : Prop :=
  bindX (endW Tryz.prog [.tmp 4] K) fun K0 =>
  bindX (seqX (fun f2 w3 =>
  K (f2 0) w3) K0) fun K1 =>
  bindX (blkX 0 K1) fun K4 =>
  loopW (fun f5 w6 K7 =>
  lenW Tryz.prog (some true) #[36] 3 #[(f5 0)] w6 fun t6_8 w9 =>
  binN Tryz.prog .gtr 3 true t6_8 (.int .i64 0) w9 fun t7_10 w11 =>
  gstep t7_10 true w11 (fun K => K (f5 0) w11) fun t9_12 w13 =>
  gstep t7_10 true w13 (fun K => K (f5 0) w13) fun t10_14 w15 =>
  gstep t7_10 true w15 (fun K => lenW Tryz.prog (some true) #[36] 3 #[t10_14] w15 K) fun t11_16 w17 =>
  gstep t7_10 true w17 (fun K => binN Tryz.prog .sub 3 true t11_16 (.int .i64 1) w17 K) fun t12_18 w19 =>
  gstep t7_10 true w19 (fun K => idxW (some (none, 1)) t9_12 t12_18 w19 K) fun t13_20 w21 =>
  gstep t7_10 true w21 (fun K => loadW (some (false, 1)) t13_20 w21 K) fun t14_22 w23 =>
  gstep t7_10 true w23 (fun K => K (f5 1) w23) fun t15_24 w25 =>
  gstep t7_10 true w25 (fun K => binN Tryz.prog .eql 5 false t14_22 t15_24 w25 K) fun t16_26 w27 =>
  pickW t7_10 t16_26 (.bool false) w27 fun t17_28 w29 =>
  condW t17_28 (
  lenW Tryz.prog (some true) #[36] 3 #[(f5 0)] w29 fun t20_30 w31 =>
  binN Tryz.prog .sub 3 true t20_30 (.int .i64 1) w31 fun t21_32 w33 =>
  sliceW (.sl 1) (f5 0) none (some t21_32) none w33 fun t22_34 w35 =>
  K7 .normal (pf 24 (pf 24 (pf 24 (pf 24 (pf 24 (pf 24 (pf 24 (pf 24 (pf 24 (pf 24 (pf 24 (pf 24 (pf 24 (pf 24 (pf 24 (pf 24 (pf 24 (pf 24 (pf 24 f5 5 (f5 0)) 6 t6_8) 7 t7_10) 8 t7_10) 9 t9_12) 10 t10_14) 11 t11_16) 12 t12_18) 13 t13_20) 14 t14_22) 15 t15_24) 16 t16_26) 17 t17_28) 18 (f5 0)) 19 (f5 0)) 20 t20_30) 21 t21_32) 22 t22_34) 0 t22_34) w35) (
  K7 (.exit 0) (pf 24 (pf 24 (pf 24 (pf 24 (pf 24 (pf 24 (pf 24 (pf 24 (pf 24 (pf 24 (pf 24 (pf 24 (pf 24 f5 5 (f5 0)) 6 t6_8) 7 t7_10) 8 t7_10) 9 t9_12) 10 t10_14) 11 t11_16) 12 t12_18) 13 t13_20) 14 t14_22) 15 t15_24) 16 t16_26) 17 t17_28) w29)) (pf 24 (argF [x0, x1]) 4 (.slice none 0 0)) w K4
theorem c87_eq (x0 x1 : Value) (w : World) (K : VPost) : c87 x0 x1 w K = WP true Tryz.prog 24 [] (bodyOf Tryz.f87) (argF [x0, x1]) w [.tmp 4] K := by kernel_rfl
theorem c87_calls (x0 x1 : Value) (w : World) (K : VPost) (h : c87 x0 x1 w K) : Calls Tryz.prog 87 #[x0, x1] w (retK K) :=
  calls_of_WP (c87_eq x0 x1 w K) mixedG Tryz.func87 (by kernel_rfl) Tryz.ntmps87 (by kernel_rfl) (by kernel_rfl) h

end Go.Proofs.YtedebapgmfnflaaGreatDoor

/- The clean forms of some of the program's functions, written by a program of ours; each is the model's own by the kernel's reckoning. -/
namespace Go.Proofs.YtedebapgmfnflaaGreatDoor
open Go
set_option maxRecDepth 100000

/-- imprimatur/disk.New -/
def c7 (x0 : Value) (w : World) (K : VPost) : Prop :=
  binW Tryz.prog .lss 3 true x0 (.int .i64 1) w fun t5_0 w1 =>
  gstep t5_0 false w1 (fun K => K x0 w1) fun t7_2 w3 =>
  gstep t5_0 false w3 (fun K => binW Tryz.prog .gtr 3 true t7_2 (.int .i64 4096) w3 K) fun t8_4 w5 =>
  pickW t5_0 (.bool true) t8_4 w5 fun t9_6 w7 =>
  condW t9_6 (
  K (.tuple #[(.pointer none), (.int .i64 11)]) w7) (
  (insW Tryz.prog (Instr.makeSlice 60 x0 x0) w7.drew fun t11_8 w9 =>
  insW Tryz.prog (Instr.makeSlice 60 x0 x0) w9 fun t13_10 w11 =>
  insW Tryz.prog (Instr.build 63 #[(0, t11_8), (1, t13_10), (3, (.int .i64 (-1)))]) w11 fun t14_12 w13 =>
  w13 = w11 ∧
  boxW 63 t14_12 w13 fun t15_14 w15 =>
  K (.tuple #[t15_14, (.int .i64 0)]) w15) ∧
  (insW Tryz.prog (Instr.makeSlice 60 x0 x0) w7.drew fun t13_16 w17 =>
  insW Tryz.prog (Instr.makeSlice 60 x0 x0) w17 fun t11_18 w19 =>
  insW Tryz.prog (Instr.build 63 #[(0, t11_18), (1, t13_16), (3, (.int .i64 (-1)))]) w19 fun t14_20 w21 =>
  w21 = w19 ∧
  boxW 63 t14_20 w21 fun t15_22 w23 =>
  K (.tuple #[t15_22, (.int .i64 0)]) w23))
theorem c7_eq (x0 : Value) (w : World) (K : VPost) : c7 x0 w K = WP false Tryz.prog 16 [(3, 42, [0, 1, 0, 4, 10, 16, 63, 127], [0, 1, 0, 4, 15, 31, 63, 127])] (bodyOf Tryz.f7) (argF [x0]) w [.tmp 2, .tmp 3] K := by kernel_rfl
theorem c7_calls (x0 : Value) (w : World) (K : VPost) (h : c7 x0 w K) : Calls Tryz.prog 7 #[x0] w (retK K) :=
  calls_of_WP (c7_eq x0 w K) mixedG Tryz.func7 (by kernel_rfl) Tryz.ntmps7 (by kernel_rfl) (by kernel_rfl) h

/-- (*imprimatur/disk.Disk).Write -/
def c64 (x0 x1 x2 : Value) (w : World) (K : VPost) : Prop :=
  boxW 79 x2 w fun t5_0 w1 =>
  bindX (endW Tryz.prog [.tmp 6] K) fun K2 =>
  bindX (seqX (fun f4 w5 =>
  nilW (f4 0) w5.drew fun t32_6 w7 =>
  offW (some 1) t32_6 w7 fun t33_8 w9 =>
  loadW (some (false, 1)) t33_8 w9 fun t34_10 w11 =>
  loadW (some (true, 64)) (f4 5) w11 fun t36_12 w13 =>
  idxW (some (none, 64)) t34_10 (f4 1) w13 fun t37_14 w15 =>
  storeW (some (true, 64)) t37_14 t36_12 w15 fun w16 =>
  nilW (f4 0) w16.drew fun t40_17 w18 =>
  offW (some 2) t40_17 w18 fun t41_19 w20 =>
  loadW (some (false, 1)) t41_19 w20 fun t42_21 w22 =>
  loadW (some (true, 64)) (f4 5) w22 fun t44_23 w24 =>
  insW Tryz.prog (Instr.build 81 #[(0, (f4 1)), (1, t44_23)]) w24 fun t45_25 w26 =>
  w26 = w24 ∧
  insW Tryz.prog (Instr.buildSlice 61 1 #[(0, t45_25)]) w26 fun t46_27 w28 =>
  (loadW (some (false, 1)) t41_19 w28 fun t42_29 w30 => t42_29 = t42_21 ∧ w30 = w28) ∧
  insW Tryz.prog (Builtin.append_ #[61, 61] 61 #[t42_21, t46_27]) w28 fun t47_31 w32 =>
  nilW (f4 0) w32 fun t48_33 w34 =>
  offW (some 2) t48_33 w34 fun t49_35 w36 =>
  storeW (some (false, 1)) t49_35 t47_31 w36 fun w37 =>
  K (.int .i64 0) w37) K2) fun K3 =>
  bindX (blkX 0 K3) fun _ =>
  fnW Tryz.prog 69 #[x0, x1] w1 fun t10_39 w40 =>
  insW Tryz.prog (Op.unary .not t10_39) w40 fun t11_41 w42 =>
  condW t11_41 (
  K (.int .i64 11) w42) (
  nilW x0 w42 fun t14_43 w44 =>
  offW (some 3) t14_43 w44 fun t15_45 w46 =>
  loadW (some (false, 1)) t15_45 w46 fun t16_47 w48 =>
  binW Tryz.prog .eql 3 true t16_47 (.int .i64 0) w48 fun t17_49 w50 =>
  condW t17_49 (
  K (.int .i64 15) w50) (
  nilW x0 w50 fun t20_51 w52 =>
  offW (some 3) t20_51 w52 fun t21_53 w54 =>
  loadW (some (false, 1)) t21_53 w54 fun t22_55 w56 =>
  binW Tryz.prog .gtr 3 true t22_55 (.int .i64 0) w56 fun t23_57 w58 =>
  condW t23_57 (
  nilW x0 w58 fun t25_59 w60 =>
  offW (some 3) t25_59 w60 fun t26_61 w62 =>
  loadW (some (false, 1)) t26_61 w62 fun t27_63 w64 =>
  binW Tryz.prog .sub 3 true t27_63 (.int .i64 1) w64 fun t28_65 w66 =>
  nilW x0 w66 fun t29_67 w68 =>
  offW (some 3) t29_67 w68 fun t30_69 w70 =>
  storeW (some (false, 1)) t30_69 t28_65 w70 fun w71 =>
  K3 .normal (pf 50 (pf 50 (pf 50 (pf 50 (pf 50 (pf 50 (pf 50 (pf 50 (pf 50 (pf 50 (pf 50 (pf 50 (pf 50 (pf 50 (pf 50 (pf 50 (pf 50 (pf 50 (pf 50 (pf 50 (pf 50 (pf 50 (pf 50 (pf 50 (pf 50 (pf 50 (argF [x0, x1, x2]) 5 t5_0) 6 (.int .i64 0)) 8 x0) 9 x1) 10 t10_39) 11 t11_41) 7 t11_41) 13 x0) 14 t14_43) 15 t15_45) 16 t16_47) 17 t17_49) 12 t17_49) 19 x0) 20 t20_51) 21 t21_53) 22 t22_55) 23 t23_57) 18 t23_57) 24 x0) 25 t25_59) 26 t26_61) 27 t27_63) 28 t28_65) 29 t29_67) 30 t30_69) w71) (
  K3 .normal (pf 50 (pf 50 (pf 50 (pf 50 (pf 50 (pf 50 (pf 50 (pf 50 (pf 50 (pf 50 (pf 50 (pf 50 (pf 50 (pf 50 (pf 50 (pf 50 (pf 50 (pf 50 (pf 50 (argF [x0, x1, x2]) 5 t5_0) 6 (.int .i64 0)) 8 x0) 9 x1) 10 t10_39) 11 t11_41) 7 t11_41) 13 x0) 14 t14_43) 15 t15_45) 16 t16_47) 17 t17_49) 12 t17_49) 19 x0) 20 t20_51) 21 t21_53) 22 t22_55) 23 t23_57) 18 t23_57) w58)))
theorem c64_eq (x0 x1 x2 : Value) (w : World) (K : VPost) : c64 x0 x1 x2 w K = WP false Tryz.prog 50 [(7, 128, [0, 1, 2, 4, 0, 0, 63, 127], [0, 1, 3, 7, 0, 0, 63, 127]), (8, 4864, [0, 0, 2, 4, 8, 0, 0, 96, 128, 272, 1023, 2047, 3071], [0, 0, 2, 6, 14, 0, 0, 96, 224, 510, 1023, 2047, 4095])] (bodyOf Tryz.f64) (argF [x0, x1, x2]) w [.tmp 6] K := by kernel_rfl
theorem c64_calls (x0 x1 x2 : Value) (w : World) (K : VPost) (h : c64 x0 x1 x2 w K) : Calls Tryz.prog 64 #[x0, x1, x2] w (retK K) :=
  calls_of_WP (c64_eq x0 x1 x2 w K) mixedG Tryz.func64 (by kernel_rfl) Tryz.ntmps64 (by kernel_rfl) (by kernel_rfl) h

/-- (*imprimatur/disk.Disk).Flush -/
def c52 (x0 : Value) (w : World) (K : VPost) : Prop :=
  nilW x0 w.drew fun t3_0 w1 =>
  offW (some 0) t3_0 w1 fun t4_2 w3 =>
  loadW (some (false, 1)) t4_2 w3 fun t5_4 w5 =>
  nilW x0 w5 fun t7_6 w7 =>
  offW (some 1) t7_6 w7 fun t8_8 w9 =>
  loadW (some (false, 1)) t8_8 w9 fun t9_10 w11 =>
  insW Tryz.prog (Builtin.copy_ #[60, 60] 3 #[t5_4, t9_10]) w11 fun _ w13 =>
  nilW x0 w13 fun t12_14 w15 =>
  offW (some 2) t12_14 w15 fun t13_16 w17 =>
  storeW (some (false, 1)) t13_16 (.slice none 0 0) w17 fun w18 =>
  K (.tuple #[]) w18
theorem c52_eq (x0 : Value) (w : World) (K : VPost) : c52 x0 w K = WP false Tryz.prog 14 [(0, 256, [0, 1, 2, 4, 0, 16, 32, 64, 136], [0, 1, 3, 7, 0, 16, 48, 112, 255])] (bodyOf Tryz.f52) (argF [x0]) w [] K := by kernel_rfl
theorem c52_calls (x0 : Value) (w : World) (K : VPost) (h : c52 x0 w K) : Calls Tryz.prog 52 #[x0] w (retK K) :=
  calls_of_WP (c52_eq x0 w K) mixedG Tryz.func52 (by kernel_rfl) Tryz.ntmps52 (by kernel_rfl) (by kernel_rfl) h

/-- (*imprimatur/disk.Disk).Crash -/
def c24 (x0 x1 : Value) (w : World) (K : VPost) : Prop :=
  bindX (endW Tryz.prog [.tmp 4] K) fun K0 =>
  bindX (seqX (fun f2 w3 =>
  bindX (seqX (fun f5 w6 =>
  nilW (f5 0) w6.drew fun t36_7 w8 =>
  offW (some 1) t36_7 w8 fun t37_9 w10 =>
  loadW (some (false, 1)) t37_9 w10 fun t38_11 w12 =>
  nilW (f5 0) w12 fun t40_13 w14 =>
  offW (some 0) t40_13 w14 fun t41_15 w16 =>
  loadW (some (false, 1)) t41_15 w16 fun t42_17 w18 =>
  insW Tryz.prog (Builtin.copy_ #[60, 60] 3 #[t38_11, t42_17]) w18 fun _ w20 =>
  nilW (f5 0) w20 fun t46_21 w22 =>
  offW (some 2) t46_21 w22 fun t47_23 w24 =>
  storeW (some (false, 1)) t47_23 (.slice none 0 0) w24 fun w25 =>
  nilW (f5 0) w25 fun t48_26 w27 =>
  offW (some 3) t48_26 w27 fun t49_28 w29 =>
  storeW (some (false, 1)) t49_28 (.int .i64 (-1)) w29 fun w30 =>
  K (f5 5) w30) K0) fun K4 =>
  nilW (f2 0) w3 fun t13_31 w32 =>
  offW (some 2) t13_31 w32 fun t14_33 w34 =>
  loadW (some (false, 1)) t14_33 w34 fun t15_35 w36 =>
  lenW Tryz.prog (some true) #[61] 3 #[t15_35] w36 fun t16_37 w38 =>
  bindX (blkX 0 K4) fun K39 =>
  loopW (fun f40 w41 K42 =>
  binW Tryz.prog .lss 3 false (f40 17) (f40 16) w41 fun t18_43 w44 =>
  condW t18_43 (
  bindX (seqX (fun f46 w47 =>
  binW Tryz.prog .add 3 true (f46 17) (.int .i64 1) w47 fun t34_48 w49 =>
  K42 .normal (pf 51 (pf 51 f46 34 t34_48) 17 t34_48) w49) K42) fun K45 =>
  bindX (blkX 1 K45) fun _ =>
  idxW (some (none, 65)) (f40 15) (f40 17) w44 fun t20_51 w52 =>
  loadW (some (true, 65)) t20_51 w52 fun t21_53 w54 =>
  allocW (zeroO Tryz.prog 81) 81 w54 fun t7_55 w56 =>
  storeW (some (true, 65)) t7_55 t21_53 w56 fun w57 =>
  loadW (some (true, 65)) t7_55 w57.drew fun t23_58 w59 =>
  lenW Tryz.prog (some true) #[36] 3 #[(f40 1)] w59 fun t27_60 w61 =>
  w61 = w59 ∧
  binW Tryz.prog .rem 3 false (f40 17) t27_60 w61 fun t28_62 w63 =>
  w63 = w61 ∧
  idxW (some (none, 1)) (f40 1) t28_62 w63 fun t29_64 w65 =>
  loadW (some (false, 1)) t29_64 w65 fun t30_66 w67 =>
  fnW Tryz.prog 40 #[(f40 0), t23_58, t30_66] w67 fun t31_68 w69 =>
  condW t31_68 (
  binW Tryz.prog .add 3 true (f40 5) (.int .i64 1) w69 fun t33_70 w71 =>
  K45 .normal (pf 51 (pf 51 (pf 51 (pf 51 (pf 51 (pf 51 (pf 51 (pf 51 (pf 51 (pf 51 (pf 51 (pf 51 (pf 51 (pf 51 (pf 51 (pf 51 (pf 51 (pf 51 (pf 51 f40 18 t18_43) 19 (f40 17)) 20 t20_51) 21 t21_53) 7 t7_55) 6 (f40 17)) 22 (f40 0)) 23 t23_58) 24 (f40 1)) 25 (f40 17)) 26 (f40 1)) 27 t27_60) 28 t28_62) 29 t29_64) 30 t30_66) 31 t31_68) 32 (f40 5)) 33 t33_70) 5 t33_70) w71) (
  K45 .normal (pf 51 (pf 51 (pf 51 (pf 51 (pf 51 (pf 51 (pf 51 (pf 51 (pf 51 (pf 51 (pf 51 (pf 51 (pf 51 (pf 51 (pf 51 (pf 51 f40 18 t18_43) 19 (f40 17)) 20 t20_51) 21 t21_53) 7 t7_55) 6 (f40 17)) 22 (f40 0)) 23 t23_58) 24 (f40 1)) 25 (f40 17)) 26 (f40 1)) 27 t27_60) 28 t28_62) 29 t29_64) 30 t30_66) 31 t31_68) w69)) (
  K42 (.exit 0) (pf 51 f40 18 t18_43) w44)) (pf 51 (pf 51 (pf 51 (pf 51 (pf 51 (pf 51 (pf 51 f2 5 (.int .i64 0)) 12 (f2 0)) 13 t13_31) 14 t14_33) 15 t15_35) 16 t16_37) 17 (.int .i64 0)) w38 K39) K0) fun K1 =>
  lenW Tryz.prog (some true) #[36] 3 #[x1] w fun t9_72 w73 =>
  binW Tryz.prog .eql 3 true t9_72 (.int .i64 0) w73 fun t10_74 w75 =>
  condW t10_74 (
  insW Tryz.prog (Instr.buildSlice 36 1 #[(0, (.int .u8 0))]) w75 fun t11_76 w77 =>
  K1 .normal (pf 51 (pf 51 (pf 51 (pf 51 (pf 51 (pf 51 (argF [x0, x1]) 4 (.int .i64 0)) 8 x1) 9 t9_72) 10 t10_74) 11 t11_76) 1 t11_76) w77) (
  K1 .normal (pf 51 (pf 51 (pf 51 (pf 51 (argF [x0, x1]) 4 (.int .i64 0)) 8 x1) 9 t9_72) 10 t10_74) w75)
theorem c24_eq (x0 x1 : Value) (w : World) (K : VPost) : c24 x0 x1 w K = WP false Tryz.prog 51 [(7, 512, [0, 0, 0, 0, 0, 16, 40, 68, 128, 259], [0, 0, 0, 0, 0, 16, 56, 124, 252, 511]), (10, 256, [0, 1, 2, 4, 0, 16, 32, 64, 136], [0, 1, 3, 7, 0, 16, 48, 112, 255])] (bodyOf Tryz.f24) (argF [x0, x1]) w [.tmp 4] K := by kernel_rfl
theorem c24_calls (x0 x1 : Value) (w : World) (K : VPost) (h : c24 x0 x1 w K) : Calls Tryz.prog 24 #[x0, x1] w (retK K) :=
  calls_of_WP (c24_eq x0 x1 w K) mixedG Tryz.func24 (by kernel_rfl) Tryz.ntmps24 (by kernel_rfl) (by kernel_rfl) h

/-- (*imprimatur/disk.Disk).Limit -/
def c23 (x0 x1 : Value) (w : World) (K : VPost) : Prop :=
  insW Tryz.prog (Builtin.max_ #[3, 3] 3 #[x1, (.int .i64 (-1))]) w fun t6_0 w1 =>
  nilW x0 w1 fun t7_2 w3 =>
  offW (some 3) t7_2 w3 fun t8_4 w5 =>
  storeW (some (false, 1)) t8_4 t6_0 w5 fun w6 =>
  K (.tuple #[]) w6
theorem c23_eq (x0 x1 : Value) (w : World) (K : VPost) : c23 x0 x1 w K = WP false Tryz.prog 9 [] (bodyOf Tryz.f23) (argF [x0, x1]) w [] K := by kernel_rfl
theorem c23_calls (x0 x1 : Value) (w : World) (K : VPost) (h : c23 x0 x1 w K) : Calls Tryz.prog 23 #[x0, x1] w (retK K) :=
  calls_of_WP (c23_eq x0 x1 w K) mixedG Tryz.func23 (by kernel_rfl) Tryz.ntmps23 (by kernel_rfl) (by kernel_rfl) h

/-- (*imprimatur/disk.Disk).Read -/
def c61 (x0 x1 : Value) (w : World) (K : VPost) : Prop :=
  allocW (zeroO Tryz.prog 79) 79 w fun t4_0 w1 =>
  fnW Tryz.prog 69 #[x0, x1] w1 fun t8_2 w3 =>
  insW Tryz.prog (Op.unary .not t8_2) w3 fun t9_4 w5 =>
  condW t9_4 (
  insW Tryz.prog (Instr.build 79 #[]) w5 fun t10_6 w7 =>
  storeW (some (true, 64)) t4_0 t10_6 w7 fun w8 =>
  loadW (some (true, 64)) t4_0 w8 fun r9 _ =>
  K (.tuple #[r9, (.int .i64 11)]) w8) (
  nilW x0 w5 fun t12_11 w12 =>
  offW (some 1) t12_11 w12 fun t13_13 w14 =>
  loadW (some (false, 1)) t13_13 w14 fun t14_15 w16 =>
  idxW (some (none, 64)) t14_15 x1 w16 fun t16_17 w18 =>
  loadW (some (true, 64)) t16_17 w18 fun t17_19 w20 =>
  storeW (some (true, 64)) t4_0 t17_19 w20 fun w21 =>
  loadW (some (true, 64)) t4_0 w21 fun r22 _ =>
  K (.tuple #[r22, (.int .i64 0)]) w21)
theorem c61_eq (x0 x1 : Value) (w : World) (K : VPost) : c61 x0 x1 w K = WP false Tryz.prog 18 [] (bodyOf Tryz.f61) (argF [x0, x1]) w [.cell 4 79, .tmp 5] K := by kernel_rfl
theorem c61_calls (x0 x1 : Value) (w : World) (K : VPost) (h : c61 x0 x1 w K) : Calls Tryz.prog 61 #[x0, x1] w (retK K) :=
  calls_of_WP (c61_eq x0 x1 w K) mixedG Tryz.func61 (by kernel_rfl) Tryz.ntmps61 (by kernel_rfl) (by kernel_rfl) h

/-- (*imprimatur/disk.Disk).Size -/
def c46 (x0 : Value) (w : World) (K : VPost) : Prop :=
  nilW x0 w fun t4_0 w1 =>
  offW (some 1) t4_0 w1 fun t5_2 w3 =>
  loadW (some (false, 1)) t5_2 w3 fun t6_4 w5 =>
  lenW Tryz.prog (some true) #[60] 3 #[t6_4] w5 fun t7_6 w7 =>
  K t7_6 w7
theorem c46_eq (x0 : Value) (w : World) (K : VPost) : c46 x0 w K = WP false Tryz.prog 8 [] (bodyOf Tryz.f46) (argF [x0]) w [.tmp 2] K := by kernel_rfl
theorem c46_calls (x0 : Value) (w : World) (K : VPost) (h : c46 x0 w K) : Calls Tryz.prog 46 #[x0] w (retK K) :=
  calls_of_WP (c46_eq x0 w K) mixedG Tryz.func46 (by kernel_rfl) Tryz.ntmps46 (by kernel_rfl) (by kernel_rfl) h

/-- (*imprimatur/disk.Disk).there -/
def c69 (x0 x1 : Value) (w : World) (K : VPost) : Prop :=
  binW Tryz.prog .geq 3 true x1 (.int .i64 0) w fun t6_0 w1 =>
  gstep t6_0 true w1 (fun K => K x1 w1) fun t8_2 w3 =>
  gstep t6_0 true w3 (fun K => K x0 w3) fun t9_4 w5 =>
  gstep t6_0 true w5 (fun K => nilW t9_4 w5 K) fun t10_6 w7 =>
  gstep t6_0 true w7 (fun K => offW (some 1) t10_6 w7 K) fun t11_8 w9 =>
  gstep t6_0 true w9 (fun K => loadW (some (false, 1)) t11_8 w9 K) fun t12_10 w11 =>
  gstep t6_0 true w11 (fun K => lenW Tryz.prog (some true) #[60] 3 #[t12_10] w11 K) fun t13_12 w13 =>
  gstep t6_0 true w13 (fun K => binW Tryz.prog .lss 3 false t8_2 t13_12 w13 K) fun t14_14 w15 =>
  pickW t6_0 t14_14 (.bool false) w15 fun t15_16 w17 =>
  K t15_16 w17
theorem c69_eq (x0 x1 : Value) (w : World) (K : VPost) : c69 x0 x1 w K = WP false Tryz.prog 16 [] (bodyOf Tryz.f69) (argF [x0, x1]) w [.tmp 4] K := by kernel_rfl
theorem c69_calls (x0 x1 : Value) (w : World) (K : VPost) (h : c69 x0 x1 w K) : Calls Tryz.prog 69 #[x0, x1] w (retK K) :=
  calls_of_WP (c69_eq x0 x1 w K) mixedG Tryz.func69 (by kernel_rfl) Tryz.ntmps69 (by kernel_rfl) (by kernel_rfl) h

/-- (*imprimatur/disk.Disk).torn -/
def c40 (x0 x1 x2 : Value) (w : World) (K : VPost) : Prop :=
  boxW 81 x1 w fun t4_0 w1 =>
  nilW x0 w1.drew fun t10_2 w3 =>
  offW (some 0) t10_2 w3 fun t11_4 w5 =>
  loadW (some (false, 1)) t11_4 w5 fun t12_6 w7 =>
  offW (some 0) t4_0 w7 fun t13_8 w9 =>
  loadW (some (false, 1)) t13_8 w9 fun t14_10 w11 =>
  idxW (some (none, 64)) t12_6 t14_10 w11 fun t15_12 w13 =>
  binW Tryz.prog .rem 5 true x2 (.int .u8 64) w13 fun t17_14 w15 =>
  w15 = w13 ∧
  insW Tryz.prog (convert 5 3 t17_14) w15 fun t18_16 w17 =>
  (loadW (some (false, 1)) t11_4 w17 fun t12_18 w19 => t12_18 = t12_6 ∧ w19 = w17) ∧
  (loadW (some (false, 1)) t13_8 w17 fun t14_20 w21 => t14_20 = t14_10 ∧ w21 = w17) ∧
  bindX (endW Tryz.prog [.tmp 6] K) fun K22 =>
  bindX (seqX (fun _ w25 =>
  K (.bool true) w25) K22) fun K23 =>
  binW Tryz.prog .quo 5 true x2 (.int .u8 64) w17 fun t20_26 w27 =>
  bindX (blkX 0 K23) fun _ =>
  binW Tryz.prog .eql 5 true t20_26 (.int .u8 0) w27 fun t32_29 w30 =>
  condW t32_29 (
  K (.bool false) w30) (
  binW Tryz.prog .eql 5 true t20_26 (.int .u8 1) w30 fun t34_31 w32 =>
  condW t34_31 (
  offW (some 1) t4_0 w32 fun t36_33 w34 =>
  loadW (some (true, 64)) t36_33 w34 fun t37_35 w36 =>
  nilW t15_12 w36 fun t38_37 w38 =>
  storeW (some (true, 64)) t38_37 t37_35 w38 fun w39 =>
  K23 .normal (pf 49 (pf 49 (pf 49 (pf 49 (pf 49 (pf 49 (pf 49 (pf 49 (pf 49 (pf 49 (pf 49 (pf 49 (pf 49 (pf 49 (pf 49 (pf 49 (pf 49 (pf 49 (pf 49 (pf 49 (pf 49 (pf 49 (pf 49 (pf 49 (argF [x0, x1, x2]) 4 t4_0) 6 (.bool false)) 9 x0) 10 t10_2) 11 t11_4) 12 t12_6) 13 t13_8) 14 t14_10) 15 t15_12) 16 x2) 17 t17_14) 7 t15_12) 18 t18_16) 8 t18_16) 19 x2) 20 t20_26) 32 t32_29) 31 t32_29) 34 t34_31) 33 t34_31) 35 t15_12) 36 t36_33) 37 t37_35) 38 t38_37) w39) (
  binW Tryz.prog .eql 5 true t20_26 (.int .u8 2) w32 fun t40_40 w41 =>
  condW t40_40 (
  nilW t15_12 w41.drew fun t42_42 w43 =>
  sliceW (.arr 64 1) t42_42 none (some t18_16) none w43 fun t44_44 w45 =>
  offW (some 1) t4_0 w45 fun t45_46 w47 =>
  sliceW (.arr 64 1) t45_46 none (some t18_16) none w47 fun t47_48 w49 =>
  insW Tryz.prog (Builtin.copy_ #[36, 36] 3 #[t44_44, t47_48]) w49 fun t48_50 w51 =>
  K23 .normal (pf 49 (pf 49 (pf 49 (pf 49 (pf 49 (pf 49 (pf 49 (pf 49 (pf 49 (pf 49 (pf 49 (pf 49 (pf 49 (pf 49 (pf 49 (pf 49 (pf 49 (pf 49 (pf 49 (pf 49 (pf 49 (pf 49 (pf 49 (pf 49 (pf 49 (pf 49 (pf 49 (pf 49 (pf 49 (pf 49 (argF [x0, x1, x2]) 4 t4_0) 6 (.bool false)) 9 x0) 10 t10_2) 11 t11_4) 12 t12_6) 13 t13_8) 14 t14_10) 15 t15_12) 16 x2) 17 t17_14) 7 t15_12) 18 t18_16) 8 t18_16) 19 x2) 20 t20_26) 32 t32_29) 31 t32_29) 34 t34_31) 33 t34_31) 40 t40_40) 39 t40_40) 41 t15_12) 42 t42_42) 43 t18_16) 44 t44_44) 45 t45_46) 46 t18_16) 47 t47_48) 48 t48_50) w51) (
  nilW t15_12 w41.drew fun t22_52 w53 =>
  binW Tryz.prog .sub 3 true (.int .i64 64) t18_16 w53 fun t24_54 w55 =>
  w55 = w53 ∧
  sliceW (.arr 64 1) t22_52 (some t24_54) none none w55 fun t25_56 w57 =>
  offW (some 1) t4_0 w57 fun t26_58 w59 =>
  binW Tryz.prog .sub 3 true (.int .i64 64) t18_16 w59 fun t28_60 w61 =>
  w61 = w59 ∧
  sliceW (.arr 64 1) t26_58 (some t28_60) none none w61 fun t29_62 w63 =>
  insW Tryz.prog (Builtin.copy_ #[36, 36] 3 #[t25_56, t29_62]) w63 fun t30_64 w65 =>
  K23 .normal (pf 49 (pf 49 (pf 49 (pf 49 (pf 49 (pf 49 (pf 49 (pf 49 (pf 49 (pf 49 (pf 49 (pf 49 (pf 49 (pf 49 (pf 49 (pf 49 (pf 49 (pf 49 (pf 49 (pf 49 (pf 49 (pf 49 (pf 49 (pf 49 (pf 49 (pf 49 (pf 49 (pf 49 (pf 49 (pf 49 (pf 49 (pf 49 (argF [x0, x1, x2]) 4 t4_0) 6 (.bool false)) 9 x0) 10 t10_2) 11 t11_4) 12 t12_6) 13 t13_8) 14 t14_10) 15 t15_12) 16 x2) 17 t17_14) 7 t15_12) 18 t18_16) 8 t18_16) 19 x2) 20 t20_26) 32 t32_29) 31 t32_29) 34 t34_31) 33 t34_31) 40 t40_40) 39 t40_40) 21 t15_12) 22 t22_52) 23 t18_16) 24 t24_54) 25 t25_56) 26 t26_58) 27 t18_16) 28 t28_60) 29 t29_62) 30 t30_64) w65)))
theorem c40_eq (x0 x1 x2 : Value) (w : World) (K : VPost) : c40 x0 x1 x2 w K = WP false Tryz.prog 49 [(1, 512, [0, 1, 2, 4, 0, 16, 40, 0, 128, 256, 127, 2047], [0, 1, 3, 7, 0, 16, 63, 0, 128, 384, 127, 2047]), (9, 128, [0, 1, 0, 6, 0, 0, 48, 72], [0, 1, 0, 7, 0, 0, 48, 127]), (3, 512, [0, 1, 0, 4, 10, 0, 0, 64, 160, 272], [0, 1, 0, 4, 15, 0, 0, 64, 224, 511])] (bodyOf Tryz.f40) (argF [x0, x1, x2]) w [.tmp 6] K := by kernel_rfl
theorem c40_calls (x0 x1 x2 : Value) (w : World) (K : VPost) (h : c40 x0 x1 x2 w K) : Calls Tryz.prog 40 #[x0, x1, x2] w (retK K) :=
  calls_of_WP (c40_eq x0 x1 x2 w K) mixedG Tryz.func40 (by kernel_rfl) Tryz.ntmps40 (by kernel_rfl) (by kernel_rfl) h

end Go.Proofs.YtedebapgmfnflaaGreatDoor

/- The clean forms of some of the program's functions, written by a program of ours; each is the model's own by the kernel's reckoning. -/
namespace Go.Proofs.YtedebapgmfnflaaGreatDoor
open Go
set_option maxRecDepth 100000

-- 124 has no body/-- (*imprimatur/area.Area).Free -/
def c33 (x0 : Value) (w : World) (K : VPost) : Prop :=
  nilW x0 w.drew fun t4_0 w1 =>
  offW (some 2) t4_0 w1 fun t5_2 w3 =>
  loadW (some (false, 1)) t5_2 w3 fun t6_4 w5 =>
  nilW x0 w5 fun t8_6 w7 =>
  offW (some 4) t8_6 w7 fun t9_8 w9 =>
  loadW (some (false, 1)) t9_8 w9 fun t10_10 w11 =>
  binN Tryz.prog .sub 3 false t6_4 t10_10 w11 fun t11_12 w13 =>
  K t11_12 w13
theorem c33_eq (x0 : Value) (w : World) (K : VPost) : c33 x0 w K = WP true Tryz.prog 12 [(1, 0, [0, 1, 2, 4, 0, 16, 32, 64, 136, 511], [0, 1, 3, 7, 0, 16, 48, 112, 255, 511])] (bodyOf Tryz.f33) (argF [x0]) w [.tmp 2] K := by kernel_rfl
theorem c33_calls (x0 : Value) (w : World) (K : VPost) (h : c33 x0 w K) : Calls Tryz.prog 33 #[x0] w (retK K) :=
  calls_of_WP (c33_eq x0 w K) mixedG Tryz.func33 (by kernel_rfl) Tryz.ntmps33 (by kernel_rfl) (by kernel_rfl) h

/-- (*imprimatur/area.Area).Stuck -/
def c37 (x0 : Value) (w : World) (K : VPost) : Prop :=
  nilW x0 w fun t4_0 w1 =>
  offW (some 6) t4_0 w1 fun t5_2 w3 =>
  loadW (some (false, 1)) t5_2 w3 fun t6_4 w5 =>
  K t6_4 w5
theorem c37_eq (x0 : Value) (w : World) (K : VPost) : c37 x0 w K = WP true Tryz.prog 7 [] (bodyOf Tryz.f37) (argF [x0]) w [.tmp 2] K := by kernel_rfl
theorem c37_calls (x0 : Value) (w : World) (K : VPost) (h : c37 x0 w K) : Calls Tryz.prog 37 #[x0] w (retK K) :=
  calls_of_WP (c37_eq x0 w K) mixedG Tryz.func37 (by kernel_rfl) Tryz.ntmps37 (by kernel_rfl) (by kernel_rfl) h

/-- (*imprimatur/area.Area).Records -/
def c30 (x0 : Value) (w : World) (K : VPost) : Prop :=
  bindX (endW Tryz.prog [.tmp 2] K) fun K0 =>
  bindX (seqX (fun f2 w3 =>
  K (f2 3) w3) K0) fun K1 =>
  nilW x0 w fun t7_4 w5 =>
  offW (some 5) t7_4 w5 fun t8_6 w7 =>
  loadW (some (false, 1)) t8_6 w7 fun t9_8 w9 =>
  lenW Tryz.prog (some true) #[71] 3 #[t9_8] w9 fun t10_10 w11 =>
  bindX (blkX 0 K1) fun K12 =>
  loopW (fun f13 w14 K15 =>
  binN Tryz.prog .lss 3 false (f13 11) (f13 10) w14 fun t12_16 w17 =>
  condW t12_16 (
  idxW (some (none, 1)) (f13 9) (f13 11) w17 fun t13_18 w19 =>
  loadW (some (false, 1)) t13_18 w19 fun t14_20 w21 =>
  fnW Tryz.prog 41 #[t14_20] w21 fun t17_22 w23 =>
  insW Tryz.prog (Instr.buildSlice 71 1 #[(0, t17_22)]) w23 fun t18_24 w25 =>
  insW Tryz.prog (Builtin.append_ #[71, 71] 71 #[(f13 3), t18_24]) w25 fun t19_26 w27 =>
  binN Tryz.prog .add 3 true (f13 11) (.int .i64 1) w27 fun t20_28 w29 =>
  K15 .normal (pf 22 (pf 22 (pf 22 (pf 22 (pf 22 (pf 22 (pf 22 (pf 22 (pf 22 (pf 22 (pf 22 (pf 22 f13 12 t12_16) 13 t13_18) 14 t14_20) 5 t14_20) 15 (f13 3)) 16 t14_20) 17 t17_22) 18 t18_24) 19 t19_26) 3 t19_26) 20 t20_28) 11 t20_28) w29) (
  K15 (.exit 0) (pf 22 f13 12 t12_16) w17)) (pf 22 (pf 22 (pf 22 (pf 22 (pf 22 (pf 22 (pf 22 (pf 22 (argF [x0]) 2 (.slice none 0 0)) 3 (.slice none 0 0)) 6 x0) 7 t7_4) 8 t8_6) 9 t9_8) 10 t10_10) 11 (.int .i64 0)) w11 K12
theorem c30_eq (x0 : Value) (w : World) (K : VPost) : c30 x0 w K = WP true Tryz.prog 22 [] (bodyOf Tryz.f30) (argF [x0]) w [.tmp 2] K := by kernel_rfl
theorem c30_calls (x0 : Value) (w : World) (K : VPost) (h : c30 x0 w K) : Calls Tryz.prog 30 #[x0] w (retK K) :=
  calls_of_WP (c30_eq x0 w K) mixedG Tryz.func30 (by kernel_rfl) Tryz.ntmps30 (by kernel_rfl) (by kernel_rfl) h

/-- (*imprimatur/area.Area).sectors -/
def c65 (x0 x1 : Value) (w : World) (K : VPost) : Prop :=
  bindX (endW Tryz.prog [.tmp 4] K) fun K0 =>
  bindX (seqX (fun f2 w3 =>
  K (f2 5) w3) K0) fun K1 =>
  bindX (blkX 0 K1) fun K4 =>
  loopW (fun f5 w6 K7 =>
  nilW (f5 0) w6 fun t12_8 w9 =>
  offW (some 2) t12_8 w9 fun t13_10 w11 =>
  loadW (some (false, 1)) t13_10 w11 fun t14_12 w13 =>
  binN Tryz.prog .lss 3 false (f5 6) t14_12 w13 fun t15_14 w15 =>
  condW t15_14 (
  nilW (f5 0) w15.drew fun t20_16 w17 =>
  offW (some 0) t20_16 w17 fun t21_18 w19 =>
  loadW (some (false, 1)) t21_18 w19 fun t22_20 w21 =>
  nilW (f5 0) w21 fun t24_22 w23 =>
  offW (some 1) t24_22 w23 fun t25_24 w25 =>
  loadW (some (false, 1)) t25_24 w25 fun t26_26 w27 =>
  binN Tryz.prog .add 3 false t26_26 (f5 6) w27 fun t28_28 w29 =>
  bindV (fun (t29_31 : Value) (t18_32 : Value) (t30_33 : Value) (t31_34 : Value) (t7_35 : Value) (f36 : Fr) (w37 : World) =>
  storeW (some (true, 64)) t7_35 t30_33 w37 fun w38 =>
  loadW (some (true, 64)) t7_35 w38 fun t33_39 w40 =>
  insW Tryz.prog (Instr.buildSlice 60 1 #[(0, t33_39)]) w40 fun t34_41 w42 =>
  insW Tryz.prog (Builtin.append_ #[60, 60] 60 #[(f36 5), t34_41]) w42 fun t35_43 w44 =>
  binN Tryz.prog .add 3 true (f36 6) (.int .i64 1) w44 fun t17_45 w46 =>
  K7 .normal (pf 37 (pf 37 (pf 37 (pf 37 (pf 37 (pf 37 (pf 37 (pf 37 (pf 37 f36 8 t31_34) 32 (f36 5)) 33 t33_39) 34 t34_41) 35 t35_43) 5 t35_43) 16 (f36 6)) 17 t17_45) 6 t17_45) w46) fun J30 =>
  (fnW Tryz.prog 61 #[t22_20, t28_28] w29 fun t29_47 w48 =>
  extrW t29_47 0 w48 fun t30_49 w50 =>
  extrW t29_47 1 w50 fun t31_51 w52 =>
  allocW (zeroO Tryz.prog 79) 79 w52 fun t7_53 w54 =>
  (loadW (some (false, 1)) t21_18 w54 fun t22_55 w56 => t22_55 = t22_20 ∧ w56 = w54) ∧
  (loadW (some (false, 1)) t25_24 w54 fun t26_57 w58 => t26_57 = t26_26 ∧ w58 = w54) ∧
  J30 t29_47 t29_47 t30_49 t31_51 t7_53 (pf 37 (pf 37 (pf 37 (pf 37 (pf 37 (pf 37 (pf 37 (pf 37 (pf 37 (pf 37 (pf 37 (pf 37 (pf 37 (pf 37 (pf 37 (pf 37 (pf 37 (pf 37 (pf 37 (pf 37 (pf 37 f5 10 (f5 6)) 11 (f5 0)) 12 t12_8) 13 t13_10) 14 t14_12) 15 t15_14) 19 (f5 0)) 20 t20_16) 21 t21_18) 22 t22_20) 23 (f5 0)) 24 t24_22) 25 t25_24) 26 t26_26) 27 (f5 6)) 28 t28_28) 29 t29_47) 18 t29_47) 30 t30_49) 31 t31_51) 7 t7_53) w54) ∧
  (allocW (zeroO Tryz.prog 79) 79 w29 fun t7_59 w60 =>
  (loadW (some (false, 1)) t21_18 w60 fun t22_61 w62 => t22_61 = t22_20 ∧ w62 = w60) ∧
  (loadW (some (false, 1)) t25_24 w60 fun t26_63 w64 => t26_63 = t26_26 ∧ w64 = w60) ∧
  fnW Tryz.prog 61 #[t22_20, t28_28] w60 fun t29_65 w66 =>
  extrW t29_65 0 w66 fun t30_67 w68 =>
  extrW t29_65 1 w68 fun t31_69 w70 =>
  J30 t29_65 t29_65 t30_67 t31_69 t7_59 (pf 37 (pf 37 (pf 37 (pf 37 (pf 37 (pf 37 (pf 37 (pf 37 (pf 37 (pf 37 (pf 37 (pf 37 (pf 37 (pf 37 (pf 37 (pf 37 (pf 37 (pf 37 (pf 37 (pf 37 (pf 37 f5 10 (f5 6)) 11 (f5 0)) 12 t12_8) 13 t13_10) 14 t14_12) 15 t15_14) 19 (f5 0)) 20 t20_16) 21 t21_18) 22 t22_20) 23 (f5 0)) 24 t24_22) 25 t25_24) 26 t26_26) 27 (f5 6)) 28 t28_28) 7 t7_59) 29 t29_65) 18 t29_65) 30 t30_67) 31 t31_69) w70)) (
  K7 (.exit 0) (pf 37 (pf 37 (pf 37 (pf 37 (pf 37 (pf 37 f5 10 (f5 6)) 11 (f5 0)) 12 t12_8) 13 t13_10) 14 t14_12) 15 t15_14) w15)) (pf 37 (pf 37 (pf 37 (pf 37 (argF [x0, x1]) 4 (.slice none 0 0)) 5 (.slice none 0 0)) 9 x1) 6 x1) w K4
theorem c65_eq (x0 x1 : Value) (w : World) (K : VPost) : c65 x0 x1 w K = WP true Tryz.prog 37 [(5, 50176, [0, 1, 2, 4, 0, 16, 32, 64, 0, 384, 520, 1024, 2048, 2048, 0, 24575, 65535], [0, 1, 3, 7, 0, 16, 48, 112, 0, 496, 1023, 2047, 4095, 4095, 0, 24575, 65535])] (bodyOf Tryz.f65) (argF [x0, x1]) w [.tmp 4] K := by kernel_rfl
theorem c65_calls (x0 x1 : Value) (w : World) (K : VPost) (h : c65 x0 x1 w K) : Calls Tryz.prog 65 #[x0, x1] w (retK K) :=
  calls_of_WP (c65_eq x0 x1 w K) mixedG Tryz.func65 (by kernel_rfl) Tryz.ntmps65 (by kernel_rfl) (by kernel_rfl) h

/-- imprimatur/area.told -/
def c68 (x0 : Value) (w : World) (K : VPost) : Prop :=
  bindX (endW Tryz.prog [.tmp 2] K) fun K0 =>
  bindX (seqX (fun f2 w3 =>
  K (f2 3) w3) K0) fun K1 =>
  lenW Tryz.prog (some true) #[36] 3 #[x0] w fun t7_4 w5 =>
  bindX (blkX 0 K1) fun K6 =>
  loopW (fun f7 w8 K9 =>
  binN Tryz.prog .lss 3 false (f7 8) (f7 7) w8 fun t9_10 w11 =>
  condW t9_10 (
  idxW (some (none, 1)) (f7 6) (f7 8) w11 fun t10_12 w13 =>
  loadW (some (false, 1)) t10_12 w13 fun t11_14 w15 =>
  binN Tryz.prog .shl 3 true (f7 3) (.int .u64 8) w15 fun t13_16 w17 =>
  convN Tryz.prog 5 3 t11_14 w17 fun t15_18 w19 =>
  binN Tryz.prog .or 3 false t13_16 t15_18 w19 fun t16_20 w21 =>
  binN Tryz.prog .add 3 true (f7 8) (.int .i64 1) w21 fun t17_22 w23 =>
  K9 .normal (pf 19 (pf 19 (pf 19 (pf 19 (pf 19 (pf 19 (pf 19 (pf 19 (pf 19 (pf 19 (pf 19 (pf 19 f7 9 t9_10) 10 t10_12) 11 t11_14) 5 t11_14) 12 (f7 3)) 13 t13_16) 14 t11_14) 15 t15_18) 16 t16_20) 3 t16_20) 17 t17_22) 8 t17_22) w23) (
  K9 (.exit 0) (pf 19 f7 9 t9_10) w11)) (pf 19 (pf 19 (pf 19 (pf 19 (pf 19 (argF [x0]) 2 (.int .i64 0)) 3 (.int .i64 0)) 6 x0) 7 t7_4) 8 (.int .i64 0)) w5 K6
theorem c68_eq (x0 : Value) (w : World) (K : VPost) : c68 x0 w K = WP true Tryz.prog 19 [] (bodyOf Tryz.f68) (argF [x0]) w [.tmp 2] K := by kernel_rfl
theorem c68_calls (x0 : Value) (w : World) (K : VPost) (h : c68 x0 w K) : Calls Tryz.prog 68 #[x0] w (retK K) :=
  calls_of_WP (c68_eq x0 w K) mixedG Tryz.func68 (by kernel_rfl) Tryz.ntmps68 (by kernel_rfl) (by kernel_rfl) h

/-- (*imprimatur/area.Area).read -/
def c60 (x0 : Value) (w : World) (K : VPost) : Prop :=
  fnW Tryz.prog 65 #[x0, (.int .i64 0)] w fun t16_0 w1 =>
  idxW (some (none, 64)) t16_0 (.int .i64 0) w1 fun t19_2 w3 =>
  loadW (some (true, 64)) t19_2 w3 fun t20_4 w5 =>
  fnW Tryz.prog 66 #[t20_4] w5 fun t21_6 w7 =>
  extrW t21_6 0 w7 fun t22_8 w9 =>
  extrW t21_6 1 w9 fun t23_10 w11 =>
  extrW t21_6 2 w11 fun t24_12 w13 =>
  sliceW (.sl 64) t16_0 none (some (.int .i64 1)) none w13 fun t27_14 w15 =>
  fnW Tryz.prog 67 #[t27_14, t22_8, (.int .i64 0)] w15 fun t29_16 w17 =>
  extrW t29_16 0 w17 fun t30_18 w19 =>
  extrW t29_16 1 w19 fun t31_20 w21 =>
  extrW t29_16 2 w21 fun t32_22 w23 =>
  unN Tryz.prog .not t32_22 w23 fun t34_24 w25 =>
  gstep t34_24 false w25 (fun K => K t30_18 w25) fun t36_26 w27 =>
  gstep t34_24 false w27 (fun K => lenW Tryz.prog (some true) #[36] 3 #[t36_26] w27 K) fun t37_28 w29 =>
  gstep t34_24 false w29 (fun K => binN Tryz.prog .neq 3 true t37_28 (.int .i64 4) w29 K) fun t38_30 w31 =>
  pickW t34_24 (.bool true) t38_30 w31 fun t39_32 w33 =>
  condW t39_32 (
  K (.bool false) w33) (
  nilW x0 w33 fun t43_34 w35 =>
  offW (some 3) t43_34 w35 fun t44_36 w37 =>
  storeW (some (false, 1)) t44_36 t22_8 w37 fun w38 =>
  nilW x0 w38 fun t45_39 w40 =>
  offW (some 4) t45_39 w40 fun t46_41 w42 =>
  storeW (some (false, 1)) t46_41 (.int .i64 1) w42 fun w43 =>
  fnW Tryz.prog 68 #[t30_18] w43 fun t48_44 w45 =>
  binN Tryz.prog .add 3 true t48_44 (.int .i64 1) w45 fun t49_46 w47 =>
  nilW x0 w47 fun t52_48 w49 =>
  offW (some 4) t52_48 w49 fun t53_50 w51 =>
  loadW (some (false, 1)) t53_50 w51 fun t54_52 w53 =>
  binN Tryz.prog .eql 3 false t49_46 t54_52 w53 fun t55_54 w55 =>
  bindX (endW Tryz.prog [.tmp 2] K) fun K56 =>
  bindX (seqX (fun f58 w59 =>
  K (f58 11) w59) K56) fun K57 =>
  bindX (blkX 0 K57) fun K60 =>
  loopW (fun f61 w62 K63 =>
  nilW (f61 0) w62.drew fun t57_64 w65 =>
  offW (some 4) t57_64 w65 fun t58_66 w67 =>
  loadW (some (false, 1)) t58_66 w67 fun t59_68 w69 =>
  nilW (f61 0) w69 fun t61_70 w71 =>
  offW (some 2) t61_70 w71 fun t62_72 w73 =>
  loadW (some (false, 1)) t62_72 w73 fun t63_74 w75 =>
  binN Tryz.prog .lss 3 false t59_68 t63_74 w75 fun t64_76 w77 =>
  condW t64_76 (
  nilW (f61 0) w77.drew fun t68_78 w79 =>
  offW (some 4) t68_78 w79 fun t69_80 w81 =>
  loadW (some (false, 1)) t69_80 w81 fun t70_82 w83 =>
  sliceW (.sl 64) (f61 3) (some t70_82) none none w83 fun t71_84 w85 =>
  nilW (f61 0) w85 fun t74_86 w87 =>
  offW (some 4) t74_86 w87 fun t75_88 w89 =>
  loadW (some (false, 1)) t75_88 w89 fun t76_90 w91 =>
  fnW Tryz.prog 67 #[t71_84, (f61 4), t76_90] w91 fun t77_92 w93 =>
  extrW t77_92 0 w93 fun t78_94 w95 =>
  extrW t77_92 1 w95 fun t79_96 w97 =>
  extrW t77_92 2 w97 fun t80_98 w99 =>
  unN Tryz.prog .not t80_98 w99 fun t82_100 w101 =>
  condW t82_100 (
  K63 (.exit 0) (pf 111 (pf 111 (pf 111 (pf 111 (pf 111 (pf 111 (pf 111 (pf 111 (pf 111 (pf 111 (pf 111 (pf 111 (pf 111 (pf 111 (pf 111 (pf 111 (pf 111 (pf 111 (pf 111 (pf 111 (pf 111 (pf 111 (pf 111 (pf 111 (pf 111 (pf 111 (pf 111 (pf 111 (pf 111 (pf 111 f61 56 (f61 0)) 57 t57_64) 58 t58_66) 59 t59_68) 60 (f61 0)) 61 t61_70) 62 t62_72) 63 t63_74) 64 t64_76) 66 (f61 3)) 67 (f61 0)) 68 t68_78) 69 t69_80) 70 t70_82) 71 t71_84) 72 (f61 4)) 73 (f61 0)) 74 t74_86) 75 t75_88) 76 t76_90) 77 t77_92) 65 t77_92) 78 t78_94) 79 t79_96) 80 t80_98) 12 t78_94) 13 t79_96) 14 t80_98) 81 t80_98) 82 t82_100) w101) (
  nilW (f61 0) w101 fun t85_102 w103 =>
  offW (some 5) t85_102 w103 fun t86_104 w105 =>
  loadW (some (false, 1)) t86_104 w105 fun t87_106 w107 =>
  insW Tryz.prog (Instr.buildSlice 71 1 #[(0, t78_94)]) w107 fun t89_108 w109 =>
  insW Tryz.prog (Builtin.append_ #[71, 71] 71 #[t87_106, t89_108]) w109 fun t90_110 w111 =>
  nilW (f61 0) w111 fun t91_112 w113 =>
  offW (some 5) t91_112 w113 fun t92_114 w115 =>
  storeW (some (false, 1)) t92_114 t90_110 w115 fun w116 =>
  nilW (f61 0) w116 fun t94_117 w118 =>
  offW (some 4) t94_117 w118 fun t95_119 w120 =>
  loadW (some (false, 1)) t95_119 w120 fun t96_121 w122 =>
  binN Tryz.prog .add 3 false t96_121 t79_96 w122 fun t98_123 w124 =>
  nilW (f61 0) w124 fun t99_125 w126 =>
  offW (some 4) t99_125 w126 fun t100_127 w128 =>
  storeW (some (false, 1)) t100_127 t98_123 w128 fun w129 =>
  gstep (f61 11) false w129 (fun K => K (f61 0) w129) fun t103_130 w131 =>
  gstep (f61 11) false w131 (fun K => nilW t103_130 w131 K) fun t104_132 w133 =>
  gstep (f61 11) false w133 (fun K => offW (some 4) t104_132 w133 K) fun t105_134 w135 =>
  gstep (f61 11) false w135 (fun K => loadW (some (false, 1)) t105_134 w135 K) fun t106_136 w137 =>
  gstep (f61 11) false w137 (fun K => K (f61 10) w137) fun t107_138 w139 =>
  gstep (f61 11) false w139 (fun K => binN Tryz.prog .eql 3 false t106_136 t107_138 w139 K) fun t108_140 w141 =>
  pickW (f61 11) (.bool true) t108_140 w141 fun t109_142 w143 =>
  K63 .normal (pf 111 (pf 111 (pf 111 (pf 111 (pf 111 (pf 111 (pf 111 (pf 111 (pf 111 (pf 111 (pf 111 (pf 111 (pf 111 (pf 111 (pf 111 (pf 111 (pf 111 (pf 111 (pf 111 (pf 111 (pf 111 (pf 111 (pf 111 (pf 111 (pf 111 (pf 111 (pf 111 (pf 111 (pf 111 (pf 111 (pf 111 (pf 111 (pf 111 (pf 111 (pf 111 (pf 111 (pf 111 (pf 111 (pf 111 (pf 111 (pf 111 (pf 111 (pf 111 (pf 111 (pf 111 (pf 111 (pf 111 (pf 111 (pf 111 (pf 111 (pf 111 (pf 111 (pf 111 (pf 111 (pf 111 (pf 111 (pf 111 (pf 111 f61 56 (f61 0)) 57 t57_64) 58 t58_66) 59 t59_68) 60 (f61 0)) 61 t61_70) 62 t62_72) 63 t63_74) 64 t64_76) 66 (f61 3)) 67 (f61 0)) 68 t68_78) 69 t69_80) 70 t70_82) 71 t71_84) 72 (f61 4)) 73 (f61 0)) 74 t74_86) 75 t75_88) 76 t76_90) 77 t77_92) 65 t77_92) 78 t78_94) 79 t79_96) 80 t80_98) 12 t78_94) 13 t79_96) 14 t80_98) 81 t80_98) 82 t82_100) 83 (f61 0)) 84 (f61 0)) 85 t85_102) 86 t86_104) 87 t87_106) 88 t78_94) 89 t89_108) 90 t90_110) 91 t91_112) 92 t92_114) 93 (f61 0)) 94 t94_117) 95 t95_119) 96 t96_121) 97 t79_96) 98 t98_123) 99 t99_125) 100 t100_127) 101 (f61 11)) 102 (f61 11)) 103 t103_130) 104 t104_132) 105 t105_134) 106 t106_136) 107 t107_138) 108 t108_140) 109 t109_142) 11 t109_142) w143)) (
  K63 (.exit 0) (pf 111 (pf 111 (pf 111 (pf 111 (pf 111 (pf 111 (pf 111 (pf 111 (pf 111 f61 56 (f61 0)) 57 t57_64) 58 t58_66) 59 t59_68) 60 (f61 0)) 61 t61_70) 62 t62_72) 63 t63_74) 64 t64_76) w77)) (pf 111 (pf 111 (pf 111 (pf 111 (pf 111 (pf 111 (pf 111 (pf 111 (pf 111 (pf 111 (pf 111 (pf 111 (pf 111 (pf 111 (pf 111 (pf 111 (pf 111 (pf 111 (pf 111 (pf 111 (pf 111 (pf 111 (pf 111 (pf 111 (pf 111 (pf 111 (pf 111 (pf 111 (pf 111 (pf 111 (pf 111 (pf 111 (pf 111 (pf 111 (pf 111 (pf 111 (pf 111 (pf 111 (pf 111 (pf 111 (pf 111 (pf 111 (pf 111 (pf 111 (pf 111 (pf 111 (pf 111 (pf 111 (pf 111 (pf 111 (pf 111 (argF [x0]) 2 (.bool false)) 15 x0) 16 t16_0) 3 t16_0) 18 t16_0) 19 t19_2) 20 t20_4) 21 t21_6) 17 t21_6) 22 t22_8) 23 t23_10) 24 t24_12) 4 t22_8) 5 t23_10) 6 t24_12) 26 t16_0) 27 t27_14) 28 t22_8) 29 t29_16) 25 t29_16) 30 t30_18) 31 t31_20) 32 t32_22) 7 t30_18) 8 t31_20) 9 t32_22) 33 t32_22) 34 t34_24) 35 t34_24) 36 t36_26) 37 t37_28) 38 t38_30) 39 t39_32) 40 x0) 41 x0) 42 t22_8) 43 t43_34) 44 t44_36) 45 t45_39) 46 t46_41) 47 t30_18) 48 t48_44) 49 t49_46) 10 t49_46) 50 t49_46) 51 x0) 52 t52_48) 53 t53_50) 54 t54_52) 55 t55_54) 11 t55_54) w55 K60)
theorem c60_eq (x0 : Value) (w : World) (K : VPost) : c60 x0 w K = WP true Tryz.prog 111 [(9, 0, [0, 1, 2, 4, 0, 16, 32, 64, 136], [0, 1, 3, 7, 0, 16, 48, 112, 255]), (10, 2048, [0, 0, 2, 4, 8, 17, 0, 0, 128, 256, 512, 1120, 2048, 4096, 4096, 4096, 16383, 98303, 262143], [0, 0, 2, 6, 14, 31, 0, 0, 128, 384, 896, 2047, 4095, 8191, 8191, 8191, 16383, 98303, 262143])] (bodyOf Tryz.f60) (argF [x0]) w [.tmp 2] K := by kernel_rfl
theorem c60_calls (x0 : Value) (w : World) (K : VPost) (h : c60 x0 w K) : Calls Tryz.prog 60 #[x0] w (retK K) :=
  calls_of_WP (c60_eq x0 w K) mixedG Tryz.func60 (by kernel_rfl) Tryz.ntmps60 (by kernel_rfl) (by kernel_rfl) h

/-- imprimatur/area.halves -/
def c59 (x0 : Value) (w : World) (K : VPost) : Prop :=
  allocW (zeroO Tryz.prog 98) 98 w fun t2_0 w1 =>
  fnW Tryz.prog 46 #[x0] w1 fun t5_2 w3 =>
  binN Tryz.prog .quo 3 true t5_2 (.int .i64 2) w3 fun t6_4 w5 =>
  insW Tryz.prog (Instr.build 89 #[(0, x0), (2, t6_4), (6, (.bool true))]) w5 fun t9_6 w7 =>
  boxW 89 t9_6 w7 fun t10_8 w9 =>
  insW Tryz.prog (Instr.build 89 #[(0, x0), (1, t6_4), (2, t6_4), (6, (.bool true))]) w9 fun t14_10 w11 =>
  boxW 89 t14_10 w11 fun t15_12 w13 =>
  insW Tryz.prog (Instr.build 98 #[(0, t10_8), (1, t15_12)]) w13 fun t16_14 w15 =>
  storeW (some (true, 2)) t2_0 t16_14 w15 fun w16 =>
  loadW (some (true, 2)) t2_0 w16 fun r17 _ =>
  K r17 w16
theorem c59_eq (x0 : Value) (w : World) (K : VPost) : c59 x0 w K = WP true Tryz.prog 17 [] (bodyOf Tryz.f59) (argF [x0]) w [.cell 2 98] K := by kernel_rfl
theorem c59_calls (x0 : Value) (w : World) (K : VPost) (h : c59 x0 w K) : Calls Tryz.prog 59 #[x0] w (retK K) :=
  calls_of_WP (c59_eq x0 w K) mixedG Tryz.func59 (by kernel_rfl) Tryz.ntmps59 (by kernel_rfl) (by kernel_rfl) h

/-- imprimatur/area.current -/
def c47 (x0 : Value) (w : World) (K : VPost) : Prop :=
  bindX (endW Tryz.prog [.tmp 2] K) fun K0 =>
  bindX (seqX (fun f2 w3 =>
  K (f2 3) w3) K0) fun K1 =>
  fnW Tryz.prog 59 #[x0] w fun t7_4 w5 =>
  bindX (blkX 0 K1) fun K6 =>
  loopW (fun f7 w8 K9 =>
  binN Tryz.prog .lss 3 true (f7 8) (.int .i64 2) w8 fun t9_10 w11 =>
  condW t9_10 (
  bindX (seqX (fun f13 w14 =>
  binN Tryz.prog .add 3 true (f13 8) (.int .i64 1) w14 fun t29_15 w16 =>
  K9 .normal (pf 31 (pf 31 f13 29 t29_15) 8 t29_15) w16) K9) fun K12 =>
  bindX (blkX 1 K12) fun _ =>
  ixvW (.arr 2 false 1) (f7 7) (f7 8) w11 fun t10_18 w19 =>
  fnW Tryz.prog 60 #[t10_18] w19.drew fun t12_20 w21 =>
  gstep t12_20 true w21 (fun K => K (f7 3) w21) fun t14_22 w23 =>
  gstep t12_20 true w23 (fun K => binW Tryz.prog .eql 64 true t14_22 (.pointer none) w23 K) fun t15_24 w25 =>
  w25 = w23 ∧
  gstep t12_20 true w25 (fun K => K t15_24 w25) fun t16_26 w27 =>
  gstep t16_26 false w27 (fun K => K t10_18 w27) fun t17_28 w29 =>
  gstep t16_26 false w29 (fun K => nilW t17_28 w29 K) fun t18_30 w31 =>
  gstep t16_26 false w31 (fun K => offW (some 3) t18_30 w31 K) fun t19_32 w33 =>
  gstep t16_26 false w33 (fun K => loadW (some (false, 1)) t19_32 w33 K) fun t20_34 w35 =>
  gstep t16_26 false w35 (fun K => K (f7 3) w35) fun t21_36 w37 =>
  gstep t16_26 false w37 (fun K => nilW t21_36 w37 K) fun t22_38 w39 =>
  gstep t16_26 false w39 (fun K => offW (some 3) t22_38 w39 K) fun t23_40 w41 =>
  gstep t16_26 false w41 (fun K => loadW (some (false, 1)) t23_40 w41 K) fun t24_42 w43 =>
  gstep t16_26 false w43 (fun K => binN Tryz.prog .geq 3 false t20_34 t24_42 w43 K) fun t25_44 w45 =>
  gstep t12_20 true w45 (fun K => pickW t16_26 (.bool true) t25_44 w45 K) fun t26_46 w47 =>
  pickW t12_20 t26_46 (.bool false) w47 fun t27_48 w49 =>
  condW t27_48 (
  K12 .normal (pf 31 (pf 31 (pf 31 (pf 31 (pf 31 (pf 31 (pf 31 (pf 31 (pf 31 (pf 31 (pf 31 (pf 31 (pf 31 (pf 31 (pf 31 (pf 31 (pf 31 (pf 31 (pf 31 (pf 31 (pf 31 (pf 31 f7 9 t9_10) 10 t10_18) 5 t10_18) 11 t10_18) 12 t12_20) 13 t12_20) 14 t14_22) 15 t15_24) 16 t16_26) 17 t17_28) 18 t18_30) 19 t19_32) 20 t20_34) 21 t21_36) 22 t22_38) 23 t23_40) 24 t24_42) 25 t25_44) 26 t26_46) 27 t27_48) 28 t10_18) 3 t10_18) w49) (
  K12 .normal (pf 31 (pf 31 (pf 31 (pf 31 (pf 31 (pf 31 (pf 31 (pf 31 (pf 31 (pf 31 (pf 31 (pf 31 (pf 31 (pf 31 (pf 31 (pf 31 (pf 31 (pf 31 (pf 31 (pf 31 f7 9 t9_10) 10 t10_18) 5 t10_18) 11 t10_18) 12 t12_20) 13 t12_20) 14 t14_22) 15 t15_24) 16 t16_26) 17 t17_28) 18 t18_30) 19 t19_32) 20 t20_34) 21 t21_36) 22 t22_38) 23 t23_40) 24 t24_42) 25 t25_44) 26 t26_46) 27 t27_48) w49)) (
  K9 (.exit 0) (pf 31 f7 9 t9_10) w11)) (pf 31 (pf 31 (pf 31 (pf 31 (pf 31 (argF [x0]) 2 (.pointer none)) 3 (.pointer none)) 6 x0) 7 t7_4) 8 (.int .i64 0)) w5 K6
theorem c47_eq (x0 : Value) (w : World) (K : VPost) : c47 x0 w K = WP true Tryz.prog 31 [(5, 2, [0, 1, 2, 4, 12, 20, 32, 96, 160, 288, 32, 1056, 2080, 4128, 8736, 16420, 32772], [0, 1, 3, 7, 15, 31, 63, 127, 255, 511, 63, 1087, 3135, 7231, 16383, 32767, 65535])] (bodyOf Tryz.f47) (argF [x0]) w [.tmp 2] K := by kernel_rfl
theorem c47_calls (x0 : Value) (w : World) (K : VPost) (h : c47 x0 w K) : Calls Tryz.prog 47 #[x0] w (retK K) :=
  calls_of_WP (c47_eq x0 w K) mixedG Tryz.func47 (by kernel_rfl) Tryz.ntmps47 (by kernel_rfl) (by kernel_rfl) h

/-- imprimatur/area.Open -/
def c28 (x0 : Value) (w : World) (K : VPost) : Prop :=
  fnW Tryz.prog 46 #[x0] w fun t6_0 w1 =>
  binN Tryz.prog .lss 3 true t6_0 (.int .i64 4) w1 fun t7_2 w3 =>
  condW t7_2 (
  K (.tuple #[(.pointer none), (.int .i64 11)]) w3) (
  fnW Tryz.prog 47 #[x0] w3 fun t9_4 w5 =>
  binW Tryz.prog .eql 64 true t9_4 (.pointer none) w5 fun t11_6 w7 =>
  condW t11_6 (
  K (.tuple #[(.pointer none), (.int .i64 12)]) w7) (
  K (.tuple #[t9_4, (.int .i64 0)]) w7))
theorem c28_eq (x0 : Value) (w : World) (K : VPost) : c28 x0 w K = WP true Tryz.prog 13 [] (bodyOf Tryz.f28) (argF [x0]) w [.tmp 2, .tmp 3] K := by kernel_rfl
theorem c28_calls (x0 : Value) (w : World) (K : VPost) (h : c28 x0 w K) : Calls Tryz.prog 28 #[x0] w (retK K) :=
  calls_of_WP (c28_eq x0 w K) mixedG Tryz.func28 (by kernel_rfl) Tryz.ntmps28 (by kernel_rfl) (by kernel_rfl) h

/-- imprimatur/area.generation -/
def c50 (x0 : Value) (w : World) (K : VPost) : Prop :=
  bindX (endW Tryz.prog [.tmp 2] K) fun K0 =>
  bindX (seqX (fun f2 w3 =>
  binN Tryz.prog .add 3 true (f2 3) (.int .i64 1) w3 fun t25_4 w5 =>
  K t25_4 w5) K0) fun K1 =>
  fnW Tryz.prog 46 #[x0] w fun t8_6 w7 =>
  bindX (blkX 0 K1) fun K8 =>
  loopW (fun f9 w10 K11 =>
  binN Tryz.prog .lss 3 false (f9 9) (f9 8) w10 fun t10_12 w13 =>
  condW t10_12 (
  fnW Tryz.prog 61 #[(f9 0), (f9 9)] w13 fun t15_14 w15 =>
  extrW t15_14 0 w15 fun t16_16 w17 =>
  extrW t15_14 1 w17 fun t17_18 w19 =>
  allocW (zeroO Tryz.prog 79) 79 w19 fun t5_20 w21 =>
  storeW (some (true, 64)) t5_20 t16_16 w21 fun w22 =>
  loadW (some (true, 64)) t5_20 w22 fun t19_23 w24 =>
  insW Tryz.prog (Instr.buildSlice 60 1 #[(0, t19_23)]) w24 fun t20_25 w26 =>
  fnW Tryz.prog 62 #[t20_25] w26 fun t21_27 w28 =>
  insW Tryz.prog (Builtin.max_ #[3, 3] 3 #[(f9 3), t21_27]) w28 fun t22_29 w30 =>
  binN Tryz.prog .add 3 true (f9 9) (.int .i64 1) w30 fun t23_31 w32 =>
  K11 .normal (pf 26 (pf 26 (pf 26 (pf 26 (pf 26 (pf 26 (pf 26 (pf 26 (pf 26 (pf 26 (pf 26 (pf 26 (pf 26 (pf 26 (pf 26 (pf 26 (pf 26 (pf 26 (pf 26 f9 10 t10_12) 11 (f9 9)) 4 (f9 9)) 13 (f9 0)) 14 (f9 9)) 15 t15_14) 12 t15_14) 16 t16_16) 17 t17_18) 5 t5_20) 6 t17_18) 18 (f9 3)) 19 t19_23) 20 t20_25) 21 t21_27) 22 t22_29) 3 t22_29) 23 t23_31) 9 t23_31) w32) (
  K11 (.exit 0) (pf 26 f9 10 t10_12) w13)) (pf 26 (pf 26 (pf 26 (pf 26 (pf 26 (argF [x0]) 2 (.int .i64 0)) 3 (.int .i64 0)) 7 x0) 8 t8_6) 9 (.int .i64 0)) w7 K8
theorem c50_eq (x0 : Value) (w : World) (K : VPost) : c50 x0 w K = WP true Tryz.prog 26 [] (bodyOf Tryz.f50) (argF [x0]) w [.tmp 2] K := by kernel_rfl
theorem c50_calls (x0 : Value) (w : World) (K : VPost) (h : c50 x0 w K) : Calls Tryz.prog 50 #[x0] w (retK K) :=
  calls_of_WP (c50_eq x0 w K) mixedG Tryz.func50 (by kernel_rfl) Tryz.ntmps50 (by kernel_rfl) (by kernel_rfl) h

/-- (*imprimatur/area.Area).lay -/
def c53 (x0 x1 x2 : Value) (w : World) (K : VPost) : Prop :=
  nilW x0 w fun t13_0 w1 =>
  offW (some 3) t13_0 w1 fun t14_2 w3 =>
  loadW (some (false, 1)) t14_2 w3 fun t15_4 w5 =>
  fnW Tryz.prog 63 #[t15_4, x1, x2] w5 fun t18_6 w7 =>
  extrW t18_6 0 w7 fun t19_8 w9 =>
  extrW t18_6 1 w9 fun t20_10 w11 =>
  bindX (endW Tryz.prog [.tmp 6] K) fun K12 =>
  bindX (seqX (fun f14 w15 =>
  K (f14 8) w15) K12) fun K13 =>
  lenW Tryz.prog (some true) #[60] 3 #[t19_8] w11 fun t22_16 w17 =>
  bindX (blkX 0 K13) fun K18 =>
  loopW (fun f19 w20 K21 =>
  binN Tryz.prog .lss 3 false (f19 23) (f19 22) w20 fun t24_22 w23 =>
  condW t24_22 (
  idxW (some (none, 64)) (f19 21) (f19 23) w23 fun t26_24 w25 =>
  loadW (some (true, 64)) t26_24 w25 fun t27_26 w27 =>
  allocW (zeroO Tryz.prog 79) 79 w27 fun t10_28 w29 =>
  storeW (some (true, 64)) t10_28 t27_26 w29 fun w30 =>
  gstep (f19 8) true w30.drew (fun K => K (f19 0) w30.drew) fun t30_31 w32 =>
  gstep (f19 8) true w32 (fun K => nilW t30_31 w32 K) fun t31_33 w34 =>
  gstep (f19 8) true w34 (fun K => offW (some 0) t31_33 w34 K) fun t32_35 w36 =>
  gstep (f19 8) true w36 (fun K => loadW (some (false, 1)) t32_35 w36 K) fun t33_37 w38 =>
  gstep (f19 8) true w38 (fun K => K (f19 0) w38) fun t34_39 w40 =>
  gstep (f19 8) true w40 (fun K => nilW t34_39 w40 K) fun t35_41 w42 =>
  gstep (f19 8) true w42 (fun K => offW (some 1) t35_41 w42 K) fun t36_43 w44 =>
  gstep (f19 8) true w44 (fun K => loadW (some (false, 1)) t36_43 w44 K) fun t37_45 w46 =>
  gstep (f19 8) true w46 (fun K => K (f19 1) w46) fun t38_47 w48 =>
  gstep (f19 8) true w48 (fun K => binN Tryz.prog .add 3 false t37_45 t38_47 w48 K) fun t39_49 w50 =>
  gstep (f19 8) true w50 (fun K => K (f19 23) w50) fun t40_51 w52 =>
  gstep (f19 8) true w52 (fun K => binN Tryz.prog .add 3 false t39_49 t40_51 w52 K) fun t41_53 w54 =>
  gstep (f19 8) true w54 (fun K => loadW (some (true, 64)) t10_28 w54 K) fun t42_55 w56 =>
  gstep (f19 8) true w56 (fun K => fnW Tryz.prog 64 #[t33_37, t41_53, t42_55] w56 K) fun t43_57 w58 =>
  gstep (f19 8) true w58 (fun K => binN Tryz.prog .eql 26 true t43_57 (.int .i64 0) w58 K) fun t44_59 w60 =>
  pickW (f19 8) t44_59 (.bool false) w60 fun t45_61 w62 =>
  binN Tryz.prog .add 3 true (f19 23) (.int .i64 1) w62 fun t46_63 w64 =>
  K21 .normal (pf 48 (pf 48 (pf 48 (pf 48 (pf 48 (pf 48 (pf 48 (pf 48 (pf 48 (pf 48 (pf 48 (pf 48 (pf 48 (pf 48 (pf 48 (pf 48 (pf 48 (pf 48 (pf 48 (pf 48 (pf 48 (pf 48 (pf 48 (pf 48 (pf 48 (pf 48 (pf 48 f19 24 t24_22) 25 (f19 23)) 26 t26_24) 27 t27_26) 10 t10_28) 9 (f19 23)) 28 (f19 8)) 29 (f19 8)) 30 t30_31) 31 t31_33) 32 t32_35) 33 t33_37) 34 t34_39) 35 t35_41) 36 t36_43) 37 t37_45) 38 t38_47) 39 t39_49) 40 t40_51) 41 t41_53) 42 t42_55) 43 t43_57) 44 t44_59) 45 t45_61) 8 t45_61) 46 t46_63) 23 t46_63) w64) (
  K21 (.exit 0) (pf 48 f19 24 t24_22) w23)) (pf 48 (pf 48 (pf 48 (pf 48 (pf 48 (pf 48 (pf 48 (pf 48 (pf 48 (pf 48 (pf 48 (pf 48 (pf 48 (pf 48 (pf 48 (pf 48 (argF [x0, x1, x2]) 6 (.bool false)) 12 x0) 13 t13_0) 14 t14_2) 15 t15_4) 16 x1) 17 x2) 18 t18_6) 11 t18_6) 19 t19_8) 20 t20_10) 7 t19_8) 8 t20_10) 21 t19_8) 22 t22_16) 23 (.int .i64 0)) w17 K18
theorem c53_eq (x0 x1 x2 : Value) (w : World) (K : VPost) : c53 x0 x1 x2 w K = WP true Tryz.prog 48 [(5, 294912, [0, 1, 2, 6, 10, 18, 2, 66, 130, 258, 2, 1538, 2, 6146, 2, 24610, 32770, 65538, 262143], [0, 1, 3, 7, 15, 31, 3, 67, 195, 451, 3, 1987, 3, 8131, 3, 32767, 65535, 131071, 262143])] (bodyOf Tryz.f53) (argF [x0, x1, x2]) w [.tmp 6] K := by kernel_rfl
theorem c53_calls (x0 x1 x2 : Value) (w : World) (K : VPost) (h : c53 x0 x1 x2 w K) : Calls Tryz.prog 53 #[x0, x1, x2] w (retK K) :=
  calls_of_WP (c53_eq x0 x1 x2 w K) mixedG Tryz.func53 (by kernel_rfl) Tryz.ntmps53 (by kernel_rfl) (by kernel_rfl) h

/-- (*imprimatur/area.Area).put -/
def c51 (x0 x1 : Value) (w : World) (K : VPost) : Prop :=
  nilW x0 w fun t7_0 w1 =>
  offW (some 4) t7_0 w1 fun t8_2 w3 =>
  loadW (some (false, 1)) t8_2 w3 fun t9_4 w5 =>
  fnW Tryz.prog 53 #[x0, t9_4, x1] w5 fun t11_6 w7 =>
  unN Tryz.prog .not t11_6 w7 fun t12_8 w9 =>
  condW t12_8 (
  nilW x0 w9 fun t14_10 w11 =>
  offW (some 6) t14_10 w11 fun t15_12 w13 =>
  storeW (some (false, 1)) t15_12 (.bool true) w13 fun w14 =>
  K (.bool false) w14) (
  nilW x0 w9.drew fun t17_15 w16 =>
  offW (some 4) t17_15 w16 fun t18_17 w18 =>
  loadW (some (false, 1)) t18_17 w18 fun t19_19 w20 =>
  lenW Tryz.prog (some true) #[36] 3 #[x1] w20 fun t21_21 w22 =>
  fnW Tryz.prog 55 #[t21_21] w22 fun t22_23 w24 =>
  (loadW (some (false, 1)) t18_17 w24 fun t19_25 w26 => t19_25 = t19_19 ∧ w26 = w24) ∧
  binN Tryz.prog .add 3 false t19_19 t22_23 w24 fun t23_27 w28 =>
  nilW x0 w28 fun t24_29 w30 =>
  offW (some 4) t24_29 w30 fun t25_31 w32 =>
  storeW (some (false, 1)) t25_31 t23_27 w32 fun w33 =>
  nilW x0 w33.drew fun t28_34 w35 =>
  offW (some 5) t28_34 w35 fun t29_36 w37 =>
  loadW (some (false, 1)) t29_36 w37 fun t30_38 w39 =>
  fnW Tryz.prog 41 #[x1] w39 fun t32_40 w41 =>
  (loadW (some (false, 1)) t29_36 w41 fun t30_42 w43 => t30_42 = t30_38 ∧ w43 = w41) ∧
  insW Tryz.prog (Instr.buildSlice 71 1 #[(0, t32_40)]) w41 fun t33_44 w45 =>
  (loadW (some (false, 1)) t29_36 w45 fun t30_46 w47 => t30_46 = t30_38 ∧ w47 = w45) ∧
  insW Tryz.prog (Builtin.append_ #[71, 71] 71 #[t30_38, t33_44]) w45 fun t34_48 w49 =>
  nilW x0 w49 fun t35_50 w51 =>
  offW (some 5) t35_50 w51 fun t36_52 w53 =>
  storeW (some (false, 1)) t36_52 t34_48 w53 fun w54 =>
  K (.bool true) w54)
theorem c51_eq (x0 x1 : Value) (w : World) (K : VPost) : c51 x0 x1 w K = WP true Tryz.prog 37 [(4, 1088, [0, 1, 2, 4, 0, 16, 32, 72, 255, 511, 767], [0, 1, 3, 7, 0, 16, 48, 127, 255, 511, 1023]), (5, 2496, [0, 0, 2, 4, 8, 0, 32, 64, 208, 511, 1023, 1535], [0, 0, 2, 6, 14, 0, 32, 96, 254, 511, 1023, 2047])] (bodyOf Tryz.f51) (argF [x0, x1]) w [.tmp 4] K := by kernel_rfl
theorem c51_calls (x0 x1 : Value) (w : World) (K : VPost) (h : c51 x0 x1 w K) : Calls Tryz.prog 51 #[x0, x1] w (retK K) :=
  calls_of_WP (c51_eq x0 x1 w K) mixedG Tryz.func51 (by kernel_rfl) Tryz.ntmps51 (by kernel_rfl) (by kernel_rfl) h

/-- imprimatur/area.room -/
def c49 (x0 x1 : Value) (w : World) (K : VPost) : Prop :=
  bindX (endW Tryz.prog [.tmp 4] K) fun K0 =>
  bindX (seqX (fun f2 w3 =>
  binN Tryz.prog .gtr 3 false (f2 5) (f2 0) w3 fun t26_4 w5 =>
  condW t26_4 (
  K (.int .i64 15) w5) (
  K (.int .i64 0) w5)) K0) fun K1 =>
  lenW Tryz.prog (some true) #[71] 3 #[x1] w fun t10_6 w7 =>
  bindX (blkX 0 K1) fun K8 =>
  loopW (fun f9 w10 K11 =>
  binN Tryz.prog .lss 3 false (f9 11) (f9 10) w10 fun t12_12 w13 =>
  condW t12_12 (
  idxW (some (none, 1)) (f9 9) (f9 11) w13 fun t13_14 w15 =>
  loadW (some (false, 1)) t13_14 w15 fun t14_16 w17 =>
  lenW Tryz.prog (some true) #[36] 3 #[t14_16] w17 fun t16_18 w19 =>
  fnW Tryz.prog 55 #[t16_18] w19 fun t17_20 w21 =>
  binN Tryz.prog .eql 3 true t17_20 (.int .i64 0) w21 fun t19_22 w23 =>
  condW t19_22 (
  K11 .ret (pf 27 (pf 27 (pf 27 (pf 27 (pf 27 (pf 27 (pf 27 (pf 27 (pf 27 (pf 27 (pf 27 f9 12 t12_12) 13 t13_14) 14 t14_16) 7 t14_16) 15 t14_16) 16 t16_18) 17 t17_20) 8 t17_20) 18 t17_20) 19 t19_22) 4 (.int .i64 10)) w23) (
  binN Tryz.prog .add 3 false (f9 5) t17_20 w23 fun t22_24 w25 =>
  binN Tryz.prog .add 3 true (f9 11) (.int .i64 1) w25 fun t23_26 w27 =>
  K11 .normal (pf 27 (pf 27 (pf 27 (pf 27 (pf 27 (pf 27 (pf 27 (pf 27 (pf 27 (pf 27 (pf 27 (pf 27 (pf 27 (pf 27 (pf 27 (pf 27 f9 12 t12_12) 13 t13_14) 14 t14_16) 7 t14_16) 15 t14_16) 16 t16_18) 17 t17_20) 8 t17_20) 18 t17_20) 19 t19_22) 20 (f9 5)) 21 t17_20) 22 t22_24) 5 t22_24) 23 t23_26) 11 t23_26) w27)) (
  K11 (.exit 0) (pf 27 f9 12 t12_12) w13)) (pf 27 (pf 27 (pf 27 (pf 27 (pf 27 (argF [x0, x1]) 4 (.int .i64 0)) 5 (.int .i64 1)) 9 x1) 10 t10_6) 11 (.int .i64 0)) w7 K8
theorem c49_eq (x0 x1 : Value) (w : World) (K : VPost) : c49 x0 x1 w K = WP true Tryz.prog 27 [] (bodyOf Tryz.f49) (argF [x0, x1]) w [.tmp 4] K := by kernel_rfl
theorem c49_calls (x0 x1 : Value) (w : World) (K : VPost) (h : c49 x0 x1 w K) : Calls Tryz.prog 49 #[x0, x1] w (retK K) :=
  calls_of_WP (c49_eq x0 x1 w K) mixedG Tryz.func49 (by kernel_rfl) Tryz.ntmps49 (by kernel_rfl) (by kernel_rfl) h

/-- imprimatur/area.other -/
def c48 (x0 : Value) (w : World) (K : VPost) : Prop :=
  fnW Tryz.prog 59 #[x0] w fun t6_0 w1 =>
  allocW (zeroO Tryz.prog 98) 98 w1 fun t3_2 w3 =>
  storeW (some (true, 2)) t3_2 t6_0 w3 fun w4 =>
  fnW Tryz.prog 47 #[x0] w4 fun t8_5 w6 =>
  binW Tryz.prog .neq 64 true t8_5 (.pointer none) w6 fun t10_7 w8 =>
  gstep t10_7 true w8 (fun K => K t8_5 w8) fun t12_9 w10 =>
  gstep t10_7 true w10 (fun K => nilW t12_9 w10 K) fun t13_11 w12 =>
  gstep t10_7 true w12 (fun K => offW (some 1) t13_11 w12 K) fun t14_13 w14 =>
  gstep t10_7 true w14 (fun K => loadW (some (false, 1)) t14_13 w14 K) fun t15_15 w16 =>
  gstep t10_7 true w16 (fun K => binN Tryz.prog .eql 3 true t15_15 (.int .i64 0) w16 K) fun t16_17 w18 =>
  pickW t10_7 t16_17 (.bool false) w18 fun t17_19 w20 =>
  condW t17_19 (
  idxW (some ((some 2), 1)) t3_2 (.int .i64 1) w20 fun t18_21 w22 =>
  loadW (some (false, 1)) t18_21 w22 fun t19_23 w24 =>
  K t19_23 w24) (
  idxW (some ((some 2), 1)) t3_2 (.int .i64 0) w20 fun t20_25 w26 =>
  loadW (some (false, 1)) t20_25 w26 fun t21_27 w28 =>
  K t21_27 w28)
theorem c48_eq (x0 : Value) (w : World) (K : VPost) : c48 x0 w K = WP true Tryz.prog 22 [] (bodyOf Tryz.f48) (argF [x0]) w [.tmp 2] K := by kernel_rfl
theorem c48_calls (x0 : Value) (w : World) (K : VPost) (h : c48 x0 w K) : Calls Tryz.prog 48 #[x0] w (retK K) :=
  calls_of_WP (c48_eq x0 w K) mixedG Tryz.func48 (by kernel_rfl) Tryz.ntmps48 (by kernel_rfl) (by kernel_rfl) h

/-- imprimatur/area.head -/
def c54 (x0 : Value) (w : World) (K : VPost) : Prop :=
  binN Tryz.prog .shr 3 true x0 (.int .u64 24) w fun t4_0 w1 =>
  convN Tryz.prog 3 5 t4_0 w1 fun t5_2 w3 =>
  binN Tryz.prog .shr 3 true x0 (.int .u64 16) w3 fun t7_4 w5 =>
  convN Tryz.prog 3 5 t7_4 w5 fun t8_6 w7 =>
  binN Tryz.prog .shr 3 true x0 (.int .u64 8) w7 fun t10_8 w9 =>
  convN Tryz.prog 3 5 t10_8 w9 fun t11_10 w11 =>
  convN Tryz.prog 3 5 x0 w11 fun t13_12 w13 =>
  insW Tryz.prog (Instr.buildSlice 36 4 #[(0, t5_2), (1, t8_6), (2, t11_10), (3, t13_12)]) w13 fun t14_14 w15 =>
  K t14_14 w15
theorem c54_eq (x0 : Value) (w : World) (K : VPost) : c54 x0 w K = WP true Tryz.prog 15 [] (bodyOf Tryz.f54) (argF [x0]) w [.tmp 2] K := by kernel_rfl
theorem c54_calls (x0 : Value) (w : World) (K : VPost) (h : c54 x0 w K) : Calls Tryz.prog 54 #[x0] w (retK K) :=
  calls_of_WP (c54_eq x0 w K) mixedG Tryz.func54 (by kernel_rfl) Tryz.ntmps54 (by kernel_rfl) (by kernel_rfl) h

/-- imprimatur/area.Begin -/
def c31 (x0 x1 : Value) (w : World) (K : VPost) : Prop :=
  fnW Tryz.prog 46 #[x0] w fun t11_0 w1 =>
  binN Tryz.prog .lss 3 true t11_0 (.int .i64 4) w1 fun t12_2 w3 =>
  condW t12_2 (
  K (.tuple #[(.pointer none), (.int .i64 11)]) w3) (
  fnW Tryz.prog 48 #[x0] w3 fun t14_4 w5 =>
  nilW t14_4 w5 fun t16_6 w7 =>
  offW (some 2) t16_6 w7 fun t17_8 w9 =>
  loadW (some (false, 1)) t17_8 w9 fun t18_10 w11 =>
  fnW Tryz.prog 49 #[t18_10, x1] w11 fun t20_12 w13 =>
  binN Tryz.prog .neq 26 true t20_12 (.int .i64 0) w13 fun t22_14 w15 =>
  condW t22_14 (
  K (.tuple #[(.pointer none), t20_12]) w15) (
  fnW Tryz.prog 50 #[x0] w15 fun t27_16 w17 =>
  nilW t14_4 w17 fun t28_18 w19 =>
  offW (some 3) t28_18 w19 fun t29_20 w21 =>
  storeW (some (false, 1)) t29_20 t27_16 w21 fun w22 =>
  nilW t14_4 w22 fun t30_23 w24 =>
  offW (some 4) t30_23 w24 fun t31_25 w26 =>
  storeW (some (false, 1)) t31_25 (.int .i64 1) w26 fun w27 =>
  nilW t14_4 w27 fun t33_28 w29 =>
  offW (some 3) t33_28 w29 fun t34_30 w31 =>
  loadW (some (false, 1)) t34_30 w31 fun t35_32 w33 =>
  binN Tryz.prog .gtr 3 true t35_32 (.int .i64 4294967295) w33 fun t36_34 w35 =>
  condW t36_34 (
  K (.tuple #[(.pointer none), (.int .i64 15)]) w35) (
  bindX (endW Tryz.prog [.tmp 4, .tmp 5] K) fun K36 =>
  bindX (seqX (fun f38 w39 =>
  fnW Tryz.prog 52 #[(f38 0)] w39 fun _ w41 =>
  nilW (f38 6) w41 fun t52_42 w43 =>
  offW (some 4) t52_42 w43 fun t53_44 w45 =>
  loadW (some (false, 1)) t53_44 w45 fun t54_46 w47 =>
  binN Tryz.prog .sub 3 true t54_46 (.int .i64 1) w47 fun t55_48 w49 =>
  fnW Tryz.prog 54 #[t55_48] w49 fun t56_50 w51 =>
  fnW Tryz.prog 53 #[(f38 6), (.int .i64 0), t56_50] w51 fun t57_52 w53 =>
  unN Tryz.prog .not t57_52 w53 fun t58_54 w55 =>
  condW t58_54 (
  K (.tuple #[(.pointer none), (.int .i64 15)]) w55) (
  fnW Tryz.prog 52 #[(f38 0)] w55 fun _ w57 =>
  nilW (f38 6) w57 fun t62_58 w59 =>
  offW (some 6) t62_58 w59 fun t63_60 w61 =>
  storeW (some (false, 1)) t63_60 (.bool false) w61 fun w62 =>
  K (.tuple #[(f38 6), (.int .i64 0)]) w62)) K36) fun K37 =>
  lenW Tryz.prog (some true) #[71] 3 #[x1] w35 fun t38_63 w64 =>
  bindX (blkX 0 K37) fun K65 =>
  loopW (fun f66 w67 K68 =>
  binN Tryz.prog .lss 3 false (f66 39) (f66 38) w67 fun t40_69 w70 =>
  condW t40_69 (
  idxW (some (none, 1)) (f66 37) (f66 39) w70 fun t41_71 w72 =>
  loadW (some (false, 1)) t41_71 w72 fun t42_73 w74 =>
  fnW Tryz.prog 51 #[(f66 6), t42_73] w74 fun t45_75 w76 =>
  unN Tryz.prog .not t45_75 w76 fun t46_77 w78 =>
  condW t46_77 (
  K68 .ret (pf 65 (pf 65 (pf 65 (pf 65 (pf 65 (pf 65 (pf 65 (pf 65 (pf 65 (pf 65 f66 40 t40_69) 41 t41_71) 42 t42_73) 9 t42_73) 43 (f66 6)) 44 t42_73) 45 t45_75) 46 t46_77) 4 (.pointer none)) 5 (.int .i64 15)) w78) (
  binN Tryz.prog .add 3 true (f66 39) (.int .i64 1) w78 fun t47_79 w80 =>
  K68 .normal (pf 65 (pf 65 (pf 65 (pf 65 (pf 65 (pf 65 (pf 65 (pf 65 (pf 65 (pf 65 f66 40 t40_69) 41 t41_71) 42 t42_73) 9 t42_73) 43 (f66 6)) 44 t42_73) 45 t45_75) 46 t46_77) 47 t47_79) 39 t47_79) w80)) (
  K68 (.exit 0) (pf 65 f66 40 t40_69) w70)) (pf 65 (pf 65 (pf 65 (pf 65 (pf 65 (pf 65 (pf 65 (pf 65 (pf 65 (pf 65 (pf 65 (pf 65 (pf 65 (pf 65 (pf 65 (pf 65 (pf 65 (pf 65 (pf 65 (pf 65 (pf 65 (pf 65 (pf 65 (pf 65 (pf 65 (pf 65 (pf 65 (pf 65 (pf 65 (pf 65 (pf 65 (pf 65 (pf 65 (argF [x0, x1]) 4 (.pointer none)) 5 (.int .i64 0)) 10 x0) 11 t11_0) 12 t12_2) 13 x0) 14 t14_4) 6 t14_4) 15 t14_4) 16 t16_6) 17 t17_8) 18 t18_10) 19 x1) 20 t20_12) 7 t20_12) 21 t20_12) 22 t22_14) 24 t14_4) 25 t14_4) 26 x0) 27 t27_16) 28 t28_18) 29 t29_20) 30 t30_23) 31 t31_25) 32 t14_4) 33 t33_28) 34 t34_30) 35 t35_32) 36 t36_34) 37 x1) 38 t38_63) 39 (.int .i64 0)) w64 K65)))
theorem c31_eq (x0 x1 : Value) (w : World) (K : VPost) : c31 x0 x1 w K = WP true Tryz.prog 65 [] (bodyOf Tryz.f31) (argF [x0, x1]) w [.tmp 4, .tmp 5] K := by kernel_rfl
theorem c31_calls (x0 x1 : Value) (w : World) (K : VPost) (h : c31 x0 x1 w K) : Calls Tryz.prog 31 #[x0, x1] w (retK K) :=
  calls_of_WP (c31_eq x0 x1 w K) mixedG Tryz.func31 (by kernel_rfl) Tryz.ntmps31 (by kernel_rfl) (by kernel_rfl) h

/-- (*imprimatur/area.Area).Add -/
def c35 (x0 x1 : Value) (w : World) (K : VPost) : Prop :=
  lenW Tryz.prog (some true) #[36] 3 #[x1] w fun t7_0 w1 =>
  fnW Tryz.prog 55 #[t7_0] w1 fun t8_2 w3 =>
  binN Tryz.prog .eql 3 true t8_2 (.int .i64 0) w3 fun t11_4 w5 =>
  condW t11_4 (
  K (.int .i64 10) w5) (
  nilW x0 w5 fun t14_6 w7 =>
  offW (some 6) t14_6 w7 fun t15_8 w9 =>
  loadW (some (false, 1)) t15_8 w9 fun t16_10 w11 =>
  gstep t16_10 false w11 (fun K => K t8_2 w11) fun t18_12 w13 =>
  gstep t16_10 false w13 (fun K => K x0 w13) fun t19_14 w15 =>
  gstep t16_10 false w15 (fun K => fnW Tryz.prog 33 #[t19_14] w15 K) fun t20_16 w17 =>
  gstep t16_10 false w17 (fun K => binN Tryz.prog .gtr 3 false t18_12 t20_16 w17 K) fun t21_18 w19 =>
  pickW t16_10 (.bool true) t21_18 w19 fun t22_20 w21 =>
  gstep t22_20 false w21 (fun K => K x0 w21) fun t24_22 w23 =>
  gstep t22_20 false w23 (fun K => K x1 w23) fun t25_24 w25 =>
  gstep t22_20 false w25 (fun K => fnW Tryz.prog 51 #[t24_22, t25_24] w25 K) fun t26_26 w27 =>
  gstep t22_20 false w27 (fun K => unN Tryz.prog .not t26_26 w27 K) fun t27_28 w29 =>
  pickW t22_20 (.bool true) t27_28 w29 fun t28_30 w31 =>
  condW t28_30 (
  K (.int .i64 15) w31) (
  K (.int .i64 0) w31))
theorem c35_eq (x0 x1 : Value) (w : World) (K : VPost) : c35 x0 x1 w K = WP true Tryz.prog 29 [] (bodyOf Tryz.f35) (argF [x0, x1]) w [.tmp 4] K := by kernel_rfl
theorem c35_calls (x0 x1 : Value) (w : World) (K : VPost) (h : c35 x0 x1 w K) : Calls Tryz.prog 35 #[x0, x1] w (retK K) :=
  calls_of_WP (c35_eq x0 x1 w K) mixedG Tryz.func35 (by kernel_rfl) Tryz.ntmps35 (by kernel_rfl) (by kernel_rfl) h

/-- (*imprimatur/area.Area).Flush -/
def c39 (x0 : Value) (w : World) (K : VPost) : Prop :=
  nilW x0 w fun t4_0 w1 =>
  offW (some 0) t4_0 w1 fun t5_2 w3 =>
  loadW (some (false, 1)) t5_2 w3 fun t6_4 w5 =>
  fnW Tryz.prog 52 #[t6_4] w5 fun _ w7 =>
  K (.int .i64 0) w7
theorem c39_eq (x0 : Value) (w : World) (K : VPost) : c39 x0 w K = WP true Tryz.prog 8 [] (bodyOf Tryz.f39) (argF [x0]) w [.tmp 2] K := by kernel_rfl
theorem c39_calls (x0 : Value) (w : World) (K : VPost) (h : c39 x0 w K) : Calls Tryz.prog 39 #[x0] w (retK K) :=
  calls_of_WP (c39_eq x0 w K) mixedG Tryz.func39 (by kernel_rfl) Tryz.ntmps39 (by kernel_rfl) (by kernel_rfl) h

end Go.Proofs.YtedebapgmfnflaaGreatDoor

/- The clean forms of some of the program's functions, written by a program of ours; each is the model's own by the kernel's reckoning. -/
namespace Go.Proofs.YtedebapgmfnflaaGreatDoor
open Go
set_option maxRecDepth 100000

/-- imprimatur/vault.Open -/
def c8 (x0 : Value) (w : World) (K : VPost) : Prop :=
  fnW Tryz.prog 28 #[x0] w fun t9_0 w1 =>
  extrW t9_0 0 w1 fun t10_2 w3 =>
  extrW t9_0 1 w3 fun t11_4 w5 =>
  binN Tryz.prog .eql 26 true t11_4 (.int .i64 11) w5 fun t13_6 w7 =>
  condW t13_6 (
  K (.tuple #[(.pointer none), t11_4]) w7) (
  insW Tryz.prog (Instr.makeMap 67 none) w7 fun t16_8 w9 =>
  insW Tryz.prog (Instr.build 69 #[(0, x0), (2, t16_8)]) w9 fun t17_10 w11 =>
  boxW 69 t17_10 w11 fun t18_12 w13 =>
  bindX (endW Tryz.prog [.tmp 2, .tmp 3] K) fun K14 =>
  bindX (seqX (fun f16 w17 =>
  nilW (f16 6) w17 fun t30_18 w19 =>
  offW (some 3) t30_18 w19 fun t31_20 w21 =>
  loadW (some (false, 1)) t31_20 w21 fun t32_22 w23 =>
  fnW Tryz.prog 32 #[(f16 6), t32_22] w23 fun t33_24 w25 =>
  fnW Tryz.prog 31 #[(f16 0), t33_24] w25 fun t34_26 w27 =>
  extrW t34_26 0 w27 fun t35_28 w29 =>
  extrW t34_26 1 w29 fun _ w31 =>
  nilW (f16 6) w31 fun t37_32 w33 =>
  offW (some 1) t37_32 w33 fun t38_34 w35 =>
  storeW (some (false, 1)) t38_34 t35_28 w35 fun w36 =>
  K (.tuple #[(f16 6), (.int .i64 0)]) w36) K14) fun K15 =>
  binW Tryz.prog .neq 64 true t10_2 (.pointer none) w13 fun t20_37 w38 =>
  condW t20_37 (
  fnW Tryz.prog 30 #[t10_2] w38 fun t23_39 w40 =>
  fnW Tryz.prog 29 #[t18_12, t23_39] w40 fun t24_41 w42 =>
  K15 .normal (pf 40 (pf 40 (pf 40 (pf 40 (pf 40 (pf 40 (pf 40 (pf 40 (pf 40 (pf 40 (pf 40 (pf 40 (pf 40 (pf 40 (pf 40 (pf 40 (pf 40 (pf 40 (pf 40 (pf 40 (pf 40 (pf 40 (argF [x0]) 2 (.pointer none)) 3 (.int .i64 0)) 8 x0) 9 t9_0) 7 t9_0) 10 t10_2) 11 t11_4) 4 t10_2) 5 t11_4) 12 t11_4) 13 t13_6) 15 x0) 16 t16_8) 17 t17_10) 18 t18_12) 6 t18_12) 19 t10_2) 20 t20_37) 21 t18_12) 22 t10_2) 23 t23_39) 24 t24_41) w42) (
  K15 .normal (pf 40 (pf 40 (pf 40 (pf 40 (pf 40 (pf 40 (pf 40 (pf 40 (pf 40 (pf 40 (pf 40 (pf 40 (pf 40 (pf 40 (pf 40 (pf 40 (pf 40 (pf 40 (argF [x0]) 2 (.pointer none)) 3 (.int .i64 0)) 8 x0) 9 t9_0) 7 t9_0) 10 t10_2) 11 t11_4) 4 t10_2) 5 t11_4) 12 t11_4) 13 t13_6) 15 x0) 16 t16_8) 17 t17_10) 18 t18_12) 6 t18_12) 19 t10_2) 20 t20_37) w38))
theorem c8_eq (x0 : Value) (w : World) (K : VPost) : c8 x0 w K = WP true Tryz.prog 40 [] (bodyOf Tryz.f8) (argF [x0]) w [.tmp 2, .tmp 3] K := by kernel_rfl
theorem c8_calls (x0 : Value) (w : World) (K : VPost) (h : c8 x0 w K) : Calls Tryz.prog 8 #[x0] w (retK K) :=
  calls_of_WP (c8_eq x0 w K) mixedG Tryz.func8 (by kernel_rfl) Tryz.ntmps8 (by kernel_rfl) (by kernel_rfl) h

/-- (*imprimatur/vault.Vault).Put -/
def c15 (x0 x1 x2 : Value) (w : World) (K : VPost) : Prop :=
  boxW 34 x1 w fun t4_0 w1 =>
  nilW x0 w1.drew fun t12_2 w3 =>
  offW (some 2) t12_2 w3 fun t13_4 w5 =>
  loadW (some (false, 1)) t13_4 w5 fun t14_6 w7 =>
  loadW (some (true, 32)) t4_0 w7 fun t15_8 w9 =>
  insW Tryz.prog (Instr.lookup 67 t14_6 t15_8 true) w9 fun t16_10 w11 =>
  w11 = w9 ∧
  extrW t16_10 0 w11 fun t17_12 w13 =>
  extrW t16_10 1 w13 fun t18_14 w15 =>
  lenW Tryz.prog (some true) #[36] 3 #[x2] w15 fun t21_16 w17 =>
  binN Tryz.prog .gtr 3 true t21_16 (.int .i64 1000) w17 fun t22_18 w19 =>
  condW t22_18 (
  K (.int .i64 10) w19) (
  gstep t18_14 true w19 (fun K => K t17_12 w19) fun t26_20 w21 =>
  gstep t18_14 true w21 (fun K => K x2 w21) fun t27_22 w23 =>
  gstep t18_14 true w23 (fun K => fnW Tryz.prog 34 #[t26_20, t27_22] w23 K) fun t28_24 w25 =>
  gstep t18_14 true w25 (fun K => unN Tryz.prog .not t28_24 w25 K) fun t29_26 w27 =>
  pickW t18_14 t29_26 (.bool false) w27 fun t30_28 w29 =>
  condW t30_28 (
  K (.int .i64 13) w29) (
  condW t18_14 (
  K (.int .i64 0) w29) (
  nilW x0 w29 fun t35_30 w31 =>
  offW (some 1) t35_30 w31 fun t36_32 w33 =>
  loadW (some (false, 1)) t36_32 w33 fun t37_34 w35 =>
  binW Tryz.prog .eql 64 true t37_34 (.pointer none) w35 fun t38_36 w37 =>
  condW t38_36 (
  K (.int .i64 15) w37) (
  bindX (endW Tryz.prog [.tmp 6] K) fun K38 =>
  bindX (seqX (fun f40 w41 =>
  loadW (some (true, 32)) (f40 4) w41 fun t59_42 w43 =>
  fnW Tryz.prog 38 #[(f40 0), t59_42, (f40 2)] w43 fun _ w45 =>
  K (.int .i64 0) w45) K38) fun K39 =>
  nilW x0 w37.drew fun t40_46 w47 =>
  offW (some 1) t40_46 w47 fun t41_48 w49 =>
  loadW (some (false, 1)) t41_48 w49 fun t42_50 w51 =>
  loadW (some (true, 32)) t4_0 w51 fun t43_52 w53 =>
  fnW Tryz.prog 36 #[t43_52, x2] w53 fun t45_54 w55 =>
  (loadW (some (false, 1)) t41_48 w55 fun t42_56 w57 => t42_56 = t42_50 ∧ w57 = w55) ∧
  fnW Tryz.prog 35 #[t42_50, t45_54] w55 fun t46_58 w59 =>
  binN Tryz.prog .neq 26 true t46_58 (.int .i64 0) w59 fun t48_60 w61 =>
  condW t48_60 (
  bindX (seqX (fun f63 w64 =>
  K (f63 9) w64) K39) fun K62 =>
  nilW x0 w61 fun t50_65 w66 =>
  offW (some 1) t50_65 w66 fun t51_67 w68 =>
  loadW (some (false, 1)) t51_67 w68 fun t52_69 w70 =>
  fnW Tryz.prog 37 #[t52_69] w70 fun t53_71 w72 =>
  condW t53_71 (
  nilW x0 w72 fun t55_73 w74 =>
  offW (some 1) t55_73 w74 fun t56_75 w76 =>
  storeW (some (false, 1)) t56_75 (.pointer none) w76 fun w77 =>
  K62 .normal (pf 62 (pf 62 (pf 62 (pf 62 (pf 62 (pf 62 (pf 62 (pf 62 (pf 62 (pf 62 (pf 62 (pf 62 (pf 62 (pf 62 (pf 62 (pf 62 (pf 62 (pf 62 (pf 62 (pf 62 (pf 62 (pf 62 (pf 62 (pf 62 (pf 62 (pf 62 (pf 62 (pf 62 (pf 62 (pf 62 (pf 62 (pf 62 (pf 62 (pf 62 (pf 62 (pf 62 (pf 62 (pf 62 (pf 62 (pf 62 (pf 62 (pf 62 (pf 62 (pf 62 (pf 62 (pf 62 (pf 62 (pf 62 (pf 62 (pf 62 (pf 62 (pf 62 (argF [x0, x1, x2]) 4 t4_0) 6 (.int .i64 0)) 11 x0) 12 t12_2) 13 t13_4) 14 t14_6) 15 t15_8) 16 t16_10) 10 t16_10) 17 t17_12) 18 t18_14) 7 t17_12) 8 t18_14) 20 x2) 21 t21_16) 22 t22_18) 19 t22_18) 24 t18_14) 25 t18_14) 26 t26_20) 27 t27_22) 28 t28_24) 29 t29_26) 30 t30_28) 23 t30_28) 32 t18_14) 31 t18_14) 34 x0) 35 t35_30) 36 t36_32) 37 t37_34) 38 t38_36) 33 t38_36) 39 x0) 40 t40_46) 41 t41_48) 42 t42_50) 43 t43_52) 44 x2) 45 t45_54) 46 t46_58) 9 t46_58) 47 t46_58) 48 t48_60) 49 x0) 50 t50_65) 51 t51_67) 52 t52_69) 53 t53_71) 54 x0) 55 t55_73) 56 t56_75) w77) (
  K62 .normal (pf 62 (pf 62 (pf 62 (pf 62 (pf 62 (pf 62 (pf 62 (pf 62 (pf 62 (pf 62 (pf 62 (pf 62 (pf 62 (pf 62 (pf 62 (pf 62 (pf 62 (pf 62 (pf 62 (pf 62 (pf 62 (pf 62 (pf 62 (pf 62 (pf 62 (pf 62 (pf 62 (pf 62 (pf 62 (pf 62 (pf 62 (pf 62 (pf 62 (pf 62 (pf 62 (pf 62 (pf 62 (pf 62 (pf 62 (pf 62 (pf 62 (pf 62 (pf 62 (pf 62 (pf 62 (pf 62 (pf 62 (pf 62 (pf 62 (argF [x0, x1, x2]) 4 t4_0) 6 (.int .i64 0)) 11 x0) 12 t12_2) 13 t13_4) 14 t14_6) 15 t15_8) 16 t16_10) 10 t16_10) 17 t17_12) 18 t18_14) 7 t17_12) 8 t18_14) 20 x2) 21 t21_16) 22 t22_18) 19 t22_18) 24 t18_14) 25 t18_14) 26 t26_20) 27 t27_22) 28 t28_24) 29 t29_26) 30 t30_28) 23 t30_28) 32 t18_14) 31 t18_14) 34 x0) 35 t35_30) 36 t36_32) 37 t37_34) 38 t38_36) 33 t38_36) 39 x0) 40 t40_46) 41 t41_48) 42 t42_50) 43 t43_52) 44 x2) 45 t45_54) 46 t46_58) 9 t46_58) 47 t46_58) 48 t48_60) 49 x0) 50 t50_65) 51 t51_67) 52 t52_69) 53 t53_71) w72)) (
  K39 .normal (pf 62 (pf 62 (pf 62 (pf 62 (pf 62 (pf 62 (pf 62 (pf 62 (pf 62 (pf 62 (pf 62 (pf 62 (pf 62 (pf 62 (pf 62 (pf 62 (pf 62 (pf 62 (pf 62 (pf 62 (pf 62 (pf 62 (pf 62 (pf 62 (pf 62 (pf 62 (pf 62 (pf 62 (pf 62 (pf 62 (pf 62 (pf 62 (pf 62 (pf 62 (pf 62 (pf 62 (pf 62 (pf 62 (pf 62 (pf 62 (pf 62 (pf 62 (pf 62 (pf 62 (argF [x0, x1, x2]) 4 t4_0) 6 (.int .i64 0)) 11 x0) 12 t12_2) 13 t13_4) 14 t14_6) 15 t15_8) 16 t16_10) 10 t16_10) 17 t17_12) 18 t18_14) 7 t17_12) 8 t18_14) 20 x2) 21 t21_16) 22 t22_18) 19 t22_18) 24 t18_14) 25 t18_14) 26 t26_20) 27 t27_22) 28 t28_24) 29 t29_26) 30 t30_28) 23 t30_28) 32 t18_14) 31 t18_14) 34 x0) 35 t35_30) 36 t36_32) 37 t37_34) 38 t38_36) 33 t38_36) 39 x0) 40 t40_46) 41 t41_48) 42 t42_50) 43 t43_52) 44 x2) 45 t45_54) 46 t46_58) 9 t46_58) 47 t46_58) 48 t48_60) w61)))))
theorem c15_eq (x0 x1 x2 : Value) (w : World) (K : VPost) : c15 x0 x1 x2 w K = WP true Tryz.prog 62 [(1, 0, [0, 1, 2, 4, 0, 24, 32, 64, 64, 255, 1023], [0, 1, 3, 7, 0, 31, 63, 127, 127, 255, 1023]), (10, 192, [0, 1, 2, 4, 0, 0, 48, 72, 255], [0, 1, 3, 7, 0, 0, 48, 127, 255])] (bodyOf Tryz.f15) (argF [x0, x1, x2]) w [.tmp 6] K := by kernel_rfl
theorem c15_calls (x0 x1 x2 : Value) (w : World) (K : VPost) (h : c15 x0 x1 x2 w K) : Calls Tryz.prog 15 #[x0, x1, x2] w (retK K) :=
  calls_of_WP (c15_eq x0 x1 x2 w K) mixedG Tryz.func15 (by kernel_rfl) Tryz.ntmps15 (by kernel_rfl) (by kernel_rfl) h

/-- (*imprimatur/vault.Vault).Keep -/
def c27 (x0 x1 : Value) (w : World) (K : VPost) : Prop :=
  boxW 57 x1 w fun t3_0 w1 =>
  nilW x0 w1 fun t12_2 w3 =>
  offW (some 3) t12_2 w3 fun t13_4 w5 =>
  loadW (some (false, 1)) t13_4 w5 fun t14_6 w7 =>
  fnW Tryz.prog 42 #[t14_6] w7 fun t15_8 w9 =>
  insW Tryz.prog (Instr.makeFunc (.func 44) #[] #[t3_0]) w9 fun t16_10 w11 =>
  fnW Tryz.prog 43 #[t15_8, t16_10] w11 fun t17_12 w13 =>
  nilW x0 w13.drew fun t20_14 w15 =>
  offW (some 0) t20_14 w15 fun t21_16 w17 =>
  loadW (some (false, 1)) t21_16 w17 fun t22_18 w19 =>
  fnW Tryz.prog 32 #[x0, t17_12] w19 fun t25_20 w21 =>
  (loadW (some (false, 1)) t21_16 w21 fun t22_22 w23 => t22_22 = t22_18 ∧ w23 = w21) ∧
  fnW Tryz.prog 31 #[t22_18, t25_20] w21 fun t26_24 w25 =>
  extrW t26_24 0 w25 fun t27_26 w27 =>
  extrW t26_24 1 w27 fun t28_28 w29 =>
  binN Tryz.prog .neq 26 true t28_28 (.int .i64 0) w29 fun t30_30 w31 =>
  condW t30_30 (
  K t28_28 w31) (
  insW Tryz.prog (Instr.makeMap 67 none) w31 fun t32_32 w33 =>
  bindX (endW Tryz.prog [.tmp 4] K) fun K34 =>
  bindX (seqX (fun f36 w37 =>
  nilW (f36 0) w37 fun t54_38 w39 =>
  offW (some 1) t54_38 w39 fun t55_40 w41 =>
  storeW (some (false, 1)) t55_40 (f36 6) w41 fun w42 =>
  nilW (f36 0) w42 fun t56_43 w44 =>
  offW (some 3) t56_43 w44 fun t57_45 w46 =>
  storeW (some (false, 1)) t57_45 (f36 5) w46 fun w47 =>
  nilW (f36 0) w47 fun t58_48 w49 =>
  offW (some 2) t58_48 w49 fun t59_50 w51 =>
  storeW (some (false, 1)) t59_50 (f36 8) w51 fun w52 =>
  K (.int .i64 0) w52) K34) fun K35 =>
  lenW Tryz.prog (some true) #[57] 3 #[t17_12] w33 fun t34_53 w54 =>
  bindX (blkX 0 K35) fun K55 =>
  loopW (fun f56 w57 K58 =>
  binN Tryz.prog .lss 3 false (f56 35) (f56 34) w57 fun t36_59 w60 =>
  condW t36_59 (
  idxW (some (none, 32)) (f56 33) (f56 35) w60 fun t37_61 w62 =>
  loadW (some (true, 32)) t37_61 w62 fun t38_63 w64 =>
  allocW (zeroO Tryz.prog 34) 34 w64 fun t10_65 w66 =>
  storeW (some (true, 32)) t10_65 t38_63 w66 fun w67 =>
  loadW (some (true, 32)) t10_65 w67.drew fun t40_68 w69 =>
  nilW (f56 0) w69 fun t42_70 w71 =>
  offW (some 2) t42_70 w71 fun t43_72 w73 =>
  loadW (some (false, 1)) t43_72 w73 fun t44_74 w75 =>
  loadW (some (true, 32)) t10_65 w75 fun t45_76 w77 =>
  insW Tryz.prog (Instr.lookup 67 t44_74 t45_76 false) w77 fun t46_78 w79 =>
  w79 = w77 ∧
  actW Tryz.prog (Instr.mapUpdate 67 (f56 8) t40_68 t46_78) w79 fun w80 =>
  binN Tryz.prog .add 3 true (f56 35) (.int .i64 1) w80 fun t47_81 w82 =>
  K58 .normal (pf 60 (pf 60 (pf 60 (pf 60 (pf 60 (pf 60 (pf 60 (pf 60 (pf 60 (pf 60 (pf 60 (pf 60 (pf 60 (pf 60 f56 36 t36_59) 37 t37_61) 38 t38_63) 10 t10_65) 39 (f56 8)) 40 t40_68) 41 (f56 0)) 42 t42_70) 43 t43_72) 44 t44_74) 45 t45_76) 46 t46_78) 47 t47_81) 35 t47_81) w82) (
  K58 (.exit 0) (pf 60 f56 36 t36_59) w60)) (pf 60 (pf 60 (pf 60 (pf 60 (pf 60 (pf 60 (pf 60 (pf 60 (pf 60 (pf 60 (pf 60 (pf 60 (pf 60 (pf 60 (pf 60 (pf 60 (pf 60 (pf 60 (pf 60 (pf 60 (pf 60 (pf 60 (pf 60 (pf 60 (pf 60 (pf 60 (pf 60 (pf 60 (pf 60 (pf 60 (argF [x0, x1]) 3 t3_0) 4 (.int .i64 0)) 11 x0) 12 t12_2) 13 t13_4) 14 t14_6) 15 t15_8) 16 t16_10) 17 t17_12) 5 t17_12) 19 x0) 20 t20_14) 21 t21_16) 22 t22_18) 23 x0) 24 t17_12) 25 t25_20) 26 t26_24) 18 t26_24) 27 t27_26) 28 t28_28) 6 t27_26) 7 t28_28) 29 t28_28) 30 t30_30) 32 t32_32) 8 t32_32) 33 t17_12) 34 t34_53) 35 (.int .i64 0)) w54 K55)
theorem c27_eq (x0 x1 : Value) (w : World) (K : VPost) : c27 x0 x1 w K = WP true Tryz.prog 60 [(2, 192, [0, 1, 2, 4, 0, 0, 48, 72, 128, 256, 256, 1023, 4095], [0, 1, 3, 7, 0, 0, 48, 127, 255, 511, 511, 1023, 4095]), (9, 256, [0, 0, 0, 4, 8, 16, 0, 96, 255], [0, 0, 0, 4, 12, 28, 0, 124, 255])] (bodyOf Tryz.f27) (argF [x0, x1]) w [.tmp 4] K := by kernel_rfl
theorem c27_calls (x0 x1 : Value) (w : World) (K : VPost) (h : c27 x0 x1 w K) : Calls Tryz.prog 27 #[x0, x1] w (retK K) :=
  calls_of_WP (c27_eq x0 x1 w K) mixedG Tryz.func27 (by kernel_rfl) Tryz.ntmps27 (by kernel_rfl) (by kernel_rfl) h

/-- (*imprimatur/vault.Vault).Keep$1 -/
def c44 (x0 x1 : Value) (w : World) (K : VPost) : Prop :=
  boxW 34 x0 w fun t2_0 w1 =>
  loadW (some (false, 1)) x1 w1 fun t4_2 w3 =>
  loadW (some (true, 32)) t2_0 w3 fun t5_4 w5 =>
  fnW Tryz.prog 45 #[t4_2, t5_4] w5 fun t6_6 w7 =>
  unN Tryz.prog .not t6_6 w7 fun t7_8 w9 =>
  K t7_8 w9
theorem c44_eq (x0 x1 : Value) (w : World) (K : VPost) : c44 x0 x1 w K = WP true Tryz.prog 8 [] (bodyOf Tryz.f44) (argF [x0, x1]) w [.tmp 3] K := by kernel_rfl
theorem c44_calls (x0 x1 : Value) (w : World) (K : VPost) (h : c44 x0 x1 w K) : Calls Tryz.prog 44 #[x0, x1] w (retK K) :=
  calls_of_WP (c44_eq x0 x1 w K) mixedG Tryz.func44 (by kernel_rfl) Tryz.ntmps44 (by kernel_rfl) (by kernel_rfl) h

/-- (*imprimatur/vault.Vault).Flush -/
def c21 (x0 : Value) (w : World) (K : VPost) : Prop :=
  nilW x0 w fun t4_0 w1 =>
  offW (some 1) t4_0 w1 fun t5_2 w3 =>
  loadW (some (false, 1)) t5_2 w3 fun t6_4 w5 =>
  binW Tryz.prog .eql 64 true t6_4 (.pointer none) w5 fun t7_6 w7 =>
  condW t7_6 (
  K (.int .i64 0) w7) (
  nilW x0 w7 fun t9_8 w9 =>
  offW (some 1) t9_8 w9 fun t10_10 w11 =>
  loadW (some (false, 1)) t10_10 w11 fun t11_12 w13 =>
  fnW Tryz.prog 39 #[t11_12] w13 fun t12_14 w15 =>
  K t12_14 w15)
theorem c21_eq (x0 : Value) (w : World) (K : VPost) : c21 x0 w K = WP true Tryz.prog 13 [] (bodyOf Tryz.f21) (argF [x0]) w [.tmp 2] K := by kernel_rfl
theorem c21_calls (x0 : Value) (w : World) (K : VPost) (h : c21 x0 w K) : Calls Tryz.prog 21 #[x0] w (retK K) :=
  calls_of_WP (c21_eq x0 w K) mixedG Tryz.func21 (by kernel_rfl) Tryz.ntmps21 (by kernel_rfl) (by kernel_rfl) h

/-- (*imprimatur/vault.Vault).Get -/
def c25 (x0 x1 : Value) (w : World) (K : VPost) : Prop :=
  boxW 34 x1 w fun t3_0 w1 =>
  nilW x0 w1.drew fun t10_2 w3 =>
  offW (some 2) t10_2 w3 fun t11_4 w5 =>
  loadW (some (false, 1)) t11_4 w5 fun t12_6 w7 =>
  loadW (some (true, 32)) t3_0 w7 fun t13_8 w9 =>
  insW Tryz.prog (Instr.lookup 67 t12_6 t13_8 true) w9 fun t14_10 w11 =>
  w11 = w9 ∧
  extrW t14_10 0 w11 fun t15_12 w13 =>
  extrW t14_10 1 w13 fun t16_14 w15 =>
  fnW Tryz.prog 41 #[t15_12] w15 fun t18_16 w17 =>
  K (.tuple #[t18_16, t16_14]) w17
theorem c25_eq (x0 x1 : Value) (w : World) (K : VPost) : c25 x0 x1 w K = WP true Tryz.prog 20 [(1, 0, [0, 1, 2, 4, 0, 24, 32, 64, 64, 255, 1023], [0, 1, 3, 7, 0, 31, 63, 127, 127, 255, 1023])] (bodyOf Tryz.f25) (argF [x0, x1]) w [.tmp 4, .tmp 5] K := by kernel_rfl
theorem c25_calls (x0 x1 : Value) (w : World) (K : VPost) (h : c25 x0 x1 w K) : Calls Tryz.prog 25 #[x0, x1] w (retK K) :=
  calls_of_WP (c25_eq x0 x1 w K) mixedG Tryz.func25 (by kernel_rfl) Tryz.ntmps25 (by kernel_rfl) (by kernel_rfl) h

/-- (*imprimatur/vault.Vault).Len -/
def c18 (x0 : Value) (w : World) (K : VPost) : Prop :=
  nilW x0 w fun t4_0 w1 =>
  offW (some 3) t4_0 w1 fun t5_2 w3 =>
  loadW (some (false, 1)) t5_2 w3 fun t6_4 w5 =>
  lenW Tryz.prog (some true) #[57] 3 #[t6_4] w5 fun t7_6 w7 =>
  K t7_6 w7
theorem c18_eq (x0 : Value) (w : World) (K : VPost) : c18 x0 w K = WP true Tryz.prog 8 [] (bodyOf Tryz.f18) (argF [x0]) w [.tmp 2] K := by kernel_rfl
theorem c18_calls (x0 : Value) (w : World) (K : VPost) (h : c18 x0 w K) : Calls Tryz.prog 18 #[x0] w (retK K) :=
  calls_of_WP (c18_eq x0 w K) mixedG Tryz.func18 (by kernel_rfl) Tryz.ntmps18 (by kernel_rfl) (by kernel_rfl) h

/-- (*imprimatur/vault.Vault).Sound -/
def c19 (x0 : Value) (w : World) (K : VPost) : Prop :=
  nilW x0 w fun t4_0 w1 =>
  offW (some 1) t4_0 w1 fun t5_2 w3 =>
  loadW (some (false, 1)) t5_2 w3 fun t6_4 w5 =>
  binW Tryz.prog .neq 64 true t6_4 (.pointer none) w5 fun t7_6 w7 =>
  K t7_6 w7
theorem c19_eq (x0 : Value) (w : World) (K : VPost) : c19 x0 w K = WP true Tryz.prog 8 [] (bodyOf Tryz.f19) (argF [x0]) w [.tmp 2] K := by kernel_rfl
theorem c19_calls (x0 : Value) (w : World) (K : VPost) (h : c19 x0 w K) : Calls Tryz.prog 19 #[x0] w (retK K) :=
  calls_of_WP (c19_eq x0 w K) mixedG Tryz.func19 (by kernel_rfl) Tryz.ntmps19 (by kernel_rfl) (by kernel_rfl) h

/-- (*imprimatur/vault.Vault).Keys -/
def c26 (x0 : Value) (w : World) (K : VPost) : Prop :=
  nilW x0 w fun t4_0 w1 =>
  offW (some 3) t4_0 w1 fun t5_2 w3 =>
  loadW (some (false, 1)) t5_2 w3 fun t6_4 w5 =>
  fnW Tryz.prog 42 #[t6_4] w5 fun t7_6 w7 =>
  K t7_6 w7
theorem c26_eq (x0 : Value) (w : World) (K : VPost) : c26 x0 w K = WP true Tryz.prog 8 [] (bodyOf Tryz.f26) (argF [x0]) w [.tmp 2] K := by kernel_rfl
theorem c26_calls (x0 : Value) (w : World) (K : VPost) (h : c26 x0 w K) : Calls Tryz.prog 26 #[x0] w (retK K) :=
  calls_of_WP (c26_eq x0 w K) mixedG Tryz.func26 (by kernel_rfl) Tryz.ntmps26 (by kernel_rfl) (by kernel_rfl) h

/-- (*imprimatur/vault.Vault).Free -/
def c11 (x0 : Value) (w : World) (K : VPost) : Prop :=
  nilW x0 w fun t4_0 w1 =>
  offW (some 1) t4_0 w1 fun t5_2 w3 =>
  loadW (some (false, 1)) t5_2 w3 fun t6_4 w5 =>
  binW Tryz.prog .eql 64 true t6_4 (.pointer none) w5 fun t7_6 w7 =>
  condW t7_6 (
  K (.int .i64 0) w7) (
  nilW x0 w7 fun t9_8 w9 =>
  offW (some 1) t9_8 w9 fun t10_10 w11 =>
  loadW (some (false, 1)) t10_10 w11 fun t11_12 w13 =>
  fnW Tryz.prog 33 #[t11_12] w13 fun t12_14 w15 =>
  K t12_14 w15)
theorem c11_eq (x0 : Value) (w : World) (K : VPost) : c11 x0 w K = WP true Tryz.prog 13 [] (bodyOf Tryz.f11) (argF [x0]) w [.tmp 2] K := by kernel_rfl
theorem c11_calls (x0 : Value) (w : World) (K : VPost) (h : c11 x0 w K) : Calls Tryz.prog 11 #[x0] w (retK K) :=
  calls_of_WP (c11_eq x0 w K) mixedG Tryz.func11 (by kernel_rfl) Tryz.ntmps11 (by kernel_rfl) (by kernel_rfl) h

/-- (*imprimatur/vault.Vault).load -/
def c29 (x0 x1 : Value) (w : World) (K : VPost) : Prop :=
  lenW Tryz.prog (some true) #[71] 3 #[x1] w fun t7_0 w1 =>
  bindX (endW Tryz.prog [] K) fun K2 =>
  bindX (blkX 0 K2) fun K3 =>
  loopW (fun f4 w5 K6 =>
  binN Tryz.prog .lss 3 false (f4 8) (f4 7) w5 fun t9_7 w8 =>
  condW t9_7 (
  bindX (seqX (fun f10 w11 =>
  binN Tryz.prog .add 3 true (f10 8) (.int .i64 1) w11 fun t28_12 w13 =>
  K6 .normal (pf 29 (pf 29 f10 28 t28_12) 8 t28_12) w13) K6) fun K9 =>
  bindX (blkX 1 K9) fun _ =>
  idxW (some (none, 1)) (f4 6) (f4 8) w8 fun t10_15 w16 =>
  loadW (some (false, 1)) t10_15 w16 fun t11_17 w18 =>
  lenW Tryz.prog (some true) #[36] 3 #[t11_17] w18 fun t13_19 w20 =>
  binN Tryz.prog .geq 3 true t13_19 (.int .i64 32) w20 fun t14_21 w22 =>
  gstep t14_21 true w22 (fun K => K t11_17 w22) fun t16_23 w24 =>
  gstep t14_21 true w24 (fun K => lenW Tryz.prog (some true) #[36] 3 #[t16_23] w24 K) fun t17_25 w26 =>
  gstep t14_21 true w26 (fun K => binN Tryz.prog .leq 3 true t17_25 (.int .i64 1032) w26 K) fun t18_27 w28 =>
  pickW t14_21 t18_27 (.bool false) w28 fun t19_29 w30 =>
  condW t19_29 (
  sliceW (.sl 1) t11_17 none (some (.int .i64 32)) none w30.drew fun t22_31 w32 =>
  sliceW (.sl 1) t11_17 (some (.int .i64 32)) none none w32 fun t26_33 w34 =>
  genW Tryz.prog (do pure (Next.value (← Instr.arrayAt 34 t22_31))) w34 fun t23_35 w36 =>
  loadW (some (true, 32)) t23_35 w36 fun t24_37 w38 =>
  fnW Tryz.prog 38 #[(f4 0), t24_37, t26_33] w38 fun t27_39 w40 =>
  K9 .normal (pf 29 (pf 29 (pf 29 (pf 29 (pf 29 (pf 29 (pf 29 (pf 29 (pf 29 (pf 29 (pf 29 (pf 29 (pf 29 (pf 29 (pf 29 (pf 29 (pf 29 (pf 29 (pf 29 (pf 29 f4 9 t9_7) 10 t10_15) 11 t11_17) 5 t11_17) 12 t11_17) 13 t13_19) 14 t14_21) 15 t14_21) 16 t16_23) 17 t17_25) 18 t18_27) 19 t19_29) 20 (f4 0)) 21 t11_17) 22 t22_31) 25 t11_17) 26 t26_33) 23 t23_35) 24 t24_37) 27 t27_39) w40) (
  K9 .normal (pf 29 (pf 29 (pf 29 (pf 29 (pf 29 (pf 29 (pf 29 (pf 29 (pf 29 (pf 29 (pf 29 (pf 29 f4 9 t9_7) 10 t10_15) 11 t11_17) 5 t11_17) 12 t11_17) 13 t13_19) 14 t14_21) 15 t14_21) 16 t16_23) 17 t17_25) 18 t18_27) 19 t19_29) w30)) (
  K6 (.exit 0) (pf 29 f4 9 t9_7) w8)) (pf 29 (pf 29 (pf 29 (argF [x0, x1]) 6 x1) 7 t7_0) 8 (.int .i64 0)) w1 K3
theorem c29_eq (x0 x1 : Value) (w : World) (K : VPost) : c29 x0 x1 w K = WP true Tryz.prog 29 [(4, 136, [0, 0, 2, 4, 8, 0, 32, 81], [0, 0, 2, 6, 14, 0, 32, 127])] (bodyOf Tryz.f29) (argF [x0, x1]) w [] K := by kernel_rfl
theorem c29_calls (x0 x1 : Value) (w : World) (K : VPost) (h : c29 x0 x1 w K) : Calls Tryz.prog 29 #[x0, x1] w (retK K) :=
  calls_of_WP (c29_eq x0 x1 w K) mixedG Tryz.func29 (by kernel_rfl) Tryz.ntmps29 (by kernel_rfl) (by kernel_rfl) h

/-- (*imprimatur/vault.Vault).records -/
def c32 (x0 x1 : Value) (w : World) (K : VPost) : Prop :=
  bindX (endW Tryz.prog [.tmp 4] K) fun K0 =>
  bindX (seqX (fun f2 w3 =>
  K (f2 5) w3) K0) fun K1 =>
  lenW Tryz.prog (some true) #[57] 3 #[x1] w fun t9_4 w5 =>
  bindX (blkX 0 K1) fun K6 =>
  loopW (fun f7 w8 K9 =>
  binN Tryz.prog .lss 3 false (f7 10) (f7 9) w8 fun t11_10 w11 =>
  condW t11_10 (
  idxW (some (none, 32)) (f7 8) (f7 10) w11 fun t12_12 w13 =>
  loadW (some (true, 32)) t12_12 w13 fun t13_14 w15 =>
  allocW (zeroO Tryz.prog 34) 34 w15 fun t7_16 w17 =>
  storeW (some (true, 32)) t7_16 t13_14 w17 fun w18 =>
  loadW (some (true, 32)) t7_16 w18.drew fun t15_19 w20 =>
  nilW (f7 0) w20 fun t17_21 w22 =>
  offW (some 2) t17_21 w22 fun t18_23 w24 =>
  loadW (some (false, 1)) t18_23 w24 fun t19_25 w26 =>
  loadW (some (true, 32)) t7_16 w26 fun t20_27 w28 =>
  insW Tryz.prog (Instr.lookup 67 t19_25 t20_27 false) w28 fun t21_29 w30 =>
  w30 = w28 ∧
  fnW Tryz.prog 36 #[t15_19, t21_29] w30 fun t22_31 w32 =>
  insW Tryz.prog (Instr.buildSlice 71 1 #[(0, t22_31)]) w32 fun t23_33 w34 =>
  insW Tryz.prog (Builtin.append_ #[71, 71] 71 #[(f7 5), t23_33]) w34 fun t24_35 w36 =>
  binN Tryz.prog .add 3 true (f7 10) (.int .i64 1) w36 fun t25_37 w38 =>
  K9 .normal (pf 27 (pf 27 (pf 27 (pf 27 (pf 27 (pf 27 (pf 27 (pf 27 (pf 27 (pf 27 (pf 27 (pf 27 (pf 27 (pf 27 (pf 27 (pf 27 (pf 27 (pf 27 f7 11 t11_10) 12 t12_12) 13 t13_14) 7 t7_16) 14 (f7 5)) 15 t15_19) 16 (f7 0)) 17 t17_21) 18 t18_23) 19 t19_25) 20 t20_27) 21 t21_29) 22 t22_31) 23 t23_33) 24 t24_35) 5 t24_35) 25 t25_37) 10 t25_37) w38) (
  K9 (.exit 0) (pf 27 f7 11 t11_10) w11)) (pf 27 (pf 27 (pf 27 (pf 27 (pf 27 (argF [x0, x1]) 4 (.slice none 0 0)) 5 (.slice none 0 0)) 8 x1) 9 t9_4) 10 (.int .i64 0)) w5 K6
theorem c32_eq (x0 x1 : Value) (w : World) (K : VPost) : c32 x0 x1 w K = WP true Tryz.prog 27 [(5, 3840, [0, 0, 0, 4, 8, 16, 0, 96, 130, 256, 769, 2047], [0, 0, 0, 4, 12, 28, 0, 124, 254, 510, 1023, 2047])] (bodyOf Tryz.f32) (argF [x0, x1]) w [.tmp 4] K := by kernel_rfl
theorem c32_calls (x0 x1 : Value) (w : World) (K : VPost) (h : c32 x0 x1 w K) : Calls Tryz.prog 32 #[x0, x1] w (retK K) :=
  calls_of_WP (c32_eq x0 x1 w K) mixedG Tryz.func32 (by kernel_rfl) Tryz.ntmps32 (by kernel_rfl) (by kernel_rfl) h

/-- imprimatur/vault.record -/
def c36 (x0 x1 : Value) (w : World) (K : VPost) : Prop :=
  boxW 34 x0 w fun t2_0 w1 =>
  sliceW (.arr 32 1) t2_0 none none none w1 fun t5_2 w3 =>
  fnW Tryz.prog 56 #[t5_2] w3 fun t6_4 w5 =>
  insW Tryz.prog (Builtin.append_ #[36, 36] 36 #[t6_4, x1]) w5 fun t8_6 w7 =>
  K t8_6 w7
theorem c36_eq (x0 x1 : Value) (w : World) (K : VPost) : c36 x0 x1 w K = WP true Tryz.prog 9 [] (bodyOf Tryz.f36) (argF [x0, x1]) w [.tmp 4] K := by kernel_rfl
theorem c36_calls (x0 x1 : Value) (w : World) (K : VPost) (h : c36 x0 x1 w K) : Calls Tryz.prog 36 #[x0, x1] w (retK K) :=
  calls_of_WP (c36_eq x0 x1 w K) mixedG Tryz.func36 (by kernel_rfl) Tryz.ntmps36 (by kernel_rfl) (by kernel_rfl) h

/-- (*imprimatur/vault.Vault).note -/
def c38 (x0 x1 x2 : Value) (w : World) (K : VPost) : Prop :=
  boxW 34 x1 w fun t4_0 w1 =>
  nilW x0 w1.drew fun t10_2 w3 =>
  offW (some 2) t10_2 w3 fun t11_4 w5 =>
  loadW (some (false, 1)) t11_4 w5 fun t12_6 w7 =>
  loadW (some (true, 32)) t4_0 w7 fun t13_8 w9 =>
  insW Tryz.prog (Instr.lookup 67 t12_6 t13_8 true) w9 fun t14_10 w11 =>
  w11 = w9 ∧
  extrW t14_10 0 w11 fun _ w13 =>
  extrW t14_10 1 w13 fun t16_14 w15 =>
  condW t16_14 (
  K (.tuple #[]) w15) (
  nilW x0 w15.drew fun t19_16 w17 =>
  offW (some 2) t19_16 w17 fun t20_18 w19 =>
  loadW (some (false, 1)) t20_18 w19 fun t21_20 w21 =>
  loadW (some (true, 32)) t4_0 w21 fun t22_22 w23 =>
  fnW Tryz.prog 41 #[x2] w23 fun t24_24 w25 =>
  (loadW (some (false, 1)) t20_18 w25 fun t21_26 w27 => t21_26 = t21_20 ∧ w27 = w25) ∧
  (loadW (some (true, 32)) t4_0 w25 fun t22_28 w29 => t22_28 = t22_22 ∧ w29 = w25) ∧
  actW Tryz.prog (Instr.mapUpdate 67 t21_20 t22_22 t24_24) w25 fun w30 =>
  nilW x0 w30.drew fun t27_31 w32 =>
  offW (some 3) t27_31 w32 fun t28_33 w34 =>
  loadW (some (false, 1)) t28_33 w34 fun t29_35 w36 =>
  loadW (some (true, 32)) t4_0 w36 fun t30_37 w38 =>
  insW Tryz.prog (Instr.buildSlice 57 1 #[(0, t30_37)]) w38 fun t31_39 w40 =>
  (loadW (some (false, 1)) t28_33 w40 fun t29_41 w42 => t29_41 = t29_35 ∧ w42 = w40) ∧
  insW Tryz.prog (Builtin.append_ #[57, 57] 57 #[t29_35, t31_39]) w40 fun t32_43 w44 =>
  nilW x0 w44 fun t33_45 w46 =>
  offW (some 3) t33_45 w46 fun t34_47 w48 =>
  storeW (some (false, 1)) t34_47 t32_43 w48 fun w49 =>
  K (.tuple #[]) w49)
theorem c38_eq (x0 x1 x2 : Value) (w : World) (K : VPost) : c38 x0 x1 x2 w K = WP true Tryz.prog 35 [(1, 0, [0, 1, 2, 4, 0, 24, 32, 64, 64, 255, 1023], [0, 1, 3, 7, 0, 31, 63, 127, 127, 255, 1023]), (3, 192, [0, 1, 2, 4, 0, 0, 32, 127], [0, 1, 3, 7, 0, 0, 32, 127]), (4, 1216, [0, 0, 2, 4, 8, 0, 32, 80, 255, 511, 767], [0, 0, 2, 6, 14, 0, 32, 126, 255, 511, 1023])] (bodyOf Tryz.f38) (argF [x0, x1, x2]) w [] K := by kernel_rfl
theorem c38_calls (x0 x1 x2 : Value) (w : World) (K : VPost) (h : c38 x0 x1 x2 w K) : Calls Tryz.prog 38 #[x0, x1, x2] w (retK K) :=
  calls_of_WP (c38_eq x0 x1 x2 w K) mixedG Tryz.func38 (by kernel_rfl) Tryz.ntmps38 (by kernel_rfl) (by kernel_rfl) h

/-- slices.Clone[[]byte,byte] -/
def c56 (x0 : Value) (w : World) (K : VPost) : Prop :=
  binW Tryz.prog .eql 36 true x0 (.slice none 0 0) w fun t4_0 w1 =>
  condW t4_0 (
  K (.slice none 0 0) w1) (
  insW Tryz.prog (Instr.buildSlice 36 0 #[]) w1 fun t5_2 w3 =>
  insW Tryz.prog (Builtin.append_ #[36, 36] 36 #[t5_2, x0]) w3 fun t7_4 w5 =>
  K t7_4 w5)
theorem c56_eq (x0 : Value) (w : World) (K : VPost) : c56 x0 w K = WP true Tryz.prog 8 [] (bodyOf Tryz.f56) (argF [x0]) w [.tmp 2] K := by kernel_rfl
theorem c56_calls (x0 : Value) (w : World) (K : VPost) (h : c56 x0 w K) : Calls Tryz.prog 56 #[x0] w (retK K) :=
  calls_of_WP (c56_eq x0 w K) mixedG Tryz.func56 (by kernel_rfl) Tryz.ntmps56 (by kernel_rfl) (by kernel_rfl) h

/-- slices.Clone[[]imprimatur/api.Digest,imprimatur/api.Digest] -/
def c42 (x0 : Value) (w : World) (K : VPost) : Prop :=
  binW Tryz.prog .eql 57 true x0 (.slice none 0 0) w fun t4_0 w1 =>
  condW t4_0 (
  K (.slice none 0 0) w1) (
  insW Tryz.prog (Instr.buildSlice 57 0 #[]) w1 fun t5_2 w3 =>
  insW Tryz.prog (Builtin.append_ #[57, 57] 57 #[t5_2, x0]) w3 fun t7_4 w5 =>
  K t7_4 w5)
theorem c42_eq (x0 : Value) (w : World) (K : VPost) : c42 x0 w K = WP true Tryz.prog 8 [] (bodyOf Tryz.f42) (argF [x0]) w [.tmp 2] K := by kernel_rfl
theorem c42_calls (x0 : Value) (w : World) (K : VPost) (h : c42 x0 w K) : Calls Tryz.prog 42 #[x0] w (retK K) :=
  calls_of_WP (c42_eq x0 w K) mixedG Tryz.func42 (by kernel_rfl) Tryz.ntmps42 (by kernel_rfl) (by kernel_rfl) h

/-- slices.Contains[[]imprimatur/api.Digest,imprimatur/api.Digest] -/
def c45 (x0 x1 : Value) (w : World) (K : VPost) : Prop :=
  boxW 34 x1 w fun t3_0 w1 =>
  loadW (some (true, 32)) t3_0 w1 fun t6_2 w3 =>
  fnW Tryz.prog 58 #[x0, t6_2] w3 fun t7_4 w5 =>
  binN Tryz.prog .geq 3 true t7_4 (.int .i64 0) w5 fun t8_6 w7 =>
  K t8_6 w7
theorem c45_eq (x0 x1 : Value) (w : World) (K : VPost) : c45 x0 x1 w K = WP true Tryz.prog 9 [] (bodyOf Tryz.f45) (argF [x0, x1]) w [.tmp 4] K := by kernel_rfl
theorem c45_calls (x0 x1 : Value) (w : World) (K : VPost) (h : c45 x0 x1 w K) : Calls Tryz.prog 45 #[x0, x1] w (retK K) :=
  calls_of_WP (c45_eq x0 x1 w K) mixedG Tryz.func45 (by kernel_rfl) Tryz.ntmps45 (by kernel_rfl) (by kernel_rfl) h

/-- slices.Index[[]imprimatur/api.Digest,imprimatur/api.Digest] -/
def c58 (x0 x1 : Value) (w : World) (K : VPost) : Prop :=
  boxW 34 x1 w fun t3_0 w1 =>
  bindX (endW Tryz.prog [.tmp 4] K) fun K2 =>
  bindX (seqX (fun _ w5 =>
  K (.int .i64 (-1)) w5) K2) fun K3 =>
  lenW Tryz.prog (some true) #[57] 3 #[x0] w1 fun t7_6 w7 =>
  bindX (blkX 0 K3) fun K8 =>
  loopW (fun f9 w10 K11 =>
  binN Tryz.prog .lss 3 false (f9 8) (f9 7) w10 fun t9_12 w13 =>
  condW t9_12 (
  loadW (some (true, 32)) (f9 3) w13.drew fun t11_14 w15 =>
  idxW (some (none, 32)) (f9 0) (f9 8) w15 fun t14_16 w17 =>
  loadW (some (true, 32)) t14_16 w17 fun t15_18 w19 =>
  binW Tryz.prog .eql 34 false t11_14 t15_18 w19 fun t16_20 w21 =>
  w21 = w19 ∧
  condW t16_20 (
  K11 .ret (pf 19 (pf 19 (pf 19 (pf 19 (pf 19 (pf 19 (pf 19 (pf 19 (pf 19 (pf 19 (pf 19 f9 9 t9_12) 10 (f9 8)) 5 (f9 8)) 11 t11_14) 12 (f9 0)) 13 (f9 8)) 14 t14_16) 15 t15_18) 16 t16_20) 17 (f9 8)) 4 (f9 8)) w21) (
  binN Tryz.prog .add 3 true (f9 8) (.int .i64 1) w21 fun t18_22 w23 =>
  K11 .normal (pf 19 (pf 19 (pf 19 (pf 19 (pf 19 (pf 19 (pf 19 (pf 19 (pf 19 (pf 19 (pf 19 f9 9 t9_12) 10 (f9 8)) 5 (f9 8)) 11 t11_14) 12 (f9 0)) 13 (f9 8)) 14 t14_16) 15 t15_18) 16 t16_20) 18 t18_22) 8 t18_22) w23)) (
  K11 (.exit 0) (pf 19 f9 9 t9_12) w13)) (pf 19 (pf 19 (pf 19 (pf 19 (pf 19 (argF [x0, x1]) 3 t3_0) 4 (.int .i64 0)) 6 x0) 7 t7_6) 8 (.int .i64 0)) w7 K8
theorem c58_eq (x0 x1 : Value) (w : World) (K : VPost) : c58 x0 x1 w K = WP true Tryz.prog 19 [(4, 0, [0, 0, 0, 6, 8, 17], [0, 0, 0, 6, 14, 31])] (bodyOf Tryz.f58) (argF [x0, x1]) w [.tmp 4] K := by kernel_rfl
theorem c58_calls (x0 x1 : Value) (w : World) (K : VPost) (h : c58 x0 x1 w K) : Calls Tryz.prog 58 #[x0, x1] w (retK K) :=
  calls_of_WP (c58_eq x0 x1 w K) mixedG Tryz.func58 (by kernel_rfl) Tryz.ntmps58 (by kernel_rfl) (by kernel_rfl) h

/-- slices.IndexFunc[[]imprimatur/api.Digest,imprimatur/api.Digest] -/
def c57 (x0 x1 : Value) (w : World) (K : VPost) : Prop :=
  bindX (endW Tryz.prog [.tmp 4] K) fun K0 =>
  bindX (seqX (fun _ w3 =>
  K (.int .i64 (-1)) w3) K0) fun K1 =>
  lenW Tryz.prog (some true) #[57] 3 #[x0] w fun t7_4 w5 =>
  bindX (blkX 0 K1) fun K6 =>
  loopW (fun f7 w8 K9 =>
  binN Tryz.prog .lss 3 false (f7 8) (f7 7) w8 fun t9_10 w11 =>
  condW t9_10 (
  idxW (some (none, 32)) (f7 0) (f7 8) w11 fun t14_12 w13 =>
  loadW (some (true, 32)) t14_12 w13 fun t15_14 w15 =>
  dynW Tryz.prog (f7 1) #[t15_14] w15 fun t16_16 w17 =>
  condW t16_16 (
  K9 .ret (pf 19 (pf 19 (pf 19 (pf 19 (pf 19 (pf 19 (pf 19 (pf 19 (pf 19 (pf 19 (pf 19 f7 9 t9_10) 10 (f7 8)) 5 (f7 8)) 11 (f7 1)) 12 (f7 0)) 13 (f7 8)) 14 t14_12) 15 t15_14) 16 t16_16) 17 (f7 8)) 4 (f7 8)) w17) (
  binN Tryz.prog .add 3 true (f7 8) (.int .i64 1) w17 fun t18_18 w19 =>
  K9 .normal (pf 19 (pf 19 (pf 19 (pf 19 (pf 19 (pf 19 (pf 19 (pf 19 (pf 19 (pf 19 (pf 19 f7 9 t9_10) 10 (f7 8)) 5 (f7 8)) 11 (f7 1)) 12 (f7 0)) 13 (f7 8)) 14 t14_12) 15 t15_14) 16 t16_16) 18 t18_18) 8 t18_18) w19)) (
  K9 (.exit 0) (pf 19 f7 9 t9_10) w11)) (pf 19 (pf 19 (pf 19 (pf 19 (argF [x0, x1]) 4 (.int .i64 0)) 6 x0) 7 t7_4) 8 (.int .i64 0)) w5 K6
theorem c57_eq (x0 x1 : Value) (w : World) (K : VPost) : c57 x0 x1 w K = WP true Tryz.prog 19 [] (bodyOf Tryz.f57) (argF [x0, x1]) w [.tmp 4] K := by kernel_rfl
theorem c57_calls (x0 x1 : Value) (w : World) (K : VPost) (h : c57 x0 x1 w K) : Calls Tryz.prog 57 #[x0, x1] w (retK K) :=
  calls_of_WP (c57_eq x0 x1 w K) mixedG Tryz.func57 (by kernel_rfl) Tryz.ntmps57 (by kernel_rfl) (by kernel_rfl) h

/-- slices.DeleteFunc[[]imprimatur/api.Digest,imprimatur/api.Digest] -/
def c43 (x0 x1 : Value) (w : World) (K : VPost) : Prop :=
  fnW Tryz.prog 57 #[x0, x1] w fun t10_0 w1 =>
  binN Tryz.prog .eql 3 true t10_0 (.int .i64 (-1)) w1 fun t12_2 w3 =>
  condW t12_2 (
  K x0 w3) (
  bindX (endW Tryz.prog [.tmp 4] K) fun K4 =>
  bindX (seqX (fun f6 w7 =>
  sliceW (.sl 32) (f6 0) (some (f6 5)) none none w7 fun t38_8 w9 =>
  insW Tryz.prog (Builtin.clear_ #[57] 0 #[t38_8]) w9 fun _ w11 =>
  sliceW (.sl 32) (f6 0) none (some (f6 5)) none w11 fun t41_12 w13 =>
  K t41_12 w13) K4) fun K5 =>
  binN Tryz.prog .add 3 true t10_0 (.int .i64 1) w3 fun t15_14 w15 =>
  bindX (blkX 0 K5) fun K16 =>
  loopW (fun f17 w18 K19 =>
  lenW Tryz.prog (some true) #[57] 3 #[(f17 0)] w18 fun t18_20 w21 =>
  binN Tryz.prog .lss 3 false (f17 6) t18_20 w21 fun t19_22 w23 =>
  condW t19_22 (
  bindX (seqX (fun f25 w26 =>
  binN Tryz.prog .add 3 true (f25 6) (.int .i64 1) w26 fun t21_27 w28 =>
  K19 .normal (pf 42 (pf 42 (pf 42 f25 20 (f25 6)) 21 t21_27) 6 t21_27) w28) K19) fun K24 =>
  bindX (blkX 1 K24) fun _ =>
  idxW (some (none, 32)) (f17 0) (f17 6) w23 fun t24_30 w31 =>
  loadW (some (true, 32)) t24_30 w31 fun t25_32 w33 =>
  allocW (zeroO Tryz.prog 34) 34 w33 fun t7_34 w35 =>
  storeW (some (true, 32)) t7_34 t25_32 w35 fun w36 =>
  loadW (some (true, 32)) t7_34 w36 fun t27_37 w38 =>
  dynW Tryz.prog (f17 1) #[t27_37] w38 fun t28_39 w40 =>
  unN Tryz.prog .not t28_39 w40 fun t29_41 w42 =>
  condW t29_41 (
  loadW (some (true, 32)) t7_34 w42 fun t32_43 w44 =>
  idxW (some (none, 32)) (f17 0) (f17 5) w44 fun t33_45 w46 =>
  storeW (some (true, 32)) t33_45 t32_43 w46 fun w47 =>
  binN Tryz.prog .add 3 true (f17 5) (.int .i64 1) w47 fun t35_48 w49 =>
  K24 .normal (pf 42 (pf 42 (pf 42 (pf 42 (pf 42 (pf 42 (pf 42 (pf 42 (pf 42 (pf 42 (pf 42 (pf 42 (pf 42 (pf 42 (pf 42 (pf 42 (pf 42 (pf 42 (pf 42 (pf 42 f17 16 (f17 6)) 17 (f17 0)) 18 t18_20) 19 t19_22) 22 (f17 0)) 23 (f17 6)) 24 t24_30) 25 t25_32) 7 t7_34) 26 (f17 1)) 27 t27_37) 28 t28_39) 29 t29_41) 30 (f17 0)) 31 (f17 5)) 32 t32_43) 33 t33_45) 34 (f17 5)) 35 t35_48) 5 t35_48) w49) (
  K24 .normal (pf 42 (pf 42 (pf 42 (pf 42 (pf 42 (pf 42 (pf 42 (pf 42 (pf 42 (pf 42 (pf 42 (pf 42 (pf 42 f17 16 (f17 6)) 17 (f17 0)) 18 t18_20) 19 t19_22) 22 (f17 0)) 23 (f17 6)) 24 t24_30) 25 t25_32) 7 t7_34) 26 (f17 1)) 27 t27_37) 28 t28_39) 29 t29_41) w42)) (
  K19 (.exit 0) (pf 42 (pf 42 (pf 42 (pf 42 f17 16 (f17 6)) 17 (f17 0)) 18 t18_20) 19 t19_22) w23)) (pf 42 (pf 42 (pf 42 (pf 42 (pf 42 (pf 42 (pf 42 (pf 42 (pf 42 (pf 42 (argF [x0, x1]) 4 (.slice none 0 0)) 8 x0) 9 x1) 10 t10_0) 5 t10_0) 11 t10_0) 12 t12_2) 14 t10_0) 15 t15_14) 6 t15_14) w15 K16)
theorem c43_eq (x0 x1 : Value) (w : World) (K : VPost) : c43 x0 x1 w K = WP true Tryz.prog 42 [] (bodyOf Tryz.f43) (argF [x0, x1]) w [.tmp 4] K := by kernel_rfl
theorem c43_calls (x0 x1 : Value) (w : World) (K : VPost) (h : c43 x0 x1 w K) : Calls Tryz.prog 43 #[x0, x1] w (retK K) :=
  calls_of_WP (c43_eq x0 x1 w K) mixedG Tryz.func43 (by kernel_rfl) Tryz.ntmps43 (by kernel_rfl) (by kernel_rfl) h

end Go.Proofs.YtedebapgmfnflaaGreatDoor

/- The clean forms of some of the program's functions, written by a program of ours; each is the model's own by the kernel's reckoning. -/
namespace Go.Proofs.YtedebapgmfnflaaGreatDoor
open Go
set_option maxRecDepth 100000

/-- imprimatur/imprimaturlaw06.key -/
def c9 (x0 : Value) (w : World) (K : VPost) : Prop :=
  allocW (zeroO Tryz.prog 34) 34 w fun t2_0 w1 =>
  insW Tryz.prog (Instr.build 34 #[(0, x0), (1, (.int .u8 0)), (2, (.int .u8 9))]) w1 fun t4_2 w3 =>
  storeW (some (true, 32)) t2_0 t4_2 w3 fun w4 =>
  loadW (some (true, 32)) t2_0 w4 fun r5 _ =>
  K r5 w4
theorem c9_eq (x0 : Value) (w : World) (K : VPost) : c9 x0 w K = WP true Tryz.prog 5 [] (bodyOf Tryz.f9) (argF [x0]) w [.cell 2 34] K := by kernel_rfl
theorem c9_calls (x0 : Value) (w : World) (K : VPost) (h : c9 x0 w K) : Calls Tryz.prog 9 #[x0] w (retK K) :=
  calls_of_WP (c9_eq x0 w K) mixedG Tryz.func9 (by kernel_rfl) Tryz.ntmps9 (by kernel_rfl) (by kernel_rfl) h

/-- imprimatur/imprimaturlaw06.entries -/
def c17 (x0 : Value) (w : World) (K : VPost) : Prop :=
  insW Tryz.prog (Instr.buildSlice 32 0 #[]) w fun t8_0 w1 =>
  fnW Tryz.prog 26 #[x0] w1 fun t10_2 w3 =>
  bindX (endW Tryz.prog [.tmp 2] K) fun K4 =>
  bindX (seqX (fun f6 w7 =>
  K (f6 3) w7) K4) fun K5 =>
  bindX (blkX 0 K5) fun K8 =>
  loopW (fun f9 w10 K11 =>
  lenW Tryz.prog (some true) #[57] 3 #[(f9 4)] w10 fun t13_12 w13 =>
  binN Tryz.prog .lss 3 false (f9 5) t13_12 w13 fun t14_14 w15 =>
  condW t14_14 (
  idxW (some (none, 32)) (f9 4) (f9 5) w15 fun t21_16 w17 =>
  loadW (some (true, 32)) t21_16 w17 fun t22_18 w19 =>
  fnW Tryz.prog 25 #[(f9 0), t22_18] w19 fun t23_20 w21 =>
  extrW t23_20 0 w21 fun t24_22 w23 =>
  extrW t23_20 1 w23 fun t25_24 w25 =>
  idxW (some (none, 32)) (f9 4) (f9 5) w25 fun t29_26 w27 =>
  loadW (some (true, 32)) t29_26 w27 fun t30_28 w29 =>
  insW Tryz.prog (Instr.build 46 #[(0, t30_28), (1, t24_22)]) w29 fun t32_30 w31 =>
  insW Tryz.prog (Instr.buildSlice 32 1 #[(0, t32_30)]) w31 fun t33_32 w33 =>
  insW Tryz.prog (Builtin.append_ #[32, 32] 32 #[(f9 3), t33_32]) w33 fun t34_34 w35 =>
  binN Tryz.prog .add 3 true (f9 5) (.int .i64 1) w35 fun t16_36 w37 =>
  K11 .normal (pf 36 (pf 36 (pf 36 (pf 36 (pf 36 (pf 36 (pf 36 (pf 36 (pf 36 (pf 36 (pf 36 (pf 36 (pf 36 (pf 36 (pf 36 (pf 36 (pf 36 (pf 36 (pf 36 (pf 36 (pf 36 (pf 36 (pf 36 (pf 36 (pf 36 (pf 36 (pf 36 (pf 36 f9 11 (f9 5)) 12 (f9 4)) 13 t13_12) 14 t14_14) 18 (f9 0)) 19 (f9 4)) 20 (f9 5)) 21 t21_16) 22 t22_18) 23 t23_20) 17 t23_20) 24 t24_22) 25 t25_24) 6 t24_22) 7 t25_24) 26 (f9 3)) 27 (f9 4)) 28 (f9 5)) 29 t29_26) 30 t30_28) 31 t24_22) 32 t32_30) 33 t33_32) 34 t34_34) 3 t34_34) 15 (f9 5)) 16 t16_36) 5 t16_36) w37) (
  K11 (.exit 0) (pf 36 (pf 36 (pf 36 (pf 36 f9 11 (f9 5)) 12 (f9 4)) 13 t13_12) 14 t14_14) w15)) (pf 36 (pf 36 (pf 36 (pf 36 (pf 36 (pf 36 (pf 36 (argF [x0]) 2 (.slice none 0 0)) 8 t8_0) 3 t8_0) 9 x0) 10 t10_2) 4 t10_2) 5 (.int .i64 0)) w3 K8
theorem c17_eq (x0 : Value) (w : World) (K : VPost) : c17 x0 w K = WP true Tryz.prog 36 [] (bodyOf Tryz.f17) (argF [x0]) w [.tmp 2] K := by kernel_rfl
theorem c17_calls (x0 : Value) (w : World) (K : VPost) (h : c17 x0 w K) : Calls Tryz.prog 17 #[x0] w (retK K) :=
  calls_of_WP (c17_eq x0 w K) mixedG Tryz.func17 (by kernel_rfl) Tryz.ntmps17 (by kernel_rfl) (by kernel_rfl) h

/-- imprimatur/imprimaturlaw06.keep -/
def c22 (x0 x1 x2 : Value) (w : World) (K : VPost) : Prop :=
  fnW Tryz.prog 17 #[x0] w fun t13_0 w1 =>
  insW Tryz.prog (Instr.buildSlice 57 0 #[]) w1 fun t14_2 w3 =>
  insW Tryz.prog (Instr.buildSlice 32 0 #[]) w3 fun t15_4 w5 =>
  bindX (endW Tryz.prog [.tmp 6] K) fun K6 =>
  bindX (seqX (fun f8 w9 =>
  fnW Tryz.prog 27 #[(f8 0), (f8 8)] w9 fun t46_10 w11 =>
  binN Tryz.prog .neq 26 true t46_10 (.int .i64 0) w11 fun t48_12 w13 =>
  condW t48_12 (
  binN Tryz.prog .neq 26 true t46_10 (.int .i64 15) w13 fun t50_14 w15 =>
  gstep t50_14 false w15 (fun K => K (f8 0) w15) fun t52_16 w17 =>
  gstep t50_14 false w17 (fun K => fnW Tryz.prog 17 #[t52_16] w17 K) fun t53_18 w19 =>
  gstep t50_14 false w19 (fun K => K (f8 7) w19) fun t54_20 w21 =>
  gstep t50_14 false w21 (fun K => fnW Tryz.prog 16 #[t53_18, t54_20] w21 K) fun t55_22 w23 =>
  gstep t50_14 false w23 (fun K => unN Tryz.prog .not t55_22 w23 K) fun t56_24 w25 =>
  pickW t50_14 (.bool true) t56_24 w25 fun t57_26 w27 =>
  condW t57_26 (
  K (.int .i64 (-1)) w27) (
  K (f8 2) w27)) (
  fnW Tryz.prog 17 #[(f8 0)] w13 fun t60_28 w29 =>
  fnW Tryz.prog 16 #[t60_28, (f8 9)] w29 fun t62_30 w31 =>
  unN Tryz.prog .not t62_30 w31 fun t63_32 w33 =>
  gstep t63_32 false w33 (fun K => K (f8 0) w33) fun t65_34 w35 =>
  gstep t63_32 false w35 (fun K => fnW Tryz.prog 19 #[t65_34] w35 K) fun t66_36 w37 =>
  gstep t63_32 false w37 (fun K => unN Tryz.prog .not t66_36 w37 K) fun t67_38 w39 =>
  pickW t63_32 (.bool true) t67_38 w39 fun t68_40 w41 =>
  condW t68_40 (
  K (.int .i64 (-1)) w41) (
  lenW Tryz.prog (some true) #[32] 3 #[(f8 9)] w41 fun t70_42 w43 =>
  K t70_42 w43))) K6) fun K7 =>
  bindX (blkX 0 K7) fun K44 =>
  loopW (fun f45 w46 K47 =>
  lenW Tryz.prog (some true) #[32] 3 #[(f45 7)] w46 fun t18_48 w49 =>
  binN Tryz.prog .lss 3 false (f45 10) t18_48 w49 fun t19_50 w51 =>
  condW t19_50 (
  bindX (seqX (fun f53 w54 =>
  binN Tryz.prog .add 3 true (f53 10) (.int .i64 1) w54 fun t21_55 w56 =>
  K47 .normal (pf 71 (pf 71 (pf 71 f53 20 (f53 10)) 21 t21_55) 10 t21_55) w56) K47) fun K52 =>
  bindX (blkX 1 K52) fun _ =>
  binN Tryz.prog .and 3 true (f45 10) (.int .i64 1) w51 fun t23_58 w59 =>
  binN Tryz.prog .eql 3 true t23_58 (.int .i64 0) w59 fun t24_60 w61 =>
  gstep t24_60 false w61 (fun K => K (f45 1) w61) fun t26_62 w63 =>
  gstep t24_60 false w63 (fun K => binN Tryz.prog .eql 3 true t26_62 (.int .i64 1) w63 K) fun t27_64 w65 =>
  pickW t24_60 (.bool true) t27_64 w65 fun t28_66 w67 =>
  condW t28_66 (
  idxW (some (none, 33)) (f45 7) (f45 10) w67 fun t32_68 w69 =>
  offW (some 0) t32_68 w69 fun t33_70 w71 =>
  loadW (some (true, 32)) t33_70 w71 fun t34_72 w73 =>
  insW Tryz.prog (Instr.buildSlice 57 1 #[(0, t34_72)]) w73 fun t35_74 w75 =>
  insW Tryz.prog (Builtin.append_ #[57, 57] 57 #[(f45 8), t35_74]) w75 fun t36_76 w77 =>
  idxW (some (none, 33)) (f45 7) (f45 10) w77 fun t40_78 w79 =>
  loadW (some (true, 33)) t40_78 w79 fun t41_80 w81 =>
  insW Tryz.prog (Instr.buildSlice 32 1 #[(0, t41_80)]) w81 fun t42_82 w83 =>
  insW Tryz.prog (Builtin.append_ #[32, 32] 32 #[(f45 9), t42_82]) w83 fun t43_84 w85 =>
  K52 .normal (pf 71 (pf 71 (pf 71 (pf 71 (pf 71 (pf 71 (pf 71 (pf 71 (pf 71 (pf 71 (pf 71 (pf 71 (pf 71 (pf 71 (pf 71 (pf 71 (pf 71 (pf 71 (pf 71 (pf 71 (pf 71 (pf 71 (pf 71 (pf 71 (pf 71 (pf 71 (pf 71 (pf 71 f45 16 (f45 10)) 17 (f45 7)) 18 t18_48) 19 t19_50) 22 (f45 10)) 23 t23_58) 24 t24_60) 25 t24_60) 26 t26_62) 27 t27_64) 28 t28_66) 29 (f45 8)) 30 (f45 7)) 31 (f45 10)) 32 t32_68) 33 t33_70) 34 t34_72) 35 t35_74) 36 t36_76) 8 t36_76) 37 (f45 9)) 38 (f45 7)) 39 (f45 10)) 40 t40_78) 41 t41_80) 42 t42_82) 43 t43_84) 9 t43_84) w85) (
  K52 .normal (pf 71 (pf 71 (pf 71 (pf 71 (pf 71 (pf 71 (pf 71 (pf 71 (pf 71 (pf 71 (pf 71 f45 16 (f45 10)) 17 (f45 7)) 18 t18_48) 19 t19_50) 22 (f45 10)) 23 t23_58) 24 t24_60) 25 t24_60) 26 t26_62) 27 t27_64) 28 t28_66) w67)) (
  K47 (.exit 0) (pf 71 (pf 71 (pf 71 (pf 71 f45 16 (f45 10)) 17 (f45 7)) 18 t18_48) 19 t19_50) w51)) (pf 71 (pf 71 (pf 71 (pf 71 (pf 71 (pf 71 (pf 71 (pf 71 (pf 71 (argF [x0, x1, x2]) 6 (.int .i64 0)) 12 x0) 13 t13_0) 7 t13_0) 14 t14_2) 8 t14_2) 15 t15_4) 9 t15_4) 10 (.int .i64 0)) w5 K44
theorem c22_eq (x0 x1 x2 : Value) (w : World) (K : VPost) : c22 x0 x1 x2 w K = WP true Tryz.prog 71 [] (bodyOf Tryz.f22) (argF [x0, x1, x2]) w [.tmp 6] K := by kernel_rfl
theorem c22_calls (x0 x1 x2 : Value) (w : World) (K : VPost) (h : c22 x0 x1 x2 w K) : Calls Tryz.prog 22 #[x0, x1, x2] w (retK K) :=
  calls_of_WP (c22_eq x0 x1 x2 w K) mixedG Tryz.func22 (by kernel_rfl) Tryz.ntmps22 (by kernel_rfl) (by kernel_rfl) h

/-- imprimatur/imprimaturlaw06.alive -/
def c5 (w : World) (K : VPost) : Prop :=
  fnW Tryz.prog 7 #[(.int .i64 20)] w fun t16_0 w1 =>
  extrW t16_0 0 w1 fun t17_2 w3 =>
  extrW t16_0 1 w3 fun t18_4 w5 =>
  binN Tryz.prog .neq 26 true t18_4 (.int .i64 0) w5 fun t20_6 w7 =>
  gstep t20_6 false w7 (fun K => K t17_2 w7) fun t22_8 w9 =>
  gstep t20_6 false w9 (fun K => binW Tryz.prog .eql 25 true t22_8 (.pointer none) w9 K) fun t23_10 w11 =>
  pickW t20_6 (.bool true) t23_10 w11 fun t24_12 w13 =>
  condW t24_12 (
  K (.bool false) w13) (
  fnW Tryz.prog 8 #[t17_2] w13 fun t27_14 w15 =>
  extrW t27_14 0 w15 fun t28_16 w17 =>
  extrW t27_14 1 w17 fun t29_18 w19 =>
  binN Tryz.prog .neq 26 true t29_18 (.int .i64 0) w19 fun t31_20 w21 =>
  gstep t31_20 false w21 (fun K => K t28_16 w21) fun t33_22 w23 =>
  gstep t31_20 false w23 (fun K => binW Tryz.prog .eql 29 true t33_22 (.pointer none) w23 K) fun t34_24 w25 =>
  pickW t31_20 (.bool true) t34_24 w25 fun t35_26 w27 =>
  condW t35_26 (
  K (.bool false) w27) (
  fnW Tryz.prog 9 #[(.int .u8 1)] w27 fun t37_28 w29 =>
  insW Tryz.prog (Instr.buildSlice 36 1 #[(0, (.int .u8 5))]) w29 fun t38_30 w31 =>
  fnW Tryz.prog 15 #[t28_16, t37_28, t38_30] w31 fun t39_32 w33 =>
  fnW Tryz.prog 9 #[(.int .u8 1)] w33 fun t41_34 w35 =>
  insW Tryz.prog (Instr.buildSlice 36 1 #[(0, (.int .u8 6))]) w35 fun t42_36 w37 =>
  fnW Tryz.prog 15 #[t28_16, t41_34, t42_36] w37 fun t43_38 w39 =>
  fnW Tryz.prog 21 #[t28_16] w39 fun t45_40 w41 =>
  fnW Tryz.prog 9 #[(.int .u8 2)] w41 fun t47_42 w43 =>
  fnW Tryz.prog 15 #[t28_16, t47_42, (.slice none 0 0)] w43 fun t48_44 w45 =>
  fnW Tryz.prog 24 #[t17_2, (.slice none 0 0)] w45 fun _ w47 =>
  fnW Tryz.prog 8 #[t17_2] w47 fun t53_48 w49 =>
  extrW t53_48 0 w49 fun t54_50 w51 =>
  extrW t53_48 1 w51 fun t55_52 w53 =>
  binN Tryz.prog .neq 26 true t55_52 (.int .i64 0) w53 fun t57_54 w55 =>
  gstep t57_54 false w55 (fun K => K t54_50 w55) fun t59_56 w57 =>
  gstep t57_54 false w57 (fun K => binW Tryz.prog .eql 29 true t59_56 (.pointer none) w57 K) fun t60_58 w59 =>
  pickW t57_54 (.bool true) t60_58 w59 fun t61_60 w61 =>
  condW t61_60 (
  K (.bool false) w61) (
  fnW Tryz.prog 9 #[(.int .u8 1)] w61 fun t64_62 w63 =>
  fnW Tryz.prog 25 #[t54_50, t64_62] w63 fun t65_64 w65 =>
  extrW t65_64 0 w65 fun t66_66 w67 =>
  extrW t65_64 1 w67 fun t67_68 w69 =>
  fnW Tryz.prog 9 #[(.int .u8 2)] w69 fun t70_70 w71 =>
  fnW Tryz.prog 25 #[t54_50, t70_70] w71 fun t71_72 w73 =>
  extrW t71_72 0 w73 fun _ w75 =>
  extrW t71_72 1 w75 fun t73_76 w77 =>
  binN Tryz.prog .eql 26 true t39_32 (.int .i64 0) w77 fun t75_78 w79 =>
  gstep t75_78 true w79 (fun K => K t43_38 w79) fun t77_80 w81 =>
  gstep t75_78 true w81 (fun K => binN Tryz.prog .eql 26 true t77_80 (.int .i64 13) w81 K) fun t78_82 w83 =>
  pickW t75_78 t78_82 (.bool false) w83 fun t79_84 w85 =>
  gstep t79_84 true w85 (fun K => K t45_40 w85) fun t81_86 w87 =>
  gstep t79_84 true w87 (fun K => binN Tryz.prog .eql 26 true t81_86 (.int .i64 0) w87 K) fun t82_88 w89 =>
  pickW t79_84 t82_88 (.bool false) w89 fun t83_90 w91 =>
  gstep t83_90 true w91 (fun K => K t48_44 w91) fun t85_92 w93 =>
  gstep t83_90 true w93 (fun K => binN Tryz.prog .eql 26 true t85_92 (.int .i64 0) w93 K) fun t86_94 w95 =>
  pickW t83_90 t86_94 (.bool false) w95 fun t87_96 w97 =>
  gstep t87_96 true w97 (fun K => K t67_68 w97) fun t89_98 w99 =>
  pickW t87_96 t89_98 (.bool false) w99 fun t90_100 w101 =>
  gstep t90_100 true w101 (fun K => K t73_76 w101) fun t92_102 w103 =>
  gstep t90_100 true w103 (fun K => unN Tryz.prog .not t92_102 w103 K) fun t93_104 w105 =>
  pickW t90_100 t93_104 (.bool false) w105 fun t94_106 w107 =>
  gstep t94_106 true w107 (fun K => K t66_66 w107) fun t96_108 w109 =>
  gstep t94_106 true w109 (fun K => insW Tryz.prog (Instr.buildSlice 36 1 #[(0, (.int .u8 5))]) w109 K) fun t97_110 w111 =>
  gstep t94_106 true w111 (fun K => fnW Tryz.prog 14 #[t96_108, t97_110] w111 K) fun t98_112 w113 =>
  pickW t94_106 t98_112 (.bool false) w113 fun t99_114 w115 =>
  gstep t99_114 true w115 (fun K => K t28_16 w115) fun t101_116 w117 =>
  gstep t99_114 true w117 (fun K => fnW Tryz.prog 18 #[t101_116] w117 K) fun t102_118 w119 =>
  gstep t99_114 true w119 (fun K => binN Tryz.prog .eql 3 true t102_118 (.int .i64 2) w119 K) fun t103_120 w121 =>
  pickW t99_114 t103_120 (.bool false) w121 fun t104_122 w123 =>
  gstep t104_122 true w123 (fun K => K t54_50 w123) fun t106_124 w125 =>
  gstep t104_122 true w125 (fun K => fnW Tryz.prog 18 #[t106_124] w125 K) fun t107_126 w127 =>
  gstep t104_122 true w127 (fun K => binN Tryz.prog .eql 3 true t107_126 (.int .i64 1) w127 K) fun t108_128 w129 =>
  pickW t104_122 t108_128 (.bool false) w129 fun t109_130 w131 =>
  gstep t109_130 true w131 (fun K => K t54_50 w131) fun t111_132 w133 =>
  gstep t109_130 true w133 (fun K => fnW Tryz.prog 19 #[t111_132] w133 K) fun t112_134 w135 =>
  pickW t109_130 t112_134 (.bool false) w135 fun t113_136 w137 =>
  gstep t113_136 true w137 (fun K => K t54_50 w137) fun t115_138 w139 =>
  gstep t113_136 true w139 (fun K => fnW Tryz.prog 26 #[t115_138] w139 K) fun t116_140 w141 =>
  gstep t113_136 true w141 (fun K => lenW Tryz.prog (some true) #[57] 3 #[t116_140] w141 K) fun t117_142 w143 =>
  gstep t113_136 true w143 (fun K => binN Tryz.prog .eql 3 true t117_142 (.int .i64 1) w143 K) fun t118_144 w145 =>
  pickW t113_136 t118_144 (.bool false) w145 fun t119_146 w147 =>
  gstep t119_146 true w147 (fun K => K t54_50 w147) fun t121_148 w149 =>
  gstep t119_146 true w149 (fun K => fnW Tryz.prog 11 #[t121_148] w149 K) fun t122_150 w151 =>
  gstep t119_146 true w151 (fun K => binN Tryz.prog .gtr 3 true t122_150 (.int .i64 0) w151 K) fun t123_152 w153 =>
  pickW t119_146 t123_152 (.bool false) w153 fun t124_154 w155 =>
  gstep t124_154 true w155 (fun K => K t54_50 w155) fun t126_156 w157 =>
  gstep t124_154 true w157 (fun K => fnW Tryz.prog 27 #[t126_156, (.slice none 0 0)] w157 K) fun t127_158 w159 =>
  gstep t124_154 true w159 (fun K => binN Tryz.prog .eql 26 true t127_158 (.int .i64 0) w159 K) fun t128_160 w161 =>
  pickW t124_154 t128_160 (.bool false) w161 fun t129_162 w163 =>
  gstep t129_162 true w163 (fun K => K t54_50 w163) fun t131_164 w165 =>
  gstep t129_162 true w165 (fun K => fnW Tryz.prog 18 #[t131_164] w165 K) fun t132_166 w167 =>
  gstep t129_162 true w167 (fun K => binN Tryz.prog .eql 3 true t132_166 (.int .i64 0) w167 K) fun t133_168 w169 =>
  pickW t129_162 t133_168 (.bool false) w169 fun t134_170 w171 =>
  K t134_170 w171)))
theorem c5_eq (w : World) (K : VPost) : c5  w K = WP true Tryz.prog 135 [] (bodyOf Tryz.f5) (argF []) w [.tmp 0] K := by kernel_rfl
theorem c5_calls (w : World) (K : VPost) (h : c5  w K) : Calls Tryz.prog 5 #[] w (retK K) :=
  calls_of_WP (c5_eq  w K) mixedG Tryz.func5 (by kernel_rfl) Tryz.ntmps5 (by kernel_rfl) (by kernel_rfl) h

/-- imprimatur/imprimaturlaw06.Great -/
def c6 (x0 : Value) (w : World) (K : VPost) : Prop :=
  lenW Tryz.prog (some true) #[22] 3 #[x0] w fun t6_0 w1 =>
  binN Tryz.prog .gtr 3 true t6_0 (.int .i64 40) w1 fun t7_2 w3 =>
  condW t7_2 (
  K (.bool true) w3) (
  bindX (endW Tryz.prog [.tmp 2] K) fun K4 =>
  bindX (seqX (fun _ w7 =>
  K (.bool false) w7) K4) fun K5 =>
  bindX (blkX 0 K5) fun K8 =>
  loopW (fun f9 w10 K11 =>
  lenW Tryz.prog (some true) #[22] 3 #[(f9 0)] w10 fun t10_12 w13 =>
  binN Tryz.prog .lss 3 false (f9 4) t10_12 w13 fun t11_14 w15 =>
  condW t11_14 (
  idxW (some (none, 4)) (f9 0) (f9 4) w15 fun t17_16 w17 =>
  offW (some 3) t17_16 w17 fun t18_18 w19 =>
  loadW (some (false, 1)) t18_18 w19 fun t19_20 w21 =>
  lenW Tryz.prog (some true) #[36] 3 #[t19_20] w21 fun t20_22 w23 =>
  binN Tryz.prog .add 3 false (f9 3) t20_22 w23 fun t21_24 w25 =>
  binN Tryz.prog .gtr 3 true t21_24 (.int .i64 3000) w25 fun t23_26 w27 =>
  condW t23_26 (
  K11 .ret (pf 24 (pf 24 (pf 24 (pf 24 (pf 24 (pf 24 (pf 24 (pf 24 (pf 24 (pf 24 (pf 24 (pf 24 (pf 24 (pf 24 (pf 24 (pf 24 f9 8 (f9 4)) 9 (f9 0)) 10 t10_12) 11 t11_14) 14 (f9 3)) 15 (f9 0)) 16 (f9 4)) 17 t17_16) 18 t18_18) 19 t19_20) 20 t20_22) 21 t21_24) 3 t21_24) 22 t21_24) 23 t23_26) 2 (.bool true)) w27) (
  binN Tryz.prog .add 3 true (f9 4) (.int .i64 1) w27 fun t13_28 w29 =>
  K11 .normal (pf 24 (pf 24 (pf 24 (pf 24 (pf 24 (pf 24 (pf 24 (pf 24 (pf 24 (pf 24 (pf 24 (pf 24 (pf 24 (pf 24 (pf 24 (pf 24 (pf 24 (pf 24 f9 8 (f9 4)) 9 (f9 0)) 10 t10_12) 11 t11_14) 14 (f9 3)) 15 (f9 0)) 16 (f9 4)) 17 t17_16) 18 t18_18) 19 t19_20) 20 t20_22) 21 t21_24) 3 t21_24) 22 t21_24) 23 t23_26) 12 (f9 4)) 13 t13_28) 4 t13_28) w29)) (
  K11 (.exit 0) (pf 24 (pf 24 (pf 24 (pf 24 f9 8 (f9 4)) 9 (f9 0)) 10 t10_12) 11 t11_14) w15)) (pf 24 (pf 24 (pf 24 (pf 24 (pf 24 (pf 24 (argF [x0]) 2 (.bool false)) 5 x0) 6 t6_0) 7 t7_2) 3 (.int .i64 0)) 4 (.int .i64 0)) w3 K8)
theorem c6_eq (x0 : Value) (w : World) (K : VPost) : c6 x0 w K = WP true Tryz.prog 24 [] (bodyOf Tryz.f6) (argF [x0]) w [.tmp 2] K := by kernel_rfl
theorem c6_calls (x0 : Value) (w : World) (K : VPost) (h : c6 x0 w K) : Calls Tryz.prog 6 #[x0] w (retK K) :=
  calls_of_WP (c6_eq x0 w K) mixedG Tryz.func6 (by kernel_rfl) Tryz.ntmps6 (by kernel_rfl) (by kernel_rfl) h

/-- imprimatur/imprimaturlaw06.VaultPuts -/
def c3 (x0 x1 : Value) (w : World) (K : VPost) : Prop :=
  fnW Tryz.prog 5 #[] w fun t18_0 w1 =>
  unN Tryz.prog .not t18_0 w1 fun t19_2 w3 =>
  condW t19_2 (
  K (.bool false) w3) (
  fnW Tryz.prog 6 #[x1] w3 fun t21_4 w5 =>
  gstep t21_4 false w5 (fun K => K x0 w5) fun t23_6 w7 =>
  gstep t21_4 false w7 (fun K => binN Tryz.prog .lss 3 true t23_6 (.int .i64 4) w7 K) fun t24_8 w9 =>
  pickW t21_4 (.bool true) t24_8 w9 fun t25_10 w11 =>
  gstep t25_10 false w11 (fun K => K x0 w11) fun t27_12 w13 =>
  gstep t25_10 false w13 (fun K => binN Tryz.prog .gtr 3 true t27_12 (.int .i64 40) w13 K) fun t28_14 w15 =>
  pickW t25_10 (.bool true) t28_14 w15 fun t29_16 w17 =>
  condW t29_16 (
  K (.bool true) w17) (
  fnW Tryz.prog 7 #[x0] w17 fun t32_18 w19 =>
  extrW t32_18 0 w19 fun t33_20 w21 =>
  extrW t32_18 1 w21 fun t34_22 w23 =>
  binN Tryz.prog .neq 26 true t34_22 (.int .i64 0) w23 fun t36_24 w25 =>
  gstep t36_24 false w25 (fun K => K t33_20 w25) fun t38_26 w27 =>
  gstep t36_24 false w27 (fun K => binW Tryz.prog .eql 25 true t38_26 (.pointer none) w27 K) fun t39_28 w29 =>
  pickW t36_24 (.bool true) t39_28 w29 fun t40_30 w31 =>
  condW t40_30 (
  K (.bool false) w31) (
  fnW Tryz.prog 8 #[t33_20] w31 fun t43_32 w33 =>
  extrW t43_32 0 w33 fun t44_34 w35 =>
  extrW t43_32 1 w35 fun t45_36 w37 =>
  binN Tryz.prog .neq 26 true t45_36 (.int .i64 0) w37 fun t47_38 w39 =>
  gstep t47_38 false w39 (fun K => K t44_34 w39) fun t49_40 w41 =>
  gstep t47_38 false w41 (fun K => binW Tryz.prog .eql 29 true t49_40 (.pointer none) w41 K) fun t50_42 w43 =>
  pickW t47_38 (.bool true) t50_42 w43 fun t51_44 w45 =>
  condW t51_44 (
  K (.bool false) w45) (
  insW Tryz.prog (Instr.buildSlice 32 0 #[]) w45 fun t52_46 w47 =>
  bindX (endW Tryz.prog [.tmp 4] K) fun K48 =>
  bindX (seqX (fun f50 w51 =>
  fnW Tryz.prog 11 #[(f50 7)] w51 fun t153_52 w53 =>
  binN Tryz.prog .quo 3 true (f50 0) (.int .i64 2) w53 fun t155_54 w55 =>
  binN Tryz.prog .sub 3 true t155_54 (.int .i64 1) w55 fun t156_56 w57 =>
  fnW Tryz.prog 20 #[(f50 8)] w57 fun t158_58 w59 =>
  binN Tryz.prog .sub 3 false t156_56 t158_58 w59 fun t159_60 w61 =>
  binN Tryz.prog .eql 3 false t153_52 t159_60 w61 fun t160_62 w63 =>
  K t160_62 w63) K48) fun K49 =>
  bindX (blkX 0 K49) fun K64 =>
  loopW (fun f65 w66 K67 =>
  lenW Tryz.prog (some true) #[22] 3 #[(f65 1)] w66 fun t55_68 w69 =>
  binN Tryz.prog .lss 3 false (f65 9) t55_68 w69 fun t56_70 w71 =>
  condW t56_70 (
  bindX (seqX (fun f73 w74 =>
  binN Tryz.prog .add 3 true (f73 9) (.int .i64 1) w74 fun t58_75 w76 =>
  K67 .normal (pf 161 (pf 161 (pf 161 f73 57 (f73 9)) 58 t58_75) 9 t58_75) w76) K67) fun K72 =>
  bindX (blkX 1 K72) fun K77 =>
  idxW (some (none, 4)) (f65 1) (f65 9) w71 fun t61_78 w79 =>
  offW (some 2) t61_78 w79 fun t62_80 w81 =>
  loadW (some (false, 1)) t62_80 w81 fun t63_82 w83 =>
  binN Tryz.prog .and 5 true t63_82 (.int .u8 7) w83 fun t64_84 w85 =>
  fnW Tryz.prog 9 #[t64_84] w85 fun t65_86 w87 =>
  allocW (zeroO Tryz.prog 34) 34 w87 fun t10_88 w89 =>
  storeW (some (true, 32)) t10_88 t65_86 w89 fun w90 =>
  idxW (some (none, 4)) (f65 1) (f65 9) w90 fun t68_91 w92 =>
  offW (some 3) t68_91 w92 fun t69_93 w94 =>
  loadW (some (false, 1)) t69_93 w94 fun t70_95 w96 =>
  fnW Tryz.prog 10 #[t70_95] w96 fun t71_97 w98 =>
  fnW Tryz.prog 11 #[(f65 7)] w98 fun t73_99 w100 =>
  lenW Tryz.prog (some true) #[36] 3 #[t71_97] w100 fun t75_101 w102 =>
  binN Tryz.prog .add 3 true (.int .i64 32) t75_101 w102 fun t76_103 w104 =>
  fnW Tryz.prog 12 #[t76_103] w104 fun t77_105 w106 =>
  loadW (some (true, 32)) t10_88 w106 fun t80_107 w108 =>
  fnW Tryz.prog 13 #[(f65 8), t80_107] w108 fun t81_109 w110 =>
  extrW t81_109 0 w110 fun t82_111 w112 =>
  extrW t81_109 1 w112 fun t83_113 w114 =>
  bindX (seqX (fun f116 w117 =>
  loadW (some (true, 32)) (f116 10) w117 fun t118_118 w119 =>
  fnW Tryz.prog 15 #[(f116 7), t118_118, (f116 11)] w119 fun t120_120 w121 =>
  binN Tryz.prog .neq 26 false t120_120 (f116 16) w121 fun t122_122 w123 =>
  condW t122_122 (
  K67 .ret (pf 161 (pf 161 (pf 161 (pf 161 (pf 161 (pf 161 (pf 161 f116 117 (f116 7)) 118 t118_118) 119 (f116 11)) 120 t120_120) 121 (f116 16)) 122 t122_122) 4 (.bool false)) w123) (
  bindX (seqX (fun f125 w126 =>
  fnW Tryz.prog 17 #[(f125 7)] w126 fun t136_127 w128 =>
  fnW Tryz.prog 16 #[t136_127, (f125 8)] w128 fun t138_129 w130 =>
  unN Tryz.prog .not t138_129 w130 fun t139_131 w132 =>
  gstep t139_131 false w132 (fun K => K (f125 7) w132) fun t141_133 w134 =>
  gstep t139_131 false w134 (fun K => fnW Tryz.prog 18 #[t141_133] w134 K) fun t142_135 w136 =>
  gstep t139_131 false w136 (fun K => K (f125 8) w136) fun t143_137 w138 =>
  gstep t139_131 false w138 (fun K => lenW Tryz.prog (some true) #[32] 3 #[t143_137] w138 K) fun t144_139 w140 =>
  gstep t139_131 false w140 (fun K => binN Tryz.prog .neq 3 false t142_135 t144_139 w140 K) fun t145_141 w142 =>
  pickW t139_131 (.bool true) t145_141 w142 fun t146_143 w144 =>
  gstep t146_143 false w144 (fun K => K (f125 7) w144) fun t148_145 w146 =>
  gstep t146_143 false w146 (fun K => fnW Tryz.prog 19 #[t148_145] w146 K) fun t149_147 w148 =>
  gstep t146_143 false w148 (fun K => unN Tryz.prog .not t149_147 w148 K) fun t150_149 w150 =>
  pickW t146_143 (.bool true) t150_149 w150 fun t151_151 w152 =>
  condW t151_151 (
  K67 .ret (pf 161 (pf 161 (pf 161 (pf 161 (pf 161 (pf 161 (pf 161 (pf 161 (pf 161 (pf 161 (pf 161 (pf 161 (pf 161 (pf 161 (pf 161 (pf 161 (pf 161 (pf 161 f125 135 (f125 7)) 136 t136_127) 137 (f125 8)) 138 t138_129) 139 t139_131) 140 t139_131) 141 t141_133) 142 t142_135) 143 t143_137) 144 t144_139) 145 t145_141) 146 t146_143) 147 t146_143) 148 t148_145) 149 t149_147) 150 t150_149) 151 t151_151) 4 (.bool false)) w152) (
  K72 .normal (pf 161 (pf 161 (pf 161 (pf 161 (pf 161 (pf 161 (pf 161 (pf 161 (pf 161 (pf 161 (pf 161 (pf 161 (pf 161 (pf 161 (pf 161 (pf 161 (pf 161 f125 135 (f125 7)) 136 t136_127) 137 (f125 8)) 138 t138_129) 139 t139_131) 140 t139_131) 141 t141_133) 142 t142_135) 143 t143_137) 144 t144_139) 145 t145_141) 146 t146_143) 147 t146_143) 148 t148_145) 149 t149_147) 150 t150_149) 151 t151_151) w152)) K77) fun K124 =>
  bindX (blkX 3 K124) fun K153 =>
  loopW (fun f154 w155 K156 =>
  lenW Tryz.prog (some true) #[36] 3 #[(f154 11)] w155 fun t125_157 w158 =>
  binN Tryz.prog .lss 3 false (f154 17) t125_157 w158 fun t126_159 w160 =>
  condW t126_159 (
  idxW (some (none, 1)) (f154 11) (f154 17) w160 fun t131_161 w162 =>
  loadW (some (false, 1)) t131_161 w162 fun t132_163 w164 =>
  binN Tryz.prog .add 5 true t132_163 (.int .u8 1) w164 fun t133_165 w166 =>
  idxW (some (none, 1)) (f154 11) (f154 17) w166 fun t134_167 w168 =>
  storeW (some (false, 1)) t134_167 t133_165 w168 fun w169 =>
  binN Tryz.prog .add 3 true (f154 17) (.int .i64 1) w169 fun t128_170 w171 =>
  K156 .normal (pf 161 (pf 161 (pf 161 (pf 161 (pf 161 (pf 161 (pf 161 (pf 161 (pf 161 (pf 161 (pf 161 (pf 161 (pf 161 f154 123 (f154 17)) 124 (f154 11)) 125 t125_157) 126 t126_159) 129 (f154 11)) 130 (f154 17)) 131 t131_161) 132 t132_163) 133 t133_165) 134 t134_167) 127 (f154 17)) 128 t128_170) 17 t128_170) w171) (
  K156 (.exit 3) (pf 161 (pf 161 (pf 161 (pf 161 f154 123 (f154 17)) 124 (f154 11)) 125 t125_157) 126 t126_159) w160)) (pf 161 (pf 161 (pf 161 (pf 161 (pf 161 (pf 161 (pf 161 f116 117 (f116 7)) 118 t118_118) 119 (f116 11)) 120 t120_120) 121 (f116 16)) 122 t122_122) 17 (.int .i64 0)) w123 K153)) K77) fun K115 =>
  bindX (blkX 2 K115) fun _ =>
  lenW Tryz.prog (some true) #[36] 3 #[t71_97] w114 fun t86_173 w174 =>
  binN Tryz.prog .gtr 3 true t86_173 (.int .i64 1000) w174 fun t87_175 w176 =>
  condW t87_175 (
  K115 .normal (pf 161 (pf 161 (pf 161 (pf 161 (pf 161 (pf 161 (pf 161 (pf 161 (pf 161 (pf 161 (pf 161 (pf 161 (pf 161 (pf 161 (pf 161 (pf 161 (pf 161 (pf 161 (pf 161 (pf 161 (pf 161 (pf 161 (pf 161 (pf 161 (pf 161 (pf 161 (pf 161 (pf 161 (pf 161 (pf 161 (pf 161 (pf 161 (pf 161 (pf 161 (pf 161 (pf 161 (pf 161 (pf 161 (pf 161 (pf 161 (pf 161 f65 53 (f65 9)) 54 (f65 1)) 55 t55_68) 56 t56_70) 59 (f65 1)) 60 (f65 9)) 61 t61_78) 62 t62_80) 63 t63_82) 64 t64_84) 65 t65_86) 10 t10_88) 66 (f65 1)) 67 (f65 9)) 68 t68_91) 69 t69_93) 70 t70_95) 71 t71_97) 11 t71_97) 72 (f65 7)) 73 t73_99) 12 t73_99) 74 t71_97) 75 t75_101) 76 t76_103) 77 t77_105) 13 t77_105) 79 (f65 8)) 80 t80_107) 81 t81_109) 78 t81_109) 82 t82_111) 83 t83_113) 14 t82_111) 15 t83_113) 16 (.int .i64 0)) 85 t71_97) 86 t86_173) 87 t87_175) 84 t87_175) 16 (.int .i64 10)) w176) (
  gstep t83_113 true w176 (fun K => K t82_111 w176) fun t91_177 w178 =>
  gstep t83_113 true w178 (fun K => K t71_97 w178) fun t92_179 w180 =>
  gstep t83_113 true w180 (fun K => fnW Tryz.prog 14 #[t91_177, t92_179] w180 K) fun t93_181 w182 =>
  gstep t83_113 true w182 (fun K => unN Tryz.prog .not t93_181 w182 K) fun t94_183 w184 =>
  pickW t83_113 t94_183 (.bool false) w184 fun t95_185 w186 =>
  condW t95_185 (
  K115 .normal (pf 161 (pf 161 (pf 161 (pf 161 (pf 161 (pf 161 (pf 161 (pf 161 (pf 161 (pf 161 (pf 161 (pf 161 (pf 161 (pf 161 (pf 161 (pf 161 (pf 161 (pf 161 (pf 161 (pf 161 (pf 161 (pf 161 (pf 161 (pf 161 (pf 161 (pf 161 (pf 161 (pf 161 (pf 161 (pf 161 (pf 161 (pf 161 (pf 161 (pf 161 (pf 161 (pf 161 (pf 161 (pf 161 (pf 161 (pf 161 (pf 161 (pf 161 (pf 161 (pf 161 (pf 161 (pf 161 (pf 161 (pf 161 (pf 161 f65 53 (f65 9)) 54 (f65 1)) 55 t55_68) 56 t56_70) 59 (f65 1)) 60 (f65 9)) 61 t61_78) 62 t62_80) 63 t63_82) 64 t64_84) 65 t65_86) 10 t10_88) 66 (f65 1)) 67 (f65 9)) 68 t68_91) 69 t69_93) 70 t70_95) 71 t71_97) 11 t71_97) 72 (f65 7)) 73 t73_99) 12 t73_99) 74 t71_97) 75 t75_101) 76 t76_103) 77 t77_105) 13 t77_105) 79 (f65 8)) 80 t80_107) 81 t81_109) 78 t81_109) 82 t82_111) 83 t83_113) 14 t82_111) 15 t83_113) 16 (.int .i64 0)) 85 t71_97) 86 t86_173) 87 t87_175) 84 t87_175) 89 t83_113) 90 t83_113) 91 t91_177) 92 t92_179) 93 t93_181) 94 t94_183) 95 t95_185) 88 t95_185) 16 (.int .i64 13)) w186) (
  unN Tryz.prog .not t83_113 w186 fun t98_187 w188 =>
  gstep t98_187 true w188 (fun K => K t77_105 w188) fun t100_189 w190 =>
  gstep t98_187 true w190 (fun K => K t73_99 w190) fun t101_191 w192 =>
  gstep t98_187 true w192 (fun K => binN Tryz.prog .gtr 3 false t100_189 t101_191 w192 K) fun t102_193 w194 =>
  pickW t98_187 t102_193 (.bool false) w194 fun t103_195 w196 =>
  condW t103_195 (
  K115 .normal (pf 161 (pf 161 (pf 161 (pf 161 (pf 161 (pf 161 (pf 161 (pf 161 (pf 161 (pf 161 (pf 161 (pf 161 (pf 161 (pf 161 (pf 161 (pf 161 (pf 161 (pf 161 (pf 161 (pf 161 (pf 161 (pf 161 (pf 161 (pf 161 (pf 161 (pf 161 (pf 161 (pf 161 (pf 161 (pf 161 (pf 161 (pf 161 (pf 161 (pf 161 (pf 161 (pf 161 (pf 161 (pf 161 (pf 161 (pf 161 (pf 161 (pf 161 (pf 161 (pf 161 (pf 161 (pf 161 (pf 161 (pf 161 (pf 161 (pf 161 (pf 161 (pf 161 (pf 161 (pf 161 (pf 161 (pf 161 (pf 161 f65 53 (f65 9)) 54 (f65 1)) 55 t55_68) 56 t56_70) 59 (f65 1)) 60 (f65 9)) 61 t61_78) 62 t62_80) 63 t63_82) 64 t64_84) 65 t65_86) 10 t10_88) 66 (f65 1)) 67 (f65 9)) 68 t68_91) 69 t69_93) 70 t70_95) 71 t71_97) 11 t71_97) 72 (f65 7)) 73 t73_99) 12 t73_99) 74 t71_97) 75 t75_101) 76 t76_103) 77 t77_105) 13 t77_105) 79 (f65 8)) 80 t80_107) 81 t81_109) 78 t81_109) 82 t82_111) 83 t83_113) 14 t82_111) 15 t83_113) 16 (.int .i64 0)) 85 t71_97) 86 t86_173) 87 t87_175) 84 t87_175) 89 t83_113) 90 t83_113) 91 t91_177) 92 t92_179) 93 t93_181) 94 t94_183) 95 t95_185) 88 t95_185) 97 t83_113) 98 t98_187) 99 t98_187) 100 t100_189) 101 t101_191) 102 t102_193) 103 t103_195) 96 t103_195) 16 (.int .i64 15)) w196) (
  unN Tryz.prog .not t83_113 w196 fun t106_197 w198 =>
  condW t106_197 (
  loadW (some (true, 32)) t10_88 w198.drew fun t108_199 w200 =>
  idxW (some (none, 4)) (f65 1) (f65 9) w200 fun t111_201 w202 =>
  offW (some 3) t111_201 w202 fun t112_203 w204 =>
  loadW (some (false, 1)) t112_203 w204 fun t113_205 w206 =>
  insW Tryz.prog (Instr.build 46 #[(0, t108_199), (1, t113_205)]) w206 fun t114_207 w208 =>
  insW Tryz.prog (Instr.buildSlice 32 1 #[(0, t114_207)]) w208 fun t115_209 w210 =>
  insW Tryz.prog (Builtin.append_ #[32, 32] 32 #[(f65 8), t115_209]) w210 fun t116_211 w212 =>
  K115 .normal (pf 161 (pf 161 (pf 161 (pf 161 (pf 161 (pf 161 (pf 161 (pf 161 (pf 161 (pf 161 (pf 161 (pf 161 (pf 161 (pf 161 (pf 161 (pf 161 (pf 161 (pf 161 (pf 161 (pf 161 (pf 161 (pf 161 (pf 161 (pf 161 (pf 161 (pf 161 (pf 161 (pf 161 (pf 161 (pf 161 (pf 161 (pf 161 (pf 161 (pf 161 (pf 161 (pf 161 (pf 161 (pf 161 (pf 161 (pf 161 (pf 161 (pf 161 (pf 161 (pf 161 (pf 161 (pf 161 (pf 161 (pf 161 (pf 161 (pf 161 (pf 161 (pf 161 (pf 161 (pf 161 (pf 161 (pf 161 (pf 161 (pf 161 (pf 161 (pf 161 (pf 161 (pf 161 (pf 161 (pf 161 (pf 161 (pf 161 (pf 161 (pf 161 (pf 161 (pf 161 f65 53 (f65 9)) 54 (f65 1)) 55 t55_68) 56 t56_70) 59 (f65 1)) 60 (f65 9)) 61 t61_78) 62 t62_80) 63 t63_82) 64 t64_84) 65 t65_86) 10 t10_88) 66 (f65 1)) 67 (f65 9)) 68 t68_91) 69 t69_93) 70 t70_95) 71 t71_97) 11 t71_97) 72 (f65 7)) 73 t73_99) 12 t73_99) 74 t71_97) 75 t75_101) 76 t76_103) 77 t77_105) 13 t77_105) 79 (f65 8)) 80 t80_107) 81 t81_109) 78 t81_109) 82 t82_111) 83 t83_113) 14 t82_111) 15 t83_113) 16 (.int .i64 0)) 85 t71_97) 86 t86_173) 87 t87_175) 84 t87_175) 89 t83_113) 90 t83_113) 91 t91_177) 92 t92_179) 93 t93_181) 94 t94_183) 95 t95_185) 88 t95_185) 97 t83_113) 98 t98_187) 99 t98_187) 100 t100_189) 101 t101_191) 102 t102_193) 103 t103_195) 96 t103_195) 105 t83_113) 106 t106_197) 104 t106_197) 107 (f65 8)) 108 t108_199) 109 (f65 1)) 110 (f65 9)) 111 t111_201) 112 t112_203) 113 t113_205) 114 t114_207) 115 t115_209) 116 t116_211) 8 t116_211) w212) (
  K115 .normal (pf 161 (pf 161 (pf 161 (pf 161 (pf 161 (pf 161 (pf 161 (pf 161 (pf 161 (pf 161 (pf 161 (pf 161 (pf 161 (pf 161 (pf 161 (pf 161 (pf 161 (pf 161 (pf 161 (pf 161 (pf 161 (pf 161 (pf 161 (pf 161 (pf 161 (pf 161 (pf 161 (pf 161 (pf 161 (pf 161 (pf 161 (pf 161 (pf 161 (pf 161 (pf 161 (pf 161 (pf 161 (pf 161 (pf 161 (pf 161 (pf 161 (pf 161 (pf 161 (pf 161 (pf 161 (pf 161 (pf 161 (pf 161 (pf 161 (pf 161 (pf 161 (pf 161 (pf 161 (pf 161 (pf 161 (pf 161 (pf 161 (pf 161 (pf 161 f65 53 (f65 9)) 54 (f65 1)) 55 t55_68) 56 t56_70) 59 (f65 1)) 60 (f65 9)) 61 t61_78) 62 t62_80) 63 t63_82) 64 t64_84) 65 t65_86) 10 t10_88) 66 (f65 1)) 67 (f65 9)) 68 t68_91) 69 t69_93) 70 t70_95) 71 t71_97) 11 t71_97) 72 (f65 7)) 73 t73_99) 12 t73_99) 74 t71_97) 75 t75_101) 76 t76_103) 77 t77_105) 13 t77_105) 79 (f65 8)) 80 t80_107) 81 t81_109) 78 t81_109) 82 t82_111) 83 t83_113) 14 t82_111) 15 t83_113) 16 (.int .i64 0)) 85 t71_97) 86 t86_173) 87 t87_175) 84 t87_175) 89 t83_113) 90 t83_113) 91 t91_177) 92 t92_179) 93 t93_181) 94 t94_183) 95 t95_185) 88 t95_185) 97 t83_113) 98 t98_187) 99 t98_187) 100 t100_189) 101 t101_191) 102 t102_193) 103 t103_195) 96 t103_195) 105 t83_113) 106 t106_197) 104 t106_197) w198))))) (
  K67 (.exit 0) (pf 161 (pf 161 (pf 161 (pf 161 f65 53 (f65 9)) 54 (f65 1)) 55 t55_68) 56 t56_70) w71)) (pf 161 (pf 161 (pf 161 (pf 161 (pf 161 (pf 161 (pf 161 (pf 161 (pf 161 (pf 161 (pf 161 (pf 161 (pf 161 (pf 161 (pf 161 (pf 161 (pf 161 (pf 161 (pf 161 (pf 161 (pf 161 (pf 161 (pf 161 (pf 161 (pf 161 (pf 161 (pf 161 (pf 161 (pf 161 (pf 161 (pf 161 (pf 161 (pf 161 (pf 161 (pf 161 (pf 161 (pf 161 (pf 161 (pf 161 (pf 161 (pf 161 (pf 161 (argF [x0, x1]) 4 (.bool false)) 18 t18_0) 19 t19_2) 20 x1) 21 t21_4) 22 t21_4) 23 t23_6) 24 t24_8) 25 t25_10) 26 t25_10) 27 t27_12) 28 t28_14) 29 t29_16) 31 x0) 32 t32_18) 30 t32_18) 33 t33_20) 34 t34_22) 5 t33_20) 6 t34_22) 35 t34_22) 36 t36_24) 37 t36_24) 38 t38_26) 39 t39_28) 40 t40_30) 42 t33_20) 43 t43_32) 41 t43_32) 44 t44_34) 45 t45_36) 7 t44_34) 6 t45_36) 46 t45_36) 47 t47_38) 48 t47_38) 49 t49_40) 50 t50_42) 51 t51_44) 52 t52_46) 8 t52_46) 9 (.int .i64 0)) w47 K64))))
theorem c3_eq (x0 x1 : Value) (w : World) (K : VPost) : c3 x0 x1 w K = WP true Tryz.prog 161 [(28, 1792, [0, 0, 0, 0, 12, 16, 32, 66, 128, 257, 1023], [0, 0, 0, 0, 12, 28, 60, 126, 254, 511, 1023])] (bodyOf Tryz.f3) (argF [x0, x1]) w [.tmp 4] K := by kernel_rfl
theorem c3_calls (x0 x1 : Value) (w : World) (K : VPost) (h : c3 x0 x1 w K) : Calls Tryz.prog 3 #[x0, x1] w (retK K) :=
  calls_of_WP (c3_eq x0 x1 w K) mixedG Tryz.func3 (by kernel_rfl) Tryz.ntmps3 (by kernel_rfl) (by kernel_rfl) h

/-- imprimatur/imprimaturlaw06.VaultLasts -/
def c4 (x0 x1 : Value) (w : World) (K : VPost) : Prop :=
  fnW Tryz.prog 5 #[] w fun t15_0 w1 =>
  unN Tryz.prog .not t15_0 w1 fun t16_2 w3 =>
  condW t16_2 (
  K (.bool false) w3) (
  fnW Tryz.prog 6 #[x1] w3 fun t18_4 w5 =>
  gstep t18_4 false w5 (fun K => K x0 w5) fun t20_6 w7 =>
  gstep t18_4 false w7 (fun K => binN Tryz.prog .lss 3 true t20_6 (.int .i64 4) w7 K) fun t21_8 w9 =>
  pickW t18_4 (.bool true) t21_8 w9 fun t22_10 w11 =>
  gstep t22_10 false w11 (fun K => K x0 w11) fun t24_12 w13 =>
  gstep t22_10 false w13 (fun K => binN Tryz.prog .gtr 3 true t24_12 (.int .i64 60) w13 K) fun t25_14 w15 =>
  pickW t22_10 (.bool true) t25_14 w15 fun t26_16 w17 =>
  condW t26_16 (
  K (.bool true) w17) (
  fnW Tryz.prog 7 #[x0] w17 fun t29_18 w19 =>
  extrW t29_18 0 w19 fun t30_20 w21 =>
  extrW t29_18 1 w21 fun t31_22 w23 =>
  binN Tryz.prog .neq 26 true t31_22 (.int .i64 0) w23 fun t33_24 w25 =>
  gstep t33_24 false w25 (fun K => K t30_20 w25) fun t35_26 w27 =>
  gstep t33_24 false w27 (fun K => binW Tryz.prog .eql 25 true t35_26 (.pointer none) w27 K) fun t36_28 w29 =>
  pickW t33_24 (.bool true) t36_28 w29 fun t37_30 w31 =>
  condW t37_30 (
  K (.bool false) w31) (
  fnW Tryz.prog 8 #[t30_20] w31 fun t40_32 w33 =>
  extrW t40_32 0 w33 fun t41_34 w35 =>
  extrW t40_32 1 w35 fun t42_36 w37 =>
  binN Tryz.prog .neq 26 true t42_36 (.int .i64 0) w37 fun t44_38 w39 =>
  gstep t44_38 false w39 (fun K => K t41_34 w39) fun t46_40 w41 =>
  gstep t44_38 false w41 (fun K => binW Tryz.prog .eql 29 true t46_40 (.pointer none) w41 K) fun t47_42 w43 =>
  pickW t44_38 (.bool true) t47_42 w43 fun t48_44 w45 =>
  condW t48_44 (
  K (.bool false) w45) (
  bindX (endW Tryz.prog [.tmp 4] K) fun K46 =>
  bindX (seqX (fun _ w49 =>
  K (.bool true) w49) K46) fun K47 =>
  bindX (blkX 0 K47) fun K50 =>
  loopW (fun f51 w52 K53 =>
  lenW Tryz.prog (some true) #[22] 3 #[(f51 1)] w52 fun t51_54 w55 =>
  binN Tryz.prog .lss 3 false (f51 9) t51_54 w55 fun t52_56 w57 =>
  condW t52_56 (
  bindX (seqX (fun f59 w60 =>
  binN Tryz.prog .add 3 true (f59 9) (.int .i64 1) w60 fun t54_61 w62 =>
  K53 .normal (pf 150 (pf 150 (pf 150 f59 53 (f59 9)) 54 t54_61) 9 t54_61) w62) K53) fun K58 =>
  bindX (blkX 1 K58) fun K63 =>
  idxW (some (none, 4)) (f51 1) (f51 9) w57 fun t57_64 w65 =>
  loadW (some (true, 4)) t57_64 w65 fun t58_66 w67 =>
  allocW (zeroO Tryz.prog 38) 38 w67 fun t10_68 w69 =>
  storeW (some (true, 4)) t10_68 t58_66 w69 fun w70 =>
  bindX (seqX (fun f72 w73 =>
  binN Tryz.prog .lss 3 true (f72 8) (.int .i64 0) w73 fun t143_74 w75 =>
  gstep t143_74 false w75 (fun K => K (f72 8) w75) fun t145_76 w77 =>
  gstep t143_74 false w77 (fun K => K (f72 7) w77) fun t146_78 w79 =>
  gstep t143_74 false w79 (fun K => fnW Tryz.prog 18 #[t146_78] w79 K) fun t147_80 w81 =>
  gstep t143_74 false w81 (fun K => binN Tryz.prog .gtr 3 false t145_76 t147_80 w81 K) fun t148_82 w83 =>
  pickW t143_74 (.bool true) t148_82 w83 fun t149_84 w85 =>
  condW t149_84 (
  K53 .ret (pf 150 (pf 150 (pf 150 (pf 150 (pf 150 (pf 150 (pf 150 (pf 150 (pf 150 f72 142 (f72 8)) 143 t143_74) 144 t143_74) 145 t145_76) 146 t146_78) 147 t147_80) 148 t148_82) 149 t149_84) 4 (.bool false)) w85) (
  K58 .normal (pf 150 (pf 150 (pf 150 (pf 150 (pf 150 (pf 150 (pf 150 (pf 150 f72 142 (f72 8)) 143 t143_74) 144 t143_74) 145 t145_76) 146 t146_78) 147 t147_80) 148 t148_82) 149 t149_84) w85)) K63) fun K71 =>
  offW (some 0) t10_68 w70 fun t59_86 w87 =>
  loadW (some (false, 1)) t59_86 w87 fun t60_88 w89 =>
  bindX (blkX 2 K71) fun _ =>
  binN Tryz.prog .eql 3 true t60_88 (.int .i64 0) w89 fun t62_91 w92 =>
  condW t62_91 (
  offW (some 2) t10_68 w92.drew fun t64_93 w94 =>
  loadW (some (false, 1)) t64_93 w94 fun t65_95 w96 =>
  binN Tryz.prog .and 5 true t65_95 (.int .u8 15) w96 fun t66_97 w98 =>
  offW (some 3) t10_68 w98 fun t68_99 w100 =>
  loadW (some (false, 1)) t68_99 w100 fun t69_101 w102 =>
  fnW Tryz.prog 9 #[t66_97] w102 fun t67_103 w104 =>
  (loadW (some (false, 1)) t68_99 w104 fun t69_105 w106 => t69_105 = t69_101 ∧ w106 = w104) ∧
  fnW Tryz.prog 15 #[(f51 7), t67_103, t69_101] w104 fun t70_107 w108 =>
  K71 .normal (pf 150 (pf 150 (pf 150 (pf 150 (pf 150 (pf 150 (pf 150 (pf 150 (pf 150 (pf 150 (pf 150 (pf 150 (pf 150 (pf 150 (pf 150 (pf 150 (pf 150 (pf 150 (pf 150 (pf 150 (pf 150 f51 49 (f51 9)) 50 (f51 1)) 51 t51_54) 52 t52_56) 55 (f51 1)) 56 (f51 9)) 57 t57_64) 58 t58_66) 10 t10_68) 59 t59_86) 60 t60_88) 62 t62_91) 61 t62_91) 63 (f51 7)) 64 t64_93) 65 t65_95) 66 t66_97) 68 t68_99) 69 t69_101) 67 t67_103) 70 t70_107) w108) (
  binN Tryz.prog .eql 3 true t60_88 (.int .i64 1) w92 fun t72_109 w110 =>
  condW t72_109 (
  fnW Tryz.prog 21 #[(f51 7)] w110 fun t74_111 w112 =>
  binN Tryz.prog .neq 26 true t74_111 (.int .i64 0) w112 fun t75_113 w114 =>
  condW t75_113 (
  K53 .ret (pf 150 (pf 150 (pf 150 (pf 150 (pf 150 (pf 150 (pf 150 (pf 150 (pf 150 (pf 150 (pf 150 (pf 150 (pf 150 (pf 150 (pf 150 (pf 150 (pf 150 (pf 150 (pf 150 f51 49 (f51 9)) 50 (f51 1)) 51 t51_54) 52 t52_56) 55 (f51 1)) 56 (f51 9)) 57 t57_64) 58 t58_66) 10 t10_68) 59 t59_86) 60 t60_88) 62 t62_91) 61 t62_91) 72 t72_109) 71 t72_109) 73 (f51 7)) 74 t74_111) 75 t75_113) 4 (.bool false)) w114) (
  fnW Tryz.prog 19 #[(f51 7)] w114 fun t77_115 w116 =>
  condW t77_115 (
  fnW Tryz.prog 18 #[(f51 7)] w116 fun t79_117 w118 =>
  K71 .normal (pf 150 (pf 150 (pf 150 (pf 150 (pf 150 (pf 150 (pf 150 (pf 150 (pf 150 (pf 150 (pf 150 (pf 150 (pf 150 (pf 150 (pf 150 (pf 150 (pf 150 (pf 150 (pf 150 (pf 150 (pf 150 (pf 150 (pf 150 f51 49 (f51 9)) 50 (f51 1)) 51 t51_54) 52 t52_56) 55 (f51 1)) 56 (f51 9)) 57 t57_64) 58 t58_66) 10 t10_68) 59 t59_86) 60 t60_88) 62 t62_91) 61 t62_91) 72 t72_109) 71 t72_109) 73 (f51 7)) 74 t74_111) 75 t75_113) 76 (f51 7)) 77 t77_115) 78 (f51 7)) 79 t79_117) 8 t79_117) w118) (
  K71 .normal (pf 150 (pf 150 (pf 150 (pf 150 (pf 150 (pf 150 (pf 150 (pf 150 (pf 150 (pf 150 (pf 150 (pf 150 (pf 150 (pf 150 (pf 150 (pf 150 (pf 150 (pf 150 (pf 150 (pf 150 f51 49 (f51 9)) 50 (f51 1)) 51 t51_54) 52 t52_56) 55 (f51 1)) 56 (f51 9)) 57 t57_64) 58 t58_66) 10 t10_68) 59 t59_86) 60 t60_88) 62 t62_91) 61 t62_91) 72 t72_109) 71 t72_109) 73 (f51 7)) 74 t74_111) 75 t75_113) 76 (f51 7)) 77 t77_115) w116))) (
  binN Tryz.prog .eql 3 true t60_88 (.int .i64 2) w110 fun t81_119 w120 =>
  condW t81_119 (
  offW (some 1) t10_68 w120 fun t83_121 w122 =>
  loadW (some (false, 1)) t83_121 w122 fun t84_123 w124 =>
  fnW Tryz.prog 22 #[(f51 7), t84_123, (f51 8)] w124 fun t86_125 w126 =>
  K71 .normal (pf 150 (pf 150 (pf 150 (pf 150 (pf 150 (pf 150 (pf 150 (pf 150 (pf 150 (pf 150 (pf 150 (pf 150 (pf 150 (pf 150 (pf 150 (pf 150 (pf 150 (pf 150 (pf 150 (pf 150 (pf 150 (pf 150 (pf 150 f51 49 (f51 9)) 50 (f51 1)) 51 t51_54) 52 t52_56) 55 (f51 1)) 56 (f51 9)) 57 t57_64) 58 t58_66) 10 t10_68) 59 t59_86) 60 t60_88) 62 t62_91) 61 t62_91) 72 t72_109) 71 t72_109) 81 t81_119) 80 t81_119) 82 (f51 7)) 83 t83_121) 84 t84_123) 85 (f51 8)) 86 t86_125) 8 t86_125) w126) (
  binN Tryz.prog .eql 3 true t60_88 (.int .i64 3) w120 fun t88_127 w128 =>
  condW t88_127 (
  offW (some 1) t10_68 w128 fun t90_129 w130 =>
  loadW (some (false, 1)) t90_129 w130 fun t91_131 w132 =>
  fnW Tryz.prog 23 #[(f51 5), t91_131] w132 fun t92_133 w134 =>
  K71 .normal (pf 150 (pf 150 (pf 150 (pf 150 (pf 150 (pf 150 (pf 150 (pf 150 (pf 150 (pf 150 (pf 150 (pf 150 (pf 150 (pf 150 (pf 150 (pf 150 (pf 150 (pf 150 (pf 150 (pf 150 (pf 150 (pf 150 (pf 150 f51 49 (f51 9)) 50 (f51 1)) 51 t51_54) 52 t52_56) 55 (f51 1)) 56 (f51 9)) 57 t57_64) 58 t58_66) 10 t10_68) 59 t59_86) 60 t60_88) 62 t62_91) 61 t62_91) 72 t72_109) 71 t72_109) 81 t81_119) 80 t81_119) 88 t88_127) 87 t88_127) 89 (f51 5)) 90 t90_129) 91 t91_131) 92 t92_133) w134) (
  binN Tryz.prog .eql 3 true t60_88 (.int .i64 4) w128 fun t94_135 w136 =>
  condW t94_135 (
  fnW Tryz.prog 17 #[(f51 7)] w136 fun t96_137 w138 =>
  offW (some 3) t10_68 w138 fun t98_139 w140 =>
  loadW (some (false, 1)) t98_139 w140 fun t99_141 w142 =>
  fnW Tryz.prog 24 #[(f51 5), t99_141] w142 fun t100_143 w144 =>
  fnW Tryz.prog 8 #[(f51 5)] w144 fun t103_145 w146 =>
  extrW t103_145 0 w146 fun t104_147 w148 =>
  extrW t103_145 1 w148 fun t105_149 w150 =>
  binN Tryz.prog .neq 26 true t105_149 (.int .i64 0) w150 fun t107_151 w152 =>
  gstep t107_151 false w152 (fun K => K t104_147 w152) fun t109_153 w154 =>
  gstep t107_151 false w154 (fun K => binW Tryz.prog .eql 29 true t109_153 (.pointer none) w154 K) fun t110_155 w156 =>
  pickW t107_151 (.bool true) t110_155 w156 fun t111_157 w158 =>
  gstep t111_157 false w158 (fun K => K t104_147 w158) fun t113_159 w160 =>
  gstep t111_157 false w160 (fun K => fnW Tryz.prog 19 #[t113_159] w160 K) fun t114_161 w162 =>
  gstep t111_157 false w162 (fun K => unN Tryz.prog .not t114_161 w162 K) fun t115_163 w164 =>
  pickW t111_157 (.bool true) t115_163 w164 fun t116_165 w166 =>
  condW t116_165 (
  K53 .ret (pf 150 (pf 150 (pf 150 (pf 150 (pf 150 (pf 150 (pf 150 (pf 150 (pf 150 (pf 150 (pf 150 (pf 150 (pf 150 (pf 150 (pf 150 (pf 150 (pf 150 (pf 150 (pf 150 (pf 150 (pf 150 (pf 150 (pf 150 (pf 150 (pf 150 (pf 150 (pf 150 (pf 150 (pf 150 (pf 150 (pf 150 (pf 150 (pf 150 (pf 150 (pf 150 (pf 150 (pf 150 (pf 150 (pf 150 (pf 150 (pf 150 (pf 150 (pf 150 (pf 150 (pf 150 (pf 150 (pf 150 f51 49 (f51 9)) 50 (f51 1)) 51 t51_54) 52 t52_56) 55 (f51 1)) 56 (f51 9)) 57 t57_64) 58 t58_66) 10 t10_68) 59 t59_86) 60 t60_88) 62 t62_91) 61 t62_91) 72 t72_109) 71 t72_109) 81 t81_119) 80 t81_119) 88 t88_127) 87 t88_127) 94 t94_135) 93 t94_135) 95 (f51 7)) 96 t96_137) 11 t96_137) 97 (f51 5)) 98 t98_139) 99 t99_141) 100 t100_143) 102 (f51 5)) 103 t103_145) 101 t103_145) 104 t104_147) 105 t105_149) 12 t104_147) 13 t105_149) 106 t105_149) 107 t107_151) 108 t107_151) 109 t109_153) 110 t110_155) 111 t111_157) 112 t111_157) 113 t113_159) 114 t114_161) 115 t115_163) 116 t116_165) 4 (.bool false)) w166) (
  fnW Tryz.prog 17 #[t104_147] w166 fun t118_167 w168 =>
  lenW Tryz.prog (some true) #[32] 3 #[t118_167] w168 fun t120_169 w170 =>
  binN Tryz.prog .lss 3 false t120_169 (f51 8) w170 fun t122_171 w172 =>
  gstep t122_171 false w172 (fun K => K t118_167 w172) fun t124_173 w174 =>
  gstep t122_171 false w174 (fun K => lenW Tryz.prog (some true) #[32] 3 #[t124_173] w174 K) fun t125_175 w176 =>
  gstep t122_171 false w176 (fun K => K t96_137 w176) fun t126_177 w178 =>
  gstep t122_171 false w178 (fun K => lenW Tryz.prog (some true) #[32] 3 #[t126_177] w178 K) fun t127_179 w180 =>
  gstep t122_171 false w180 (fun K => binN Tryz.prog .gtr 3 false t125_175 t127_179 w180 K) fun t128_181 w182 =>
  pickW t122_171 (.bool true) t128_181 w182 fun t129_183 w184 =>
  gstep t129_183 false w184 (fun K => K t118_167 w184) fun t131_185 w186 =>
  gstep t129_183 false w186 (fun K => K t96_137 w186) fun t132_187 w188 =>
  gstep t129_183 false w188 (fun K => K t118_167 w188) fun t133_189 w190 =>
  gstep t129_183 false w190 (fun K => lenW Tryz.prog (some true) #[32] 3 #[t133_189] w190 K) fun t134_191 w192 =>
  gstep t129_183 false w192 (fun K => sliceW (.sl 33) t132_187 none (some t134_191) none w192 K) fun t135_193 w194 =>
  gstep t129_183 false w194 (fun K => fnW Tryz.prog 16 #[t131_185, t135_193] w194 K) fun t136_195 w196 =>
  gstep t129_183 false w196 (fun K => unN Tryz.prog .not t136_195 w196 K) fun t137_197 w198 =>
  pickW t129_183 (.bool true) t137_197 w198 fun t138_199 w200 =>
  condW t138_199 (
  K53 .ret (pf 150 (pf 150 (pf 150 (pf 150 (pf 150 (pf 150 (pf 150 (pf 150 (pf 150 (pf 150 (pf 150 (pf 150 (pf 150 (pf 150 (pf 150 (pf 150 (pf 150 (pf 150 (pf 150 (pf 150 (pf 150 (pf 150 (pf 150 (pf 150 (pf 150 (pf 150 (pf 150 (pf 150 (pf 150 (pf 150 (pf 150 (pf 150 (pf 150 (pf 150 (pf 150 (pf 150 (pf 150 (pf 150 (pf 150 (pf 150 (pf 150 (pf 150 (pf 150 (pf 150 (pf 150 (pf 150 (pf 150 (pf 150 (pf 150 (pf 150 (pf 150 (pf 150 (pf 150 (pf 150 (pf 150 (pf 150 (pf 150 (pf 150 (pf 150 (pf 150 (pf 150 (pf 150 (pf 150 (pf 150 (pf 150 (pf 150 (pf 150 (pf 150 (pf 150 (pf 150 f51 49 (f51 9)) 50 (f51 1)) 51 t51_54) 52 t52_56) 55 (f51 1)) 56 (f51 9)) 57 t57_64) 58 t58_66) 10 t10_68) 59 t59_86) 60 t60_88) 62 t62_91) 61 t62_91) 72 t72_109) 71 t72_109) 81 t81_119) 80 t81_119) 88 t88_127) 87 t88_127) 94 t94_135) 93 t94_135) 95 (f51 7)) 96 t96_137) 11 t96_137) 97 (f51 5)) 98 t98_139) 99 t99_141) 100 t100_143) 102 (f51 5)) 103 t103_145) 101 t103_145) 104 t104_147) 105 t105_149) 12 t104_147) 13 t105_149) 106 t105_149) 107 t107_151) 108 t107_151) 109 t109_153) 110 t110_155) 111 t111_157) 112 t111_157) 113 t113_159) 114 t114_161) 115 t115_163) 116 t116_165) 117 t104_147) 118 t118_167) 14 t118_167) 119 t118_167) 120 t120_169) 121 (f51 8)) 122 t122_171) 123 t122_171) 124 t124_173) 125 t125_175) 126 t126_177) 127 t127_179) 128 t128_181) 129 t129_183) 130 t129_183) 131 t131_185) 132 t132_187) 133 t133_189) 134 t134_191) 135 t135_193) 136 t136_195) 137 t137_197) 138 t138_199) 4 (.bool false)) w200) (
  fnW Tryz.prog 18 #[t104_147] w200 fun t141_201 w202 =>
  K71 .normal (pf 150 (pf 150 (pf 150 (pf 150 (pf 150 (pf 150 (pf 150 (pf 150 (pf 150 (pf 150 (pf 150 (pf 150 (pf 150 (pf 150 (pf 150 (pf 150 (pf 150 (pf 150 (pf 150 (pf 150 (pf 150 (pf 150 (pf 150 (pf 150 (pf 150 (pf 150 (pf 150 (pf 150 (pf 150 (pf 150 (pf 150 (pf 150 (pf 150 (pf 150 (pf 150 (pf 150 (pf 150 (pf 150 (pf 150 (pf 150 (pf 150 (pf 150 (pf 150 (pf 150 (pf 150 (pf 150 (pf 150 (pf 150 (pf 150 (pf 150 (pf 150 (pf 150 (pf 150 (pf 150 (pf 150 (pf 150 (pf 150 (pf 150 (pf 150 (pf 150 (pf 150 (pf 150 (pf 150 (pf 150 (pf 150 (pf 150 (pf 150 (pf 150 (pf 150 (pf 150 (pf 150 (pf 150 (pf 150 (pf 150 f51 49 (f51 9)) 50 (f51 1)) 51 t51_54) 52 t52_56) 55 (f51 1)) 56 (f51 9)) 57 t57_64) 58 t58_66) 10 t10_68) 59 t59_86) 60 t60_88) 62 t62_91) 61 t62_91) 72 t72_109) 71 t72_109) 81 t81_119) 80 t81_119) 88 t88_127) 87 t88_127) 94 t94_135) 93 t94_135) 95 (f51 7)) 96 t96_137) 11 t96_137) 97 (f51 5)) 98 t98_139) 99 t99_141) 100 t100_143) 102 (f51 5)) 103 t103_145) 101 t103_145) 104 t104_147) 105 t105_149) 12 t104_147) 13 t105_149) 106 t105_149) 107 t107_151) 108 t107_151) 109 t109_153) 110 t110_155) 111 t111_157) 112 t111_157) 113 t113_159) 114 t114_161) 115 t115_163) 116 t116_165) 117 t104_147) 118 t118_167) 14 t118_167) 119 t118_167) 120 t120_169) 121 (f51 8)) 122 t122_171) 123 t122_171) 124 t124_173) 125 t125_175) 126 t126_177) 127 t127_179) 128 t128_181) 129 t129_183) 130 t129_183) 131 t131_185) 132 t132_187) 133 t133_189) 134 t134_191) 135 t135_193) 136 t136_195) 137 t137_197) 138 t138_199) 139 t104_147) 7 t104_147) 140 t104_147) 141 t141_201) 8 t141_201) w202))) (
  K71 .normal (pf 150 (pf 150 (pf 150 (pf 150 (pf 150 (pf 150 (pf 150 (pf 150 (pf 150 (pf 150 (pf 150 (pf 150 (pf 150 (pf 150 (pf 150 (pf 150 (pf 150 (pf 150 (pf 150 (pf 150 (pf 150 f51 49 (f51 9)) 50 (f51 1)) 51 t51_54) 52 t52_56) 55 (f51 1)) 56 (f51 9)) 57 t57_64) 58 t58_66) 10 t10_68) 59 t59_86) 60 t60_88) 62 t62_91) 61 t62_91) 72 t72_109) 71 t72_109) 81 t81_119) 80 t81_119) 88 t88_127) 87 t88_127) 94 t94_135) 93 t94_135) w136)))))) (
  K53 (.exit 0) (pf 150 (pf 150 (pf 150 (pf 150 f51 49 (f51 9)) 50 (f51 1)) 51 t51_54) 52 t52_56) w57)) (pf 150 (pf 150 (pf 150 (pf 150 (pf 150 (pf 150 (pf 150 (pf 150 (pf 150 (pf 150 (pf 150 (pf 150 (pf 150 (pf 150 (pf 150 (pf 150 (pf 150 (pf 150 (pf 150 (pf 150 (pf 150 (pf 150 (pf 150 (pf 150 (pf 150 (pf 150 (pf 150 (pf 150 (pf 150 (pf 150 (pf 150 (pf 150 (pf 150 (pf 150 (pf 150 (pf 150 (pf 150 (pf 150 (pf 150 (pf 150 (pf 150 (argF [x0, x1]) 4 (.bool false)) 15 t15_0) 16 t16_2) 17 x1) 18 t18_4) 19 t18_4) 20 t20_6) 21 t21_8) 22 t22_10) 23 t22_10) 24 t24_12) 25 t25_14) 26 t26_16) 28 x0) 29 t29_18) 27 t29_18) 30 t30_20) 31 t31_22) 5 t30_20) 6 t31_22) 32 t31_22) 33 t33_24) 34 t33_24) 35 t35_26) 36 t36_28) 37 t37_30) 39 t30_20) 40 t40_32) 38 t40_32) 41 t41_34) 42 t42_36) 7 t41_34) 6 t42_36) 43 t42_36) 44 t44_38) 45 t44_38) 46 t46_40) 47 t47_42) 48 t48_44) 8 (.int .i64 0)) 9 (.int .i64 0)) w45 K50))))
theorem c4_eq (x0 x1 : Value) (w : World) (K : VPost) : c4 x0 x1 w K = WP true Tryz.prog 150 [(18, 144, [0, 0, 2, 4, 8, 0, 32, 81], [0, 0, 2, 6, 14, 0, 32, 127])] (bodyOf Tryz.f4) (argF [x0, x1]) w [.tmp 4] K := by kernel_rfl
theorem c4_calls (x0 x1 : Value) (w : World) (K : VPost) (h : c4 x0 x1 w K) : Calls Tryz.prog 4 #[x0, x1] w (retK K) :=
  calls_of_WP (c4_eq x0 x1 w K) mixedG Tryz.func4 (by kernel_rfl) Tryz.ntmps4 (by kernel_rfl) (by kernel_rfl) h

/-- imprimatur/imprimaturref06.Same -/
def c16 (x0 x1 : Value) (w : World) (K : VPost) : Prop :=
  lenW Tryz.prog (some true) #[32] 3 #[x0] w fun t7_0 w1 =>
  lenW Tryz.prog (some true) #[32] 3 #[x1] w1 fun t9_2 w3 =>
  binN Tryz.prog .neq 3 false t7_0 t9_2 w3 fun t10_4 w5 =>
  condW t10_4 (
  K (.bool false) w5) (
  bindX (endW Tryz.prog [.tmp 4] K) fun K6 =>
  bindX (seqX (fun _ w9 =>
  K (.bool true) w9) K6) fun K7 =>
  bindX (blkX 0 K7) fun K10 =>
  loopW (fun f11 w12 K13 =>
  lenW Tryz.prog (some true) #[32] 3 #[(f11 0)] w12 fun t13_14 w15 =>
  binN Tryz.prog .lss 3 false (f11 5) t13_14 w15 fun t14_16 w17 =>
  condW t14_16 (
  idxW (some (none, 33)) (f11 0) (f11 5) w17.drew fun t19_18 w19 =>
  offW (some 0) t19_18 w19 fun t20_20 w21 =>
  loadW (some (true, 32)) t20_20 w21 fun t21_22 w23 =>
  idxW (some (none, 33)) (f11 1) (f11 5) w23 fun t24_24 w25 =>
  offW (some 0) t24_24 w25 fun t25_26 w27 =>
  loadW (some (true, 32)) t25_26 w27 fun t26_28 w29 =>
  binW Tryz.prog .neq 34 false t21_22 t26_28 w29 fun t27_30 w31 =>
  w31 = w29 ∧
  gstep t27_30 false w31 (fun K => K (f11 0) w31) fun t29_32 w33 =>
  gstep t27_30 false w33 (fun K => K (f11 5) w33) fun t30_34 w35 =>
  gstep t27_30 false w35 (fun K => idxW (some (none, 33)) t29_32 t30_34 w35 K) fun t31_36 w37 =>
  gstep t27_30 false w37 (fun K => offW (some 32) t31_36 w37 K) fun t32_38 w39 =>
  gstep t27_30 false w39 (fun K => loadW (some (false, 1)) t32_38 w39 K) fun t33_40 w41 =>
  gstep t27_30 false w41 (fun K => K (f11 1) w41) fun t34_42 w43 =>
  gstep t27_30 false w43 (fun K => K (f11 5) w43) fun t35_44 w45 =>
  gstep t27_30 false w45 (fun K => idxW (some (none, 33)) t34_42 t35_44 w45 K) fun t36_46 w47 =>
  gstep t27_30 false w47 (fun K => offW (some 32) t36_46 w47 K) fun t37_48 w49 =>
  gstep t27_30 false w49 (fun K => loadW (some (false, 1)) t37_48 w49 K) fun t38_50 w51 =>
  gstep t27_30 false w51 (fun K => fnW Tryz.prog 14 #[t33_40, t38_50] w51 K) fun t39_52 w53 =>
  gstep t27_30 false w53 (fun K => unN Tryz.prog .not t39_52 w53 K) fun t40_54 w55 =>
  pickW t27_30 (.bool true) t40_54 w55 fun t41_56 w57 =>
  condW t41_56 (
  K13 .ret (pf 42 (pf 42 (pf 42 (pf 42 (pf 42 (pf 42 (pf 42 (pf 42 (pf 42 (pf 42 (pf 42 (pf 42 (pf 42 (pf 42 (pf 42 (pf 42 (pf 42 (pf 42 (pf 42 (pf 42 (pf 42 (pf 42 (pf 42 (pf 42 (pf 42 (pf 42 (pf 42 (pf 42 (pf 42 (pf 42 f11 11 (f11 5)) 12 (f11 0)) 13 t13_14) 14 t14_16) 17 (f11 0)) 18 (f11 5)) 19 t19_18) 20 t20_20) 21 t21_22) 22 (f11 1)) 23 (f11 5)) 24 t24_24) 25 t25_26) 26 t26_28) 27 t27_30) 28 t27_30) 29 t29_32) 30 t30_34) 31 t31_36) 32 t32_38) 33 t33_40) 34 t34_42) 35 t35_44) 36 t36_46) 37 t37_48) 38 t38_50) 39 t39_52) 40 t40_54) 41 t41_56) 4 (.bool false)) w57) (
  binN Tryz.prog .add 3 true (f11 5) (.int .i64 1) w57 fun t16_58 w59 =>
  K13 .normal (pf 42 (pf 42 (pf 42 (pf 42 (pf 42 (pf 42 (pf 42 (pf 42 (pf 42 (pf 42 (pf 42 (pf 42 (pf 42 (pf 42 (pf 42 (pf 42 (pf 42 (pf 42 (pf 42 (pf 42 (pf 42 (pf 42 (pf 42 (pf 42 (pf 42 (pf 42 (pf 42 (pf 42 (pf 42 (pf 42 (pf 42 (pf 42 f11 11 (f11 5)) 12 (f11 0)) 13 t13_14) 14 t14_16) 17 (f11 0)) 18 (f11 5)) 19 t19_18) 20 t20_20) 21 t21_22) 22 (f11 1)) 23 (f11 5)) 24 t24_24) 25 t25_26) 26 t26_28) 27 t27_30) 28 t27_30) 29 t29_32) 30 t30_34) 31 t31_36) 32 t32_38) 33 t33_40) 34 t34_42) 35 t35_44) 36 t36_46) 37 t37_48) 38 t38_50) 39 t39_52) 40 t40_54) 41 t41_56) 15 (f11 5)) 16 t16_58) 5 t16_58) w59)) (
  K13 (.exit 0) (pf 42 (pf 42 (pf 42 (pf 42 f11 11 (f11 5)) 12 (f11 0)) 13 t13_14) 14 t14_16) w17)) (pf 42 (pf 42 (pf 42 (pf 42 (pf 42 (pf 42 (pf 42 (argF [x0, x1]) 4 (.bool false)) 6 x0) 7 t7_0) 8 x1) 9 t9_2) 10 t10_4) 5 (.int .i64 0)) w5 K10)
theorem c16_eq (x0 x1 : Value) (w : World) (K : VPost) : c16 x0 x1 w K = WP true Tryz.prog 42 [(6, 4194304, [0, 0, 3, 4, 8, 0, 0, 96, 128, 256, 528, 1024, 2048, 2048, 14336, 18432, 34816, 2048, 2048, 395264, 526336, 1050624, 2164736, 4196352, 8390656], [0, 0, 3, 7, 15, 0, 0, 96, 224, 480, 1023, 2047, 4095, 4095, 16383, 32767, 65535, 4095, 4095, 397311, 921599, 1970175, 4194303, 8388607, 16777215])] (bodyOf Tryz.f16) (argF [x0, x1]) w [.tmp 4] K := by kernel_rfl
theorem c16_calls (x0 x1 : Value) (w : World) (K : VPost) (h : c16 x0 x1 w K) : Calls Tryz.prog 16 #[x0, x1] w (retK K) :=
  calls_of_WP (c16_eq x0 x1 w K) mixedG Tryz.func16 (by kernel_rfl) Tryz.ntmps16 (by kernel_rfl) (by kernel_rfl) h

/-- imprimatur/imprimaturref06.Get -/
def c13 (x0 x1 : Value) (w : World) (K : VPost) : Prop :=
  boxW 34 x1 w fun t3_0 w1 =>
  bindX (endW Tryz.prog [.tmp 4, .tmp 5] K) fun K2 =>
  bindX (seqX (fun _ w5 =>
  K (.tuple #[(.slice none 0 0), (.bool false)]) w5) K2) fun K3 =>
  bindX (blkX 0 K3) fun K6 =>
  loopW (fun f7 w8 K9 =>
  lenW Tryz.prog (some true) #[32] 3 #[(f7 0)] w8 fun t9_10 w11 =>
  binN Tryz.prog .lss 3 false (f7 6) t9_10 w11 fun t10_12 w13 =>
  condW t10_12 (
  idxW (some (none, 33)) (f7 0) (f7 6) w13.drew fun t15_14 w15 =>
  offW (some 0) t15_14 w15 fun t16_16 w17 =>
  loadW (some (true, 32)) t16_16 w17 fun t17_18 w19 =>
  loadW (some (true, 32)) (f7 3) w19 fun t18_20 w21 =>
  binW Tryz.prog .eql 34 false t17_18 t18_20 w21 fun t19_22 w23 =>
  w23 = w21 ∧
  condW t19_22 (
  idxW (some (none, 33)) (f7 0) (f7 6) w23 fun t22_24 w25 =>
  offW (some 32) t22_24 w25 fun t23_26 w27 =>
  loadW (some (false, 1)) t23_26 w27 fun t24_28 w29 =>
  K9 .ret (pf 25 (pf 25 (pf 25 (pf 25 (pf 25 (pf 25 (pf 25 (pf 25 (pf 25 (pf 25 (pf 25 (pf 25 (pf 25 (pf 25 (pf 25 (pf 25 (pf 25 (pf 25 f7 7 (f7 6)) 8 (f7 0)) 9 t9_10) 10 t10_12) 13 (f7 0)) 14 (f7 6)) 15 t15_14) 16 t16_16) 17 t17_18) 18 t18_20) 19 t19_22) 20 (f7 0)) 21 (f7 6)) 22 t22_24) 23 t23_26) 24 t24_28) 4 t24_28) 5 (.bool true)) w29) (
  binN Tryz.prog .add 3 true (f7 6) (.int .i64 1) w23 fun t12_30 w31 =>
  K9 .normal (pf 25 (pf 25 (pf 25 (pf 25 (pf 25 (pf 25 (pf 25 (pf 25 (pf 25 (pf 25 (pf 25 (pf 25 (pf 25 (pf 25 f7 7 (f7 6)) 8 (f7 0)) 9 t9_10) 10 t10_12) 13 (f7 0)) 14 (f7 6)) 15 t15_14) 16 t16_16) 17 t17_18) 18 t18_20) 19 t19_22) 11 (f7 6)) 12 t12_30) 6 t12_30) w31)) (
  K9 (.exit 0) (pf 25 (pf 25 (pf 25 (pf 25 f7 7 (f7 6)) 8 (f7 0)) 9 t9_10) 10 t10_12) w13)) (pf 25 (pf 25 (pf 25 (pf 25 (argF [x0, x1]) 3 t3_0) 4 (.slice none 0 0)) 5 (.bool false)) 6 (.int .i64 0)) w1 K6
theorem c13_eq (x0 x1 : Value) (w : World) (K : VPost) : c13 x0 x1 w K = WP true Tryz.prog 25 [(4, 0, [0, 0, 3, 4, 8, 0, 48], [0, 0, 3, 7, 15, 0, 63])] (bodyOf Tryz.f13) (argF [x0, x1]) w [.tmp 4, .tmp 5] K := by kernel_rfl
theorem c13_calls (x0 x1 : Value) (w : World) (K : VPost) (h : c13 x0 x1 w K) : Calls Tryz.prog 13 #[x0, x1] w (retK K) :=
  calls_of_WP (c13_eq x0 x1 w K) mixedG Tryz.func13 (by kernel_rfl) Tryz.ntmps13 (by kernel_rfl) (by kernel_rfl) h

/-- imprimatur/imprimaturref06.Need -/
def c20 (x0 : Value) (w : World) (K : VPost) : Prop :=
  bindX (endW Tryz.prog [.tmp 2] K) fun K0 =>
  bindX (seqX (fun f2 w3 =>
  K (f2 3) w3) K0) fun K1 =>
  bindX (blkX 0 K1) fun K4 =>
  loopW (fun f5 w6 K7 =>
  lenW Tryz.prog (some true) #[32] 3 #[(f5 0)] w6 fun t7_8 w9 =>
  binN Tryz.prog .lss 3 false (f5 4) t7_8 w9 fun t8_10 w11 =>
  condW t8_10 (
  idxW (some (none, 33)) (f5 0) (f5 4) w11 fun t14_12 w13 =>
  offW (some 32) t14_12 w13 fun t15_14 w15 =>
  loadW (some (false, 1)) t15_14 w15 fun t16_16 w17 =>
  lenW Tryz.prog (some true) #[36] 3 #[t16_16] w17 fun t17_18 w19 =>
  binN Tryz.prog .add 3 true (.int .i64 32) t17_18 w19 fun t18_20 w21 =>
  fnW Tryz.prog 12 #[t18_20] w21 fun t19_22 w23 =>
  binN Tryz.prog .add 3 false (f5 3) t19_22 w23 fun t20_24 w25 =>
  binN Tryz.prog .add 3 true (f5 4) (.int .i64 1) w25 fun t10_26 w27 =>
  K7 .normal (pf 22 (pf 22 (pf 22 (pf 22 (pf 22 (pf 22 (pf 22 (pf 22 (pf 22 (pf 22 (pf 22 (pf 22 (pf 22 (pf 22 (pf 22 (pf 22 (pf 22 (pf 22 f5 5 (f5 4)) 6 (f5 0)) 7 t7_8) 8 t8_10) 11 (f5 3)) 12 (f5 0)) 13 (f5 4)) 14 t14_12) 15 t15_14) 16 t16_16) 17 t17_18) 18 t18_20) 19 t19_22) 20 t20_24) 3 t20_24) 9 (f5 4)) 10 t10_26) 4 t10_26) w27) (
  K7 (.exit 0) (pf 22 (pf 22 (pf 22 (pf 22 f5 5 (f5 4)) 6 (f5 0)) 7 t7_8) 8 t8_10) w11)) (pf 22 (pf 22 (pf 22 (argF [x0]) 2 (.int .i64 0)) 3 (.int .i64 0)) 4 (.int .i64 0)) w K4
theorem c20_eq (x0 : Value) (w : World) (K : VPost) : c20 x0 w K = WP true Tryz.prog 22 [] (bodyOf Tryz.f20) (argF [x0]) w [.tmp 2] K := by kernel_rfl
theorem c20_calls (x0 : Value) (w : World) (K : VPost) (h : c20 x0 w K) : Calls Tryz.prog 20 #[x0] w (retK K) :=
  calls_of_WP (c20_eq x0 w K) mixedG Tryz.func20 (by kernel_rfl) Tryz.ntmps20 (by kernel_rfl) (by kernel_rfl) h

end Go.Proofs.YtedebapgmfnflaaGreatDoor
