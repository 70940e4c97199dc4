/- The clean forms of some of the program's functions, written by a program of ours; each is the model's own by the kernel's reckoning. -/
import Derived.Test.YtedebapgmfnflaaGB
import Derived.KernelRfl
namespace Go.Proofs.Ytedebapgmfnflaa
open Go
set_option maxRecDepth 100000

/-- imprimatur/imprimaturref02.FromHex -/
def c55 (x0 : Value) (w : World) (K : VPost) : Prop :=
  allocW (zeroO Try.prog 62) 62 w fun t2_0 w1 =>
  insW Try.prog (Instr.build 62 #[]) w1 fun t8_2 w3 =>
  allocW (zeroO Try.prog 62) 62 w3 fun t4_4 w5 =>
  storeW (some (true, 32)) t4_4 t8_2 w5 fun w6 =>
  lenW Try.prog (some false) #[9] 3 #[x0] w6 fun t10_7 w8 =>
  binN Try.prog .neq 3 true t10_7 (.int .i64 64) w8 fun t11_9 w10 =>
  condW t11_9 (
  loadW (some (true, 32)) t4_4 w10 fun t12_11 w12 =>
  storeW (some (true, 32)) t2_0 t12_11 w12 fun w13 =>
  loadW (some (true, 32)) t2_0 w13 fun r14 _ =>
  K (.tuple #[r14, (.bool false)]) w13) (
  bindX (endW Try.prog [.cell 2 62, .tmp 3] K) fun K16 =>
  bindX (seqX (fun f18 w19 =>
  loadW (some (true, 32)) (f18 4) w19 fun t42_20 w21 =>
  storeW (some (true, 32)) (f18 2) t42_20 w21 fun w22 =>
  loadW (some (true, 32)) (f18 2) w22 fun r23 _ =>
  K (.tuple #[r23, (.bool true)]) w22) K16) fun K17 =>
  bindX (blkX 0 K17) fun K25 =>
  loopW (fun f26 w27 K28 =>
  binN Try.prog .lss 3 true (f26 5) (.int .i64 32) w27 fun t14_29 w30 =>
  condW t14_29 (
  binN Try.prog .mul 3 true (.int .i64 2) (f26 5) w30 fun t19_31 w32 =>
  ixvW .str (f26 0) t19_31 w32 fun t20_33 w34 =>
  fnW Try.prog 86 #[t20_33] w34 fun t21_35 w36 =>
  binN Try.prog .mul 3 true (.int .i64 2) (f26 5) w36 fun t24_37 w38 =>
  binN Try.prog .add 3 true t24_37 (.int .i64 1) w38 fun t25_39 w40 =>
  ixvW .str (f26 0) t25_39 w40 fun t26_41 w42 =>
  fnW Try.prog 86 #[t26_41] w42 fun t27_43 w44 =>
  binN Try.prog .lss 3 true t21_35 (.int .i64 0) w44 fun t29_45 w46 =>
  gstep t29_45 false w46 (fun K => K t27_43 w46) fun t31_47 w48 =>
  gstep t29_45 false w48 (fun K => binN Try.prog .lss 3 true t31_47 (.int .i64 0) w48 K) fun t32_49 w50 =>
  pickW t29_45 (.bool true) t32_49 w50 fun t33_51 w52 =>
  condW t33_51 (
  insW Try.prog (Instr.build 62 #[]) w52 fun t34_53 w54 =>
  storeW (some (true, 32)) (f26 2) t34_53 w54 fun w55 =>
  K28 .ret (pf 43 (pf 43 (pf 43 (pf 43 (pf 43 (pf 43 (pf 43 (pf 43 (pf 43 (pf 43 (pf 43 (pf 43 (pf 43 (pf 43 (pf 43 (pf 43 (pf 43 (pf 43 (pf 43 (pf 43 (pf 43 (pf 43 (pf 43 f26 13 (f26 5)) 14 t14_29) 17 (f26 0)) 18 (f26 5)) 19 t19_31) 20 t20_33) 21 t21_35) 6 t21_35) 22 (f26 0)) 23 (f26 5)) 24 t24_37) 25 t25_39) 26 t26_41) 27 t27_43) 7 t27_43) 28 t21_35) 29 t29_45) 30 t29_45) 31 t31_47) 32 t32_49) 33 t33_51) 34 t34_53) 3 (.bool false)) w55) (
  binN Try.prog .mul 3 true (.int .i64 16) t21_35 w52 fun t37_56 w57 =>
  binN Try.prog .add 3 false t37_56 t27_43 w57 fun t39_58 w59 =>
  convN Try.prog 3 5 t39_58 w59 fun t40_60 w61 =>
  idxW (some ((some 32), 1)) (f26 4) (f26 5) w61 fun t41_62 w63 =>
  storeW (some (false, 1)) t41_62 t40_60 w63 fun w64 =>
  binN Try.prog .add 3 true (f26 5) (.int .i64 1) w64 fun t16_65 w66 =>
  K28 .normal (pf 43 (pf 43 (pf 43 (pf 43 (pf 43 (pf 43 (pf 43 (pf 43 (pf 43 (pf 43 (pf 43 (pf 43 (pf 43 (pf 43 (pf 43 (pf 43 (pf 43 (pf 43 (pf 43 (pf 43 (pf 43 (pf 43 (pf 43 (pf 43 (pf 43 (pf 43 (pf 43 (pf 43 (pf 43 (pf 43 (pf 43 f26 13 (f26 5)) 14 t14_29) 17 (f26 0)) 18 (f26 5)) 19 t19_31) 20 t20_33) 21 t21_35) 6 t21_35) 22 (f26 0)) 23 (f26 5)) 24 t24_37) 25 t25_39) 26 t26_41) 27 t27_43) 7 t27_43) 28 t21_35) 29 t29_45) 30 t29_45) 31 t31_47) 32 t32_49) 33 t33_51) 35 (f26 5)) 36 t21_35) 37 t37_56) 38 t27_43) 39 t39_58) 40 t40_60) 41 t41_62) 15 (f26 5)) 16 t16_65) 5 t16_65) w66)) (
  K28 (.exit 0) (pf 43 (pf 43 f26 13 (f26 5)) 14 t14_29) w30)) (pf 43 (pf 43 (pf 43 (pf 43 (pf 43 (pf 43 (pf 43 (pf 43 (argF [x0]) 2 t2_0) 3 (.bool false)) 8 t8_2) 4 t4_4) 9 x0) 10 t10_7) 11 t11_9) 5 (.int .i64 0)) w10 K25)
theorem c55_eq (x0 : Value) (w : World) (K : VPost) : c55 x0 w K = WP true Try.prog 43 [] (bodyOf Try.f55) (argF [x0]) w [.cell 2 62, .tmp 3] K := by kernel_rfl
theorem c55_calls (x0 : Value) (w : World) (K : VPost) (h : c55 x0 w K) : Calls Try.prog 55 #[x0] w (retK K) :=
  calls_of_WP (c55_eq x0 w K) mixedG Try.func55 (by kernel_rfl) Try.ntmps55 (by kernel_rfl) (by kernel_rfl) h

/-- imprimatur/imprimaturref02.Hex -/
def c57 (x0 : Value) (w : World) (K : VPost) : Prop :=
  boxW 62 x0 w fun t1_0 w1 =>
  insW Try.prog (Instr.buildSlice 34 0 #[]) w1 fun t5_2 w3 =>
  bindX (endW Try.prog [.tmp 2] K) fun K4 =>
  bindX (seqX (fun f6 w7 =>
  insW Try.prog (convert 34 9 (f6 3)) w7 fun t24_8 w9 =>
  K t24_8 w9) K4) fun K5 =>
  bindX (blkX 0 K5) fun K10 =>
  loopW (fun f11 w12 K13 =>
  binN Try.prog .lss 3 true (f11 4) (.int .i64 32) w12 fun t7_14 w15 =>
  condW t7_14 (
  idxW (some ((some 32), 1)) (f11 1) (f11 4) w15.drew fun t12_16 w17 =>
  loadW (some (false, 1)) t12_16 w17 fun t13_18 w19 =>
  binN Try.prog .quo 5 true t13_18 (.int .u8 16) w19 fun t14_20 w21 =>
  ixvW .str (.string ⟨#[48, 49, 50, 51, 52, 53, 54, 55, 56, 57, 97, 98, 99, 100, 101, 102]⟩) t14_20 w21 fun t15_22 w23 =>
  idxW (some ((some 32), 1)) (f11 1) (f11 4) w23 fun t17_24 w25 =>
  loadW (some (false, 1)) t17_24 w25 fun t18_26 w27 =>
  binN Try.prog .rem 5 true t18_26 (.int .u8 16) w27 fun t19_28 w29 =>
  ixvW .str (.string ⟨#[48, 49, 50, 51, 52, 53, 54, 55, 56, 57, 97, 98, 99, 100, 101, 102]⟩) t19_28 w29 fun t20_30 w31 =>
  insW Try.prog (Instr.buildSlice 34 2 #[(0, t15_22), (1, t20_30)]) w31 fun t21_32 w33 =>
  insW Try.prog (Builtin.append_ #[34, 34] 34 #[(f11 3), t21_32]) w33 fun t22_34 w35 =>
  binN Try.prog .add 3 true (f11 4) (.int .i64 1) w35 fun t9_36 w37 =>
  K13 .normal (pf 25 (pf 25 (pf 25 (pf 25 (pf 25 (pf 25 (pf 25 (pf 25 (pf 25 (pf 25 (pf 25 (pf 25 (pf 25 (pf 25 (pf 25 (pf 25 (pf 25 (pf 25 (pf 25 f11 6 (f11 4)) 7 t7_14) 10 (f11 3)) 11 (f11 4)) 12 t12_16) 13 t13_18) 14 t14_20) 15 t15_22) 16 (f11 4)) 17 t17_24) 18 t18_26) 19 t19_28) 20 t20_30) 21 t21_32) 22 t22_34) 3 t22_34) 8 (f11 4)) 9 t9_36) 4 t9_36) w37) (
  K13 (.exit 0) (pf 25 (pf 25 f11 6 (f11 4)) 7 t7_14) w15)) (pf 25 (pf 25 (pf 25 (pf 25 (pf 25 (argF [x0]) 1 t1_0) 2 (.string ⟨#[]⟩)) 5 t5_2) 3 t5_2) 4 (.int .i64 0)) w3 K10
theorem c57_eq (x0 : Value) (w : World) (K : VPost) : c57 x0 w K = WP true Try.prog 25 [(5, 14336, [0, 0, 2, 4, 8, 16, 0, 64, 128, 256, 512, 1056, 2049, 8191], [0, 0, 2, 6, 14, 30, 0, 64, 192, 448, 960, 2046, 4095, 8191])] (bodyOf Try.f57) (argF [x0]) w [.tmp 2] K := by kernel_rfl
theorem c57_calls (x0 : Value) (w : World) (K : VPost) (h : c57 x0 w K) : Calls Try.prog 57 #[x0] w (retK K) :=
  calls_of_WP (c57_eq x0 w K) mixedG Try.func57 (by kernel_rfl) Try.ntmps57 (by kernel_rfl) (by kernel_rfl) h

/-- imprimatur/imprimaturref02.Compare -/
def c60 (x0 x1 : Value) (w : World) (K : VPost) : Prop :=
  boxW 62 x0 w fun t2_0 w1 =>
  boxW 62 x1 w1 fun t3_2 w3 =>
  bindX (endW Try.prog [.tmp 4] K) fun K4 =>
  bindX (seqX (fun _ w7 =>
  K (.int .i64 0) w7) K4) fun K5 =>
  bindX (blkX 0 K5) fun K8 =>
  loopW (fun f9 w10 K11 =>
  binN Try.prog .lss 3 true (f9 5) (.int .i64 32) w10 fun t7_12 w13 =>
  condW t7_12 (
  idxW (some ((some 32), 1)) (f9 2) (f9 5) w13.drew fun t11_14 w15 =>
  loadW (some (false, 1)) t11_14 w15 fun t12_16 w17 =>
  idxW (some ((some 32), 1)) (f9 3) (f9 5) w17 fun t14_18 w19 =>
  loadW (some (false, 1)) t14_18 w19 fun t15_20 w21 =>
  binN Try.prog .lss 5 false t12_16 t15_20 w21 fun t16_22 w23 =>
  condW t16_22 (
  K11 .ret (pf 24 (pf 24 (pf 24 (pf 24 (pf 24 (pf 24 (pf 24 (pf 24 (pf 24 (pf 24 f9 6 (f9 5)) 7 t7_12) 10 (f9 5)) 11 t11_14) 12 t12_16) 13 (f9 5)) 14 t14_18) 15 t15_20) 16 t16_22) 4 (.int .i64 (-1))) w23) (
  idxW (some ((some 32), 1)) (f9 2) (f9 5) w23.drew fun t18_24 w25 =>
  loadW (some (false, 1)) t18_24 w25 fun t19_26 w27 =>
  idxW (some ((some 32), 1)) (f9 3) (f9 5) w27 fun t21_28 w29 =>
  loadW (some (false, 1)) t21_28 w29 fun t22_30 w31 =>
  binN Try.prog .gtr 5 false t19_26 t22_30 w31 fun t23_32 w33 =>
  condW t23_32 (
  K11 .ret (pf 24 (pf 24 (pf 24 (pf 24 (pf 24 (pf 24 (pf 24 (pf 24 (pf 24 (pf 24 (pf 24 (pf 24 (pf 24 (pf 24 (pf 24 (pf 24 (pf 24 f9 6 (f9 5)) 7 t7_12) 10 (f9 5)) 11 t11_14) 12 t12_16) 13 (f9 5)) 14 t14_18) 15 t15_20) 16 t16_22) 17 (f9 5)) 18 t18_24) 19 t19_26) 20 (f9 5)) 21 t21_28) 22 t22_30) 23 t23_32) 4 (.int .i64 1)) w33) (
  binN Try.prog .add 3 true (f9 5) (.int .i64 1) w33 fun t9_34 w35 =>
  K11 .normal (pf 24 (pf 24 (pf 24 (pf 24 (pf 24 (pf 24 (pf 24 (pf 24 (pf 24 (pf 24 (pf 24 (pf 24 (pf 24 (pf 24 (pf 24 (pf 24 (pf 24 (pf 24 (pf 24 f9 6 (f9 5)) 7 t7_12) 10 (f9 5)) 11 t11_14) 12 t12_16) 13 (f9 5)) 14 t14_18) 15 t15_20) 16 t16_22) 17 (f9 5)) 18 t18_24) 19 t19_26) 20 (f9 5)) 21 t21_28) 22 t22_30) 23 t23_32) 8 (f9 5)) 9 t9_34) 5 t9_34) w35))) (
  K11 (.exit 0) (pf 24 (pf 24 f9 6 (f9 5)) 7 t7_12) w13)) (pf 24 (pf 24 (pf 24 (pf 24 (argF [x0, x1]) 2 t2_0) 3 t3_2) 4 (.int .i64 0)) 5 (.int .i64 0)) w3 K8
theorem c60_eq (x0 x1 : Value) (w : World) (K : VPost) : c60 x0 x1 w K = WP true Try.prog 24 [(4, 0, [0, 1, 2, 0, 8, 16, 36], [0, 1, 3, 0, 8, 24, 63]), (6, 0, [0, 1, 2, 0, 8, 16, 36], [0, 1, 3, 0, 8, 24, 63])] (bodyOf Try.f60) (argF [x0, x1]) w [.tmp 4] K := by kernel_rfl
theorem c60_calls (x0 x1 : Value) (w : World) (K : VPost) (h : c60 x0 x1 w K) : Calls Try.prog 60 #[x0, x1] w (retK K) :=
  calls_of_WP (c60_eq x0 x1 w K) mixedG Try.func60 (by kernel_rfl) Try.ntmps60 (by kernel_rfl) (by kernel_rfl) h

/-- imprimatur/imprimaturref02.Sort -/
def c63 (x0 : Value) (w : World) (K : VPost) : Prop :=
  insW Try.prog (Instr.buildSlice 75 0 #[]) w fun t7_0 w1 =>
  bindX (endW Try.prog [.tmp 2] K) fun K2 =>
  bindX (blkX 0 K2) fun K3 =>
  loopW (fun f4 w5 K6 =>
  bindX (blkX 1 K6) fun K7 =>
  insW Try.prog (Instr.build 62 #[]) w5 fun t8_8 w9 =>
  allocW (zeroO Try.prog 62) 62 w9 fun t5_10 w11 =>
  storeW (some (true, 32)) t5_10 t8_8 w11 fun w12 =>
  bindX (seqX (fun f14 w15 =>
  unN Try.prog .not (f14 4) w15 fun t48_16 w17 =>
  condW t48_16 (
  K6 .ret (pf 54 (pf 54 (pf 54 (pf 54 f14 47 (f14 4)) 48 t48_16) 49 (f14 3)) 2 (f14 3)) w17) (
  loadW (some (true, 32)) (f14 5) w17 fun t51_18 w19 =>
  insW Try.prog (Instr.buildSlice 75 1 #[(0, t51_18)]) w19 fun t52_20 w21 =>
  insW Try.prog (Builtin.append_ #[75, 75] 75 #[(f14 3), t52_20]) w21 fun t53_22 w23 =>
  K6 .normal (pf 54 (pf 54 (pf 54 (pf 54 (pf 54 (pf 54 (pf 54 f14 47 (f14 4)) 48 t48_16) 50 (f14 3)) 51 t51_18) 52 t52_20) 53 t53_22) 3 t53_22) w23)) K7) fun K13 =>
  bindX (blkX 2 K13) fun K24 =>
  loopW (fun f25 w26 K27 =>
  lenW Try.prog (some true) #[75] 3 #[(f25 0)] w26 fun t11_28 w29 =>
  binN Try.prog .lss 3 false (f25 6) t11_28 w29 fun t12_30 w31 =>
  condW t12_30 (
  bindX (seqX (fun f33 w34 =>
  binN Try.prog .add 3 true (f33 6) (.int .i64 1) w34 fun t14_35 w36 =>
  K27 .normal (pf 54 (pf 54 (pf 54 f33 13 (f33 6)) 14 t14_35) 6 t14_35) w36) K27) fun K32 =>
  bindX (blkX 3 K32) fun _ =>
  lenW Try.prog (some true) #[75] 3 #[(f25 3)] w31.drew fun t16_38 w39 =>
  binN Try.prog .gtr 3 true t16_38 (.int .i64 0) w39 fun t17_40 w41 =>
  gstep t17_40 true w41 (fun K => K (f25 0) w41) fun t19_42 w43 =>
  gstep t17_40 true w43 (fun K => K (f25 6) w43) fun t20_44 w45 =>
  gstep t17_40 true w45 (fun K => idxW (some (none, 32)) t19_42 t20_44 w45 K) fun t21_46 w47 =>
  gstep t17_40 true w47 (fun K => loadW (some (true, 32)) t21_46 w47 K) fun t22_48 w49 =>
  gstep t17_40 true w49 (fun K => K (f25 3) w49) fun t23_50 w51 =>
  gstep t17_40 true w51 (fun K => K (f25 3) w51) fun t24_52 w53 =>
  gstep t17_40 true w53 (fun K => lenW Try.prog (some true) #[75] 3 #[t24_52] w53 K) fun t25_54 w55 =>
  gstep t17_40 true w55 (fun K => binN Try.prog .sub 3 true t25_54 (.int .i64 1) w55 K) fun t26_56 w57 =>
  gstep t17_40 true w57 (fun K => idxW (some (none, 32)) t23_50 t26_56 w57 K) fun t27_58 w59 =>
  gstep t17_40 true w59 (fun K => loadW (some (true, 32)) t27_58 w59 K) fun t28_60 w61 =>
  gstep t17_40 true w61 (fun K => fnW Try.prog 60 #[t22_48, t28_60] w61 K) fun t29_62 w63 =>
  gstep t17_40 true w63 (fun K => binN Try.prog .leq 3 true t29_62 (.int .i64 0) w63 K) fun t30_64 w65 =>
  pickW t17_40 t30_64 (.bool false) w65 fun t31_66 w67 =>
  condW t31_66 (
  K32 .normal (pf 54 (pf 54 (pf 54 (pf 54 (pf 54 (pf 54 (pf 54 (pf 54 (pf 54 (pf 54 (pf 54 (pf 54 (pf 54 (pf 54 (pf 54 (pf 54 (pf 54 (pf 54 (pf 54 (pf 54 (pf 54 f25 9 (f25 6)) 10 (f25 0)) 11 t11_28) 12 t12_30) 15 (f25 3)) 16 t16_38) 17 t17_40) 18 t17_40) 19 t19_42) 20 t20_44) 21 t21_46) 22 t22_48) 23 t23_50) 24 t24_52) 25 t25_54) 26 t26_56) 27 t27_58) 28 t28_60) 29 t29_62) 30 t30_64) 31 t31_66) w67) (
  unN Try.prog .not (f25 4) w67.drew fun t33_68 w69 =>
  gstep t33_68 false w69 (fun K => K (f25 0) w69) fun t35_70 w71 =>
  gstep t33_68 false w71 (fun K => K (f25 6) w71) fun t36_72 w73 =>
  gstep t33_68 false w73 (fun K => idxW (some (none, 32)) t35_70 t36_72 w73 K) fun t37_74 w75 =>
  gstep t33_68 false w75 (fun K => loadW (some (true, 32)) t37_74 w75 K) fun t38_76 w77 =>
  gstep t33_68 false w77 (fun K => loadW (some (true, 32)) (f25 5) w77 K) fun t39_78 w79 =>
  gstep t33_68 false w79 (fun K => fnW Try.prog 60 #[t38_76, t39_78] w79 K) fun t40_80 w81 =>
  gstep t33_68 false w81 (fun K => binN Try.prog .lss 3 true t40_80 (.int .i64 0) w81 K) fun t41_82 w83 =>
  pickW t33_68 (.bool true) t41_82 w83 fun t42_84 w85 =>
  condW t42_84 (
  idxW (some (none, 32)) (f25 0) (f25 6) w85 fun t45_86 w87 =>
  loadW (some (true, 32)) t45_86 w87 fun t46_88 w89 =>
  storeW (some (true, 32)) (f25 5) t46_88 w89 fun w90 =>
  K32 .normal (pf 54 (pf 54 (pf 54 (pf 54 (pf 54 (pf 54 (pf 54 (pf 54 (pf 54 (pf 54 (pf 54 (pf 54 (pf 54 (pf 54 (pf 54 (pf 54 (pf 54 (pf 54 (pf 54 (pf 54 (pf 54 (pf 54 (pf 54 (pf 54 (pf 54 (pf 54 (pf 54 (pf 54 (pf 54 (pf 54 (pf 54 (pf 54 (pf 54 (pf 54 (pf 54 (pf 54 (pf 54 f25 9 (f25 6)) 10 (f25 0)) 11 t11_28) 12 t12_30) 15 (f25 3)) 16 t16_38) 17 t17_40) 18 t17_40) 19 t19_42) 20 t20_44) 21 t21_46) 22 t22_48) 23 t23_50) 24 t24_52) 25 t25_54) 26 t26_56) 27 t27_58) 28 t28_60) 29 t29_62) 30 t30_64) 31 t31_66) 32 (f25 4)) 33 t33_68) 34 t33_68) 35 t35_70) 36 t36_72) 37 t37_74) 38 t38_76) 39 t39_78) 40 t40_80) 41 t41_82) 42 t42_84) 43 (f25 0)) 44 (f25 6)) 45 t45_86) 46 t46_88) 4 (.bool true)) w90) (
  K32 .normal (pf 54 (pf 54 (pf 54 (pf 54 (pf 54 (pf 54 (pf 54 (pf 54 (pf 54 (pf 54 (pf 54 (pf 54 (pf 54 (pf 54 (pf 54 (pf 54 (pf 54 (pf 54 (pf 54 (pf 54 (pf 54 (pf 54 (pf 54 (pf 54 (pf 54 (pf 54 (pf 54 (pf 54 (pf 54 (pf 54 (pf 54 (pf 54 f25 9 (f25 6)) 10 (f25 0)) 11 t11_28) 12 t12_30) 15 (f25 3)) 16 t16_38) 17 t17_40) 18 t17_40) 19 t19_42) 20 t20_44) 21 t21_46) 22 t22_48) 23 t23_50) 24 t24_52) 25 t25_54) 26 t26_56) 27 t27_58) 28 t28_60) 29 t29_62) 30 t30_64) 31 t31_66) 32 (f25 4)) 33 t33_68) 34 t33_68) 35 t35_70) 36 t36_72) 37 t37_74) 38 t38_76) 39 t39_78) 40 t40_80) 41 t41_82) 42 t42_84) w85))) (
  K27 (.exit 2) (pf 54 (pf 54 (pf 54 (pf 54 f25 9 (f25 6)) 10 (f25 0)) 11 t11_28) 12 t12_30) w31)) (pf 54 (pf 54 (pf 54 (pf 54 f4 4 (.bool false)) 8 t8_8) 5 t5_10) 6 (.int .i64 0)) w12 K24) (pf 54 (pf 54 (pf 54 (argF [x0]) 2 (.slice none 0 0)) 7 t7_0) 3 t7_0) w1 K3
theorem c63_eq (x0 : Value) (w : World) (K : VPost) : c63 x0 w K = WP true Try.prog 54 [(7, 16384, [0, 1, 2, 4, 8, 8, 56, 72, 8, 8, 520, 1032, 2312, 4104, 8328, 16392, 32776], [0, 1, 3, 7, 15, 15, 63, 127, 15, 15, 527, 1551, 3855, 7951, 16383, 32767, 65535]), (8, 256, [0, 1, 2, 4, 4, 28, 36, 4, 196, 260, 516], [0, 1, 3, 7, 7, 31, 63, 7, 255, 511, 1023])] (bodyOf Try.f63) (argF [x0]) w [.tmp 2] K := by kernel_rfl
theorem c63_calls (x0 : Value) (w : World) (K : VPost) (h : c63 x0 w K) : Calls Try.prog 63 #[x0] w (retK K) :=
  calls_of_WP (c63_eq x0 w K) mixedG Try.func63 (by kernel_rfl) Try.ntmps63 (by kernel_rfl) (by kernel_rfl) h

/-- imprimatur/imprimaturref02.Set -/
def c65 (x0 x1 : Value) (w : World) (K : VPost) : Prop :=
  allocW (zeroO Try.prog 62) 62 w fun t4_0 w1 =>
  insW Try.prog (Instr.buildSlice 56 0 #[]) w1 fun t8_2 w3 =>
  fnW Try.prog 63 #[x1] w3 fun t10_4 w5 =>
  bindX (endW Try.prog [.cell 4 62] K) fun K6 =>
  bindX (seqX (fun f8 w9 =>
  fnW Try.prog 71 #[(f8 0), (f8 5)] w9 fun t26_10 w11 =>
  storeW (some (true, 32)) (f8 4) t26_10 w11 fun w12 =>
  loadW (some (true, 32)) (f8 4) w12 fun r13 _ =>
  K r13 w12) K6) fun K7 =>
  bindX (blkX 0 K7) fun K15 =>
  loopW (fun f16 w17 K18 =>
  lenW Try.prog (some true) #[75] 3 #[(f16 6)] w17 fun t13_19 w20 =>
  binN Try.prog .lss 3 false (f16 7) t13_19 w20 fun t14_21 w22 =>
  condW t14_21 (
  idxW (some (none, 32)) (f16 6) (f16 7) w22 fun t20_23 w24 =>
  sliceW (.arr 32 1) t20_23 none none none w24 fun t21_25 w26 =>
  insW Try.prog (Instr.buildSlice 56 1 #[(0, t21_25)]) w26 fun t22_27 w28 =>
  insW Try.prog (Builtin.append_ #[56, 56] 56 #[(f16 5), t22_27]) w28 fun t23_29 w30 =>
  binN Try.prog .add 3 true (f16 7) (.int .i64 1) w30 fun t16_31 w32 =>
  K18 .normal (pf 27 (pf 27 (pf 27 (pf 27 (pf 27 (pf 27 (pf 27 (pf 27 (pf 27 (pf 27 (pf 27 (pf 27 (pf 27 (pf 27 (pf 27 f16 11 (f16 7)) 12 (f16 6)) 13 t13_19) 14 t14_21) 17 (f16 5)) 18 (f16 6)) 19 (f16 7)) 20 t20_23) 21 t21_25) 22 t22_27) 23 t23_29) 5 t23_29) 15 (f16 7)) 16 t16_31) 7 t16_31) w32) (
  K18 (.exit 0) (pf 27 (pf 27 (pf 27 (pf 27 f16 11 (f16 7)) 12 (f16 6)) 13 t13_19) 14 t14_21) w22)) (pf 27 (pf 27 (pf 27 (pf 27 (pf 27 (pf 27 (pf 27 (argF [x0, x1]) 4 t4_0) 8 t8_2) 5 t8_2) 9 x1) 10 t10_4) 6 t10_4) 7 (.int .i64 0)) w5 K15
theorem c65_eq (x0 x1 : Value) (w : World) (K : VPost) : c65 x0 x1 w K = WP true Try.prog 27 [] (bodyOf Try.f65) (argF [x0, x1]) w [.cell 4 62] K := by kernel_rfl
theorem c65_calls (x0 x1 : Value) (w : World) (K : VPost) (h : c65 x0 x1 w K) : Calls Try.prog 65 #[x0, x1] w (retK K) :=
  calls_of_WP (c65_eq x0 x1 w K) mixedG Try.func65 (by kernel_rfl) Try.ntmps65 (by kernel_rfl) (by kernel_rfl) h

/-- imprimatur/imprimaturref02.Frame -/
def c69 (x0 : Value) (w : World) (K : VPost) : Prop :=
  lenW Try.prog (some true) #[56] 3 #[x0] w fun t6_0 w1 =>
  fnW Try.prog 96 #[t6_0] w1 fun t7_2 w3 =>
  bindX (endW Try.prog [.tmp 2] K) fun K4 =>
  bindX (seqX (fun f6 w7 =>
  K (f6 3) w7) K4) fun K5 =>
  bindX (blkX 0 K5) fun K8 =>
  loopW (fun f9 w10 K11 =>
  lenW Try.prog (some true) #[56] 3 #[(f9 0)] w10 fun t10_12 w13 =>
  binN Try.prog .lss 3 false (f9 4) t10_12 w13 fun t11_14 w15 =>
  condW t11_14 (
  idxW (some (none, 1)) (f9 0) (f9 4) w15 fun t17_16 w17 =>
  loadW (some (false, 1)) t17_16 w17 fun t18_18 w19 =>
  lenW Try.prog (some true) #[34] 3 #[t18_18] w19 fun t19_20 w21 =>
  fnW Try.prog 96 #[t19_20] w21 fun t20_22 w23 =>
  insW Try.prog (Builtin.append_ #[34, 34] 34 #[(f9 3), t20_22]) w23 fun t21_24 w25 =>
  idxW (some (none, 1)) (f9 0) (f9 4) w25 fun t25_26 w27 =>
  loadW (some (false, 1)) t25_26 w27 fun t26_28 w29 =>
  insW Try.prog (Builtin.append_ #[34, 34] 34 #[t21_24, t26_28]) w29 fun t27_30 w31 =>
  binN Try.prog .add 3 true (f9 4) (.int .i64 1) w31 fun t13_32 w33 =>
  K11 .normal (pf 29 (pf 29 (pf 29 (pf 29 (pf 29 (pf 29 (pf 29 (pf 29 (pf 29 (pf 29 (pf 29 (pf 29 (pf 29 (pf 29 (pf 29 (pf 29 (pf 29 (pf 29 (pf 29 (pf 29 (pf 29 (pf 29 (pf 29 f9 8 (f9 4)) 9 (f9 0)) 10 t10_12) 11 t11_14) 14 (f9 3)) 15 (f9 0)) 16 (f9 4)) 17 t17_16) 18 t18_18) 19 t19_20) 20 t20_22) 21 t21_24) 3 t21_24) 22 t21_24) 23 (f9 0)) 24 (f9 4)) 25 t25_26) 26 t26_28) 27 t27_30) 3 t27_30) 12 (f9 4)) 13 t13_32) 4 t13_32) w33) (
  K11 (.exit 0) (pf 29 (pf 29 (pf 29 (pf 29 f9 8 (f9 4)) 9 (f9 0)) 10 t10_12) 11 t11_14) w15)) (pf 29 (pf 29 (pf 29 (pf 29 (pf 29 (pf 29 (argF [x0]) 2 (.slice none 0 0)) 5 x0) 6 t6_0) 7 t7_2) 3 t7_2) 4 (.int .i64 0)) w3 K8
theorem c69_eq (x0 : Value) (w : World) (K : VPost) : c69 x0 w K = WP true Try.prog 29 [] (bodyOf Try.f69) (argF [x0]) w [.tmp 2] K := by kernel_rfl
theorem c69_calls (x0 : Value) (w : World) (K : VPost) (h : c69 x0 w K) : Calls Try.prog 69 #[x0] w (retK K) :=
  calls_of_WP (c69_eq x0 w K) mixedG Try.func69 (by kernel_rfl) Try.ntmps69 (by kernel_rfl) (by kernel_rfl) h

/-- imprimatur/imprimaturref02.Node -/
def c71 (x0 x1 : Value) (w : World) (K : VPost) : Prop :=
  allocW (zeroO Try.prog 62) 62 w fun t4_0 w1 =>
  insW Try.prog (Instr.buildSlice 34 1 #[(0, x0)]) w1 fun t6_2 w3 =>
  fnW Try.prog 69 #[x1] w3 fun t8_4 w5 =>
  insW Try.prog (Builtin.append_ #[34, 34] 34 #[t6_2, t8_4]) w5 fun t9_6 w7 =>
  fnW Try.prog 49 #[t9_6] w7 fun t10_8 w9 =>
  storeW (some (true, 32)) t4_0 t10_8 w9 fun w10 =>
  loadW (some (true, 32)) t4_0 w10 fun r11 _ =>
  K r11 w10
theorem c71_eq (x0 x1 : Value) (w : World) (K : VPost) : c71 x0 x1 w K = WP true Try.prog 11 [] (bodyOf Try.f71) (argF [x0, x1]) w [.cell 4 62] K := by kernel_rfl
theorem c71_calls (x0 x1 : Value) (w : World) (K : VPost) (h : c71 x0 x1 w K) : Calls Try.prog 71 #[x0, x1] w (retK K) :=
  calls_of_WP (c71_eq x0 x1 w K) mixedG Try.func71 (by kernel_rfl) Try.ntmps71 (by kernel_rfl) (by kernel_rfl) h

/-- imprimatur/imprimaturref02.Unframe -/
def c73 (x0 : Value) (w : World) (K : VPost) : Prop :=
  fnW Try.prog 97 #[x0, (.int .i64 0)] w fun t10_0 w1 =>
  binN Try.prog .lss 3 true t10_0 (.int .i64 0) w1 fun t12_2 w3 =>
  gstep t12_2 false w3 (fun K => K t10_0 w3) fun t14_4 w5 =>
  gstep t12_2 false w5 (fun K => K x0 w5) fun t15_6 w7 =>
  gstep t12_2 false w7 (fun K => lenW Try.prog (some true) #[34] 3 #[t15_6] w7 K) fun t16_8 w9 =>
  gstep t12_2 false w9 (fun K => binN Try.prog .gtr 3 false t14_4 t16_8 w9 K) fun t17_10 w11 =>
  pickW t12_2 (.bool true) t17_10 w11 fun t18_12 w13 =>
  condW t18_12 (
  K (.tuple #[(.slice none 0 0), (.bool false)]) w13) (
  insW Try.prog (Instr.buildSlice 56 0 #[]) w13 fun t19_14 w15 =>
  bindX (endW Try.prog [.tmp 2, .tmp 3] K) fun K16 =>
  bindX (seqX (fun f18 w19 =>
  lenW Try.prog (some true) #[34] 3 #[(f18 0)] w19 fun t57_20 w21 =>
  binN Try.prog .neq 3 false (f18 6) t57_20 w21 fun t58_22 w23 =>
  condW t58_22 (
  K (.tuple #[(.slice none 0 0), (.bool false)]) w23) (
  K (.tuple #[(f18 5), (.bool true)]) w23)) K16) fun K17 =>
  bindX (blkX 0 K17) fun K24 =>
  loopW (fun f25 w26 K27 =>
  binN Try.prog .lss 3 false (f25 7) (f25 4) w26 fun t22_28 w29 =>
  condW t22_28 (
  fnW Try.prog 97 #[(f25 0), (f25 6)] w29 fun t27_30 w31 =>
  binN Try.prog .lss 3 true t27_30 (.int .i64 0) w31 fun t29_32 w33 =>
  gstep t29_32 false w33 (fun K => K t27_30 w33) fun t31_34 w35 =>
  gstep t29_32 false w35 (fun K => K (f25 0) w35) fun t32_36 w37 =>
  gstep t29_32 false w37 (fun K => lenW Try.prog (some true) #[34] 3 #[t32_36] w37 K) fun t33_38 w39 =>
  gstep t29_32 false w39 (fun K => K (f25 6) w39) fun t34_40 w41 =>
  gstep t29_32 false w41 (fun K => binN Try.prog .sub 3 false t33_38 t34_40 w41 K) fun t35_42 w43 =>
  gstep t29_32 false w43 (fun K => binN Try.prog .sub 3 true t35_42 (.int .i64 4) w43 K) fun t36_44 w45 =>
  gstep t29_32 false w45 (fun K => binN Try.prog .gtr 3 false t31_34 t36_44 w45 K) fun t37_46 w47 =>
  pickW t29_32 (.bool true) t37_46 w47 fun t38_48 w49 =>
  condW t38_48 (
  K27 .ret (pf 60 (pf 60 (pf 60 (pf 60 (pf 60 (pf 60 (pf 60 (pf 60 (pf 60 (pf 60 (pf 60 (pf 60 (pf 60 (pf 60 (pf 60 (pf 60 (pf 60 (pf 60 (pf 60 (pf 60 f25 20 (f25 7)) 21 (f25 4)) 22 t22_28) 25 (f25 0)) 26 (f25 6)) 27 t27_30) 8 t27_30) 28 t27_30) 29 t29_32) 30 t29_32) 31 t31_34) 32 t32_36) 33 t33_38) 34 t34_40) 35 t35_42) 36 t36_44) 37 t37_46) 38 t38_48) 2 (.slice none 0 0)) 3 (.bool false)) w49) (
  binN Try.prog .add 3 true (f25 6) (.int .i64 4) w49 fun t42_50 w51 =>
  binN Try.prog .add 3 true (f25 6) (.int .i64 4) w51 fun t44_52 w53 =>
  binN Try.prog .add 3 false t44_52 t27_30 w53 fun t46_54 w55 =>
  sliceW (.sl 1) (f25 0) (some t42_50) (some t46_54) none w55 fun t47_56 w57 =>
  fnW Try.prog 27 #[t47_56] w57 fun t48_58 w59 =>
  insW Try.prog (Instr.buildSlice 56 1 #[(0, t48_58)]) w59 fun t49_60 w61 =>
  insW Try.prog (Builtin.append_ #[56, 56] 56 #[(f25 5), t49_60]) w61 fun t50_62 w63 =>
  binN Try.prog .add 3 true (.int .i64 4) t27_30 w63 fun t53_64 w65 =>
  binN Try.prog .add 3 false (f25 6) t53_64 w65 fun t54_66 w67 =>
  binN Try.prog .add 3 true (f25 7) (.int .i64 1) w67 fun t24_68 w69 =>
  K27 .normal (pf 60 (pf 60 (pf 60 (pf 60 (pf 60 (pf 60 (pf 60 (pf 60 (pf 60 (pf 60 (pf 60 (pf 60 (pf 60 (pf 60 (pf 60 (pf 60 (pf 60 (pf 60 (pf 60 (pf 60 (pf 60 (pf 60 (pf 60 (pf 60 (pf 60 (pf 60 (pf 60 (pf 60 (pf 60 (pf 60 (pf 60 (pf 60 (pf 60 (pf 60 (pf 60 (pf 60 (pf 60 (pf 60 (pf 60 f25 20 (f25 7)) 21 (f25 4)) 22 t22_28) 25 (f25 0)) 26 (f25 6)) 27 t27_30) 8 t27_30) 28 t27_30) 29 t29_32) 30 t29_32) 31 t31_34) 32 t32_36) 33 t33_38) 34 t34_40) 35 t35_42) 36 t36_44) 37 t37_46) 38 t38_48) 39 (f25 5)) 40 (f25 0)) 41 (f25 6)) 42 t42_50) 43 (f25 6)) 44 t44_52) 45 t27_30) 46 t46_54) 47 t47_56) 48 t48_58) 49 t49_60) 50 t50_62) 5 t50_62) 51 (f25 6)) 52 t27_30) 53 t53_64) 54 t54_66) 6 t54_66) 23 (f25 7)) 24 t24_68) 7 t24_68) w69)) (
  K27 (.exit 0) (pf 60 (pf 60 (pf 60 f25 20 (f25 7)) 21 (f25 4)) 22 t22_28) w29)) (pf 60 (pf 60 (pf 60 (pf 60 (pf 60 (pf 60 (pf 60 (pf 60 (pf 60 (pf 60 (pf 60 (pf 60 (pf 60 (pf 60 (pf 60 (pf 60 (pf 60 (argF [x0]) 2 (.slice none 0 0)) 3 (.bool false)) 9 x0) 10 t10_0) 4 t10_0) 11 t10_0) 12 t12_2) 13 t12_2) 14 t14_4) 15 t15_6) 16 t16_8) 17 t17_10) 18 t18_12) 19 t19_14) 5 t19_14) 6 (.int .i64 4)) 7 (.int .i64 0)) w15 K24)
theorem c73_eq (x0 : Value) (w : World) (K : VPost) : c73 x0 w K = WP true Try.prog 60 [] (bodyOf Try.f73) (argF [x0]) w [.tmp 2, .tmp 3] K := by kernel_rfl
theorem c73_calls (x0 : Value) (w : World) (K : VPost) (h : c73 x0 w K) : Calls Try.prog 73 #[x0] w (retK K) :=
  calls_of_WP (c73_eq x0 w K) mixedG Try.func73 (by kernel_rfl) Try.ntmps73 (by kernel_rfl) (by kernel_rfl) h

/-- imprimatur/imprimaturref02.value -/
def c86 (x0 : Value) (w : World) (K : VPost) : Prop :=
  bindX (endW Try.prog [.tmp 2] K) fun K0 =>
  bindX (seqX (fun _ w3 =>
  K (.int .i64 (-1)) w3) K0) fun K1 =>
  bindX (blkX 0 K1) fun K4 =>
  loopW (fun f5 w6 K7 =>
  binN Try.prog .lss 3 true (f5 3) (.int .i64 16) w6 fun t5_8 w9 =>
  condW t5_8 (
  ixvW .str (.string ⟨#[48, 49, 50, 51, 52, 53, 54, 55, 56, 57, 97, 98, 99, 100, 101, 102]⟩) (f5 3) w9 fun t9_10 w11 =>
  binN Try.prog .eql 5 false t9_10 (f5 0) w11 fun t11_12 w13 =>
  condW t11_12 (
  K7 .ret (pf 13 (pf 13 (pf 13 (pf 13 (pf 13 (pf 13 (pf 13 (pf 13 f5 4 (f5 3)) 5 t5_8) 8 (f5 3)) 9 t9_10) 10 (f5 0)) 11 t11_12) 12 (f5 3)) 2 (f5 3)) w13) (
  binN Try.prog .add 3 true (f5 3) (.int .i64 1) w13 fun t7_14 w15 =>
  K7 .normal (pf 13 (pf 13 (pf 13 (pf 13 (pf 13 (pf 13 (pf 13 (pf 13 (pf 13 f5 4 (f5 3)) 5 t5_8) 8 (f5 3)) 9 t9_10) 10 (f5 0)) 11 t11_12) 6 (f5 3)) 7 t7_14) 3 t7_14) w15)) (
  K7 (.exit 0) (pf 13 (pf 13 f5 4 (f5 3)) 5 t5_8) w9)) (pf 13 (pf 13 (argF [x0]) 2 (.int .i64 0)) 3 (.int .i64 0)) w K4
theorem c86_eq (x0 : Value) (w : World) (K : VPost) : c86 x0 w K = WP true Try.prog 13 [] (bodyOf Try.f86) (argF [x0]) w [.tmp 2] K := by kernel_rfl
theorem c86_calls (x0 : Value) (w : World) (K : VPost) (h : c86 x0 w K) : Calls Try.prog 86 #[x0] w (retK K) :=
  calls_of_WP (c86_eq x0 w K) mixedG Try.func86 (by kernel_rfl) Try.ntmps86 (by kernel_rfl) (by kernel_rfl) h

/-- imprimatur/imprimaturref02.four -/
def c96 (x0 : Value) (w : World) (K : VPost) : Prop :=
  convN Try.prog 3 5 x0 w fun t4_0 w1 =>
  binN Try.prog .quo 3 true x0 (.int .i64 256) w1 fun t6_2 w3 =>
  convN Try.prog 3 5 t6_2 w3 fun t7_4 w5 =>
  binN Try.prog .quo 3 true x0 (.int .i64 65536) w5 fun t9_6 w7 =>
  convN Try.prog 3 5 t9_6 w7 fun t10_8 w9 =>
  binN Try.prog .quo 3 true x0 (.int .i64 16777216) w9 fun t12_10 w11 =>
  convN Try.prog 3 5 t12_10 w11 fun t13_12 w13 =>
  insW Try.prog (Instr.buildSlice 34 4 #[(0, t4_0), (1, t7_4), (2, t10_8), (3, t13_12)]) w13 fun t14_14 w15 =>
  K t14_14 w15
theorem c96_eq (x0 : Value) (w : World) (K : VPost) : c96 x0 w K = WP true Try.prog 15 [] (bodyOf Try.f96) (argF [x0]) w [.tmp 2] K := by kernel_rfl
theorem c96_calls (x0 : Value) (w : World) (K : VPost) (h : c96 x0 w K) : Calls Try.prog 96 #[x0] w (retK K) :=
  calls_of_WP (c96_eq x0 w K) mixedG Try.func96 (by kernel_rfl) Try.ntmps96 (by kernel_rfl) (by kernel_rfl) h

/-- imprimatur/imprimaturref02.number -/
def c97 (x0 x1 : Value) (w : World) (K : VPost) : Prop :=
  binN Try.prog .add 3 true x1 (.int .i64 4) w fun t6_0 w1 =>
  lenW Try.prog (some true) #[34] 3 #[x0] w1 fun t8_2 w3 =>
  binN Try.prog .gtr 3 false t6_0 t8_2 w3 fun t9_4 w5 =>
  condW t9_4 (
  K (.int .i64 (-1)) w5) (
  idxW (some (none, 1)) x0 x1 w5.drew fun t12_6 w7 =>
  loadW (some (false, 1)) t12_6 w7 fun t13_8 w9 =>
  convN Try.prog 5 3 t13_8 w9 fun t14_10 w11 =>
  binN Try.prog .add 3 true x1 (.int .i64 1) w11 fun t17_12 w13 =>
  idxW (some (none, 1)) x0 t17_12 w13 fun t18_14 w15 =>
  loadW (some (false, 1)) t18_14 w15 fun t19_16 w17 =>
  convN Try.prog 5 3 t19_16 w17 fun t20_18 w19 =>
  binN Try.prog .mul 3 true (.int .i64 256) t20_18 w19 fun t21_20 w21 =>
  binN Try.prog .add 3 false t14_10 t21_20 w21 fun t22_22 w23 =>
  binN Try.prog .add 3 true x1 (.int .i64 2) w23 fun t25_24 w25 =>
  idxW (some (none, 1)) x0 t25_24 w25 fun t26_26 w27 =>
  loadW (some (false, 1)) t26_26 w27 fun t27_28 w29 =>
  convN Try.prog 5 3 t27_28 w29 fun t28_30 w31 =>
  binN Try.prog .mul 3 true (.int .i64 65536) t28_30 w31 fun t29_32 w33 =>
  binN Try.prog .add 3 false t22_22 t29_32 w33 fun t30_34 w35 =>
  binN Try.prog .add 3 true x1 (.int .i64 3) w35 fun t33_36 w37 =>
  idxW (some (none, 1)) x0 t33_36 w37 fun t34_38 w39 =>
  loadW (some (false, 1)) t34_38 w39 fun t35_40 w41 =>
  convN Try.prog 5 3 t35_40 w41 fun t36_42 w43 =>
  binN Try.prog .mul 3 true (.int .i64 16777216) t36_42 w43 fun t37_44 w45 =>
  binN Try.prog .add 3 false t30_34 t37_44 w45 fun t38_46 w47 =>
  K t38_46 w47)
theorem c97_eq (x0 x1 : Value) (w : World) (K : VPost) : c97 x0 x1 w K = WP true Try.prog 39 [(3, 0, [0, 0, 3, 4, 8, 0, 0, 64, 160, 256, 512, 1024, 2064, 0, 0, 16384, 40960, 65536, 131072, 262144, 528384, 0, 0, 4194304, 10485760, 16777216, 33554432, 67108864, 135266304, 536870911], [0, 0, 3, 7, 15, 0, 0, 64, 224, 480, 992, 2016, 4095, 0, 0, 16384, 57344, 122880, 253952, 516096, 1048575, 0, 0, 4194304, 14680064, 31457280, 65011712, 132120576, 268435455, 536870911])] (bodyOf Try.f97) (argF [x0, x1]) w [.tmp 4] K := by kernel_rfl
theorem c97_calls (x0 x1 : Value) (w : World) (K : VPost) (h : c97 x0 x1 w K) : Calls Try.prog 97 #[x0, x1] w (retK K) :=
  calls_of_WP (c97_eq x0 x1 w K) mixedG Try.func97 (by kernel_rfl) Try.ntmps97 (by kernel_rfl) (by kernel_rfl) h

end Go.Proofs.Ytedebapgmfnflaa
