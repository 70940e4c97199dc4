/- The clean forms of some of the program's functions, written by a program of ours; each is the model's own by the kernel's reckoning. -/
import Derived.Test.YtedebapgmfnflaaGB
import Derived.KernelRfl
namespace Go.Proofs.Ytedebapgmfnflaa
open Go
set_option maxRecDepth 100000

/-- imprimatur/tag.FromHex -/
def c54 (x0 : Value) (w : World) (K : VPost) : Prop :=
  allocW (zeroO Try.prog 62) 62 w fun t2_0 w1 =>
  allocW (zeroO Try.prog 62) 62 w1 fun t4_2 w3 =>
  lenW Try.prog (some false) #[9] 3 #[x0] w3 fun t8_4 w5 =>
  binN Try.prog .neq 3 true t8_4 (.int .i64 64) w5 fun t9_6 w7 =>
  condW t9_6 (
  insW Try.prog (Instr.build 62 #[]) w7 fun t10_8 w9 =>
  storeW (some (true, 32)) t2_0 t10_8 w9 fun w10 =>
  loadW (some (true, 32)) t2_0 w10 fun r11 _ =>
  K (.tuple #[r11, (.bool false)]) w10) (
  bindX (endW Try.prog [.cell 2 62, .tmp 3] K) fun K13 =>
  bindX (seqX (fun f15 w16 =>
  loadW (some (true, 32)) (f15 4) w16 fun t35_17 w18 =>
  storeW (some (true, 32)) (f15 2) t35_17 w18 fun w19 =>
  loadW (some (true, 32)) (f15 2) w19 fun r20 _ =>
  K (.tuple #[r20, (.bool true)]) w19) K13) fun K14 =>
  lenW Try.prog (some false) #[9] 3 #[x0] w7 fun t12_22 w23 =>
  bindX (blkX 0 K14) fun K24 =>
  loopW (fun f25 w26 K27 =>
  binN Try.prog .lss 3 false (f25 13) (f25 12) w26 fun t14_28 w29 =>
  condW t14_28 (
  ixvW .str (f25 0) (f25 13) w29 fun t18_30 w31 =>
  fnW Try.prog 85 #[(.string ⟨#[48, 49, 50, 51, 52, 53, 54, 55, 56, 57, 97, 98, 99, 100, 101, 102]⟩), t18_30] w31 fun t19_32 w33 =>
  binN Try.prog .lss 3 true t19_32 (.int .i64 0) w33 fun t21_34 w35 =>
  condW t21_34 (
  insW Try.prog (Instr.build 62 #[]) w35 fun t22_36 w37 =>
  storeW (some (true, 32)) (f25 2) t22_36 w37 fun w38 =>
  K27 .ret (pf 36 (pf 36 (pf 36 (pf 36 (pf 36 (pf 36 (pf 36 (pf 36 (pf 36 (pf 36 (pf 36 (pf 36 f25 14 t14_28) 15 (f25 13)) 5 (f25 13)) 16 (f25 0)) 17 (f25 13)) 18 t18_30) 19 t19_32) 6 t19_32) 20 t19_32) 21 t21_34) 22 t22_36) 3 (.bool false)) w38) (
  binN Try.prog .quo 3 true (f25 13) (.int .i64 2) w35 fun t24_39 w40 =>
  binN Try.prog .quo 3 true (f25 13) (.int .i64 2) w40 fun t26_41 w42 =>
  idxW (some ((some 32), 1)) (f25 4) t26_41 w42 fun t27_43 w44 =>
  loadW (some (false, 1)) t27_43 w44 fun t28_45 w46 =>
  binN Try.prog .shl 5 true t28_45 (.int .u64 4) w46 fun t29_47 w48 =>
  convN Try.prog 3 5 t19_32 w48 fun t31_49 w50 =>
  binN Try.prog .or 5 false t29_47 t31_49 w50 fun t32_51 w52 =>
  idxW (some ((some 32), 1)) (f25 4) t24_39 w52 fun t33_53 w54 =>
  storeW (some (false, 1)) t33_53 t32_51 w54 fun w55 =>
  binN Try.prog .add 3 true (f25 13) (.int .i64 1) w55 fun t34_56 w57 =>
  K27 .normal (pf 36 (pf 36 (pf 36 (pf 36 (pf 36 (pf 36 (pf 36 (pf 36 (pf 36 (pf 36 (pf 36 (pf 36 (pf 36 (pf 36 (pf 36 (pf 36 (pf 36 (pf 36 (pf 36 (pf 36 (pf 36 (pf 36 (pf 36 f25 14 t14_28) 15 (f25 13)) 5 (f25 13)) 16 (f25 0)) 17 (f25 13)) 18 t18_30) 19 t19_32) 6 t19_32) 20 t19_32) 21 t21_34) 23 (f25 13)) 24 t24_39) 25 (f25 13)) 26 t26_41) 27 t27_43) 28 t28_45) 29 t29_47) 30 t19_32) 31 t31_49) 32 t32_51) 33 t33_53) 34 t34_56) 13 t34_56) w57)) (
  K27 (.exit 0) (pf 36 f25 14 t14_28) w29)) (pf 36 (pf 36 (pf 36 (pf 36 (pf 36 (pf 36 (pf 36 (pf 36 (pf 36 (argF [x0]) 2 t2_0) 3 (.bool false)) 4 t4_2) 7 x0) 8 t8_4) 9 t9_6) 11 x0) 12 t12_22) 13 (.int .i64 0)) w23 K24)
theorem c54_eq (x0 : Value) (w : World) (K : VPost) : c54 x0 w K = WP true Try.prog 36 [] (bodyOf Try.f54) (argF [x0]) w [.cell 2 62, .tmp 3] K := by kernel_rfl
theorem c54_calls (x0 : Value) (w : World) (K : VPost) (h : c54 x0 w K) : Calls Try.prog 54 #[x0] w (retK K) :=
  calls_of_WP (c54_eq x0 w K) mixedG Try.func54 (by kernel_rfl) Try.ntmps54 (by kernel_rfl) (by kernel_rfl) h

/-- imprimatur/tag.Hex -/
def c56 (x0 : Value) (w : World) (K : VPost) : Prop :=
  boxW 62 x0 w fun t1_0 w1 =>
  allocW (zeroO Try.prog 122) 122 w1 fun t3_2 w3 =>
  bindX (endW Try.prog [.tmp 2] K) fun K4 =>
  bindX (seqX (fun f6 w7 =>
  fnW Try.prog 88 #[(f6 3)] w7 fun t19_8 w9 =>
  K t19_8 w9) K4) fun K5 =>
  loadW (some (true, 32)) t1_0 w3 fun t6_10 w11 =>
  bindX (blkX 0 K5) fun K12 =>
  loopW (fun f13 w14 K15 =>
  binN Try.prog .lss 3 true (f13 7) (.int .i64 32) w14 fun t8_16 w17 =>
  condW t8_16 (
  ixvW (.arr 32 false 1) (f13 6) (f13 7) w17 fun t9_18 w19 =>
  binN Try.prog .shr 5 true t9_18 (.int .u64 4) w19 fun t11_20 w21 =>
  ixvW .str (.string ⟨#[48, 49, 50, 51, 52, 53, 54, 55, 56, 57, 97, 98, 99, 100, 101, 102]⟩) t11_20 w21 fun t12_22 w23 =>
  fnW Try.prog 87 #[(f13 3), t12_22] w23 fun t13_24 w25 =>
  binN Try.prog .and 5 true t9_18 (.int .u8 15) w25 fun t15_26 w27 =>
  ixvW .str (.string ⟨#[48, 49, 50, 51, 52, 53, 54, 55, 56, 57, 97, 98, 99, 100, 101, 102]⟩) t15_26 w27 fun t16_28 w29 =>
  fnW Try.prog 87 #[(f13 3), t16_28] w29 fun t17_30 w31 =>
  binN Try.prog .add 3 true (f13 7) (.int .i64 1) w31 fun t18_32 w33 =>
  K15 .normal (pf 20 (pf 20 (pf 20 (pf 20 (pf 20 (pf 20 (pf 20 (pf 20 (pf 20 (pf 20 (pf 20 (pf 20 (pf 20 f13 8 t8_16) 9 t9_18) 5 t9_18) 10 t9_18) 11 t11_20) 12 t12_22) 13 t13_24) 14 t9_18) 15 t15_26) 16 t16_28) 17 t17_30) 18 t18_32) 7 t18_32) w33) (
  K15 (.exit 0) (pf 20 f13 8 t8_16) w17)) (pf 20 (pf 20 (pf 20 (pf 20 (pf 20 (argF [x0]) 1 t1_0) 2 (.string ⟨#[]⟩)) 3 t3_2) 6 t6_10) 7 (.int .i64 0)) w11 K12
theorem c56_eq (x0 : Value) (w : World) (K : VPost) : c56 x0 w K = WP true Try.prog 20 [] (bodyOf Try.f56) (argF [x0]) w [.tmp 2] K := by kernel_rfl
theorem c56_calls (x0 : Value) (w : World) (K : VPost) (h : c56 x0 w K) : Calls Try.prog 56 #[x0] w (retK K) :=
  calls_of_WP (c56_eq x0 w K) mixedG Try.func56 (by kernel_rfl) Try.ntmps56 (by kernel_rfl) (by kernel_rfl) h

/-- imprimatur/tag.Short -/
def c58 (x0 : Value) (w : World) (K : VPost) : Prop :=
  boxW 62 x0 w fun t1_0 w1 =>
  loadW (some (true, 32)) t1_0 w1 fun t3_2 w3 =>
  fnW Try.prog 56 #[t3_2] w3 fun t4_4 w5 =>
  sliceW .str t4_4 none (some (.int .i64 8)) none w5 fun t5_6 w7 =>
  K t5_6 w7
theorem c58_eq (x0 : Value) (w : World) (K : VPost) : c58 x0 w K = WP true Try.prog 6 [] (bodyOf Try.f58) (argF [x0]) w [.tmp 2] K := by kernel_rfl
theorem c58_calls (x0 : Value) (w : World) (K : VPost) (h : c58 x0 w K) : Calls Try.prog 58 #[x0] w (retK K) :=
  calls_of_WP (c58_eq x0 w K) mixedG Try.func58 (by kernel_rfl) Try.ntmps58 (by kernel_rfl) (by kernel_rfl) h

/-- imprimatur/tag.Compare -/
def c59 (x0 x1 : Value) (w : World) (K : VPost) : Prop :=
  boxW 62 x0 w fun t2_0 w1 =>
  boxW 62 x1 w1 fun t3_2 w3 =>
  sliceW (.arr 32 1) t2_0 none none none w3.drew fun t5_4 w5 =>
  sliceW (.arr 32 1) t3_2 none none none w5 fun t6_6 w7 =>
  fnW Try.prog 89 #[t5_4, t6_6] w7 fun t7_8 w9 =>
  K t7_8 w9
theorem c59_eq (x0 x1 : Value) (w : World) (K : VPost) : c59 x0 x1 w K = WP true Try.prog 8 [(1, 4, [0, 0, 3, 7], [0, 0, 3, 7])] (bodyOf Try.f59) (argF [x0, x1]) w [.tmp 4] K := by kernel_rfl
theorem c59_calls (x0 x1 : Value) (w : World) (K : VPost) (h : c59 x0 x1 w K) : Calls Try.prog 59 #[x0, x1] w (retK K) :=
  calls_of_WP (c59_eq x0 x1 w K) mixedG Try.func59 (by kernel_rfl) Try.ntmps59 (by kernel_rfl) (by kernel_rfl) h

/-- imprimatur/tag.Sort -/
def c62 (x0 : Value) (w : World) (K : VPost) : Prop :=
  fnW Try.prog 90 #[x0] w fun t5_0 w1 =>
  fnW Try.prog 91 #[t5_0, (.func (.func 59) #[] #[])] w1 fun _ w3 =>
  fnW Try.prog 92 #[t5_0] w3 fun t9_4 w5 =>
  K t9_4 w5
theorem c62_eq (x0 : Value) (w : World) (K : VPost) : c62 x0 w K = WP true Try.prog 10 [] (bodyOf Try.f62) (argF [x0]) w [.tmp 2] K := by kernel_rfl
theorem c62_calls (x0 : Value) (w : World) (K : VPost) (h : c62 x0 w K) : Calls Try.prog 62 #[x0] w (retK K) :=
  calls_of_WP (c62_eq x0 w K) mixedG Try.func62 (by kernel_rfl) Try.ntmps62 (by kernel_rfl) (by kernel_rfl) h

/-- imprimatur/tag.Set -/
def c64 (x0 x1 : Value) (w : World) (K : VPost) : Prop :=
  allocW (zeroO Try.prog 62) 62 w fun t4_0 w1 =>
  bindX (endW Try.prog [.cell 4 62] K) fun K2 =>
  bindX (seqX (fun f4 w5 =>
  fnW Try.prog 70 #[(f4 0), (f4 5)] w5 fun t23_6 w7 =>
  storeW (some (true, 32)) (f4 4) t23_6 w7 fun w8 =>
  loadW (some (true, 32)) (f4 4) w8 fun r9 _ =>
  K r9 w8) K2) fun K3 =>
  fnW Try.prog 62 #[x1] w1 fun t9_11 w12 =>
  lenW Try.prog (some true) #[75] 3 #[t9_11] w12 fun t10_13 w14 =>
  bindX (blkX 0 K3) fun K15 =>
  loopW (fun f16 w17 K18 =>
  binN Try.prog .lss 3 false (f16 11) (f16 10) w17 fun t12_19 w20 =>
  condW t12_19 (
  idxW (some (none, 32)) (f16 9) (f16 11) w20 fun t13_21 w22 =>
  loadW (some (true, 32)) t13_21 w22 fun t14_23 w24 =>
  allocW (zeroO Try.prog 62) 62 w24 fun t7_25 w26 =>
  storeW (some (true, 32)) t7_25 t14_23 w26 fun w27 =>
  sliceW (.arr 32 1) t7_25 none none none w27 fun t16_28 w29 =>
  fnW Try.prog 93 #[t16_28] w29 fun t17_30 w31 =>
  insW Try.prog (Instr.buildSlice 56 1 #[(0, t17_30)]) w31 fun t18_32 w33 =>
  insW Try.prog (Builtin.append_ #[56, 56] 56 #[(f16 5), t18_32]) w33 fun t19_34 w35 =>
  binN Try.prog .add 3 true (f16 11) (.int .i64 1) w35 fun t20_36 w37 =>
  K18 .normal (pf 24 (pf 24 (pf 24 (pf 24 (pf 24 (pf 24 (pf 24 (pf 24 (pf 24 (pf 24 (pf 24 (pf 24 f16 12 t12_19) 13 t13_21) 14 t14_23) 7 t7_25) 15 (f16 5)) 16 t16_28) 17 t17_30) 18 t18_32) 19 t19_34) 5 t19_34) 20 t20_36) 11 t20_36) w37) (
  K18 (.exit 0) (pf 24 f16 12 t12_19) w20)) (pf 24 (pf 24 (pf 24 (pf 24 (pf 24 (pf 24 (argF [x0, x1]) 4 t4_0) 5 (.slice none 0 0)) 8 x1) 9 t9_11) 10 t10_13) 11 (.int .i64 0)) w14 K15
theorem c64_eq (x0 x1 : Value) (w : World) (K : VPost) : c64 x0 x1 w K = WP true Try.prog 24 [] (bodyOf Try.f64) (argF [x0, x1]) w [.cell 4 62] K := by kernel_rfl
theorem c64_calls (x0 x1 : Value) (w : World) (K : VPost) (h : c64 x0 x1 w K) : Calls Try.prog 64 #[x0, x1] w (retK K) :=
  calls_of_WP (c64_eq x0 x1 w K) mixedG Try.func64 (by kernel_rfl) Try.ntmps64 (by kernel_rfl) (by kernel_rfl) h

/-- imprimatur/tag.Frame -/
def c66 (x0 : Value) (w : World) (K : VPost) : Prop :=
  lenW Try.prog (some true) #[56] 3 #[x0] w fun t7_0 w1 =>
  fnW Try.prog 94 #[t7_0] w1 fun t8_2 w3 =>
  bindX (endW Try.prog [.tmp 2] K) fun K4 =>
  bindX (seqX (fun f6 w7 =>
  K (f6 3) w7) K4) fun K5 =>
  lenW Try.prog (some true) #[56] 3 #[x0] w3 fun t10_8 w9 =>
  bindX (blkX 0 K5) fun K10 =>
  loopW (fun f11 w12 K13 =>
  binN Try.prog .lss 3 false (f11 11) (f11 10) w12 fun t12_14 w15 =>
  condW t12_14 (
  idxW (some (none, 1)) (f11 9) (f11 11) w15 fun t13_16 w17 =>
  loadW (some (false, 1)) t13_16 w17 fun t14_18 w19 =>
  lenW Try.prog (some true) #[34] 3 #[t14_18] w19 fun t17_20 w21 =>
  fnW Try.prog 94 #[t17_20] w21 fun t18_22 w23 =>
  insW Try.prog (Builtin.append_ #[34, 34] 34 #[(f11 3), t18_22]) w23 fun t19_24 w25 =>
  insW Try.prog (Builtin.append_ #[34, 34] 34 #[t19_24, t14_18]) w25 fun t21_26 w27 =>
  binN Try.prog .add 3 true (f11 11) (.int .i64 1) w27 fun t22_28 w29 =>
  K13 .normal (pf 24 (pf 24 (pf 24 (pf 24 (pf 24 (pf 24 (pf 24 (pf 24 (pf 24 (pf 24 (pf 24 (pf 24 (pf 24 (pf 24 f11 12 t12_14) 13 t13_16) 14 t14_18) 5 t14_18) 15 (f11 3)) 16 t14_18) 17 t17_20) 18 t18_22) 19 t19_24) 20 t14_18) 21 t21_26) 3 t21_26) 22 t22_28) 11 t22_28) w29) (
  K13 (.exit 0) (pf 24 f11 12 t12_14) w15)) (pf 24 (pf 24 (pf 24 (pf 24 (pf 24 (pf 24 (pf 24 (pf 24 (argF [x0]) 2 (.slice none 0 0)) 6 x0) 7 t7_0) 8 t8_2) 3 t8_2) 9 x0) 10 t10_8) 11 (.int .i64 0)) w9 K10
theorem c66_eq (x0 : Value) (w : World) (K : VPost) : c66 x0 w K = WP true Try.prog 24 [] (bodyOf Try.f66) (argF [x0]) w [.tmp 2] K := by kernel_rfl
theorem c66_calls (x0 : Value) (w : World) (K : VPost) (h : c66 x0 w K) : Calls Try.prog 66 #[x0] w (retK K) :=
  calls_of_WP (c66_eq x0 w K) mixedG Try.func66 (by kernel_rfl) Try.ntmps66 (by kernel_rfl) (by kernel_rfl) h

/-- imprimatur/tag.Unframe -/
def c67 (x0 : Value) (w : World) (K : VPost) : Prop :=
  fnW Try.prog 95 #[x0] w fun t12_0 w1 =>
  extrW t12_0 0 w1 fun t13_2 w3 =>
  extrW t12_0 1 w3 fun t14_4 w5 =>
  extrW t12_0 2 w5 fun t15_6 w7 =>
  unN Try.prog .not t15_6 w7 fun t17_8 w9 =>
  gstep t17_8 false w9 (fun K => K t13_2 w9) fun t19_10 w11 =>
  gstep t17_8 false w11 (fun K => K t14_4 w11) fun t20_12 w13 =>
  gstep t17_8 false w13 (fun K => lenW Try.prog (some true) #[34] 3 #[t20_12] w13 K) fun t21_14 w15 =>
  gstep t17_8 false w15 (fun K => binN Try.prog .quo 3 true t21_14 (.int .i64 4) w15 K) fun t22_16 w17 =>
  gstep t17_8 false w17 (fun K => binN Try.prog .gtr 3 false t19_10 t22_16 w17 K) fun t23_18 w19 =>
  pickW t17_8 (.bool true) t23_18 w19 fun t24_20 w21 =>
  condW t24_20 (
  K (.tuple #[(.slice none 0 0), (.bool false)]) w21) (
  bindX (endW Try.prog [.tmp 2, .tmp 3] K) fun K22 =>
  bindX (seqX (fun f24 w25 =>
  lenW Try.prog (some true) #[34] 3 #[(f24 0)] w25 fun t54_26 w27 =>
  binN Try.prog .gtr 3 true t54_26 (.int .i64 0) w27 fun t55_28 w29 =>
  condW t55_28 (
  K (.tuple #[(.slice none 0 0), (.bool false)]) w29) (
  K (.tuple #[(f24 6), (.bool true)]) w29)) K22) fun K23 =>
  bindX (blkX 0 K23) fun K30 =>
  loopW (fun f31 w32 K33 =>
  binN Try.prog .lss 3 false (f31 26) (f31 25) w32 fun t27_34 w35 =>
  condW t27_34 (
  fnW Try.prog 95 #[(f31 0)] w35 fun t30_36 w37 =>
  extrW t30_36 0 w37 fun t31_38 w39 =>
  extrW t30_36 1 w39 fun t32_40 w41 =>
  extrW t30_36 2 w41 fun t33_42 w43 =>
  unN Try.prog .not t33_42 w43 fun t35_44 w45 =>
  gstep t35_44 false w45 (fun K => K t31_38 w45) fun t37_46 w47 =>
  gstep t35_44 false w47 (fun K => K t32_40 w47) fun t38_48 w49 =>
  gstep t35_44 false w49 (fun K => lenW Try.prog (some true) #[34] 3 #[t38_48] w49 K) fun t39_50 w51 =>
  gstep t35_44 false w51 (fun K => binN Try.prog .gtr 3 false t37_46 t39_50 w51 K) fun t40_52 w53 =>
  pickW t35_44 (.bool true) t40_52 w53 fun t41_54 w55 =>
  condW t41_54 (
  K33 .ret (pf 57 (pf 57 (pf 57 (pf 57 (pf 57 (pf 57 (pf 57 (pf 57 (pf 57 (pf 57 (pf 57 (pf 57 (pf 57 (pf 57 (pf 57 (pf 57 (pf 57 (pf 57 (pf 57 (pf 57 f31 27 t27_34) 29 (f31 0)) 30 t30_36) 28 t30_36) 31 t31_38) 32 t32_40) 33 t33_42) 7 t31_38) 8 t32_40) 9 t33_42) 34 t33_42) 35 t35_44) 36 t35_44) 37 t37_46) 38 t38_48) 39 t39_50) 40 t40_52) 41 t41_54) 2 (.slice none 0 0)) 3 (.bool false)) w55) (
  sliceW (.sl 1) t32_40 none (some t31_38) none w55 fun t45_56 w57 =>
  fnW Try.prog 93 #[t45_56] w57 fun t46_58 w59 =>
  insW Try.prog (Instr.buildSlice 56 1 #[(0, t46_58)]) w59 fun t47_60 w61 =>
  insW Try.prog (Builtin.append_ #[56, 56] 56 #[(f31 6), t47_60]) w61 fun t48_62 w63 =>
  sliceW (.sl 1) t32_40 (some t31_38) none none w63 fun t51_64 w65 =>
  binN Try.prog .add 3 true (f31 26) (.int .i64 1) w65 fun t52_66 w67 =>
  K33 .normal (pf 57 (pf 57 (pf 57 (pf 57 (pf 57 (pf 57 (pf 57 (pf 57 (pf 57 (pf 57 (pf 57 (pf 57 (pf 57 (pf 57 (pf 57 (pf 57 (pf 57 (pf 57 (pf 57 (pf 57 (pf 57 (pf 57 (pf 57 (pf 57 (pf 57 (pf 57 (pf 57 (pf 57 (pf 57 (pf 57 (pf 57 (pf 57 f31 27 t27_34) 29 (f31 0)) 30 t30_36) 28 t30_36) 31 t31_38) 32 t32_40) 33 t33_42) 7 t31_38) 8 t32_40) 9 t33_42) 34 t33_42) 35 t35_44) 36 t35_44) 37 t37_46) 38 t38_48) 39 t39_50) 40 t40_52) 41 t41_54) 42 (f31 6)) 43 t32_40) 44 t31_38) 45 t45_56) 46 t46_58) 47 t47_60) 48 t48_62) 6 t48_62) 49 t32_40) 50 t31_38) 51 t51_64) 0 t51_64) 52 t52_66) 26 t52_66) w67)) (
  K33 (.exit 0) (pf 57 f31 27 t27_34) w35)) (pf 57 (pf 57 (pf 57 (pf 57 (pf 57 (pf 57 (pf 57 (pf 57 (pf 57 (pf 57 (pf 57 (pf 57 (pf 57 (pf 57 (pf 57 (pf 57 (pf 57 (pf 57 (pf 57 (pf 57 (pf 57 (pf 57 (pf 57 (argF [x0]) 2 (.slice none 0 0)) 3 (.bool false)) 11 x0) 12 t12_0) 10 t12_0) 13 t13_2) 14 t14_4) 15 t15_6) 4 t13_2) 0 t14_4) 5 t15_6) 16 t15_6) 17 t17_8) 18 t17_8) 19 t19_10) 20 t20_12) 21 t21_14) 22 t22_16) 23 t23_18) 24 t24_20) 6 (.slice none 0 0)) 25 t13_2) 26 (.int .i64 0)) w21 K30)
theorem c67_eq (x0 : Value) (w : World) (K : VPost) : c67 x0 w K = WP true Try.prog 57 [] (bodyOf Try.f67) (argF [x0]) w [.tmp 2, .tmp 3] K := by kernel_rfl
theorem c67_calls (x0 : Value) (w : World) (K : VPost) (h : c67 x0 w K) : Calls Try.prog 67 #[x0] w (retK K) :=
  calls_of_WP (c67_eq x0 w K) mixedG Try.func67 (by kernel_rfl) Try.ntmps67 (by kernel_rfl) (by kernel_rfl) h

/-- imprimatur/tag.Node -/
def c70 (x0 x1 : Value) (w : World) (K : VPost) : Prop :=
  allocW (zeroO Try.prog 62) 62 w fun t4_0 w1 =>
  fnW Try.prog 42 #[] w1 fun t6_2 w3 =>
  insW Try.prog (Instr.buildSlice 34 1 #[(0, x0)]) w3 fun t9_4 w5 =>
  fnW Try.prog 66 #[x1] w5 fun t11_6 w7 =>
  insW Try.prog (Instr.buildSlice 56 2 #[(0, t9_4), (1, t11_6)]) w7 fun t12_8 w9 =>
  fnW Try.prog 43 #[t6_2, t12_8] w9 fun _ w11 =>
  fnW Try.prog 45 #[t6_2] w11 fun t15_12 w13 =>
  storeW (some (true, 32)) t4_0 t15_12 w13 fun w14 =>
  loadW (some (true, 32)) t4_0 w14 fun r15 _ =>
  K r15 w14
theorem c70_eq (x0 x1 : Value) (w : World) (K : VPost) : c70 x0 x1 w K = WP true Try.prog 16 [] (bodyOf Try.f70) (argF [x0, x1]) w [.cell 4 62] K := by kernel_rfl
theorem c70_calls (x0 x1 : Value) (w : World) (K : VPost) (h : c70 x0 x1 w K) : Calls Try.prog 70 #[x0, x1] w (retK K) :=
  calls_of_WP (c70_eq x0 x1 w K) mixedG Try.func70 (by kernel_rfl) Try.ntmps70 (by kernel_rfl) (by kernel_rfl) h

/-- imprimatur/tag.Texts -/
def c72 (x0 x1 : Value) (w : World) (K : VPost) : Prop :=
  allocW (zeroO Try.prog 62) 62 w fun t4_0 w1 =>
  bindX (endW Try.prog [.cell 4 62] K) fun K2 =>
  bindX (seqX (fun f4 w5 =>
  fnW Try.prog 70 #[(f4 0), (f4 5)] w5 fun t22_6 w7 =>
  storeW (some (true, 32)) (f4 4) t22_6 w7 fun w8 =>
  loadW (some (true, 32)) (f4 4) w8 fun r9 _ =>
  K r9 w8) K2) fun K3 =>
  lenW Try.prog (some true) #[88] 3 #[x1] w1 fun t9_11 w12 =>
  bindX (blkX 0 K3) fun K13 =>
  loopW (fun f14 w15 K16 =>
  binN Try.prog .lss 3 false (f14 10) (f14 9) w15 fun t11_17 w18 =>
  condW t11_17 (
  idxW (some (none, 1)) (f14 8) (f14 10) w18 fun t12_19 w20 =>
  loadW (some (false, 1)) t12_19 w20 fun t13_21 w22 =>
  insW Try.prog (convert 9 34 t13_21) w22 fun t16_23 w24 =>
  insW Try.prog (Instr.buildSlice 56 1 #[(0, t16_23)]) w24 fun t17_25 w26 =>
  insW Try.prog (Builtin.append_ #[56, 56] 56 #[(f14 5), t17_25]) w26 fun t18_27 w28 =>
  binN Try.prog .add 3 true (f14 10) (.int .i64 1) w28 fun t19_29 w30 =>
  K16 .normal (pf 23 (pf 23 (pf 23 (pf 23 (pf 23 (pf 23 (pf 23 (pf 23 (pf 23 (pf 23 (pf 23 (pf 23 f14 11 t11_17) 12 t12_19) 13 t13_21) 7 t13_21) 14 (f14 5)) 15 t13_21) 16 t16_23) 17 t17_25) 18 t18_27) 5 t18_27) 19 t19_29) 10 t19_29) w30) (
  K16 (.exit 0) (pf 23 f14 11 t11_17) w18)) (pf 23 (pf 23 (pf 23 (pf 23 (pf 23 (argF [x0, x1]) 4 t4_0) 5 (.slice none 0 0)) 8 x1) 9 t9_11) 10 (.int .i64 0)) w12 K13
theorem c72_eq (x0 x1 : Value) (w : World) (K : VPost) : c72 x0 x1 w K = WP true Try.prog 23 [] (bodyOf Try.f72) (argF [x0, x1]) w [.cell 4 62] K := by kernel_rfl
theorem c72_calls (x0 x1 : Value) (w : World) (K : VPost) (h : c72 x0 x1 w K) : Calls Try.prog 72 #[x0, x1] w (retK K) :=
  calls_of_WP (c72_eq x0 x1 w K) mixedG Try.func72 (by kernel_rfl) Try.ntmps72 (by kernel_rfl) (by kernel_rfl) h

/-- imprimatur/tag.count -/
def c94 (x0 : Value) (w : World) (K : VPost) : Prop :=
  convN Try.prog 3 5 x0 w fun t4_0 w1 =>
  binN Try.prog .shr 3 true x0 (.int .u64 8) w1 fun t6_2 w3 =>
  convN Try.prog 3 5 t6_2 w3 fun t7_4 w5 =>
  binN Try.prog .shr 3 true x0 (.int .u64 16) w5 fun t9_6 w7 =>
  convN Try.prog 3 5 t9_6 w7 fun t10_8 w9 =>
  binN Try.prog .shr 3 true x0 (.int .u64 24) w9 fun t12_10 w11 =>
  convN Try.prog 3 5 t12_10 w11 fun t13_12 w13 =>
  insW Try.prog (Instr.buildSlice 34 4 #[(0, t4_0), (1, t7_4), (2, t10_8), (3, t13_12)]) w13 fun t14_14 w15 =>
  K t14_14 w15
theorem c94_eq (x0 : Value) (w : World) (K : VPost) : c94 x0 w K = WP true Try.prog 15 [] (bodyOf Try.f94) (argF [x0]) w [.tmp 2] K := by kernel_rfl
theorem c94_calls (x0 : Value) (w : World) (K : VPost) (h : c94 x0 w K) : Calls Try.prog 94 #[x0] w (retK K) :=
  calls_of_WP (c94_eq x0 w K) mixedG Try.func94 (by kernel_rfl) Try.ntmps94 (by kernel_rfl) (by kernel_rfl) h

/-- imprimatur/tag.cut -/
def c95 (x0 : Value) (w : World) (K : VPost) : Prop :=
  lenW Try.prog (some true) #[34] 3 #[x0] w fun t9_0 w1 =>
  binN Try.prog .lss 3 true t9_0 (.int .i64 4) w1 fun t10_2 w3 =>
  condW t10_2 (
  K (.tuple #[(.int .i64 0), (.slice none 0 0), (.bool false)]) w3) (
  bindX (endW Try.prog [.tmp 2, .tmp 3, .tmp 4] K) fun K4 =>
  bindX (seqX (fun f6 w7 =>
  sliceW (.sl 1) (f6 0) (some (.int .i64 4)) none none w7.drew fun t29_8 w9 =>
  K (.tuple #[(f6 5), t29_8, (.bool true)]) w9) K4) fun K5 =>
  sliceW (.sl 1) x0 none (some (.int .i64 4)) none w3 fun t12_10 w11 =>
  lenW Try.prog (some true) #[34] 3 #[t12_10] w11 fun t13_12 w13 =>
  bindX (blkX 0 K5) fun K14 =>
  loopW (fun f15 w16 K17 =>
  binN Try.prog .lss 3 false (f15 14) (f15 13) w16 fun t15_18 w19 =>
  condW t15_18 (
  idxW (some (none, 1)) (f15 12) (f15 14) w19 fun t17_20 w21 =>
  loadW (some (false, 1)) t17_20 w21 fun t18_22 w23 =>
  convN Try.prog 5 3 t18_22 w23 fun t21_24 w25 =>
  binN Try.prog .mul 3 true (.int .i64 8) (f15 14) w25 fun t23_26 w27 =>
  binN Try.prog .shl 3 false t21_24 t23_26 w27 fun t24_28 w29 =>
  binN Try.prog .or 3 false (f15 5) t24_28 w29 fun t25_30 w31 =>
  binN Try.prog .add 3 true (f15 14) (.int .i64 1) w31 fun t26_32 w33 =>
  K17 .normal (pf 30 (pf 30 (pf 30 (pf 30 (pf 30 (pf 30 (pf 30 (pf 30 (pf 30 (pf 30 (pf 30 (pf 30 (pf 30 (pf 30 (pf 30 (pf 30 f15 15 t15_18) 16 (f15 14)) 17 t17_20) 18 t18_22) 6 (f15 14)) 7 t18_22) 19 (f15 5)) 20 t18_22) 21 t21_24) 22 (f15 14)) 23 t23_26) 24 t24_28) 25 t25_30) 5 t25_30) 26 t26_32) 14 t26_32) w33) (
  K17 (.exit 0) (pf 30 f15 15 t15_18) w19)) (pf 30 (pf 30 (pf 30 (pf 30 (pf 30 (pf 30 (pf 30 (pf 30 (pf 30 (pf 30 (pf 30 (argF [x0]) 2 (.int .i64 0)) 3 (.slice none 0 0)) 4 (.bool false)) 8 x0) 9 t9_0) 10 t10_2) 5 (.int .i64 0)) 11 x0) 12 t12_10) 13 t13_12) 14 (.int .i64 0)) w13 K14)
theorem c95_eq (x0 : Value) (w : World) (K : VPost) : c95 x0 w K = WP true Try.prog 30 [(9, 0, [0, 0, 2, 1, 15, 31], [0, 0, 2, 1, 15, 31])] (bodyOf Try.f95) (argF [x0]) w [.tmp 2, .tmp 3, .tmp 4] K := by kernel_rfl
theorem c95_calls (x0 : Value) (w : World) (K : VPost) (h : c95 x0 w K) : Calls Try.prog 95 #[x0] w (retK K) :=
  calls_of_WP (c95_eq x0 w K) mixedG Try.func95 (by kernel_rfl) Try.ntmps95 (by kernel_rfl) (by kernel_rfl) h

end Go.Proofs.Ytedebapgmfnflaa
