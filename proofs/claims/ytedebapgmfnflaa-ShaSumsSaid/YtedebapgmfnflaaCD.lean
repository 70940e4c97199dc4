/- The clean forms of some of the program's functions, written by a program of ours; each is the model's own by the kernel's reckoning. -/
import Derived.Test.YtedebapgmfnflaaG7
import Derived.KernelRfl
namespace Go.Proofs.Ytedebapgmfnflaa
open Go
set_option maxRecDepth 100000

/-- imprimatur/disk.New -/
def c21 (x0 : Value) (w : World) (K : VPost) : Prop :=
  binW Try.prog .lss 3 true x0 (.int .i64 1) w fun t5_0 w1 =>
  gstep t5_0 false w1 (fun K => K x0 w1) fun t7_2 w3 =>
  gstep t5_0 false w3 (fun K => binW Try.prog .gtr 3 true t7_2 (.int .i64 4096) w3 K) fun t8_4 w5 =>
  pickW t5_0 (.bool true) t8_4 w5 fun t9_6 w7 =>
  condW t9_6 (
  K (.tuple #[(.pointer none), (.int .i64 11)]) w7) (
  (insW Try.prog (Instr.makeSlice 99 x0 x0) w7.drew fun t11_8 w9 =>
  insW Try.prog (Instr.makeSlice 99 x0 x0) w9 fun t13_10 w11 =>
  insW Try.prog (Instr.build 102 #[(0, t11_8), (1, t13_10), (3, (.int .i64 (-1)))]) w11 fun t14_12 w13 =>
  w13 = w11 ∧
  boxW 102 t14_12 w13 fun t15_14 w15 =>
  K (.tuple #[t15_14, (.int .i64 0)]) w15) ∧
  (insW Try.prog (Instr.makeSlice 99 x0 x0) w7.drew fun t13_16 w17 =>
  insW Try.prog (Instr.makeSlice 99 x0 x0) w17 fun t11_18 w19 =>
  insW Try.prog (Instr.build 102 #[(0, t11_18), (1, t13_16), (3, (.int .i64 (-1)))]) w19 fun t14_20 w21 =>
  w21 = w19 ∧
  boxW 102 t14_20 w21 fun t15_22 w23 =>
  K (.tuple #[t15_22, (.int .i64 0)]) w23))
theorem c21_eq (x0 : Value) (w : World) (K : VPost) : c21 x0 w K = WP false Try.prog 16 [(3, 42, [0, 1, 0, 4, 10, 16, 63, 127], [0, 1, 0, 4, 15, 31, 63, 127])] (bodyOf Try.f21) (argF [x0]) w [.tmp 2, .tmp 3] K := by kernel_rfl
theorem c21_calls (x0 : Value) (w : World) (K : VPost) (h : c21 x0 w K) : Calls Try.prog 21 #[x0] w (retK K) :=
  calls_of_WP (c21_eq x0 w K) mixedG Try.func21 (by kernel_rfl) Try.ntmps21 (by kernel_rfl) (by kernel_rfl) h

/-- (*imprimatur/disk.Disk).Write -/
def c23 (x0 x1 x2 : Value) (w : World) (K : VPost) : Prop :=
  boxW 33 x2 w fun t5_0 w1 =>
  bindX (endW Try.prog [.tmp 6] K) fun K2 =>
  bindX (seqX (fun f4 w5 =>
  nilW (f4 0) w5.drew fun t32_6 w7 =>
  offW (some 1) t32_6 w7 fun t33_8 w9 =>
  loadW (some (false, 1)) t33_8 w9 fun t34_10 w11 =>
  loadW (some (true, 64)) (f4 5) w11 fun t36_12 w13 =>
  idxW (some (none, 64)) t34_10 (f4 1) w13 fun t37_14 w15 =>
  storeW (some (true, 64)) t37_14 t36_12 w15 fun w16 =>
  nilW (f4 0) w16.drew fun t40_17 w18 =>
  offW (some 2) t40_17 w18 fun t41_19 w20 =>
  loadW (some (false, 1)) t41_19 w20 fun t42_21 w22 =>
  loadW (some (true, 64)) (f4 5) w22 fun t44_23 w24 =>
  insW Try.prog (Instr.build 104 #[(0, (f4 1)), (1, t44_23)]) w24 fun t45_25 w26 =>
  w26 = w24 ∧
  insW Try.prog (Instr.buildSlice 100 1 #[(0, t45_25)]) w26 fun t46_27 w28 =>
  (loadW (some (false, 1)) t41_19 w28 fun t42_29 w30 => t42_29 = t42_21 ∧ w30 = w28) ∧
  insW Try.prog (Builtin.append_ #[100, 100] 100 #[t42_21, t46_27]) w28 fun t47_31 w32 =>
  nilW (f4 0) w32 fun t48_33 w34 =>
  offW (some 2) t48_33 w34 fun t49_35 w36 =>
  storeW (some (false, 1)) t49_35 t47_31 w36 fun w37 =>
  K (.int .i64 0) w37) K2) fun K3 =>
  bindX (blkX 0 K3) fun K38 =>
  fnW Try.prog 74 #[x0, x1] w1 fun t10_39 w40 =>
  insW Try.prog (Op.unary .not t10_39) w40 fun t11_41 w42 =>
  condW t11_41 (
  K (.int .i64 11) w42) (
  nilW x0 w42 fun t14_43 w44 =>
  offW (some 3) t14_43 w44 fun t15_45 w46 =>
  loadW (some (false, 1)) t15_45 w46 fun t16_47 w48 =>
  binW Try.prog .eql 3 true t16_47 (.int .i64 0) w48 fun t17_49 w50 =>
  condW t17_49 (
  K (.int .i64 15) w50) (
  nilW x0 w50 fun t20_51 w52 =>
  offW (some 3) t20_51 w52 fun t21_53 w54 =>
  loadW (some (false, 1)) t21_53 w54 fun t22_55 w56 =>
  binW Try.prog .gtr 3 true t22_55 (.int .i64 0) w56 fun t23_57 w58 =>
  condW t23_57 (
  nilW x0 w58 fun t25_59 w60 =>
  offW (some 3) t25_59 w60 fun t26_61 w62 =>
  loadW (some (false, 1)) t26_61 w62 fun t27_63 w64 =>
  binW Try.prog .sub 3 true t27_63 (.int .i64 1) w64 fun t28_65 w66 =>
  nilW x0 w66 fun t29_67 w68 =>
  offW (some 3) t29_67 w68 fun t30_69 w70 =>
  storeW (some (false, 1)) t30_69 t28_65 w70 fun w71 =>
  K3 .normal (pf 50 (pf 50 (pf 50 (pf 50 (pf 50 (pf 50 (pf 50 (pf 50 (pf 50 (pf 50 (pf 50 (pf 50 (pf 50 (pf 50 (pf 50 (pf 50 (pf 50 (pf 50 (pf 50 (pf 50 (pf 50 (pf 50 (pf 50 (pf 50 (pf 50 (pf 50 (argF [x0, x1, x2]) 5 t5_0) 6 (.int .i64 0)) 8 x0) 9 x1) 10 t10_39) 11 t11_41) 7 t11_41) 13 x0) 14 t14_43) 15 t15_45) 16 t16_47) 17 t17_49) 12 t17_49) 19 x0) 20 t20_51) 21 t21_53) 22 t22_55) 23 t23_57) 18 t23_57) 24 x0) 25 t25_59) 26 t26_61) 27 t27_63) 28 t28_65) 29 t29_67) 30 t30_69) w71) (
  K3 .normal (pf 50 (pf 50 (pf 50 (pf 50 (pf 50 (pf 50 (pf 50 (pf 50 (pf 50 (pf 50 (pf 50 (pf 50 (pf 50 (pf 50 (pf 50 (pf 50 (pf 50 (pf 50 (pf 50 (argF [x0, x1, x2]) 5 t5_0) 6 (.int .i64 0)) 8 x0) 9 x1) 10 t10_39) 11 t11_41) 7 t11_41) 13 x0) 14 t14_43) 15 t15_45) 16 t16_47) 17 t17_49) 12 t17_49) 19 x0) 20 t20_51) 21 t21_53) 22 t22_55) 23 t23_57) 18 t23_57) w58)))
theorem c23_eq (x0 x1 x2 : Value) (w : World) (K : VPost) : c23 x0 x1 x2 w K = WP false Try.prog 50 [(7, 128, [0, 1, 2, 4, 0, 0, 63, 127], [0, 1, 3, 7, 0, 0, 63, 127]), (8, 4864, [0, 0, 2, 4, 8, 0, 0, 96, 128, 272, 1023, 2047, 3071], [0, 0, 2, 6, 14, 0, 0, 96, 224, 510, 1023, 2047, 4095])] (bodyOf Try.f23) (argF [x0, x1, x2]) w [.tmp 6] K := by kernel_rfl
theorem c23_calls (x0 x1 x2 : Value) (w : World) (K : VPost) (h : c23 x0 x1 x2 w K) : Calls Try.prog 23 #[x0, x1, x2] w (retK K) :=
  calls_of_WP (c23_eq x0 x1 x2 w K) mixedG Try.func23 (by kernel_rfl) Try.ntmps23 (by kernel_rfl) (by kernel_rfl) h

/-- (*imprimatur/disk.Disk).Flush -/
def c25 (x0 : Value) (w : World) (K : VPost) : Prop :=
  nilW x0 w.drew fun t3_0 w1 =>
  offW (some 0) t3_0 w1 fun t4_2 w3 =>
  loadW (some (false, 1)) t4_2 w3 fun t5_4 w5 =>
  nilW x0 w5 fun t7_6 w7 =>
  offW (some 1) t7_6 w7 fun t8_8 w9 =>
  loadW (some (false, 1)) t8_8 w9 fun t9_10 w11 =>
  insW Try.prog (Builtin.copy_ #[99, 99] 3 #[t5_4, t9_10]) w11 fun t10_12 w13 =>
  nilW x0 w13 fun t12_14 w15 =>
  offW (some 2) t12_14 w15 fun t13_16 w17 =>
  storeW (some (false, 1)) t13_16 (.slice none 0 0) w17 fun w18 =>
  K (.tuple #[]) w18
theorem c25_eq (x0 : Value) (w : World) (K : VPost) : c25 x0 w K = WP false Try.prog 14 [(0, 256, [0, 1, 2, 4, 0, 16, 32, 64, 136], [0, 1, 3, 7, 0, 16, 48, 112, 255])] (bodyOf Try.f25) (argF [x0]) w [] K := by kernel_rfl
theorem c25_calls (x0 : Value) (w : World) (K : VPost) (h : c25 x0 w K) : Calls Try.prog 25 #[x0] w (retK K) :=
  calls_of_WP (c25_eq x0 w K) mixedG Try.func25 (by kernel_rfl) Try.ntmps25 (by kernel_rfl) (by kernel_rfl) h

/-- (*imprimatur/disk.Disk).Crash -/
def c28 (x0 x1 : Value) (w : World) (K : VPost) : Prop :=
  bindX (endW Try.prog [.tmp 4] K) fun K0 =>
  bindX (seqX (fun f2 w3 =>
  bindX (seqX (fun f5 w6 =>
  nilW (f5 0) w6.drew fun t36_7 w8 =>
  offW (some 1) t36_7 w8 fun t37_9 w10 =>
  loadW (some (false, 1)) t37_9 w10 fun t38_11 w12 =>
  nilW (f5 0) w12 fun t40_13 w14 =>
  offW (some 0) t40_13 w14 fun t41_15 w16 =>
  loadW (some (false, 1)) t41_15 w16 fun t42_17 w18 =>
  insW Try.prog (Builtin.copy_ #[99, 99] 3 #[t38_11, t42_17]) w18 fun t43_19 w20 =>
  nilW (f5 0) w20 fun t46_21 w22 =>
  offW (some 2) t46_21 w22 fun t47_23 w24 =>
  storeW (some (false, 1)) t47_23 (.slice none 0 0) w24 fun w25 =>
  nilW (f5 0) w25 fun t48_26 w27 =>
  offW (some 3) t48_26 w27 fun t49_28 w29 =>
  storeW (some (false, 1)) t49_28 (.int .i64 (-1)) w29 fun w30 =>
  K (f5 5) w30) K0) fun K4 =>
  nilW (f2 0) w3 fun t13_31 w32 =>
  offW (some 2) t13_31 w32 fun t14_33 w34 =>
  loadW (some (false, 1)) t14_33 w34 fun t15_35 w36 =>
  lenW Try.prog (some true) #[100] 3 #[t15_35] w36 fun t16_37 w38 =>
  bindX (blkX 0 K4) fun K39 =>
  loopW (fun f40 w41 K42 =>
  binW Try.prog .lss 3 false (f40 17) (f40 16) w41 fun t18_43 w44 =>
  condW t18_43 (
  bindX (seqX (fun f46 w47 =>
  binW Try.prog .add 3 true (f46 17) (.int .i64 1) w47 fun t34_48 w49 =>
  K42 .normal (pf 51 (pf 51 f46 34 t34_48) 17 t34_48) w49) K42) fun K45 =>
  bindX (blkX 1 K45) fun K50 =>
  idxW (some (none, 65)) (f40 15) (f40 17) w44 fun t20_51 w52 =>
  loadW (some (true, 65)) t20_51 w52 fun t21_53 w54 =>
  allocW (zeroO Try.prog 104) 104 w54 fun t7_55 w56 =>
  storeW (some (true, 65)) t7_55 t21_53 w56 fun w57 =>
  loadW (some (true, 65)) t7_55 w57.drew fun t23_58 w59 =>
  lenW Try.prog (some true) #[34] 3 #[(f40 1)] w59 fun t27_60 w61 =>
  w61 = w59 ∧
  binW Try.prog .rem 3 false (f40 17) t27_60 w61 fun t28_62 w63 =>
  w63 = w61 ∧
  idxW (some (none, 1)) (f40 1) t28_62 w63 fun t29_64 w65 =>
  loadW (some (false, 1)) t29_64 w65 fun t30_66 w67 =>
  fnW Try.prog 76 #[(f40 0), t23_58, t30_66] w67 fun t31_68 w69 =>
  condW t31_68 (
  binW Try.prog .add 3 true (f40 5) (.int .i64 1) w69 fun t33_70 w71 =>
  K45 .normal (pf 51 (pf 51 (pf 51 (pf 51 (pf 51 (pf 51 (pf 51 (pf 51 (pf 51 (pf 51 (pf 51 (pf 51 (pf 51 (pf 51 (pf 51 (pf 51 (pf 51 (pf 51 (pf 51 f40 18 t18_43) 19 (f40 17)) 20 t20_51) 21 t21_53) 7 t7_55) 6 (f40 17)) 22 (f40 0)) 23 t23_58) 24 (f40 1)) 25 (f40 17)) 26 (f40 1)) 27 t27_60) 28 t28_62) 29 t29_64) 30 t30_66) 31 t31_68) 32 (f40 5)) 33 t33_70) 5 t33_70) w71) (
  K45 .normal (pf 51 (pf 51 (pf 51 (pf 51 (pf 51 (pf 51 (pf 51 (pf 51 (pf 51 (pf 51 (pf 51 (pf 51 (pf 51 (pf 51 (pf 51 (pf 51 f40 18 t18_43) 19 (f40 17)) 20 t20_51) 21 t21_53) 7 t7_55) 6 (f40 17)) 22 (f40 0)) 23 t23_58) 24 (f40 1)) 25 (f40 17)) 26 (f40 1)) 27 t27_60) 28 t28_62) 29 t29_64) 30 t30_66) 31 t31_68) w69)) (
  K42 (.exit 0) (pf 51 f40 18 t18_43) w44)) (pf 51 (pf 51 (pf 51 (pf 51 (pf 51 (pf 51 (pf 51 f2 5 (.int .i64 0)) 12 (f2 0)) 13 t13_31) 14 t14_33) 15 t15_35) 16 t16_37) 17 (.int .i64 0)) w38 K39) K0) fun K1 =>
  lenW Try.prog (some true) #[34] 3 #[x1] w fun t9_72 w73 =>
  binW Try.prog .eql 3 true t9_72 (.int .i64 0) w73 fun t10_74 w75 =>
  condW t10_74 (
  insW Try.prog (Instr.buildSlice 34 1 #[(0, (.int .u8 0))]) w75 fun t11_76 w77 =>
  K1 .normal (pf 51 (pf 51 (pf 51 (pf 51 (pf 51 (pf 51 (argF [x0, x1]) 4 (.int .i64 0)) 8 x1) 9 t9_72) 10 t10_74) 11 t11_76) 1 t11_76) w77) (
  K1 .normal (pf 51 (pf 51 (pf 51 (pf 51 (argF [x0, x1]) 4 (.int .i64 0)) 8 x1) 9 t9_72) 10 t10_74) w75)
theorem c28_eq (x0 x1 : Value) (w : World) (K : VPost) : c28 x0 x1 w K = WP false Try.prog 51 [(7, 512, [0, 0, 0, 0, 0, 16, 40, 68, 128, 259], [0, 0, 0, 0, 0, 16, 56, 124, 252, 511]), (10, 256, [0, 1, 2, 4, 0, 16, 32, 64, 136], [0, 1, 3, 7, 0, 16, 48, 112, 255])] (bodyOf Try.f28) (argF [x0, x1]) w [.tmp 4] K := by kernel_rfl
theorem c28_calls (x0 x1 : Value) (w : World) (K : VPost) (h : c28 x0 x1 w K) : Calls Try.prog 28 #[x0, x1] w (retK K) :=
  calls_of_WP (c28_eq x0 x1 w K) mixedG Try.func28 (by kernel_rfl) Try.ntmps28 (by kernel_rfl) (by kernel_rfl) h

/-- (*imprimatur/disk.Disk).Limit -/
def c31 (x0 x1 : Value) (w : World) (K : VPost) : Prop :=
  insW Try.prog (Builtin.max_ #[3, 3] 3 #[x1, (.int .i64 (-1))]) w fun t6_0 w1 =>
  nilW x0 w1 fun t7_2 w3 =>
  offW (some 3) t7_2 w3 fun t8_4 w5 =>
  storeW (some (false, 1)) t8_4 t6_0 w5 fun w6 =>
  K (.tuple #[]) w6
theorem c31_eq (x0 x1 : Value) (w : World) (K : VPost) : c31 x0 x1 w K = WP false Try.prog 9 [] (bodyOf Try.f31) (argF [x0, x1]) w [] K := by kernel_rfl
theorem c31_calls (x0 x1 : Value) (w : World) (K : VPost) (h : c31 x0 x1 w K) : Calls Try.prog 31 #[x0, x1] w (retK K) :=
  calls_of_WP (c31_eq x0 x1 w K) mixedG Try.func31 (by kernel_rfl) Try.ntmps31 (by kernel_rfl) (by kernel_rfl) h

/-- (*imprimatur/disk.Disk).Read -/
def c33 (x0 x1 : Value) (w : World) (K : VPost) : Prop :=
  allocW (zeroO Try.prog 33) 33 w fun t4_0 w1 =>
  fnW Try.prog 74 #[x0, x1] w1 fun t8_2 w3 =>
  insW Try.prog (Op.unary .not t8_2) w3 fun t9_4 w5 =>
  condW t9_4 (
  insW Try.prog (Instr.build 33 #[]) w5 fun t10_6 w7 =>
  storeW (some (true, 64)) t4_0 t10_6 w7 fun w8 =>
  loadW (some (true, 64)) t4_0 w8 fun r9 u10 =>
  K (.tuple #[r9, (.int .i64 11)]) w8) (
  nilW x0 w5 fun t12_11 w12 =>
  offW (some 1) t12_11 w12 fun t13_13 w14 =>
  loadW (some (false, 1)) t13_13 w14 fun t14_15 w16 =>
  idxW (some (none, 64)) t14_15 x1 w16 fun t16_17 w18 =>
  loadW (some (true, 64)) t16_17 w18 fun t17_19 w20 =>
  storeW (some (true, 64)) t4_0 t17_19 w20 fun w21 =>
  loadW (some (true, 64)) t4_0 w21 fun r22 u23 =>
  K (.tuple #[r22, (.int .i64 0)]) w21)
theorem c33_eq (x0 x1 : Value) (w : World) (K : VPost) : c33 x0 x1 w K = WP false Try.prog 18 [] (bodyOf Try.f33) (argF [x0, x1]) w [.cell 4 33, .tmp 5] K := by kernel_rfl
theorem c33_calls (x0 x1 : Value) (w : World) (K : VPost) (h : c33 x0 x1 w K) : Calls Try.prog 33 #[x0, x1] w (retK K) :=
  calls_of_WP (c33_eq x0 x1 w K) mixedG Try.func33 (by kernel_rfl) Try.ntmps33 (by kernel_rfl) (by kernel_rfl) h

/-- (*imprimatur/disk.Disk).Pending -/
def c35 (x0 : Value) (w : World) (K : VPost) : Prop :=
  nilW x0 w fun t4_0 w1 =>
  offW (some 2) t4_0 w1 fun t5_2 w3 =>
  loadW (some (false, 1)) t5_2 w3 fun t6_4 w5 =>
  lenW Try.prog (some true) #[100] 3 #[t6_4] w5 fun t7_6 w7 =>
  K t7_6 w7
theorem c35_eq (x0 : Value) (w : World) (K : VPost) : c35 x0 w K = WP false Try.prog 8 [] (bodyOf Try.f35) (argF [x0]) w [.tmp 2] K := by kernel_rfl
theorem c35_calls (x0 : Value) (w : World) (K : VPost) (h : c35 x0 w K) : Calls Try.prog 35 #[x0] w (retK K) :=
  calls_of_WP (c35_eq x0 w K) mixedG Try.func35 (by kernel_rfl) Try.ntmps35 (by kernel_rfl) (by kernel_rfl) h

/-- (*imprimatur/disk.Disk).Size -/
def c36 (x0 : Value) (w : World) (K : VPost) : Prop :=
  nilW x0 w fun t4_0 w1 =>
  offW (some 1) t4_0 w1 fun t5_2 w3 =>
  loadW (some (false, 1)) t5_2 w3 fun t6_4 w5 =>
  lenW Try.prog (some true) #[99] 3 #[t6_4] w5 fun t7_6 w7 =>
  K t7_6 w7
theorem c36_eq (x0 : Value) (w : World) (K : VPost) : c36 x0 w K = WP false Try.prog 8 [] (bodyOf Try.f36) (argF [x0]) w [.tmp 2] K := by kernel_rfl
theorem c36_calls (x0 : Value) (w : World) (K : VPost) (h : c36 x0 w K) : Calls Try.prog 36 #[x0] w (retK K) :=
  calls_of_WP (c36_eq x0 w K) mixedG Try.func36 (by kernel_rfl) Try.ntmps36 (by kernel_rfl) (by kernel_rfl) h

/-- (*imprimatur/disk.Disk).Image -/
def c37 (x0 : Value) (w : World) (K : VPost) : Prop :=
  bindX (endW Try.prog [.tmp 2] K) fun K0 =>
  bindX (seqX (fun f2 w3 =>
  K (f2 3) w3) K0) fun K1 =>
  nilW x0 w fun t7_4 w5 =>
  offW (some 1) t7_4 w5 fun t8_6 w7 =>
  loadW (some (false, 1)) t8_6 w7 fun t9_8 w9 =>
  lenW Try.prog (some true) #[99] 3 #[t9_8] w9 fun t10_10 w11 =>
  bindX (blkX 0 K1) fun K12 =>
  loopW (fun f13 w14 K15 =>
  binW Try.prog .lss 3 false (f13 11) (f13 10) w14 fun t12_16 w17 =>
  condW t12_16 (
  idxW (some (none, 64)) (f13 9) (f13 11) w17 fun t13_18 w19 =>
  loadW (some (true, 64)) t13_18 w19 fun t14_20 w21 =>
  allocW (zeroO Try.prog 33) 33 w21 fun t5_22 w23 =>
  storeW (some (true, 64)) t5_22 t14_20 w23 fun w24 =>
  sliceW (.arr 64 1) t5_22 none none none w24 fun t16_25 w26 =>
  insW Try.prog (Builtin.append_ #[34, 34] 34 #[(f13 3), t16_25]) w26 fun t17_27 w28 =>
  binW Try.prog .add 3 true (f13 11) (.int .i64 1) w28 fun t18_29 w30 =>
  K15 .normal (pf 20 (pf 20 (pf 20 (pf 20 (pf 20 (pf 20 (pf 20 (pf 20 (pf 20 (pf 20 f13 12 t12_16) 13 t13_18) 14 t14_20) 5 t5_22) 15 (f13 3)) 16 t16_25) 17 t17_27) 3 t17_27) 18 t18_29) 11 t18_29) w30) (
  K15 (.exit 0) (pf 20 f13 12 t12_16) w17)) (pf 20 (pf 20 (pf 20 (pf 20 (pf 20 (pf 20 (pf 20 (pf 20 (argF [x0]) 2 (.slice none 0 0)) 3 (.slice none 0 0)) 6 x0) 7 t7_4) 8 t8_6) 9 t9_8) 10 t10_10) 11 (.int .i64 0)) w11 K12
theorem c37_eq (x0 : Value) (w : World) (K : VPost) : c37 x0 w K = WP false Try.prog 20 [] (bodyOf Try.f37) (argF [x0]) w [.tmp 2] K := by kernel_rfl
theorem c37_calls (x0 : Value) (w : World) (K : VPost) (h : c37 x0 w K) : Calls Try.prog 37 #[x0] w (retK K) :=
  calls_of_WP (c37_eq x0 w K) mixedG Try.func37 (by kernel_rfl) Try.ntmps37 (by kernel_rfl) (by kernel_rfl) h

/-- (*imprimatur/disk.Disk).Twin -/
def c39 (x0 : Value) (w : World) (K : VPost) : Prop :=
  nilW x0 w.drew fun t4_0 w1 =>
  offW (some 1) t4_0 w1 fun t5_2 w3 =>
  loadW (some (false, 1)) t5_2 w3 fun t6_4 w5 =>
  nilW x0 w5 fun t9_6 w7 =>
  offW (some 1) t9_6 w7 fun t10_8 w9 =>
  loadW (some (false, 1)) t10_8 w9 fun t11_10 w11 =>
  fnW Try.prog 78 #[t6_4] w11 fun t7_12 w13 =>
  (loadW (some (false, 1)) t10_8 w13 fun t11_14 w15 => t11_14 = t11_10 ∧ w15 = w13) ∧
  fnW Try.prog 78 #[t11_10] w13 fun t12_16 w17 =>
  insW Try.prog (Instr.build 102 #[(0, t7_12), (1, t12_16), (3, (.int .i64 (-1)))]) w17 fun t13_18 w19 =>
  w19 = w17 ∧
  boxW 102 t13_18 w19 fun t14_20 w21 =>
  K t14_20 w21
theorem c39_eq (x0 : Value) (w : World) (K : VPost) : c39 x0 w K = WP false Try.prog 15 [(1, 2576, [0, 1, 2, 4, 8, 0, 32, 64, 128, 272, 528, 1024, 4095], [0, 1, 3, 7, 15, 0, 32, 96, 224, 511, 1023, 2047, 4095])] (bodyOf Try.f39) (argF [x0]) w [.tmp 2] K := by kernel_rfl
theorem c39_calls (x0 : Value) (w : World) (K : VPost) (h : c39 x0 w K) : Calls Try.prog 39 #[x0] w (retK K) :=
  calls_of_WP (c39_eq x0 w K) mixedG Try.func39 (by kernel_rfl) Try.ntmps39 (by kernel_rfl) (by kernel_rfl) h

/-- (*imprimatur/disk.Disk).there -/
def c74 (x0 x1 : Value) (w : World) (K : VPost) : Prop :=
  binW Try.prog .geq 3 true x1 (.int .i64 0) w fun t6_0 w1 =>
  gstep t6_0 true w1 (fun K => K x1 w1) fun t8_2 w3 =>
  gstep t6_0 true w3 (fun K => K x0 w3) fun t9_4 w5 =>
  gstep t6_0 true w5 (fun K => nilW t9_4 w5 K) fun t10_6 w7 =>
  gstep t6_0 true w7 (fun K => offW (some 1) t10_6 w7 K) fun t11_8 w9 =>
  gstep t6_0 true w9 (fun K => loadW (some (false, 1)) t11_8 w9 K) fun t12_10 w11 =>
  gstep t6_0 true w11 (fun K => lenW Try.prog (some true) #[99] 3 #[t12_10] w11 K) fun t13_12 w13 =>
  gstep t6_0 true w13 (fun K => binW Try.prog .lss 3 false t8_2 t13_12 w13 K) fun t14_14 w15 =>
  pickW t6_0 t14_14 (.bool false) w15 fun t15_16 w17 =>
  K t15_16 w17
theorem c74_eq (x0 x1 : Value) (w : World) (K : VPost) : c74 x0 x1 w K = WP false Try.prog 16 [] (bodyOf Try.f74) (argF [x0, x1]) w [.tmp 4] K := by kernel_rfl
theorem c74_calls (x0 x1 : Value) (w : World) (K : VPost) (h : c74 x0 x1 w K) : Calls Try.prog 74 #[x0, x1] w (retK K) :=
  calls_of_WP (c74_eq x0 x1 w K) mixedG Try.func74 (by kernel_rfl) Try.ntmps74 (by kernel_rfl) (by kernel_rfl) h

/-- (*imprimatur/disk.Disk).torn -/
def c76 (x0 x1 x2 : Value) (w : World) (K : VPost) : Prop :=
  boxW 104 x1 w fun t4_0 w1 =>
  nilW x0 w1.drew fun t10_2 w3 =>
  offW (some 0) t10_2 w3 fun t11_4 w5 =>
  loadW (some (false, 1)) t11_4 w5 fun t12_6 w7 =>
  offW (some 0) t4_0 w7 fun t13_8 w9 =>
  loadW (some (false, 1)) t13_8 w9 fun t14_10 w11 =>
  idxW (some (none, 64)) t12_6 t14_10 w11 fun t15_12 w13 =>
  binW Try.prog .rem 5 true x2 (.int .u8 64) w13 fun t17_14 w15 =>
  w15 = w13 ∧
  insW Try.prog (convert 5 3 t17_14) w15 fun t18_16 w17 =>
  (loadW (some (false, 1)) t11_4 w17 fun t12_18 w19 => t12_18 = t12_6 ∧ w19 = w17) ∧
  (loadW (some (false, 1)) t13_8 w17 fun t14_20 w21 => t14_20 = t14_10 ∧ w21 = w17) ∧
  bindX (endW Try.prog [.tmp 6] K) fun K22 =>
  bindX (seqX (fun f24 w25 =>
  K (.bool true) w25) K22) fun K23 =>
  binW Try.prog .quo 5 true x2 (.int .u8 64) w17 fun t20_26 w27 =>
  bindX (blkX 0 K23) fun K28 =>
  binW Try.prog .eql 5 true t20_26 (.int .u8 0) w27 fun t32_29 w30 =>
  condW t32_29 (
  K (.bool false) w30) (
  binW Try.prog .eql 5 true t20_26 (.int .u8 1) w30 fun t34_31 w32 =>
  condW t34_31 (
  offW (some 1) t4_0 w32 fun t36_33 w34 =>
  loadW (some (true, 64)) t36_33 w34 fun t37_35 w36 =>
  nilW t15_12 w36 fun t38_37 w38 =>
  storeW (some (true, 64)) t38_37 t37_35 w38 fun w39 =>
  K23 .normal (pf 49 (pf 49 (pf 49 (pf 49 (pf 49 (pf 49 (pf 49 (pf 49 (pf 49 (pf 49 (pf 49 (pf 49 (pf 49 (pf 49 (pf 49 (pf 49 (pf 49 (pf 49 (pf 49 (pf 49 (pf 49 (pf 49 (pf 49 (pf 49 (argF [x0, x1, x2]) 4 t4_0) 6 (.bool false)) 9 x0) 10 t10_2) 11 t11_4) 12 t12_6) 13 t13_8) 14 t14_10) 15 t15_12) 16 x2) 17 t17_14) 7 t15_12) 18 t18_16) 8 t18_16) 19 x2) 20 t20_26) 32 t32_29) 31 t32_29) 34 t34_31) 33 t34_31) 35 t15_12) 36 t36_33) 37 t37_35) 38 t38_37) w39) (
  binW Try.prog .eql 5 true t20_26 (.int .u8 2) w32 fun t40_40 w41 =>
  condW t40_40 (
  nilW t15_12 w41.drew fun t42_42 w43 =>
  sliceW (.arr 64 1) t42_42 none (some t18_16) none w43 fun t44_44 w45 =>
  offW (some 1) t4_0 w45 fun t45_46 w47 =>
  sliceW (.arr 64 1) t45_46 none (some t18_16) none w47 fun t47_48 w49 =>
  insW Try.prog (Builtin.copy_ #[34, 34] 3 #[t44_44, t47_48]) w49 fun t48_50 w51 =>
  K23 .normal (pf 49 (pf 49 (pf 49 (pf 49 (pf 49 (pf 49 (pf 49 (pf 49 (pf 49 (pf 49 (pf 49 (pf 49 (pf 49 (pf 49 (pf 49 (pf 49 (pf 49 (pf 49 (pf 49 (pf 49 (pf 49 (pf 49 (pf 49 (pf 49 (pf 49 (pf 49 (pf 49 (pf 49 (pf 49 (pf 49 (argF [x0, x1, x2]) 4 t4_0) 6 (.bool false)) 9 x0) 10 t10_2) 11 t11_4) 12 t12_6) 13 t13_8) 14 t14_10) 15 t15_12) 16 x2) 17 t17_14) 7 t15_12) 18 t18_16) 8 t18_16) 19 x2) 20 t20_26) 32 t32_29) 31 t32_29) 34 t34_31) 33 t34_31) 40 t40_40) 39 t40_40) 41 t15_12) 42 t42_42) 43 t18_16) 44 t44_44) 45 t45_46) 46 t18_16) 47 t47_48) 48 t48_50) w51) (
  nilW t15_12 w41.drew fun t22_52 w53 =>
  binW Try.prog .sub 3 true (.int .i64 64) t18_16 w53 fun t24_54 w55 =>
  w55 = w53 ∧
  sliceW (.arr 64 1) t22_52 (some t24_54) none none w55 fun t25_56 w57 =>
  offW (some 1) t4_0 w57 fun t26_58 w59 =>
  binW Try.prog .sub 3 true (.int .i64 64) t18_16 w59 fun t28_60 w61 =>
  w61 = w59 ∧
  sliceW (.arr 64 1) t26_58 (some t28_60) none none w61 fun t29_62 w63 =>
  insW Try.prog (Builtin.copy_ #[34, 34] 3 #[t25_56, t29_62]) w63 fun t30_64 w65 =>
  K23 .normal (pf 49 (pf 49 (pf 49 (pf 49 (pf 49 (pf 49 (pf 49 (pf 49 (pf 49 (pf 49 (pf 49 (pf 49 (pf 49 (pf 49 (pf 49 (pf 49 (pf 49 (pf 49 (pf 49 (pf 49 (pf 49 (pf 49 (pf 49 (pf 49 (pf 49 (pf 49 (pf 49 (pf 49 (pf 49 (pf 49 (pf 49 (pf 49 (argF [x0, x1, x2]) 4 t4_0) 6 (.bool false)) 9 x0) 10 t10_2) 11 t11_4) 12 t12_6) 13 t13_8) 14 t14_10) 15 t15_12) 16 x2) 17 t17_14) 7 t15_12) 18 t18_16) 8 t18_16) 19 x2) 20 t20_26) 32 t32_29) 31 t32_29) 34 t34_31) 33 t34_31) 40 t40_40) 39 t40_40) 21 t15_12) 22 t22_52) 23 t18_16) 24 t24_54) 25 t25_56) 26 t26_58) 27 t18_16) 28 t28_60) 29 t29_62) 30 t30_64) w65)))
theorem c76_eq (x0 x1 x2 : Value) (w : World) (K : VPost) : c76 x0 x1 x2 w K = WP false Try.prog 49 [(1, 512, [0, 1, 2, 4, 0, 16, 40, 0, 128, 256, 127, 2047], [0, 1, 3, 7, 0, 16, 63, 0, 128, 384, 127, 2047]), (9, 128, [0, 1, 0, 6, 0, 0, 48, 72], [0, 1, 0, 7, 0, 0, 48, 127]), (3, 512, [0, 1, 0, 4, 10, 0, 0, 64, 160, 272], [0, 1, 0, 4, 15, 0, 0, 64, 224, 511])] (bodyOf Try.f76) (argF [x0, x1, x2]) w [.tmp 6] K := by kernel_rfl
theorem c76_calls (x0 x1 x2 : Value) (w : World) (K : VPost) (h : c76 x0 x1 x2 w K) : Calls Try.prog 76 #[x0, x1, x2] w (retK K) :=
  calls_of_WP (c76_eq x0 x1 x2 w K) mixedG Try.func76 (by kernel_rfl) Try.ntmps76 (by kernel_rfl) (by kernel_rfl) h

/-- slices.Clone[[]imprimatur/api.Block,imprimatur/api.Block] -/
def c78 (x0 : Value) (w : World) (K : VPost) : Prop :=
  binW Try.prog .eql 99 true x0 (.slice none 0 0) w fun t4_0 w1 =>
  condW t4_0 (
  K (.slice none 0 0) w1) (
  insW Try.prog (Instr.buildSlice 99 0 #[]) w1 fun t5_2 w3 =>
  insW Try.prog (Builtin.append_ #[99, 99] 99 #[t5_2, x0]) w3 fun t7_4 w5 =>
  K t7_4 w5)
theorem c78_eq (x0 : Value) (w : World) (K : VPost) : c78 x0 w K = WP false Try.prog 8 [] (bodyOf Try.f78) (argF [x0]) w [.tmp 2] K := by kernel_rfl
theorem c78_calls (x0 : Value) (w : World) (K : VPost) (h : c78 x0 w K) : Calls Try.prog 78 #[x0] w (retK K) :=
  calls_of_WP (c78_eq x0 w K) mixedG Try.func78 (by kernel_rfl) Try.ntmps78 (by kernel_rfl) (by kernel_rfl) h

end Go.Proofs.Ytedebapgmfnflaa
