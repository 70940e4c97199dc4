/- The clean forms of some of the program's functions, written by a program of ours; each is the model's own by the kernel's reckoning. -/
import Derived.Test.YtbaddpnlokmldaaDoorGB
import Derived.KernelRfl
namespace Go.Proofs.YtbaddpnlokmldaaDoor
open Go
set_option maxRecDepth 100000

/-- imprimatur/level.Right -/
def c69 (x0 : Value) (w : World) (K : VPost) : Prop :=
  boxW 48 x0 w fun t1_0 w1 =>
  bindX (endW Tryd.prog [.tmp 2] K) fun K2 =>
  bindX (seqX (fun f4 w5 =>
  offW (some 0) (f4 1) w5 fun t19_6 w7 =>
  loadW (some (false, 1)) t19_6 w7 fun t20_8 w9 =>
  binN Tryd.prog .geq 3 true t20_8 (.int .i64 0) w9 fun t21_10 w11 =>
  gstep t21_10 true w11 (fun K => offW (some 0) (f4 1) w11 K) fun t23_12 w13 =>
  gstep t21_10 true w13 (fun K => loadW (some (false, 1)) t23_12 w13 K) fun t24_14 w15 =>
  gstep t21_10 true w15 (fun K => binN Tryd.prog .leq 3 true t24_14 (.int .i64 100) w15 K) fun t25_16 w17 =>
  pickW t21_10 t25_16 (.bool false) w17 fun t26_18 w19 =>
  K t26_18 w19) K2) fun K3 =>
  offW (some 1) t1_0 w1 fun t5_20 w21 =>
  loadW (some (true, 4)) t5_20 w21 fun t6_22 w23 =>
  bindX (blkX 0 K3) fun K24 =>
  loopW (fun f25 w26 K27 =>
  binN Tryd.prog .lss 3 true (f25 7) (.int .i64 4) w26 fun t8_28 w29 =>
  condW t8_28 (
  ixvW (.arr 4 false 1) (f25 6) (f25 7) w29 fun t9_30 w31 =>
  binN Tryd.prog .lss 3 true t9_30 (.int .i64 (-1)) w31 fun t11_32 w33 =>
  gstep t11_32 false w33 (fun K => K t9_30 w33) fun t13_34 w35 =>
  gstep t11_32 false w35 (fun K => offW (some 0) (f25 1) w35 K) fun t14_36 w37 =>
  gstep t11_32 false w37 (fun K => loadW (some (false, 1)) t14_36 w37 K) fun t15_38 w39 =>
  gstep t11_32 false w39 (fun K => binN Tryd.prog .gtr 3 false t13_34 t15_38 w39 K) fun t16_40 w41 =>
  pickW t11_32 (.bool true) t16_40 w41 fun t17_42 w43 =>
  condW t17_42 (
  K27 .ret (pf 27 (pf 27 (pf 27 (pf 27 (pf 27 (pf 27 (pf 27 (pf 27 (pf 27 (pf 27 (pf 27 (pf 27 f25 8 t8_28) 9 t9_30) 4 t9_30) 10 t9_30) 11 t11_32) 12 t11_32) 13 t13_34) 14 t14_36) 15 t15_38) 16 t16_40) 17 t17_42) 2 (.bool false)) w43) (
  binN Tryd.prog .add 3 true (f25 7) (.int .i64 1) w43 fun t18_44 w45 =>
  K27 .normal (pf 27 (pf 27 (pf 27 (pf 27 (pf 27 (pf 27 (pf 27 (pf 27 (pf 27 (pf 27 (pf 27 (pf 27 (pf 27 f25 8 t8_28) 9 t9_30) 4 t9_30) 10 t9_30) 11 t11_32) 12 t11_32) 13 t13_34) 14 t14_36) 15 t15_38) 16 t16_40) 17 t17_42) 18 t18_44) 7 t18_44) w45)) (
  K27 (.exit 0) (pf 27 f25 8 t8_28) w29)) (pf 27 (pf 27 (pf 27 (pf 27 (pf 27 (argF [x0]) 1 t1_0) 2 (.bool false)) 5 t5_20) 6 t6_22) 7 (.int .i64 0)) w23 K24
theorem c69_eq (x0 : Value) (w : World) (K : VPost) : c69 x0 w K = WP true Tryd.prog 27 [] (bodyOf Tryd.f69) (argF [x0]) w [.tmp 2] K := by kernel_rfl
theorem c69_calls (x0 : Value) (w : World) (K : VPost) (h : c69 x0 w K) : Calls Tryd.prog 69 #[x0] w (retK K) :=
  calls_of_WP (c69_eq x0 w K) mixedG Tryd.func69 (by kernel_rfl) Tryd.ntmps69 (by kernel_rfl) (by kernel_rfl) h

/-- imprimatur/level.Width -/
def c70 (x0 : Value) (w : World) (K : VPost) : Prop :=
  boxW 48 x0 w fun t1_0 w1 =>
  bindX (endW Tryd.prog [.tmp 2] K) fun K2 =>
  bindX (seqX (fun f4 w5 =>
  K (f4 3) w5) K2) fun K3 =>
  offW (some 1) t1_0 w1 fun t6_6 w7 =>
  loadW (some (true, 4)) t6_6 w7 fun t7_8 w9 =>
  bindX (blkX 0 K3) fun K10 =>
  loopW (fun f11 w12 K13 =>
  binN Tryd.prog .lss 3 true (f11 8) (.int .i64 4) w12 fun t9_14 w15 =>
  condW t9_14 (
  bindX (seqX (fun f17 w18 =>
  binN Tryd.prog .add 3 true (f17 8) (.int .i64 1) w18 fun t16_19 w20 =>
  K13 .normal (pf 18 (pf 18 f17 16 t16_19) 8 t16_19) w20) K13) fun K16 =>
  bindX (blkX 1 K16) fun _ =>
  ixvW (.arr 4 false 1) (f11 7) (f11 8) w15 fun t11_22 w23 =>
  binN Tryd.prog .gtr 3 true t11_22 (.int .i64 (-1)) w23 fun t13_24 w25 =>
  condW t13_24 (
  binN Tryd.prog .add 3 true (f11 8) (.int .i64 1) w25 fun t15_26 w27 =>
  K16 .normal (pf 18 (pf 18 (pf 18 (pf 18 (pf 18 (pf 18 (pf 18 (pf 18 (pf 18 (pf 18 f11 9 t9_14) 10 (f11 8)) 11 t11_22) 4 (f11 8)) 5 t11_22) 12 t11_22) 13 t13_24) 14 (f11 8)) 15 t15_26) 3 t15_26) w27) (
  K16 .normal (pf 18 (pf 18 (pf 18 (pf 18 (pf 18 (pf 18 (pf 18 f11 9 t9_14) 10 (f11 8)) 11 t11_22) 4 (f11 8)) 5 t11_22) 12 t11_22) 13 t13_24) w25)) (
  K13 (.exit 0) (pf 18 f11 9 t9_14) w15)) (pf 18 (pf 18 (pf 18 (pf 18 (pf 18 (pf 18 (argF [x0]) 1 t1_0) 2 (.int .i64 0)) 3 (.int .i64 0)) 6 t6_6) 7 t7_8) 8 (.int .i64 0)) w9 K10
theorem c70_eq (x0 : Value) (w : World) (K : VPost) : c70 x0 w K = WP true Tryd.prog 18 [] (bodyOf Tryd.f70) (argF [x0]) w [.tmp 2] K := by kernel_rfl
theorem c70_calls (x0 : Value) (w : World) (K : VPost) (h : c70 x0 w K) : Calls Tryd.prog 70 #[x0] w (retK K) :=
  calls_of_WP (c70_eq x0 w K) mixedG Tryd.func70 (by kernel_rfl) Tryd.ntmps70 (by kernel_rfl) (by kernel_rfl) h

/-- imprimatur/term.App -/
def c12 (x0 x1 : Value) (w : World) (K : VPost) : Prop :=
  boxW 27 x0 w fun t2_0 w1 =>
  allocW (zeroO Tryd.prog 27) 27 w1 fun t4_2 w3 =>
  loadW (some (true, 5)) t2_0 w3 fun t8_4 w5 =>
  fnW Tryd.prog 29 #[t8_4] w5 fun t9_6 w7 =>
  allocW (zeroO Tryd.prog 27) 27 w7 fun t5_8 w9 =>
  storeW (some (true, 5)) t5_8 t9_6 w9 fun w10 =>
  bindX (endW Tryd.prog [.cell 4 27] K) fun K11 =>
  bindX (seqX (fun f13 w14 =>
  loadW (some (true, 5)) (f13 5) w14 fun t22_15 w16 =>
  storeW (some (true, 5)) (f13 4) t22_15 w16 fun w17 =>
  loadW (some (true, 5)) (f13 4) w17 fun r18 _ =>
  K r18 w17) K11) fun K12 =>
  lenW Tryd.prog (some true) #[25] 3 #[x1] w10 fun t11_20 w21 =>
  bindX (blkX 0 K12) fun K22 =>
  loopW (fun f23 w24 K25 =>
  binN Tryd.prog .lss 3 false (f23 12) (f23 11) w24 fun t13_26 w27 =>
  condW t13_26 (
  idxW (some (none, 5)) (f23 10) (f23 12) w27 fun t14_28 w29 =>
  loadW (some (true, 5)) t14_28 w29 fun t15_30 w31 =>
  allocW (zeroO Tryd.prog 27) 27 w31 fun t7_32 w33 =>
  storeW (some (true, 5)) t7_32 t15_30 w33 fun w34 =>
  loadW (some (true, 5)) (f23 5) w34.drew fun t16_35 w36 =>
  loadW (some (true, 5)) t7_32 w36 fun t17_37 w38 =>
  fnW Tryd.prog 29 #[t17_37] w38 fun t18_39 w40 =>
  (loadW (some (true, 5)) (f23 5) w40 fun t16_41 w42 => t16_41 = t16_35 ∧ w42 = w40) ∧
  insW Tryd.prog (Instr.buildSlice 25 2 #[(0, t16_35), (1, t18_39)]) w40 fun t19_43 w44 =>
  insW Tryd.prog (Instr.build 27 #[(0, (.int .i64 5)), (4, t19_43)]) w44 fun t20_45 w46 =>
  storeW (some (true, 5)) (f23 5) t20_45 w46 fun w47 =>
  binN Tryd.prog .add 3 true (f23 12) (.int .i64 1) w47 fun t21_48 w49 =>
  K25 .normal (pf 23 (pf 23 (pf 23 (pf 23 (pf 23 (pf 23 (pf 23 (pf 23 (pf 23 (pf 23 (pf 23 f23 13 t13_26) 14 t14_28) 15 t15_30) 7 t7_32) 16 t16_35) 17 t17_37) 18 t18_39) 19 t19_43) 20 t20_45) 21 t21_48) 12 t21_48) w49) (
  K25 (.exit 0) (pf 23 f23 13 t13_26) w27)) (pf 23 (pf 23 (pf 23 (pf 23 (pf 23 (pf 23 (pf 23 (pf 23 (argF [x0, x1]) 2 t2_0) 4 t4_2) 8 t8_4) 9 t9_6) 5 t5_8) 10 x1) 11 t11_20) 12 (.int .i64 0)) w21 K22
theorem c12_eq (x0 x1 : Value) (w : World) (K : VPost) : c12 x0 x1 w K = WP true Tryd.prog 23 [(5, 44, [0, 0, 2, 5, 8, 31], [0, 0, 2, 7, 15, 31])] (bodyOf Tryd.f12) (argF [x0, x1]) w [.cell 4 27] K := by kernel_rfl
theorem c12_calls (x0 x1 : Value) (w : World) (K : VPost) (h : c12 x0 x1 w K) : Calls Tryd.prog 12 #[x0, x1] w (retK K) :=
  calls_of_WP (c12_eq x0 x1 w K) mixedG Tryd.func12 (by kernel_rfl) Tryd.ntmps12 (by kernel_rfl) (by kernel_rfl) h

/-- imprimatur/term.Bind -/
def c13 (x0 x1 x2 : Value) (w : World) (K : VPost) : Prop :=
  boxW 3 x0 w fun t3_0 w1 =>
  boxW 27 x1 w1 fun t4_2 w3 =>
  allocW (zeroO Tryd.prog 27) 27 w3 fun t6_4 w5 =>
  loadW (some (true, 5)) t4_2 w5 fun t10_6 w7 =>
  fnW Tryd.prog 29 #[t10_6] w7 fun t11_8 w9 =>
  allocW (zeroO Tryd.prog 27) 27 w9 fun t7_10 w11 =>
  storeW (some (true, 5)) t7_10 t11_8 w11 fun w12 =>
  fnW Tryd.prog 37 #[x2] w12 fun t13_13 w14 =>
  rangeH Tryd.prog false t13_13 2 (fun xs15 w16 T17 =>
  allocW (zeroO Tryd.prog 27) 27 w16 fun t9_18 w19 =>
  storeW (some (true, 5)) t9_18 (xs15.getD 1 undef) w19 fun w20 =>
  T17 w20 fun w21 K22 =>
  loadW (some (false, 1)) t3_0 w21.drew fun t16_23 w24 =>
  loadW (some (true, 5)) t9_18 w24 fun t17_25 w26 =>
  loadW (some (true, 5)) t7_10 w26 fun t19_27 w28 =>
  fnW Tryd.prog 29 #[t17_25] w28 fun t18_29 w30 =>
  (loadW (some (false, 1)) t3_0 w30 fun t16_31 w32 => t16_31 = t16_23 ∧ w32 = w30) ∧
  (loadW (some (true, 5)) t7_10 w30 fun t19_33 w34 => t19_33 = t19_27 ∧ w34 = w30) ∧
  insW Tryd.prog (Instr.buildSlice 25 2 #[(0, t18_29), (1, t19_27)]) w30 fun t20_35 w36 =>
  (loadW (some (false, 1)) t3_0 w36 fun t16_37 w38 => t16_37 = t16_23 ∧ w38 = w36) ∧
  insW Tryd.prog (Instr.build 27 #[(0, t16_23), (4, t20_35)]) w36 fun t21_39 w40 =>
  storeW (some (true, 5)) t7_10 t21_39 w40 fun w41 =>
  K22 .normal (pf 23 (pf 23 (pf 23 (pf 23 (pf 23 (pf 23 (pf 23 (pf 23 (pf 23 (pf 23 (pf 23 (pf 23 (pf 23 (pf 23 (pf 23 (pf 23 (pf 23 (argF [x0, x1, x2]) 3 t3_0) 4 t4_2) 6 t6_4) 10 t10_6) 11 t11_8) 7 t7_10) 12 x2) 13 t13_13) 14 (xs15.getD 0 undef)) 15 (xs15.getD 1 undef)) 9 t9_18) 16 t16_23) 17 t17_25) 19 t19_27) 18 t18_29) 20 t20_35) 21 t21_39) w41) w14 (fun D42 w43 =>
  loadW (some (true, 5)) t7_10 w43 fun t22_44 w45 =>
  storeW (some (true, 5)) t6_4 t22_44 w45 fun w46 =>
  w46.heap[D42]? = some (.deferred (some [])) ∧ ∀ w47, w47 = w46.putObj D42 (.deferred none) →
  loadW (some (true, 5)) t6_4 w47 fun r48 _ =>
  K r48 w47) (fun _ _ _ => True)
theorem c13_eq (x0 x1 x2 : Value) (w : World) (K : VPost) : c13 x0 x1 x2 w K = WH true Tryd.prog 23 [(4, 84, [0, 0, 2, 0, 12, 17, 63], [0, 0, 2, 0, 14, 31, 63])] (bodyOf Tryd.f13) (argF [x0, x1, x2]) w [.cell 6 27] K := by kernel_rfl
theorem c13_calls (x0 x1 x2 : Value) (w : World) (K : VPost) (h : c13 x0 x1 x2 w K) : Calls Tryd.prog 13 #[x0, x1, x2] w (retK K) :=
  calls_of_WH (c13_eq x0 x1 x2 w K) mixedG Tryd.func13 (by kernel_rfl) Tryd.ntmps13 (by kernel_rfl) (by kernel_rfl) h

/-- imprimatur/term.Clone -/
def c29 (x0 : Value) (w : World) (K : VPost) : Prop :=
  boxW 27 x0 w fun t1_0 w1 =>
  allocW (zeroO Tryd.prog 27) 27 w1 fun t2_2 w3 =>
  offW (some 3) t1_0 w3 fun t6_4 w5 =>
  loadW (some (false, 1)) t6_4 w5 fun t7_6 w7 =>
  fnW Tryd.prog 48 #[t7_6] w7 fun t8_8 w9 =>
  offW (some 3) t1_0 w9 fun t9_10 w11 =>
  storeW (some (false, 1)) t9_10 t8_8 w11 fun w12 =>
  offW (some 4) t1_0 w12 fun t10_13 w14 =>
  loadW (some (false, 1)) t10_13 w14 fun t11_15 w16 =>
  offW (some 4) t1_0 w16 fun t12_17 w18 =>
  storeW (some (false, 1)) t12_17 (.slice none 0 0) w18 fun w19 =>
  bindX (endW Tryd.prog [.cell 2 27] K) fun K20 =>
  bindX (seqX (fun f22 w23 =>
  loadW (some (true, 5)) (f22 1) w23 fun t27_24 w25 =>
  storeW (some (true, 5)) (f22 2) t27_24 w25 fun w26 =>
  loadW (some (true, 5)) (f22 2) w26 fun r27 _ =>
  K r27 w26) K20) fun K21 =>
  lenW Tryd.prog (some true) #[25] 3 #[t11_15] w19 fun t14_29 w30 =>
  bindX (blkX 0 K21) fun K31 =>
  loopW (fun f32 w33 K34 =>
  binN Tryd.prog .lss 3 false (f32 15) (f32 14) w33 fun t16_35 w36 =>
  condW t16_35 (
  idxW (some (none, 5)) (f32 13) (f32 15) w36 fun t17_37 w38 =>
  loadW (some (true, 5)) t17_37 w38 fun t18_39 w40 =>
  allocW (zeroO Tryd.prog 27) 27 w40 fun t5_41 w42 =>
  storeW (some (true, 5)) t5_41 t18_39 w42 fun w43 =>
  offW (some 4) (f32 1) w43.drew fun t19_44 w45 =>
  loadW (some (false, 1)) t19_44 w45 fun t20_46 w47 =>
  loadW (some (true, 5)) t5_41 w47 fun t21_48 w49 =>
  fnW Tryd.prog 29 #[t21_48] w49 fun t22_50 w51 =>
  (loadW (some (false, 1)) t19_44 w51 fun t20_52 w53 => t20_52 = t20_46 ∧ w53 = w51) ∧
  insW Tryd.prog (Instr.buildSlice 25 1 #[(0, t22_50)]) w51 fun t23_54 w55 =>
  (loadW (some (false, 1)) t19_44 w55 fun t20_56 w57 => t20_56 = t20_46 ∧ w57 = w55) ∧
  insW Tryd.prog (Builtin.append_ #[25, 25] 25 #[t20_46, t23_54]) w55 fun t24_58 w59 =>
  offW (some 4) (f32 1) w59 fun t25_60 w61 =>
  storeW (some (false, 1)) t25_60 t24_58 w61 fun w62 =>
  binN Tryd.prog .add 3 true (f32 15) (.int .i64 1) w62 fun t26_63 w64 =>
  K34 .normal (pf 28 (pf 28 (pf 28 (pf 28 (pf 28 (pf 28 (pf 28 (pf 28 (pf 28 (pf 28 (pf 28 (pf 28 (pf 28 f32 16 t16_35) 17 t17_37) 18 t18_39) 5 t5_41) 19 t19_44) 20 t20_46) 21 t21_48) 22 t22_50) 23 t23_54) 24 t24_58) 25 t25_60) 26 t26_63) 15 t26_63) w64) (
  K34 (.exit 0) (pf 28 f32 16 t16_35) w36)) (pf 28 (pf 28 (pf 28 (pf 28 (pf 28 (pf 28 (pf 28 (pf 28 (pf 28 (pf 28 (pf 28 (pf 28 (pf 28 (argF [x0]) 1 t1_0) 2 t2_2) 6 t6_4) 7 t7_6) 8 t8_8) 9 t9_10) 10 t10_13) 11 t11_15) 3 t11_15) 12 t12_17) 13 t11_15) 14 t14_29) 15 (.int .i64 0)) w30 K31
theorem c29_eq (x0 : Value) (w : World) (K : VPost) : c29 x0 w K = WP true Tryd.prog 28 [(7, 184, [0, 1, 0, 4, 8, 26, 63, 127], [0, 1, 0, 4, 12, 31, 63, 127])] (bodyOf Tryd.f29) (argF [x0]) w [.cell 2 27] K := by kernel_rfl
theorem c29_calls (x0 : Value) (w : World) (K : VPost) (h : c29 x0 w K) : Calls Tryd.prog 29 #[x0] w (retK K) :=
  calls_of_WP (c29_eq x0 w K) mixedG Tryd.func29 (by kernel_rfl) Tryd.ntmps29 (by kernel_rfl) (by kernel_rfl) h

/-- imprimatur/term.Consts -/
def c31 (x0 : Value) (w : World) (K : VPost) : Prop :=
  boxW 27 x0 w fun t1_0 w1 =>
  allocW (zeroO Tryd.prog 52) 52 w1 fun t3_2 w3 =>
  loadW (some (true, 5)) t1_0 w3 fun t5_4 w5 =>
  fnW Tryd.prog 41 #[t5_4] w5 fun t6_6 w7 =>
  rangeH Tryd.prog false t6_6 2 (fun xs8 w9 T10 =>
  allocW (zeroO Tryd.prog 27) 27 w9 fun t4_11 w12 =>
  storeW (some (true, 5)) t4_11 (xs8.getD 0 undef) w12 fun w13 =>
  T10 w13 fun w14 K15 =>
  bindX (blkX 1 K15) fun _ =>
  offW (some 0) t4_11 w14 fun t9_17 w18 =>
  loadW (some (false, 1)) t9_17 w18 fun t10_19 w20 =>
  binN Tryd.prog .eql 3 true t10_19 (.int .i64 4) w20 fun t11_21 w22 =>
  gstep t11_21 false w22 (fun K => offW (some 0) t4_11 w22 K) fun t13_23 w24 =>
  gstep t11_21 false w24 (fun K => loadW (some (false, 1)) t13_23 w24 K) fun t14_25 w26 =>
  gstep t11_21 false w26 (fun K => binN Tryd.prog .eql 3 true t14_25 (.int .i64 9) w26 K) fun t15_27 w28 =>
  pickW t11_21 (.bool true) t15_27 w28 fun t16_29 w30 =>
  condW t16_29 (
  loadW (some (false, 1)) t3_2 w30 fun t17_31 w32 =>
  offW (some 2) t4_11 w32 fun t18_33 w34 =>
  loadW (some (false, 1)) t18_33 w34 fun t19_35 w36 =>
  insW Tryd.prog (Instr.buildSlice 52 1 #[(0, t19_35)]) w36 fun t20_37 w38 =>
  insW Tryd.prog (Builtin.append_ #[52, 52] 52 #[t17_31, t20_37]) w38 fun t21_39 w40 =>
  storeW (some (false, 1)) t3_2 t21_39 w40 fun w41 =>
  K15 .normal (pf 26 (pf 26 (pf 26 (pf 26 (pf 26 (pf 26 (pf 26 (pf 26 (pf 26 (pf 26 (pf 26 (pf 26 (pf 26 (pf 26 (pf 26 (pf 26 (pf 26 (pf 26 (pf 26 (pf 26 (pf 26 (argF [x0]) 1 t1_0) 2 (.slice none 0 0)) 3 t3_2) 5 t5_4) 6 t6_6) 7 (xs8.getD 0 undef)) 8 (xs8.getD 1 undef)) 4 t4_11) 9 t9_17) 10 t10_19) 11 t11_21) 12 t11_21) 13 t13_23) 14 t14_25) 15 t15_27) 16 t16_29) 17 t17_31) 18 t18_33) 19 t19_35) 20 t20_37) 21 t21_39) w41) (
  K15 .normal (pf 26 (pf 26 (pf 26 (pf 26 (pf 26 (pf 26 (pf 26 (pf 26 (pf 26 (pf 26 (pf 26 (pf 26 (pf 26 (pf 26 (pf 26 (pf 26 (argF [x0]) 1 t1_0) 2 (.slice none 0 0)) 3 t3_2) 5 t5_4) 6 t6_6) 7 (xs8.getD 0 undef)) 8 (xs8.getD 1 undef)) 4 t4_11) 9 t9_17) 10 t10_19) 11 t11_21) 12 t11_21) 13 t13_23) 14 t14_25) 15 t15_27) 16 t16_29) w30)) w7 (fun D42 w43 =>
  loadW (some (false, 1)) t3_2 w43 fun t22_44 w45 =>
  fnW Tryd.prog 49 #[t22_44] w45 fun _ w47 =>
  loadW (some (false, 1)) t3_2 w47 fun t24_48 w49 =>
  fnW Tryd.prog 50 #[t24_48] w49 fun t25_50 w51 =>
  w51.heap[D42]? = some (.deferred (some [])) ∧ ∀ w52, w52 = w51.putObj D42 (.deferred none) →
  K t25_50 w52) (fun _ _ _ => True)
theorem c31_eq (x0 : Value) (w : World) (K : VPost) : c31 x0 w K = WH true Tryd.prog 26 [] (bodyOf Tryd.f31) (argF [x0]) w [.tmp 2] K := by kernel_rfl
theorem c31_calls (x0 : Value) (w : World) (K : VPost) (h : c31 x0 w K) : Calls Tryd.prog 31 #[x0] w (retK K) :=
  calls_of_WH (c31_eq x0 w K) mixedG Tryd.func31 (by kernel_rfl) Tryd.ntmps31 (by kernel_rfl) (by kernel_rfl) h

/-- imprimatur/term.Loose -/
def c21 (x0 : Value) (w : World) (K : VPost) : Prop :=
  boxW 27 x0 w fun t1_0 w1 =>
  loadW (some (true, 5)) t1_0 w1 fun t6_2 w3 =>
  fnW Tryd.prog 20 #[t6_2, (.int .i64 4), (.int .i64 1099511627776)] w3 fun t7_4 w5 =>
  unN Tryd.prog .not t7_4 w5 fun t8_6 w7 =>
  condW t8_6 (
  K (.int .i64 0) w7) (
  allocW (zeroO Tryd.prog 3) 3 w7 fun t3_8 w9 =>
  storeW (some (false, 1)) t3_8 (.int .i64 0) w9 fun w10 =>
  loadW (some (true, 5)) t1_0 w10 fun t9_11 w12 =>
  fnW Tryd.prog 41 #[t9_11] w12 fun t10_13 w14 =>
  rangeH Tryd.prog false t10_13 2 (fun xs15 w16 T17 =>
  allocW (zeroO Tryd.prog 27) 27 w16 fun t4_18 w19 =>
  storeW (some (true, 5)) t4_18 (xs15.getD 0 undef) w19 fun w20 =>
  T17 w20 fun w21 K22 =>
  bindX (blkX 1 K22) fun _ =>
  offW (some 0) t4_18 w21 fun t13_24 w25 =>
  loadW (some (false, 1)) t13_24 w25 fun t14_26 w27 =>
  binN Tryd.prog .eql 3 true t14_26 (.int .i64 1) w27 fun t15_28 w29 =>
  condW t15_28 (
  loadW (some (false, 1)) t3_8 w29 fun t16_30 w31 =>
  offW (some 1) t4_18 w31 fun t17_32 w33 =>
  loadW (some (false, 1)) t17_32 w33 fun t18_34 w35 =>
  binN Tryd.prog .sub 3 false t18_34 (xs15.getD 1 undef) w35 fun t20_36 w37 =>
  binN Tryd.prog .add 3 true t20_36 (.int .i64 1) w37 fun t21_38 w39 =>
  insW Tryd.prog (Builtin.max_ #[3, 3] 3 #[t16_30, t21_38]) w39 fun t22_40 w41 =>
  storeW (some (false, 1)) t3_8 t22_40 w41 fun w42 =>
  K22 .normal (pf 24 (pf 24 (pf 24 (pf 24 (pf 24 (pf 24 (pf 24 (pf 24 (pf 24 (pf 24 (pf 24 (pf 24 (pf 24 (pf 24 (pf 24 (pf 24 (pf 24 (pf 24 (pf 24 (pf 24 (pf 24 (pf 24 (argF [x0]) 1 t1_0) 2 (.int .i64 0)) 6 t6_2) 7 t7_4) 8 t8_6) 3 t3_8) 9 t9_11) 10 t10_13) 11 (xs15.getD 0 undef)) 12 (xs15.getD 1 undef)) 4 t4_18) 5 (xs15.getD 1 undef)) 13 t13_24) 14 t14_26) 15 t15_28) 16 t16_30) 17 t17_32) 18 t18_34) 19 (xs15.getD 1 undef)) 20 t20_36) 21 t21_38) 22 t22_40) w42) (
  K22 .normal (pf 24 (pf 24 (pf 24 (pf 24 (pf 24 (pf 24 (pf 24 (pf 24 (pf 24 (pf 24 (pf 24 (pf 24 (pf 24 (pf 24 (pf 24 (argF [x0]) 1 t1_0) 2 (.int .i64 0)) 6 t6_2) 7 t7_4) 8 t8_6) 3 t3_8) 9 t9_11) 10 t10_13) 11 (xs15.getD 0 undef)) 12 (xs15.getD 1 undef)) 4 t4_18) 5 (xs15.getD 1 undef)) 13 t13_24) 14 t14_26) 15 t15_28) w29)) w14 (fun D43 w44 =>
  loadW (some (false, 1)) t3_8 w44 fun t23_45 w46 =>
  w46.heap[D43]? = some (.deferred (some [])) ∧ ∀ w47, w47 = w46.putObj D43 (.deferred none) →
  K t23_45 w47) (fun _ _ _ => True))
theorem c21_eq (x0 : Value) (w : World) (K : VPost) : c21 x0 w K = WH true Tryd.prog 24 [] (bodyOf Tryd.f21) (argF [x0]) w [.tmp 2] K := by kernel_rfl
theorem c21_calls (x0 : Value) (w : World) (K : VPost) (h : c21 x0 w K) : Calls Tryd.prog 21 #[x0] w (retK K) :=
  calls_of_WH (c21_eq x0 w K) mixedG Tryd.func21 (by kernel_rfl) Tryd.ntmps21 (by kernel_rfl) (by kernel_rfl) h

/-- imprimatur/term.Nodes -/
def c27 (x0 : Value) (w : World) (K : VPost) : Prop :=
  boxW 27 x0 w fun t1_0 w1 =>
  allocW (zeroO Tryd.prog 3) 3 w1 fun t3_2 w3 =>
  storeW (some (false, 1)) t3_2 (.int .i64 0) w3 fun w4 =>
  loadW (some (true, 5)) t1_0 w4 fun t4_5 w6 =>
  insW Tryd.prog (Instr.makeFunc (.func 45) #[] #[t3_2]) w6 fun t5_7 w8 =>
  fnW Tryd.prog 44 #[t4_5, (.int .i64 0), t5_7] w8 fun _ w10 =>
  loadW (some (false, 1)) t3_2 w10 fun t7_11 w12 =>
  insW Tryd.prog (Builtin.min_ #[3, 3] 3 #[t7_11, (.int .i64 3001)]) w12 fun t8_13 w14 =>
  K t8_13 w14
theorem c27_eq (x0 : Value) (w : World) (K : VPost) : c27 x0 w K = WP true Tryd.prog 9 [] (bodyOf Tryd.f27) (argF [x0]) w [.tmp 2] K := by kernel_rfl
theorem c27_calls (x0 : Value) (w : World) (K : VPost) (h : c27 x0 w K) : Calls Tryd.prog 27 #[x0] w (retK K) :=
  calls_of_WP (c27_eq x0 w K) mixedG Tryd.func27 (by kernel_rfl) Tryd.ntmps27 (by kernel_rfl) (by kernel_rfl) h

/-- imprimatur/term.Nodes$1 -/
def c45 (x0 x1 x2 : Value) (w : World) (K : VPost) : Prop :=
  boxW 27 x0 w fun t3_0 w1 =>
  loadW (some (false, 1)) x2 w1 fun t6_2 w3 =>
  offW (some 3) t3_0 w3 fun t7_4 w5 =>
  loadW (some (false, 1)) t7_4 w5 fun t8_6 w7 =>
  lenW Tryd.prog (some true) #[24] 3 #[t8_6] w7 fun t9_8 w9 =>
  binN Tryd.prog .add 3 true (.int .i64 1) t9_8 w9 fun t10_10 w11 =>
  binN Tryd.prog .add 3 false t6_2 t10_10 w11 fun t11_12 w13 =>
  storeW (some (false, 1)) x2 t11_12 w13 fun w14 =>
  loadW (some (false, 1)) x2 w14 fun t12_15 w16 =>
  binN Tryd.prog .leq 3 true t12_15 (.int .i64 3000) w16 fun t13_17 w18 =>
  K t13_17 w18
theorem c45_eq (x0 x1 x2 : Value) (w : World) (K : VPost) : c45 x0 x1 x2 w K = WP true Tryd.prog 14 [] (bodyOf Tryd.f45) (argF [x0, x1, x2]) w [.tmp 5] K := by kernel_rfl
theorem c45_calls (x0 x1 x2 : Value) (w : World) (K : VPost) (h : c45 x0 x1 x2 w K) : Calls Tryd.prog 45 #[x0, x1, x2] w (retK K) :=
  calls_of_WP (c45_eq x0 x1 x2 w K) mixedG Tryd.func45 (by kernel_rfl) Tryd.ntmps45 (by kernel_rfl) (by kernel_rfl) h

/-- imprimatur/term.Right -/
def c20 (x0 x1 x2 : Value) (w : World) (K : VPost) : Prop :=
  boxW 27 x0 w fun t3_0 w1 =>
  binN Tryd.prog .geq 3 true x1 (.int .i64 0) w1 fun t8_2 w3 =>
  gstep t8_2 true w3 (fun K => K x1 w3) fun t10_4 w5 =>
  gstep t8_2 true w5 (fun K => binN Tryd.prog .leq 3 true t10_4 (.int .i64 4) w5 K) fun t11_6 w7 =>
  pickW t8_2 t11_6 (.bool false) w7 fun t12_8 w9 =>
  gstep t12_8 true w9 (fun K => K x2 w9) fun t14_10 w11 =>
  gstep t12_8 true w11 (fun K => binN Tryd.prog .geq 3 true t14_10 (.int .i64 0) w11 K) fun t15_12 w13 =>
  pickW t12_8 t15_12 (.bool false) w13 fun t16_14 w15 =>
  gstep t16_14 true w15 (fun K => K x2 w15) fun t18_16 w17 =>
  gstep t16_14 true w17 (fun K => binN Tryd.prog .leq 3 true t18_16 (.int .i64 1099511627776) w17 K) fun t19_18 w19 =>
  pickW t16_14 t19_18 (.bool false) w19 fun t20_20 w21 =>
  gstep t20_20 true w21 (fun K => loadW (some (true, 5)) t3_0 w21 K) fun t22_22 w23 =>
  gstep t20_20 true w23 (fun K => fnW Tryd.prog 27 #[t22_22] w23 K) fun t23_24 w25 =>
  gstep t20_20 true w25 (fun K => binN Tryd.prog .leq 3 true t23_24 (.int .i64 3000) w25 K) fun t24_26 w27 =>
  pickW t20_20 t24_26 (.bool false) w27 fun t25_28 w29 =>
  gstep t25_28 true w29 (fun K => loadW (some (true, 5)) t3_0 w29 K) fun t27_30 w31 =>
  gstep t25_28 true w31 (fun K => K x1 w31) fun t28_32 w33 =>
  gstep t25_28 true w33 (fun K => K x2 w33) fun t29_34 w35 =>
  gstep t25_28 true w35 (fun K => fnW Tryd.prog 40 #[t27_30, t28_32, t29_34, (.int .i64 0)] w35 K) fun t30_36 w37 =>
  pickW t25_28 t30_36 (.bool false) w37 fun t31_38 w39 =>
  K t31_38 w39
theorem c20_eq (x0 x1 x2 : Value) (w : World) (K : VPost) : c20 x0 x1 x2 w K = WP true Tryd.prog 32 [] (bodyOf Tryd.f20) (argF [x0, x1, x2]) w [.tmp 6] K := by kernel_rfl
theorem c20_calls (x0 x1 x2 : Value) (w : World) (K : VPost) (h : c20 x0 x1 x2 w K) : Calls Tryd.prog 20 #[x0, x1, x2] w (retK K) :=
  calls_of_WP (c20_eq x0 x1 x2 w K) mixedG Tryd.func20 (by kernel_rfl) Tryd.ntmps20 (by kernel_rfl) (by kernel_rfl) h

/-- imprimatur/term.Same -/
def c28 (x0 x1 : Value) (w : World) (K : VPost) : Prop :=
  boxW 27 x0 w fun t2_0 w1 =>
  boxW 27 x1 w1 fun t3_2 w3 =>
  offW (some 0) t2_0 w3 fun t5_4 w5 =>
  loadW (some (false, 1)) t5_4 w5 fun t6_6 w7 =>
  offW (some 0) t3_2 w7 fun t7_8 w9 =>
  loadW (some (false, 1)) t7_8 w9 fun t8_10 w11 =>
  binN Tryd.prog .eql 3 false t6_6 t8_10 w11 fun t9_12 w13 =>
  gstep t9_12 true w13 (fun K => offW (some 1) t2_0 w13 K) fun t11_14 w15 =>
  gstep t9_12 true w15 (fun K => loadW (some (false, 1)) t11_14 w15 K) fun t12_16 w17 =>
  gstep t9_12 true w17 (fun K => offW (some 1) t3_2 w17 K) fun t13_18 w19 =>
  gstep t9_12 true w19 (fun K => loadW (some (false, 1)) t13_18 w19 K) fun t14_20 w21 =>
  gstep t9_12 true w21 (fun K => binN Tryd.prog .eql 3 false t12_16 t14_20 w21 K) fun t15_22 w23 =>
  pickW t9_12 t15_22 (.bool false) w23 fun t16_24 w25 =>
  gstep t16_24 true w25 (fun K => offW (some 2) t2_0 w25 K) fun t18_26 w27 =>
  gstep t16_24 true w27 (fun K => loadW (some (false, 1)) t18_26 w27 K) fun t19_28 w29 =>
  gstep t16_24 true w29 (fun K => offW (some 2) t3_2 w29 K) fun t20_30 w31 =>
  gstep t16_24 true w31 (fun K => loadW (some (false, 1)) t20_30 w31 K) fun t21_32 w33 =>
  gstep t16_24 true w33 (fun K => binW Tryd.prog .eql 9 false t19_28 t21_32 w33 K) fun t22_34 w35 =>
  pickW t16_24 t22_34 (.bool false) w35 fun t23_36 w37 =>
  gstep t23_36 true w37 (fun K => offW (some 3) t2_0 w37 K) fun t25_38 w39 =>
  gstep t23_36 true w39 (fun K => loadW (some (false, 1)) t25_38 w39 K) fun t26_40 w41 =>
  gstep t23_36 true w41 (fun K => offW (some 3) t3_2 w41 K) fun t27_42 w43 =>
  gstep t23_36 true w43 (fun K => loadW (some (false, 1)) t27_42 w43 K) fun t28_44 w45 =>
  gstep t23_36 true w45 (fun K => fnW Tryd.prog 46 #[t26_40, t28_44] w45 K) fun t29_46 w47 =>
  pickW t23_36 t29_46 (.bool false) w47 fun t30_48 w49 =>
  gstep t30_48 true w49 (fun K => offW (some 4) t2_0 w49 K) fun t32_50 w51 =>
  gstep t30_48 true w51 (fun K => loadW (some (false, 1)) t32_50 w51 K) fun t33_52 w53 =>
  gstep t30_48 true w53 (fun K => offW (some 4) t3_2 w53 K) fun t34_54 w55 =>
  gstep t30_48 true w55 (fun K => loadW (some (false, 1)) t34_54 w55 K) fun t35_56 w57 =>
  gstep t30_48 true w57 (fun K => fnW Tryd.prog 47 #[t33_52, t35_56, (.func (.func 28) #[] #[])] w57 K) fun t36_58 w59 =>
  pickW t30_48 t36_58 (.bool false) w59 fun t37_60 w61 =>
  K t37_60 w61
theorem c28_eq (x0 x1 : Value) (w : World) (K : VPost) : c28 x0 x1 w K = WP true Tryd.prog 38 [] (bodyOf Tryd.f28) (argF [x0, x1]) w [.tmp 4] K := by kernel_rfl
theorem c28_calls (x0 x1 : Value) (w : World) (K : VPost) (h : c28 x0 x1 w K) : Calls Tryd.prog 28 #[x0, x1] w (retK K) :=
  calls_of_WP (c28_eq x0 x1 w K) mixedG Tryd.func28 (by kernel_rfl) Tryd.ntmps28 (by kernel_rfl) (by kernel_rfl) h

/-- imprimatur/term.Spine -/
def c17 (x0 : Value) (w : World) (K : VPost) : Prop :=
  boxW 27 x0 w fun t1_0 w1 =>
  allocW (zeroO Tryd.prog 27) 27 w1 fun t2_2 w3 =>
  bindX (endW Tryd.prog [.cell 2 27, .tmp 3] K) fun K4 =>
  bindX (seqX (fun f6 w7 =>
  fnW Tryd.prog 39 #[(f6 4)] w7 fun _ w9 =>
  loadW (some (true, 5)) (f6 1) w9 fun t28_10 w11 =>
  fnW Tryd.prog 29 #[t28_10] w11 fun t29_12 w13 =>
  storeW (some (true, 5)) (f6 2) t29_12 w13 fun w14 =>
  loadW (some (true, 5)) (f6 2) w14 fun r15 _ =>
  K (.tuple #[r15, (f6 4)]) w14) K4) fun K5 =>
  bindX (blkX 0 K5) fun K17 =>
  loopW (fun f18 w19 K20 =>
  offW (some 0) (f18 1) w19 fun t5_21 w22 =>
  loadW (some (false, 1)) t5_21 w22 fun t6_23 w24 =>
  binN Tryd.prog .eql 3 true t6_23 (.int .i64 5) w24 fun t7_25 w26 =>
  gstep t7_25 true w26 (fun K => offW (some 4) (f18 1) w26 K) fun t9_27 w28 =>
  gstep t7_25 true w28 (fun K => loadW (some (false, 1)) t9_27 w28 K) fun t10_29 w30 =>
  gstep t7_25 true w30 (fun K => lenW Tryd.prog (some true) #[25] 3 #[t10_29] w30 K) fun t11_31 w32 =>
  gstep t7_25 true w32 (fun K => binN Tryd.prog .eql 3 true t11_31 (.int .i64 2) w32 K) fun t12_33 w34 =>
  pickW t7_25 t12_33 (.bool false) w34 fun t13_35 w36 =>
  condW t13_35 (
  offW (some 4) (f18 1) w36 fun t15_37 w38 =>
  loadW (some (false, 1)) t15_37 w38 fun t16_39 w40 =>
  idxW (some (none, 5)) t16_39 (.int .i64 1) w40 fun t17_41 w42 =>
  loadW (some (true, 5)) t17_41 w42 fun t18_43 w44 =>
  fnW Tryd.prog 29 #[t18_43] w44 fun t19_45 w46 =>
  insW Tryd.prog (Instr.buildSlice 25 1 #[(0, t19_45)]) w46 fun t20_47 w48 =>
  insW Tryd.prog (Builtin.append_ #[25, 25] 25 #[(f18 4), t20_47]) w48 fun t21_49 w50 =>
  offW (some 4) (f18 1) w50 fun t22_51 w52 =>
  loadW (some (false, 1)) t22_51 w52 fun t23_53 w54 =>
  idxW (some (none, 5)) t23_53 (.int .i64 0) w54 fun t24_55 w56 =>
  loadW (some (true, 5)) t24_55 w56 fun t25_57 w58 =>
  storeW (some (true, 5)) (f18 1) t25_57 w58 fun w59 =>
  K20 .normal (pf 31 (pf 31 (pf 31 (pf 31 (pf 31 (pf 31 (pf 31 (pf 31 (pf 31 (pf 31 (pf 31 (pf 31 (pf 31 (pf 31 (pf 31 (pf 31 (pf 31 (pf 31 (pf 31 (pf 31 (pf 31 (pf 31 f18 5 t5_21) 6 t6_23) 7 t7_25) 8 t7_25) 9 t9_27) 10 t10_29) 11 t11_31) 12 t12_33) 13 t13_35) 14 (f18 4)) 15 t15_37) 16 t16_39) 17 t17_41) 18 t18_43) 19 t19_45) 20 t20_47) 21 t21_49) 4 t21_49) 22 t22_51) 23 t23_53) 24 t24_55) 25 t25_57) w59) (
  K20 (.exit 0) (pf 31 (pf 31 (pf 31 (pf 31 (pf 31 (pf 31 (pf 31 (pf 31 (pf 31 f18 5 t5_21) 6 t6_23) 7 t7_25) 8 t7_25) 9 t9_27) 10 t10_29) 11 t11_31) 12 t12_33) 13 t13_35) w36)) (pf 31 (pf 31 (pf 31 (pf 31 (argF [x0]) 1 t1_0) 2 t2_2) 3 (.slice none 0 0)) 4 (.slice none 0 0)) w3 K17
theorem c17_eq (x0 : Value) (w : World) (K : VPost) : c17 x0 w K = WP true Tryd.prog 31 [] (bodyOf Tryd.f17) (argF [x0]) w [.cell 2 27, .tmp 3] K := by kernel_rfl
theorem c17_calls (x0 : Value) (w : World) (K : VPost) (h : c17 x0 w K) : Calls Tryd.prog 17 #[x0] w (retK K) :=
  calls_of_WP (c17_eq x0 w K) mixedG Tryd.func17 (by kernel_rfl) Tryd.ntmps17 (by kernel_rfl) (by kernel_rfl) h

/-- imprimatur/term.Strip -/
def c18 (x0 x1 : Value) (w : World) (K : VPost) : Prop :=
  boxW 27 x0 w fun t2_0 w1 =>
  allocW (zeroO Tryd.prog 27) 27 w1 fun t5_2 w3 =>
  bindX (endW Tryd.prog [.tmp 4, .cell 5 27] K) fun K4 =>
  bindX (seqX (fun f6 w7 =>
  loadW (some (true, 5)) (f6 2) w7 fun t30_8 w9 =>
  fnW Tryd.prog 29 #[t30_8] w9 fun t31_10 w11 =>
  storeW (some (true, 5)) (f6 5) t31_10 w11 fun w12 =>
  loadW (some (true, 5)) (f6 5) w12 fun r13 _ =>
  K (.tuple #[(f6 6), r13]) w12) K4) fun K5 =>
  bindX (blkX 0 K5) fun K15 =>
  loopW (fun f16 w17 K18 =>
  offW (some 0) (f16 2) w17 fun t7_19 w20 =>
  loadW (some (false, 1)) t7_19 w20 fun t8_21 w22 =>
  binN Tryd.prog .eql 3 false t8_21 (f16 1) w22 fun t10_23 w24 =>
  gstep t10_23 true w24 (fun K => offW (some 4) (f16 2) w24 K) fun t12_25 w26 =>
  gstep t10_23 true w26 (fun K => loadW (some (false, 1)) t12_25 w26 K) fun t13_27 w28 =>
  gstep t10_23 true w28 (fun K => lenW Tryd.prog (some true) #[25] 3 #[t13_27] w28 K) fun t14_29 w30 =>
  gstep t10_23 true w30 (fun K => binN Tryd.prog .eql 3 true t14_29 (.int .i64 2) w30 K) fun t15_31 w32 =>
  pickW t10_23 t15_31 (.bool false) w32 fun t16_33 w34 =>
  condW t16_33 (
  offW (some 4) (f16 2) w34 fun t18_35 w36 =>
  loadW (some (false, 1)) t18_35 w36 fun t19_37 w38 =>
  idxW (some (none, 5)) t19_37 (.int .i64 0) w38 fun t20_39 w40 =>
  loadW (some (true, 5)) t20_39 w40 fun t21_41 w42 =>
  fnW Tryd.prog 29 #[t21_41] w42 fun t22_43 w44 =>
  insW Tryd.prog (Instr.buildSlice 25 1 #[(0, t22_43)]) w44 fun t23_45 w46 =>
  insW Tryd.prog (Builtin.append_ #[25, 25] 25 #[(f16 6), t23_45]) w46 fun t24_47 w48 =>
  offW (some 4) (f16 2) w48 fun t25_49 w50 =>
  loadW (some (false, 1)) t25_49 w50 fun t26_51 w52 =>
  idxW (some (none, 5)) t26_51 (.int .i64 1) w52 fun t27_53 w54 =>
  loadW (some (true, 5)) t27_53 w54 fun t28_55 w56 =>
  storeW (some (true, 5)) (f16 2) t28_55 w56 fun w57 =>
  K18 .normal (pf 32 (pf 32 (pf 32 (pf 32 (pf 32 (pf 32 (pf 32 (pf 32 (pf 32 (pf 32 (pf 32 (pf 32 (pf 32 (pf 32 (pf 32 (pf 32 (pf 32 (pf 32 (pf 32 (pf 32 (pf 32 (pf 32 (pf 32 f16 7 t7_19) 8 t8_21) 9 (f16 1)) 10 t10_23) 11 t10_23) 12 t12_25) 13 t13_27) 14 t14_29) 15 t15_31) 16 t16_33) 17 (f16 6)) 18 t18_35) 19 t19_37) 20 t20_39) 21 t21_41) 22 t22_43) 23 t23_45) 24 t24_47) 6 t24_47) 25 t25_49) 26 t26_51) 27 t27_53) 28 t28_55) w57) (
  K18 (.exit 0) (pf 32 (pf 32 (pf 32 (pf 32 (pf 32 (pf 32 (pf 32 (pf 32 (pf 32 (pf 32 f16 7 t7_19) 8 t8_21) 9 (f16 1)) 10 t10_23) 11 t10_23) 12 t12_25) 13 t13_27) 14 t14_29) 15 t15_31) 16 t16_33) w34)) (pf 32 (pf 32 (pf 32 (pf 32 (argF [x0, x1]) 2 t2_0) 4 (.slice none 0 0)) 5 t5_2) 6 (.slice none 0 0)) w3 K15
theorem c18_eq (x0 x1 : Value) (w : World) (K : VPost) : c18 x0 x1 w K = WP true Tryd.prog 32 [] (bodyOf Tryd.f18) (argF [x0, x1]) w [.tmp 4, .cell 5 27] K := by kernel_rfl
theorem c18_calls (x0 x1 : Value) (w : World) (K : VPost) (h : c18 x0 x1 w K) : Calls Tryd.prog 18 #[x0, x1] w (retK K) :=
  calls_of_WP (c18_eq x0 x1 w K) mixedG Tryd.func18 (by kernel_rfl) Tryd.ntmps18 (by kernel_rfl) (by kernel_rfl) h

/-- imprimatur/term.Uses -/
def c22 (x0 x1 : Value) (w : World) (K : VPost) : Prop :=
  boxW 27 x0 w fun t2_0 w1 =>
  boxW 3 x1 w1 fun t3_2 w3 =>
  loadW (some (true, 5)) t2_0 w3 fun t8_4 w5 =>
  fnW Tryd.prog 20 #[t8_4, (.int .i64 4), (.int .i64 1099511627776)] w5 fun t9_6 w7 =>
  unN Tryd.prog .not t9_6 w7 fun t10_8 w9 =>
  gstep t10_8 false w9 (fun K => loadW (some (false, 1)) t3_2 w9 K) fun t12_10 w11 =>
  gstep t10_8 false w11 (fun K => binN Tryd.prog .lss 3 true t12_10 (.int .i64 0) w11 K) fun t13_12 w13 =>
  pickW t10_8 (.bool true) t13_12 w13 fun t14_14 w15 =>
  gstep t14_14 false w15 (fun K => loadW (some (false, 1)) t3_2 w15 K) fun t16_16 w17 =>
  gstep t14_14 false w17 (fun K => binN Tryd.prog .gtr 3 true t16_16 (.int .i64 2199023255552) w17 K) fun t17_18 w19 =>
  pickW t14_14 (.bool true) t17_18 w19 fun t18_20 w21 =>
  condW t18_20 (
  K (.int .i64 0) w21) (
  allocW (zeroO Tryd.prog 3) 3 w21 fun t5_22 w23 =>
  storeW (some (false, 1)) t5_22 (.int .i64 0) w23 fun w24 =>
  loadW (some (true, 5)) t2_0 w24 fun t19_25 w26 =>
  fnW Tryd.prog 41 #[t19_25] w26 fun t20_27 w28 =>
  rangeH Tryd.prog false t20_27 2 (fun xs29 w30 T31 =>
  allocW (zeroO Tryd.prog 27) 27 w30 fun t6_32 w33 =>
  storeW (some (true, 5)) t6_32 (xs29.getD 0 undef) w33 fun w34 =>
  T31 w34 fun w35 K36 =>
  bindX (blkX 1 K36) fun _ =>
  offW (some 0) t6_32 w35 fun t23_38 w39 =>
  loadW (some (false, 1)) t23_38 w39 fun t24_40 w41 =>
  binN Tryd.prog .eql 3 true t24_40 (.int .i64 1) w41 fun t25_42 w43 =>
  gstep t25_42 true w43 (fun K => offW (some 1) t6_32 w43 K) fun t27_44 w45 =>
  gstep t25_42 true w45 (fun K => loadW (some (false, 1)) t27_44 w45 K) fun t28_46 w47 =>
  gstep t25_42 true w47 (fun K => loadW (some (false, 1)) t3_2 w47 K) fun t29_48 w49 =>
  gstep t25_42 true w49 (fun K => K (xs29.getD 1 undef) w49) fun t30_50 w51 =>
  gstep t25_42 true w51 (fun K => binN Tryd.prog .add 3 false t29_48 t30_50 w51 K) fun t31_52 w53 =>
  gstep t25_42 true w53 (fun K => binN Tryd.prog .eql 3 false t28_46 t31_52 w53 K) fun t32_54 w55 =>
  pickW t25_42 t32_54 (.bool false) w55 fun t33_56 w57 =>
  condW t33_56 (
  loadW (some (false, 1)) t5_22 w57 fun t34_58 w59 =>
  binN Tryd.prog .add 3 true t34_58 (.int .i64 1) w59 fun t35_60 w61 =>
  storeW (some (false, 1)) t5_22 t35_60 w61 fun w62 =>
  K36 .normal (pf 37 (pf 37 (pf 37 (pf 37 (pf 37 (pf 37 (pf 37 (pf 37 (pf 37 (pf 37 (pf 37 (pf 37 (pf 37 (pf 37 (pf 37 (pf 37 (pf 37 (pf 37 (pf 37 (pf 37 (pf 37 (pf 37 (pf 37 (pf 37 (pf 37 (pf 37 (pf 37 (pf 37 (pf 37 (pf 37 (pf 37 (pf 37 (pf 37 (pf 37 (argF [x0, x1]) 2 t2_0) 3 t3_2) 4 (.int .i64 0)) 8 t8_4) 9 t9_6) 10 t10_8) 11 t10_8) 12 t12_10) 13 t13_12) 14 t14_14) 15 t14_14) 16 t16_16) 17 t17_18) 18 t18_20) 5 t5_22) 19 t19_25) 20 t20_27) 21 (xs29.getD 0 undef)) 22 (xs29.getD 1 undef)) 6 t6_32) 7 (xs29.getD 1 undef)) 23 t23_38) 24 t24_40) 25 t25_42) 26 t25_42) 27 t27_44) 28 t28_46) 29 t29_48) 30 t30_50) 31 t31_52) 32 t32_54) 33 t33_56) 34 t34_58) 35 t35_60) w62) (
  K36 .normal (pf 37 (pf 37 (pf 37 (pf 37 (pf 37 (pf 37 (pf 37 (pf 37 (pf 37 (pf 37 (pf 37 (pf 37 (pf 37 (pf 37 (pf 37 (pf 37 (pf 37 (pf 37 (pf 37 (pf 37 (pf 37 (pf 37 (pf 37 (pf 37 (pf 37 (pf 37 (pf 37 (pf 37 (pf 37 (pf 37 (pf 37 (pf 37 (argF [x0, x1]) 2 t2_0) 3 t3_2) 4 (.int .i64 0)) 8 t8_4) 9 t9_6) 10 t10_8) 11 t10_8) 12 t12_10) 13 t13_12) 14 t14_14) 15 t14_14) 16 t16_16) 17 t17_18) 18 t18_20) 5 t5_22) 19 t19_25) 20 t20_27) 21 (xs29.getD 0 undef)) 22 (xs29.getD 1 undef)) 6 t6_32) 7 (xs29.getD 1 undef)) 23 t23_38) 24 t24_40) 25 t25_42) 26 t25_42) 27 t27_44) 28 t28_46) 29 t29_48) 30 t30_50) 31 t31_52) 32 t32_54) 33 t33_56) w57)) w28 (fun D63 w64 =>
  loadW (some (false, 1)) t5_22 w64 fun t36_65 w66 =>
  w66.heap[D63]? = some (.deferred (some [])) ∧ ∀ w67, w67 = w66.putObj D63 (.deferred none) →
  K t36_65 w67) (fun _ _ _ => True))
theorem c22_eq (x0 x1 : Value) (w : World) (K : VPost) : c22 x0 x1 w K = WH true Tryd.prog 37 [] (bodyOf Tryd.f22) (argF [x0, x1]) w [.tmp 4] K := by kernel_rfl
theorem c22_calls (x0 x1 : Value) (w : World) (K : VPost) (h : c22 x0 x1 w K) : Calls Tryd.prog 22 #[x0, x1] w (retK K) :=
  calls_of_WH (c22_eq x0 x1 w K) mixedG Tryd.func22 (by kernel_rfl) Tryd.ntmps22 (by kernel_rfl) (by kernel_rfl) h

/-- imprimatur/term.Word -/
def c8 (x0 : Value) (w : World) (K : VPost) : Prop :=
  allocW (zeroO Tryd.prog 4) 4 w fun t2_0 w1 =>
  lenW Tryd.prog (some false) #[9] 3 #[x0] w1 fun t5_2 w3 =>
  binN Tryd.prog .gtr 3 true t5_2 (.int .i64 32) w3 fun t6_4 w5 =>
  gstep t6_4 false w5 (fun K => K x0 w5) fun t8_6 w7 =>
  gstep t6_4 false w7 (fun K => binW Tryd.prog .add 9 true (.string ⟨#[32]⟩) t8_6 w7 K) fun t9_8 w9 =>
  gstep t6_4 false w9 (fun K => binW Tryd.prog .add 9 true t9_8 (.string ⟨#[32]⟩) w9 K) fun t10_10 w11 =>
  gstep t6_4 false w11 (fun K => fnW Tryd.prog 32 #[(.string ⟨#[32, 80, 114, 111, 112, 32, 84, 121, 112, 101, 32, 102, 117, 110, 32, 97, 108, 108, 32, 108, 101, 116, 32, 105, 110, 32, 111, 102, 32, 119, 105, 116, 104, 32, 97, 120, 105, 111, 109, 32, 100, 101, 102, 32, 116, 104, 101, 111, 114, 101, 109, 32, 102, 97, 109, 105, 108, 121, 32, 117, 48, 32, 117, 49, 32, 117, 50, 32, 117, 51, 32]⟩), t10_10] w11 K) fun t11_12 w13 =>
  pickW t6_4 (.bool true) t11_12 w13 fun t12_14 w15 =>
  condW t12_14 (
  storeW (some (false, 1)) t2_0 (.bool false) w15 fun w16 =>
  loadW (some (false, 1)) t2_0 w16 fun r17 _ =>
  K r17 w16) (
  bindV (endH Tryd.prog [.cell 2 4] K) fun K19 =>
  bindV (seqH (fun (d21 : List Nat) (f22 : Fr) (w23 : World) =>
  storeW (some (false, 1)) (f22 2) (.bool true) w23 fun w24 =>
  outW d21 w24 fun w25 =>
  loadW (some (false, 1)) (f22 2) w25 fun r26 _ =>
  K r26 w25) K19) fun K20 =>
  fnW Tryd.prog 33 #[x0, (.string ⟨#[46]⟩)] w15 fun t14_28 w29 =>
  bindV (blkH 0 K20) fun K30 =>
  rangeH Tryd.prog true t14_28 1 (fun xs31 w32 T33 =>
  T33 w32 fun w34 K35 =>
  fnW Tryd.prog 34 #[(xs31.getD 0 undef)] w34 fun t17_36 w37 =>
  unN Tryd.prog .not t17_36 w37 fun t18_38 w39 =>
  condW t18_38 (
  storeW (some (false, 1)) t2_0 (.bool false) w39 fun w40 =>
  K35 .ret (pf 19 (pf 19 (pf 19 (pf 19 (pf 19 (pf 19 (pf 19 (pf 19 (pf 19 (pf 19 (pf 19 (pf 19 (pf 19 (pf 19 (pf 19 (pf 19 (pf 19 (argF [x0]) 2 t2_0) 4 x0) 5 t5_2) 6 t6_4) 7 t6_4) 8 t8_6) 9 t9_8) 10 t10_10) 11 t11_12) 12 t12_14) 13 x0) 14 t14_28) 15 (xs31.getD 0 undef)) 3 (xs31.getD 0 undef)) 16 (xs31.getD 0 undef)) 17 t17_36) 18 t18_38) w40) (
  K35 .normal (pf 19 (pf 19 (pf 19 (pf 19 (pf 19 (pf 19 (pf 19 (pf 19 (pf 19 (pf 19 (pf 19 (pf 19 (pf 19 (pf 19 (pf 19 (pf 19 (pf 19 (argF [x0]) 2 t2_0) 4 x0) 5 t5_2) 6 t6_4) 7 t6_4) 8 t8_6) 9 t9_8) 10 t10_10) 11 t11_12) 12 t12_14) 13 x0) 14 t14_28) 15 (xs31.getD 0 undef)) 3 (xs31.getD 0 undef)) 16 (xs31.getD 0 undef)) 17 t17_36) 18 t18_38) w39)) w29 (fun D41 w42 =>
  K20 (D41 :: []) .normal (pf 19 (pf 19 (pf 19 (pf 19 (pf 19 (pf 19 (pf 19 (pf 19 (pf 19 (pf 19 (pf 19 (pf 19 (argF [x0]) 2 t2_0) 4 x0) 5 t5_2) 6 t6_4) 7 t6_4) 8 t8_6) 9 t9_8) 10 t10_10) 11 t11_12) 12 t12_14) 13 x0) 14 t14_28) w42) (fun (e43 : Exit) (D44 : Nat) (w45 : World) => match e43 with | .ret => K30 (D44 :: []) .ret (pf 19 (pf 19 (pf 19 (pf 19 (pf 19 (pf 19 (pf 19 (pf 19 (pf 19 (pf 19 (pf 19 (pf 19 (argF [x0]) 2 t2_0) 4 x0) 5 t5_2) 6 t6_4) 7 t6_4) 8 t8_6) 9 t9_8) 10 t10_10) 11 t11_12) 12 t12_14) 13 x0) 14 t14_28) w45 | .exit i => K30 (D44 :: []) (.exit i) (pf 19 (pf 19 (pf 19 (pf 19 (pf 19 (pf 19 (pf 19 (pf 19 (pf 19 (pf 19 (pf 19 (pf 19 (argF [x0]) 2 t2_0) 4 x0) 5 t5_2) 6 t6_4) 7 t6_4) 8 t8_6) 9 t9_8) 10 t10_10) 11 t11_12) 12 t12_14) 13 x0) 14 t14_28) w45 | _ => True))
theorem c8_eq (x0 : Value) (w : World) (K : VPost) : c8 x0 w K = WH true Tryd.prog 19 [] (bodyOf Tryd.f8) (argF [x0]) w [.cell 2 4] K := by kernel_rfl
theorem c8_calls (x0 : Value) (w : World) (K : VPost) (h : c8 x0 w K) : Calls Tryd.prog 8 #[x0] w (retK K) :=
  calls_of_WH (c8_eq x0 w K) mixedG Tryd.func8 (by kernel_rfl) Tryd.ntmps8 (by kernel_rfl) (by kernel_rfl) h

/-- imprimatur/term.all -/
def c40 (x0 x1 x2 x3 : Value) (w : World) (K : VPost) : Prop :=
  boxW 27 x0 w fun t4_0 w1 =>
  offW (some 0) t4_0 w1.drew fun t12_2 w3 =>
  loadW (some (false, 1)) t12_2 w3 fun t13_4 w5 =>
  binN Tryd.prog .lss 3 true t13_4 (.int .i64 1) w5 fun t14_6 w7 =>
  gstep t14_6 false w7 (fun K => offW (some 0) t4_0 w7 K) fun t16_8 w9 =>
  gstep t14_6 false w9 (fun K => loadW (some (false, 1)) t16_8 w9 K) fun t17_10 w11 =>
  gstep t14_6 false w11 (fun K => binN Tryd.prog .gtr 3 true t17_10 (.int .i64 9) w11 K) fun t18_12 w13 =>
  pickW t14_6 (.bool true) t18_12 w13 fun t19_14 w15 =>
  gstep t19_14 false w15 (fun K => K x3 w15) fun t21_16 w17 =>
  gstep t19_14 false w17 (fun K => binN Tryd.prog .gtr 3 true t21_16 (.int .i64 200) w17 K) fun t22_18 w19 =>
  pickW t19_14 (.bool true) t22_18 w19 fun t23_20 w21 =>
  gstep t23_20 false w21 (fun K => offW (some 4) t4_0 w21 K) fun t25_22 w23 =>
  gstep t23_20 false w23 (fun K => loadW (some (false, 1)) t25_22 w23 K) fun t26_24 w25 =>
  gstep t23_20 false w25 (fun K => lenW Tryd.prog (some true) #[25] 3 #[t26_24] w25 K) fun t27_26 w27 =>
  gstep t23_20 false w27 (fun K => offW (some 0) t4_0 w27 K) fun t29_28 w29 =>
  gstep t23_20 false w29 (fun K => loadW (some (false, 1)) t29_28 w29 K) fun t30_30 w31 =>
  gstep t23_20 false w31 (fun K => fnW Tryd.prog 56 #[] w31 K) fun t28_32 w33 =>
  (gstep t23_20 false w33 (fun K => loadW (some (false, 1)) t25_22 w33 K) fun t26_34 w35 => t26_34 = t26_24 ∧ w35 = w33) ∧
  (gstep t23_20 false w33 (fun K => loadW (some (false, 1)) t29_28 w33 K) fun t30_36 w37 => t30_36 = t30_30 ∧ w37 = w33) ∧
  gstep t23_20 false w33 (fun K => ixvW (.arr 10 true 3) t28_32 t30_30 w33 K) fun t31_38 w39 =>
  gstep t23_20 false w39 (fun K => fldW (some (false, 0, 1)) t31_38 w39 K) fun t32_40 w41 =>
  gstep t23_20 false w41 (fun K => binN Tryd.prog .neq 3 false t27_26 t32_40 w41 K) fun t33_42 w43 =>
  pickW t23_20 (.bool true) t33_42 w43 fun t34_44 w45 =>
  gstep t34_44 false w45 (fun K => loadW (some (true, 5)) t4_0 w45 K) fun t36_46 w47 =>
  gstep t34_44 false w47 (fun K => K x2 w47) fun t37_48 w49 =>
  gstep t34_44 false w49 (fun K => fnW Tryd.prog 57 #[t36_46, t37_48] w49 K) fun t38_50 w51 =>
  gstep t34_44 false w51 (fun K => unN Tryd.prog .not t38_50 w51 K) fun t39_52 w53 =>
  pickW t34_44 (.bool true) t39_52 w53 fun t40_54 w55 =>
  gstep t40_54 false w55 (fun K => loadW (some (true, 5)) t4_0 w55 K) fun t42_56 w57 =>
  gstep t40_54 false w57 (fun K => K x1 w57) fun t43_58 w59 =>
  gstep t40_54 false w59 (fun K => fnW Tryd.prog 58 #[t42_56, t43_58] w59 K) fun t44_60 w61 =>
  gstep t40_54 false w61 (fun K => unN Tryd.prog .not t44_60 w61 K) fun t45_62 w63 =>
  pickW t40_54 (.bool true) t45_62 w63 fun t46_64 w65 =>
  condW t46_64 (
  K (.bool false) w65) (
  bindX (endW Tryd.prog [.tmp 8] K) fun K66 =>
  bindX (seqX (fun _ w69 =>
  K (.bool true) w69) K66) fun K67 =>
  offW (some 4) t4_0 w65 fun t47_70 w71 =>
  loadW (some (false, 1)) t47_70 w71 fun t48_72 w73 =>
  lenW Tryd.prog (some true) #[25] 3 #[t48_72] w73 fun t49_74 w75 =>
  bindX (blkX 0 K67) fun K76 =>
  loopW (fun f77 w78 K79 =>
  binN Tryd.prog .lss 3 false (f77 50) (f77 49) w78 fun t51_80 w81 =>
  condW t51_80 (
  idxW (some (none, 5)) (f77 48) (f77 50) w81 fun t53_82 w83 =>
  loadW (some (true, 5)) t53_82 w83 fun t54_84 w85 =>
  allocW (zeroO Tryd.prog 27) 27 w85 fun t10_86 w87 =>
  storeW (some (true, 5)) t10_86 t54_84 w87 fun w88 =>
  offW (some 0) (f77 4) w88 fun t55_89 w90 =>
  loadW (some (false, 1)) t55_89 w90 fun t56_91 w92 =>
  fnW Tryd.prog 59 #[t56_91, (f77 50)] w92 fun t58_93 w94 =>
  loadW (some (true, 5)) t10_86 w94 fun t59_95 w96 =>
  binN Tryd.prog .add 3 false (f77 2) t58_93 w96 fun t63_97 w98 =>
  binN Tryd.prog .add 3 false (f77 3) t58_93 w98 fun t66_99 w100 =>
  fnW Tryd.prog 40 #[t59_95, (f77 1), t63_97, t66_99] w100 fun t67_101 w102 =>
  unN Tryd.prog .not t67_101 w102 fun t68_103 w104 =>
  condW t68_103 (
  K79 .ret (pf 70 (pf 70 (pf 70 (pf 70 (pf 70 (pf 70 (pf 70 (pf 70 (pf 70 (pf 70 (pf 70 (pf 70 (pf 70 (pf 70 (pf 70 (pf 70 (pf 70 (pf 70 (pf 70 (pf 70 (pf 70 (pf 70 f77 51 t51_80) 52 (f77 50)) 53 t53_82) 54 t54_84) 10 t10_86) 9 (f77 50)) 55 t55_89) 56 t56_91) 57 (f77 50)) 58 t58_93) 11 t58_93) 59 t59_95) 60 (f77 1)) 61 (f77 2)) 62 t58_93) 63 t63_97) 64 (f77 3)) 65 t58_93) 66 t66_99) 67 t67_101) 68 t68_103) 8 (.bool false)) w104) (
  binN Tryd.prog .add 3 true (f77 50) (.int .i64 1) w104 fun t69_105 w106 =>
  K79 .normal (pf 70 (pf 70 (pf 70 (pf 70 (pf 70 (pf 70 (pf 70 (pf 70 (pf 70 (pf 70 (pf 70 (pf 70 (pf 70 (pf 70 (pf 70 (pf 70 (pf 70 (pf 70 (pf 70 (pf 70 (pf 70 (pf 70 (pf 70 f77 51 t51_80) 52 (f77 50)) 53 t53_82) 54 t54_84) 10 t10_86) 9 (f77 50)) 55 t55_89) 56 t56_91) 57 (f77 50)) 58 t58_93) 11 t58_93) 59 t59_95) 60 (f77 1)) 61 (f77 2)) 62 t58_93) 63 t63_97) 64 (f77 3)) 65 t58_93) 66 t66_99) 67 t67_101) 68 t68_103) 69 t69_105) 50 t69_105) w106)) (
  K79 (.exit 0) (pf 70 f77 51 t51_80) w81)) (pf 70 (pf 70 (pf 70 (pf 70 (pf 70 (pf 70 (pf 70 (pf 70 (pf 70 (pf 70 (pf 70 (pf 70 (pf 70 (pf 70 (pf 70 (pf 70 (pf 70 (pf 70 (pf 70 (pf 70 (pf 70 (pf 70 (pf 70 (pf 70 (pf 70 (pf 70 (pf 70 (pf 70 (pf 70 (pf 70 (pf 70 (pf 70 (pf 70 (pf 70 (pf 70 (pf 70 (pf 70 (pf 70 (pf 70 (pf 70 (pf 70 (argF [x0, x1, x2, x3]) 4 t4_0) 8 (.bool false)) 12 t12_2) 13 t13_4) 14 t14_6) 15 t14_6) 16 t16_8) 17 t17_10) 18 t18_12) 19 t19_14) 20 t19_14) 21 t21_16) 22 t22_18) 23 t23_20) 24 t23_20) 25 t25_22) 26 t26_24) 27 t27_26) 29 t29_28) 30 t30_30) 28 t28_32) 31 t31_38) 32 t32_40) 33 t33_42) 34 t34_44) 35 t34_44) 36 t36_46) 37 t37_48) 38 t38_50) 39 t39_52) 40 t40_54) 41 t40_54) 42 t42_56) 43 t43_58) 44 t44_60) 45 t45_62) 46 t46_64) 47 t47_70) 48 t48_72) 49 t49_74) 50 (.int .i64 0)) w75 K76)
theorem c40_eq (x0 x1 x2 x3 : Value) (w : World) (K : VPost) : c40 x0 x1 x2 x3 w K = WP true Tryd.prog 70 [(1, 4362141696, [0, 1, 2, 4, 8, 24, 40, 72, 136, 256, 768, 1280, 2304, 4096, 12288, 20480, 4096, 4096, 135168, 331776, 528384, 1085440, 2101248, 4259840, 8388608, 8388608, 58720256, 75497472, 142606336, 335544320, 536870912, 536870912, 3758096384, 4831838208, 9126805504], [0, 1, 3, 7, 15, 31, 63, 127, 255, 511, 1023, 2047, 4095, 8191, 16383, 32767, 8191, 8191, 139263, 466943, 991231, 2097151, 4194303, 8388607, 16777215, 16777215, 67108863, 134217727, 268435455, 536870911, 1073741823, 1073741823, 4294967295, 8589934591, 17179869183])] (bodyOf Tryd.f40) (argF [x0, x1, x2, x3]) w [.tmp 8] K := by kernel_rfl
theorem c40_calls (x0 x1 x2 x3 : Value) (w : World) (K : VPost) (h : c40 x0 x1 x2 x3 w K) : Calls Tryd.prog 40 #[x0, x1, x2, x3] w (retK K) :=
  calls_of_WP (c40_eq x0 x1 x2 x3 w K) mixedG Tryd.func40 (by kernel_rfl) Tryd.ntmps40 (by kernel_rfl) (by kernel_rfl) h

/-- imprimatur/term.deeper -/
def c59 (x0 x1 : Value) (w : World) (K : VPost) : Prop :=
  binN Tryd.prog .geq 3 true x0 (.int .i64 1) w fun t6_0 w1 =>
  gstep t6_0 true w1 (fun K => K x0 w1) fun t8_2 w3 =>
  gstep t6_0 true w3 (fun K => binN Tryd.prog .leq 3 true t8_2 (.int .i64 9) w3 K) fun t9_4 w5 =>
  pickW t6_0 t9_4 (.bool false) w5 fun t10_6 w7 =>
  gstep t10_6 true w7 (fun K => fnW Tryd.prog 56 #[] w7 K) fun t12_8 w9 =>
  gstep t10_6 true w9 (fun K => K x0 w9) fun t13_10 w11 =>
  gstep t10_6 true w11 (fun K => ixvW (.arr 10 true 3) t12_8 t13_10 w11 K) fun t14_12 w13 =>
  gstep t10_6 true w13 (fun K => fldW (some (false, 2, 1)) t14_12 w13 K) fun t15_14 w15 =>
  gstep t10_6 true w15 (fun K => K x1 w15) fun t16_16 w17 =>
  gstep t10_6 true w17 (fun K => binN Tryd.prog .eql 3 false t15_14 t16_16 w17 K) fun t17_18 w19 =>
  pickW t10_6 t17_18 (.bool false) w19 fun t18_20 w21 =>
  condW t18_20 (
  K (.int .i64 1) w21) (
  K (.int .i64 0) w21)
theorem c59_eq (x0 x1 : Value) (w : World) (K : VPost) : c59 x0 x1 w K = WP true Tryd.prog 19 [] (bodyOf Tryd.f59) (argF [x0, x1]) w [.tmp 4] K := by kernel_rfl
theorem c59_calls (x0 x1 : Value) (w : World) (K : VPost) (h : c59 x0 x1 w K) : Calls Tryd.prog 59 #[x0, x1] w (retK K) :=
  calls_of_WP (c59_eq x0 x1 w K) mixedG Tryd.func59 (by kernel_rfl) Tryd.ntmps59 (by kernel_rfl) (by kernel_rfl) h

/-- imprimatur/term.letter -/
def c53 (x0 : Value) (w : World) (K : VPost) : Prop :=
  binN Tryd.prog .or 5 true x0 (.int .u8 32) w fun t4_0 w1 =>
  binN Tryd.prog .geq 5 true t4_0 (.int .u8 97) w1 fun t5_2 w3 =>
  gstep t5_2 true w3 (fun K => K x0 w3) fun t7_4 w5 =>
  gstep t5_2 true w5 (fun K => binN Tryd.prog .or 5 true t7_4 (.int .u8 32) w5 K) fun t8_6 w7 =>
  gstep t5_2 true w7 (fun K => binN Tryd.prog .leq 5 true t8_6 (.int .u8 122) w7 K) fun t9_8 w9 =>
  pickW t5_2 t9_8 (.bool false) w9 fun t10_10 w11 =>
  K t10_10 w11
theorem c53_eq (x0 : Value) (w : World) (K : VPost) : c53 x0 w K = WP true Tryd.prog 11 [] (bodyOf Tryd.f53) (argF [x0]) w [.tmp 2] K := by kernel_rfl
theorem c53_calls (x0 : Value) (w : World) (K : VPost) (h : c53 x0 w K) : Calls Tryd.prog 53 #[x0] w (retK K) :=
  calls_of_WP (c53_eq x0 w K) mixedG Tryd.func53 (by kernel_rfl) Tryd.ntmps53 (by kernel_rfl) (by kernel_rfl) h

/-- imprimatur/term.leveled -/
def c58 (x0 x1 : Value) (w : World) (K : VPost) : Prop :=
  boxW 27 x0 w fun t2_0 w1 =>
  boxW 3 x1 w1 fun t3_2 w3 =>
  offW (some 0) t2_0 w3.drew fun t8_4 w5 =>
  loadW (some (false, 1)) t8_4 w5 fun t9_6 w7 =>
  bindV (fun (t7_9 : Value) (t10_10 : Value) (t5_11 : Value) (w13 : World) =>
  storeW (some (true, 3)) t5_11 t10_10 w13 fun w14 =>
  offW (some 3) t2_0 w14 fun t11_15 w16 =>
  loadW (some (false, 1)) t11_15 w16 fun t12_17 w18 =>
  lenW Tryd.prog (some true) #[24] 3 #[t12_17] w18 fun t13_19 w20 =>
  offW (some 1) t5_11 w20 fun t14_21 w22 =>
  loadW (some (false, 1)) t14_21 w22 fun t15_23 w24 =>
  binN Tryd.prog .gtr 3 false t13_19 t15_23 w24 fun t16_25 w26 =>
  gstep t16_25 false w26 (fun K => offW (some 0) t2_0 w26 K) fun t18_27 w28 =>
  gstep t16_25 false w28 (fun K => loadW (some (false, 1)) t18_27 w28 K) fun t19_29 w30 =>
  gstep t16_25 false w30 (fun K => binN Tryd.prog .eql 3 true t19_29 (.int .i64 3) w30 K) fun t20_31 w32 =>
  gstep t16_25 false w32 (fun K => K t20_31 w32) fun t21_33 w34 =>
  gstep t21_33 true w34 (fun K => offW (some 3) t2_0 w34 K) fun t22_35 w36 =>
  gstep t21_33 true w36 (fun K => loadW (some (false, 1)) t22_35 w36 K) fun t23_37 w38 =>
  gstep t21_33 true w38 (fun K => lenW Tryd.prog (some true) #[24] 3 #[t23_37] w38 K) fun t24_39 w40 =>
  gstep t21_33 true w40 (fun K => binN Tryd.prog .eql 3 true t24_39 (.int .i64 0) w40 K) fun t25_41 w42 =>
  gstep t16_25 false w42 (fun K => pickW t21_33 t25_41 (.bool false) w42 K) fun t26_43 w44 =>
  pickW t16_25 (.bool true) t26_43 w44 fun t27_45 w46 =>
  condW t27_45 (
  K (.bool false) w46) (
  insW Tryd.prog (Instr.makeFunc (.func 68) #[] #[t3_2]) w46 fun t28_47 w48 =>
  offW (some 3) t2_0 w48 fun t29_49 w50 =>
  loadW (some (false, 1)) t29_49 w50 fun t30_51 w52 =>
  fnW Tryd.prog 71 #[t30_51, t28_47] w52 fun t32_53 w54 =>
  unN Tryd.prog .not t32_53 w54 fun t33_55 w56 =>
  K t33_55 w56)) fun J8 =>
  (fnW Tryd.prog 56 #[] w7 fun t7_57 w58 =>
  (loadW (some (false, 1)) t8_4 w58 fun t9_59 w60 => t9_59 = t9_6 ∧ w60 = w58) ∧
  ixvW (.arr 10 true 3) t7_57 t9_6 w58 fun t10_61 w62 =>
  allocW (zeroO Tryd.prog 77) 77 w62 fun t5_63 w64 =>
  (loadW (some (false, 1)) t8_4 w64 fun t9_65 w66 => t9_65 = t9_6 ∧ w66 = w64) ∧
  J8 t7_57 t10_61 t5_63 w64) ∧
  (allocW (zeroO Tryd.prog 77) 77 w7 fun t5_67 w68 =>
  (loadW (some (false, 1)) t8_4 w68 fun t9_69 w70 => t9_69 = t9_6 ∧ w70 = w68) ∧
  fnW Tryd.prog 56 #[] w68 fun t7_71 w72 =>
  (loadW (some (false, 1)) t8_4 w72 fun t9_73 w74 => t9_73 = t9_6 ∧ w74 = w72) ∧
  ixvW (.arr 10 true 3) t7_71 t9_6 w72 fun t10_75 w76 =>
  J8 t7_71 t10_75 t5_67 w76)
theorem c58_eq (x0 x1 : Value) (w : World) (K : VPost) : c58 x0 x1 w K = WP true Tryd.prog 34 [(1, 49, [0, 0, 2, 5, 0, 31], [0, 0, 2, 7, 0, 31])] (bodyOf Tryd.f58) (argF [x0, x1]) w [.tmp 4] K := by kernel_rfl
theorem c58_calls (x0 x1 : Value) (w : World) (K : VPost) (h : c58 x0 x1 w K) : Calls Tryd.prog 58 #[x0, x1] w (retK K) :=
  calls_of_WP (c58_eq x0 x1 w K) mixedG Tryd.func58 (by kernel_rfl) Tryd.ntmps58 (by kernel_rfl) (by kernel_rfl) h

/-- imprimatur/term.leveled$1 -/
def c68 (x0 x1 : Value) (w : World) (K : VPost) : Prop :=
  boxW 48 x0 w fun t2_0 w1 =>
  loadW (some (true, 5)) t2_0 w1.drew fun t4_2 w3 =>
  fnW Tryd.prog 69 #[t4_2] w3 fun t5_4 w5 =>
  unN Tryd.prog .not t5_4 w5 fun t6_6 w7 =>
  gstep t6_6 false w7 (fun K => loadW (some (true, 5)) t2_0 w7 K) fun t8_8 w9 =>
  gstep t6_6 false w9 (fun K => loadW (some (false, 1)) x1 w9 K) fun t10_10 w11 =>
  gstep t6_6 false w11 (fun K => fnW Tryd.prog 70 #[t8_8] w11 K) fun t9_12 w13 =>
  (gstep t6_6 false w13 (fun K => loadW (some (false, 1)) x1 w13 K) fun t10_14 w15 => t10_14 = t10_10 ∧ w15 = w13) ∧
  gstep t6_6 false w13 (fun K => binN Tryd.prog .gtr 3 false t9_12 t10_10 w13 K) fun t11_16 w17 =>
  pickW t6_6 (.bool true) t11_16 w17 fun t12_18 w19 =>
  K t12_18 w19
theorem c68_eq (x0 x1 : Value) (w : World) (K : VPost) : c68 x0 x1 w K = WP true Tryd.prog 13 [(1, 34, [0, 1, 2, 6, 8, 24, 8, 104, 136, 511], [0, 1, 3, 7, 15, 31, 15, 127, 255, 511])] (bodyOf Tryd.f68) (argF [x0, x1]) w [.tmp 3] K := by kernel_rfl
theorem c68_calls (x0 x1 : Value) (w : World) (K : VPost) (h : c68 x0 x1 w K) : Calls Tryd.prog 68 #[x0, x1] w (retK K) :=
  calls_of_WP (c68_eq x0 x1 w K) mixedG Tryd.func68 (by kernel_rfl) Tryd.ntmps68 (by kernel_rfl) (by kernel_rfl) h

/-- imprimatur/term.nodes -/
def c41 (x0 : Value) (w : World) (K : VPost) : Prop :=
  boxW 27 x0 w fun t1_0 w1 =>
  insW Tryd.prog (Instr.makeFunc (.func 60) #[] #[t1_0]) w1 fun t3_2 w3 =>
  K t3_2 w3
theorem c41_eq (x0 : Value) (w : World) (K : VPost) : c41 x0 w K = WP true Tryd.prog 4 [] (bodyOf Tryd.f41) (argF [x0]) w [.tmp 2] K := by kernel_rfl
theorem c41_calls (x0 : Value) (w : World) (K : VPost) (h : c41 x0 w K) : Calls Tryd.prog 41 #[x0] w (retK K) :=
  calls_of_WP (c41_eq x0 w K) mixedG Tryd.func41 (by kernel_rfl) Tryd.ntmps41 (by kernel_rfl) (by kernel_rfl) h

/-- imprimatur/term.nodes$1 -/
def c60 (x0 x1 : Value) (w : World) (K : VPost) : Prop :=
  boxW 67 x0 w fun t2_0 w1 =>
  allocW (zeroO Tryd.prog 3) 3 w1 fun t3_2 w3 =>
  storeW (some (false, 1)) t3_2 (.int .i64 3000) w3 fun w4 =>
  loadW (some (true, 5)) x1 w4 fun t4_5 w6 =>
  insW Tryd.prog (Instr.makeFunc (.func 61) #[] #[t3_2, t2_0]) w6 fun t5_7 w8 =>
  fnW Tryd.prog 44 #[t4_5, (.int .i64 0), t5_7] w8 fun _ w10 =>
  K (.tuple #[]) w10
theorem c60_eq (x0 x1 : Value) (w : World) (K : VPost) : c60 x0 x1 w K = WP true Tryd.prog 7 [] (bodyOf Tryd.f60) (argF [x0, x1]) w [] K := by kernel_rfl
theorem c60_calls (x0 x1 : Value) (w : World) (K : VPost) (h : c60 x0 x1 w K) : Calls Tryd.prog 60 #[x0, x1] w (retK K) :=
  calls_of_WP (c60_eq x0 x1 w K) mixedG Tryd.func60 (by kernel_rfl) Tryd.ntmps60 (by kernel_rfl) (by kernel_rfl) h

/-- imprimatur/term.nodes$1$1 -/
def c61 (x0 x1 x2 x3 : Value) (w : World) (K : VPost) : Prop :=
  boxW 27 x0 w fun t4_0 w1 =>
  loadW (some (false, 1)) x2 w1 fun t7_2 w3 =>
  offW (some 3) t4_0 w3 fun t8_4 w5 =>
  loadW (some (false, 1)) t8_4 w5 fun t9_6 w7 =>
  lenW Tryd.prog (some true) #[24] 3 #[t9_6] w7 fun t10_8 w9 =>
  binN Tryd.prog .add 3 true (.int .i64 1) t10_8 w9 fun t11_10 w11 =>
  binN Tryd.prog .sub 3 false t7_2 t11_10 w11 fun t12_12 w13 =>
  storeW (some (false, 1)) x2 t12_12 w13 fun w14 =>
  loadW (some (false, 1)) x2 w14 fun t13_15 w16 =>
  binN Tryd.prog .geq 3 true t13_15 (.int .i64 0) w16 fun t14_17 w18 =>
  gstep t14_17 true w18 (fun K => loadW (some (false, 1)) x3 w18 K) fun t16_19 w20 =>
  gstep t14_17 true w20 (fun K => loadW (some (true, 5)) t4_0 w20 K) fun t17_21 w22 =>
  gstep t14_17 true w22 (fun K => K x1 w22) fun t18_23 w24 =>
  gstep t14_17 true w24 (fun K => dynW Tryd.prog t16_19 #[t17_21, t18_23] w24 K) fun t19_25 w26 =>
  pickW t14_17 t19_25 (.bool false) w26 fun t20_27 w28 =>
  K t20_27 w28
theorem c61_eq (x0 x1 x2 x3 : Value) (w : World) (K : VPost) : c61 x0 x1 x2 x3 w K = WP true Tryd.prog 21 [] (bodyOf Tryd.f61) (argF [x0, x1, x2, x3]) w [.tmp 6] K := by kernel_rfl
theorem c61_calls (x0 x1 x2 x3 : Value) (w : World) (K : VPost) (h : c61 x0 x1 x2 x3 w K) : Calls Tryd.prog 61 #[x0, x1, x2, x3] w (retK K) :=
  calls_of_WP (c61_eq x0 x1 x2 x3 w K) mixedG Tryd.func61 (by kernel_rfl) Tryd.ntmps61 (by kernel_rfl) (by kernel_rfl) h

/-- imprimatur/term.numbered -/
def c57 (x0 x1 : Value) (w : World) (K : VPost) : Prop :=
  boxW 27 x0 w fun t2_0 w1 =>
  offW (some 0) t2_0 w1 fun t5_2 w3 =>
  loadW (some (false, 1)) t5_2 w3 fun t6_4 w5 =>
  binN Tryd.prog .eql 3 true t6_4 (.int .i64 1) w5 fun t8_6 w7 =>
  condW t8_6 (
  offW (some 1) t2_0 w7 fun t9_8 w9 =>
  loadW (some (false, 1)) t9_8 w9 fun t10_10 w11 =>
  binN Tryd.prog .geq 3 true t10_10 (.int .i64 0) w11 fun t11_12 w13 =>
  gstep t11_12 true w13 (fun K => offW (some 1) t2_0 w13 K) fun t13_14 w15 =>
  gstep t11_12 true w15 (fun K => loadW (some (false, 1)) t13_14 w15 K) fun t14_16 w17 =>
  gstep t11_12 true w17 (fun K => K x1 w17) fun t15_18 w19 =>
  gstep t11_12 true w19 (fun K => binN Tryd.prog .lss 3 false t14_16 t15_18 w19 K) fun t16_20 w21 =>
  pickW t11_12 t16_20 (.bool false) w21 fun t17_22 w23 =>
  gstep t17_22 true w23 (fun K => offW (some 2) t2_0 w23 K) fun t19_24 w25 =>
  gstep t17_22 true w25 (fun K => loadW (some (false, 1)) t19_24 w25 K) fun t20_26 w27 =>
  gstep t17_22 true w27 (fun K => binW Tryd.prog .eql 9 true t20_26 (.string ⟨#[]⟩) w27 K) fun t21_28 w29 =>
  pickW t17_22 t21_28 (.bool false) w29 fun t22_30 w31 =>
  K t22_30 w31) (
  binN Tryd.prog .eql 3 true t6_4 (.int .i64 4) w7 fun t24_32 w33 =>
  condW t24_32 (
  offW (some 1) t2_0 w33 fun t25_34 w35 =>
  loadW (some (false, 1)) t25_34 w35 fun t26_36 w37 =>
  binN Tryd.prog .eql 3 true t26_36 (.int .i64 0) w37 fun t27_38 w39 =>
  gstep t27_38 true w39 (fun K => offW (some 2) t2_0 w39 K) fun t29_40 w41 =>
  gstep t27_38 true w41 (fun K => loadW (some (false, 1)) t29_40 w41 K) fun t30_42 w43 =>
  gstep t27_38 true w43 (fun K => fnW Tryd.prog 8 #[t30_42] w43 K) fun t31_44 w45 =>
  pickW t27_38 t31_44 (.bool false) w45 fun t32_46 w47 =>
  K t32_46 w47) (
  binN Tryd.prog .eql 3 true t6_4 (.int .i64 9) w33 fun t34_48 w49 =>
  condW t34_48 (
  offW (some 1) t2_0 w49 fun t35_50 w51 =>
  loadW (some (false, 1)) t35_50 w51 fun t36_52 w53 =>
  binN Tryd.prog .geq 3 true t36_52 (.int .i64 0) w53 fun t37_54 w55 =>
  gstep t37_54 true w55 (fun K => offW (some 1) t2_0 w55 K) fun t39_56 w57 =>
  gstep t37_54 true w57 (fun K => loadW (some (false, 1)) t39_56 w57 K) fun t40_58 w59 =>
  gstep t37_54 true w59 (fun K => binN Tryd.prog .leq 3 true t40_58 (.int .i64 31) w59 K) fun t41_60 w61 =>
  pickW t37_54 t41_60 (.bool false) w61 fun t42_62 w63 =>
  gstep t42_62 true w63 (fun K => offW (some 2) t2_0 w63 K) fun t44_64 w65 =>
  gstep t42_62 true w65 (fun K => loadW (some (false, 1)) t44_64 w65 K) fun t45_66 w67 =>
  gstep t42_62 true w67 (fun K => fnW Tryd.prog 8 #[t45_66] w67 K) fun t46_68 w69 =>
  pickW t42_62 t46_68 (.bool false) w69 fun t47_70 w71 =>
  K t47_70 w71) (
  offW (some 1) t2_0 w49 fun t48_72 w73 =>
  loadW (some (false, 1)) t48_72 w73 fun t49_74 w75 =>
  binN Tryd.prog .eql 3 true t49_74 (.int .i64 0) w75 fun t50_76 w77 =>
  gstep t50_76 true w77 (fun K => offW (some 2) t2_0 w77 K) fun t52_78 w79 =>
  gstep t50_76 true w79 (fun K => loadW (some (false, 1)) t52_78 w79 K) fun t53_80 w81 =>
  gstep t50_76 true w81 (fun K => binW Tryd.prog .eql 9 true t53_80 (.string ⟨#[]⟩) w81 K) fun t54_82 w83 =>
  pickW t50_76 t54_82 (.bool false) w83 fun t55_84 w85 =>
  K t55_84 w85)))
theorem c57_eq (x0 x1 : Value) (w : World) (K : VPost) : c57 x0 x1 w K = WP true Tryd.prog 56 [] (bodyOf Tryd.f57) (argF [x0, x1]) w [.tmp 4] K := by kernel_rfl
theorem c57_calls (x0 x1 : Value) (w : World) (K : VPost) (h : c57 x0 x1 w K) : Calls Tryd.prog 57 #[x0, x1] w (retK K) :=
  calls_of_WP (c57_eq x0 x1 w K) mixedG Tryd.func57 (by kernel_rfl) Tryd.ntmps57 (by kernel_rfl) (by kernel_rfl) h

/-- imprimatur/term.part -/
def c34 (x0 : Value) (w : World) (K : VPost) : Prop :=
  binW Tryd.prog .eql 9 true x0 (.string ⟨#[]⟩) w fun t5_0 w1 =>
  gstep t5_0 false w1 (fun K => K x0 w1) fun t7_2 w3 =>
  gstep t5_0 false w3 (fun K => ixvW .str t7_2 (.int .i64 0) w3 K) fun t8_4 w5 =>
  gstep t5_0 false w5 (fun K => fnW Tryd.prog 53 #[t8_4] w5 K) fun t9_6 w7 =>
  gstep t5_0 false w7 (fun K => unN Tryd.prog .not t9_6 w7 K) fun t10_8 w9 =>
  pickW t5_0 (.bool true) t10_8 w9 fun t11_10 w11 =>
  condW t11_10 (
  K (.bool false) w11) (
  bindX (endW Tryd.prog [.tmp 2] K) fun K12 =>
  bindX (seqX (fun _ w15 =>
  K (.bool true) w15) K12) fun K13 =>
  lenW Tryd.prog (some false) #[9] 3 #[x0] w11 fun t13_16 w17 =>
  bindX (blkX 0 K13) fun K18 =>
  loopW (fun f19 w20 K21 =>
  binN Tryd.prog .lss 3 false (f19 14) (f19 13) w20 fun t15_22 w23 =>
  condW t15_22 (
  ixvW .str (f19 0) (f19 14) w23 fun t19_24 w25 =>
  fnW Tryd.prog 54 #[t19_24] w25 fun t20_26 w27 =>
  unN Tryd.prog .not t20_26 w27 fun t21_28 w29 =>
  condW t21_28 (
  K21 .ret (pf 23 (pf 23 (pf 23 (pf 23 (pf 23 (pf 23 (pf 23 (pf 23 (pf 23 f19 15 t15_22) 16 (f19 14)) 3 (f19 14)) 17 (f19 0)) 18 (f19 14)) 19 t19_24) 20 t20_26) 21 t21_28) 2 (.bool false)) w29) (
  binN Tryd.prog .add 3 true (f19 14) (.int .i64 1) w29 fun t22_30 w31 =>
  K21 .normal (pf 23 (pf 23 (pf 23 (pf 23 (pf 23 (pf 23 (pf 23 (pf 23 (pf 23 (pf 23 f19 15 t15_22) 16 (f19 14)) 3 (f19 14)) 17 (f19 0)) 18 (f19 14)) 19 t19_24) 20 t20_26) 21 t21_28) 22 t22_30) 14 t22_30) w31)) (
  K21 (.exit 0) (pf 23 f19 15 t15_22) w23)) (pf 23 (pf 23 (pf 23 (pf 23 (pf 23 (pf 23 (pf 23 (pf 23 (pf 23 (pf 23 (pf 23 (pf 23 (argF [x0]) 2 (.bool false)) 4 x0) 5 t5_0) 6 t5_0) 7 t7_2) 8 t8_4) 9 t9_6) 10 t10_8) 11 t11_10) 12 x0) 13 t13_16) 14 (.int .i64 0)) w17 K18)
theorem c34_eq (x0 : Value) (w : World) (K : VPost) : c34 x0 w K = WP true Tryd.prog 23 [] (bodyOf Tryd.f34) (argF [x0]) w [.tmp 2] K := by kernel_rfl
theorem c34_calls (x0 : Value) (w : World) (K : VPost) (h : c34 x0 w K) : Calls Tryd.prog 34 #[x0] w (retK K) :=
  calls_of_WP (c34_eq x0 w K) mixedG Tryd.func34 (by kernel_rfl) Tryd.ntmps34 (by kernel_rfl) (by kernel_rfl) h

/-- imprimatur/term.sign -/
def c54 (x0 : Value) (w : World) (K : VPost) : Prop :=
  fnW Tryd.prog 53 #[x0] w fun t4_0 w1 =>
  gstep t4_0 false w1 (fun K => K x0 w1) fun t6_2 w3 =>
  gstep t4_0 false w3 (fun K => binN Tryd.prog .geq 5 true t6_2 (.int .u8 48) w3 K) fun t7_4 w5 =>
  gstep t4_0 false w5 (fun K => K t7_4 w5) fun t8_6 w7 =>
  gstep t8_6 true w7 (fun K => K x0 w7) fun t9_8 w9 =>
  gstep t8_6 true w9 (fun K => binN Tryd.prog .leq 5 true t9_8 (.int .u8 57) w9 K) fun t10_10 w11 =>
  gstep t4_0 false w11 (fun K => pickW t8_6 t10_10 (.bool false) w11 K) fun t11_12 w13 =>
  pickW t4_0 (.bool true) t11_12 w13 fun t12_14 w15 =>
  gstep t12_14 false w15 (fun K => K x0 w15) fun t14_16 w17 =>
  gstep t12_14 false w17 (fun K => binN Tryd.prog .eql 5 true t14_16 (.int .u8 95) w17 K) fun t15_18 w19 =>
  pickW t12_14 (.bool true) t15_18 w19 fun t16_20 w21 =>
  K t16_20 w21
theorem c54_eq (x0 : Value) (w : World) (K : VPost) : c54 x0 w K = WP true Tryd.prog 17 [] (bodyOf Tryd.f54) (argF [x0]) w [.tmp 2] K := by kernel_rfl
theorem c54_calls (x0 : Value) (w : World) (K : VPost) (h : c54 x0 w K) : Calls Tryd.prog 54 #[x0] w (retK K) :=
  calls_of_WP (c54_eq x0 w K) mixedG Tryd.func54 (by kernel_rfl) Tryd.ntmps54 (by kernel_rfl) (by kernel_rfl) h

/-- imprimatur/term.visit -/
def c44 (x0 x1 x2 : Value) (w : World) (K : VPost) : Prop :=
  boxW 27 x0 w fun t3_0 w1 =>
  loadW (some (true, 5)) t3_0 w1 fun t10_2 w3 =>
  dynW Tryd.prog x2 #[t10_2, x1] w3 fun t12_4 w5 =>
  unN Tryd.prog .not t12_4 w5 fun t13_6 w7 =>
  condW t13_6 (
  K (.bool false) w7) (
  bindX (endW Tryd.prog [.tmp 6] K) fun K8 =>
  bindX (seqX (fun _ w11 =>
  K (.bool true) w11) K8) fun K9 =>
  offW (some 4) t3_0 w7 fun t14_12 w13 =>
  loadW (some (false, 1)) t14_12 w13 fun t15_14 w15 =>
  lenW Tryd.prog (some true) #[25] 3 #[t15_14] w15 fun t16_16 w17 =>
  bindX (blkX 0 K9) fun K18 =>
  loopW (fun f19 w20 K21 =>
  binN Tryd.prog .lss 3 false (f19 17) (f19 16) w20 fun t18_22 w23 =>
  condW t18_22 (
  idxW (some (none, 5)) (f19 15) (f19 17) w23 fun t20_24 w25 =>
  loadW (some (true, 5)) t20_24 w25 fun t21_26 w27 =>
  allocW (zeroO Tryd.prog 27) 27 w27 fun t8_28 w29 =>
  storeW (some (true, 5)) t8_28 t21_26 w29 fun w30 =>
  loadW (some (true, 5)) t8_28 w30.drew fun t22_31 w32 =>
  offW (some 0) (f19 3) w32 fun t24_33 w34 =>
  loadW (some (false, 1)) t24_33 w34 fun t25_35 w36 =>
  fnW Tryd.prog 59 #[t25_35, (f19 17)] w36 fun t27_37 w38 =>
  (loadW (some (true, 5)) t8_28 w38 fun t22_39 w40 => t22_39 = t22_31 ∧ w40 = w38) ∧
  binN Tryd.prog .add 3 false (f19 1) t27_37 w38 fun t28_41 w42 =>
  fnW Tryd.prog 44 #[t22_31, t28_41, (f19 2)] w42 fun t30_43 w44 =>
  unN Tryd.prog .not t30_43 w44 fun t31_45 w46 =>
  condW t31_45 (
  K21 .ret (pf 33 (pf 33 (pf 33 (pf 33 (pf 33 (pf 33 (pf 33 (pf 33 (pf 33 (pf 33 (pf 33 (pf 33 (pf 33 (pf 33 (pf 33 (pf 33 (pf 33 f19 18 t18_22) 19 (f19 17)) 20 t20_24) 21 t21_26) 8 t8_28) 7 (f19 17)) 22 t22_31) 23 (f19 1)) 24 t24_33) 25 t25_35) 26 (f19 17)) 29 (f19 2)) 27 t27_37) 28 t28_41) 30 t30_43) 31 t31_45) 6 (.bool false)) w46) (
  binN Tryd.prog .add 3 true (f19 17) (.int .i64 1) w46 fun t32_47 w48 =>
  K21 .normal (pf 33 (pf 33 (pf 33 (pf 33 (pf 33 (pf 33 (pf 33 (pf 33 (pf 33 (pf 33 (pf 33 (pf 33 (pf 33 (pf 33 (pf 33 (pf 33 (pf 33 (pf 33 f19 18 t18_22) 19 (f19 17)) 20 t20_24) 21 t21_26) 8 t8_28) 7 (f19 17)) 22 t22_31) 23 (f19 1)) 24 t24_33) 25 t25_35) 26 (f19 17)) 29 (f19 2)) 27 t27_37) 28 t28_41) 30 t30_43) 31 t31_45) 32 t32_47) 17 t32_47) w48)) (
  K21 (.exit 0) (pf 33 f19 18 t18_22) w23)) (pf 33 (pf 33 (pf 33 (pf 33 (pf 33 (pf 33 (pf 33 (pf 33 (pf 33 (pf 33 (pf 33 (argF [x0, x1, x2]) 3 t3_0) 6 (.bool false)) 9 x2) 10 t10_2) 11 x1) 12 t12_4) 13 t13_6) 14 t14_12) 15 t15_14) 16 t16_16) 17 (.int .i64 0)) w17 K18)
theorem c44_eq (x0 x1 x2 : Value) (w : World) (K : VPost) : c44 x0 x1 x2 w K = WP true Tryd.prog 33 [(6, 288, [0, 0, 0, 4, 0, 24, 34, 0, 225, 256], [0, 0, 0, 4, 0, 28, 62, 0, 255, 511])] (bodyOf Tryd.f44) (argF [x0, x1, x2]) w [.tmp 6] K := by kernel_rfl
theorem c44_calls (x0 x1 x2 : Value) (w : World) (K : VPost) (h : c44 x0 x1 x2 w K) : Calls Tryd.prog 44 #[x0, x1, x2] w (retK K) :=
  calls_of_WP (c44_eq x0 x1 x2 w K) mixedG Tryd.func44 (by kernel_rfl) Tryd.ntmps44 (by kernel_rfl) (by kernel_rfl) h

end Go.Proofs.YtbaddpnlokmldaaDoor
