/- The clean forms of some of the program's functions, written by a program of ours; each is the model's own by the kernel's reckoning. -/
import Derived.Test.YtbaddpnlokmldaaDoorGB
import Derived.KernelRfl
namespace Go.Proofs.YtbaddpnlokmldaaDoor
open Go
set_option maxRecDepth 100000

/-- slices.Clone[[]imprimatur/api.Level,imprimatur/api.Level] -/
def c48 (x0 : Value) (w : World) (K : VPost) : Prop :=
  binW Tryd.prog .eql 24 true x0 (.slice none 0 0) w fun t4_0 w1 =>
  condW t4_0 (
  K (.slice none 0 0) w1) (
  insW Tryd.prog (Instr.buildSlice 24 0 #[]) w1 fun t5_2 w3 =>
  insW Tryd.prog (Builtin.append_ #[24, 24] 24 #[t5_2, x0]) w3 fun t7_4 w5 =>
  K t7_4 w5)
theorem c48_eq (x0 : Value) (w : World) (K : VPost) : c48 x0 w K = WP true Tryd.prog 8 [] (bodyOf Tryd.f48) (argF [x0]) w [.tmp 2] K := by kernel_rfl
theorem c48_calls (x0 : Value) (w : World) (K : VPost) (h : c48 x0 w K) : Calls Tryd.prog 48 #[x0] w (retK K) :=
  calls_of_WP (c48_eq x0 w K) mixedG Tryd.func48 (by kernel_rfl) Tryd.ntmps48 (by kernel_rfl) (by kernel_rfl) h

/-- slices.Equal[[]imprimatur/api.Level,imprimatur/api.Level] -/
def c46 (x0 x1 : Value) (w : World) (K : VPost) : Prop :=
  lenW Tryd.prog (some true) #[24] 3 #[x0] w fun t7_0 w1 =>
  lenW Tryd.prog (some true) #[24] 3 #[x1] w1 fun t9_2 w3 =>
  binN Tryd.prog .neq 3 false t7_0 t9_2 w3 fun t10_4 w5 =>
  condW t10_4 (
  K (.bool false) w5) (
  bindX (endW Tryd.prog [.tmp 4] K) fun K6 =>
  bindX (seqX (fun _ w9 =>
  K (.bool true) w9) K6) fun K7 =>
  lenW Tryd.prog (some true) #[24] 3 #[x0] w5 fun t12_10 w11 =>
  bindX (blkX 0 K7) fun K12 =>
  loopW (fun f13 w14 K15 =>
  binN Tryd.prog .lss 3 false (f13 13) (f13 12) w14 fun t14_16 w17 =>
  condW t14_16 (
  idxW (some (none, 5)) (f13 0) (f13 13) w17.drew fun t18_18 w19 =>
  loadW (some (true, 5)) t18_18 w19 fun t19_20 w21 =>
  idxW (some (none, 5)) (f13 1) (f13 13) w21 fun t22_22 w23 =>
  loadW (some (true, 5)) t22_22 w23 fun t23_24 w25 =>
  binW Tryd.prog .neq 48 false t19_20 t23_24 w25 fun t24_26 w27 =>
  w27 = w25 ∧
  condW t24_26 (
  K15 .ret (pf 26 (pf 26 (pf 26 (pf 26 (pf 26 (pf 26 (pf 26 (pf 26 (pf 26 (pf 26 (pf 26 (pf 26 (pf 26 f13 14 t14_16) 15 (f13 13)) 5 (f13 13)) 16 (f13 0)) 17 (f13 13)) 18 t18_18) 19 t19_20) 20 (f13 1)) 21 (f13 13)) 22 t22_22) 23 t23_24) 24 t24_26) 4 (.bool false)) w27) (
  binN Tryd.prog .add 3 true (f13 13) (.int .i64 1) w27 fun t25_28 w29 =>
  K15 .normal (pf 26 (pf 26 (pf 26 (pf 26 (pf 26 (pf 26 (pf 26 (pf 26 (pf 26 (pf 26 (pf 26 (pf 26 (pf 26 (pf 26 f13 14 t14_16) 15 (f13 13)) 5 (f13 13)) 16 (f13 0)) 17 (f13 13)) 18 t18_18) 19 t19_20) 20 (f13 1)) 21 (f13 13)) 22 t22_22) 23 t23_24) 24 t24_26) 25 t25_28) 13 t25_28) w29)) (
  K15 (.exit 0) (pf 26 f13 14 t14_16) w17)) (pf 26 (pf 26 (pf 26 (pf 26 (pf 26 (pf 26 (pf 26 (pf 26 (pf 26 (argF [x0, x1]) 4 (.bool false)) 6 x0) 7 t7_0) 8 x1) 9 t9_2) 10 t10_4) 11 x0) 12 t12_10) 13 (.int .i64 0)) w11 K12)
theorem c46_eq (x0 x1 : Value) (w : World) (K : VPost) : c46 x0 x1 w K = WP true Tryd.prog 26 [(6, 0, [0, 0, 3, 4, 0, 0, 48, 64, 136], [0, 0, 3, 7, 0, 0, 48, 112, 255])] (bodyOf Tryd.f46) (argF [x0, x1]) w [.tmp 4] K := by kernel_rfl
theorem c46_calls (x0 x1 : Value) (w : World) (K : VPost) (h : c46 x0 x1 w K) : Calls Tryd.prog 46 #[x0, x1] w (retK K) :=
  calls_of_WP (c46_eq x0 x1 w K) mixedG Tryd.func46 (by kernel_rfl) Tryd.ntmps46 (by kernel_rfl) (by kernel_rfl) h

/-- slices.EqualFunc[[]imprimatur/api.Term,[]imprimatur/api.Term,imprimatur/api.Term,imprimatur/api.Term] -/
def c47 (x0 x1 x2 : Value) (w : World) (K : VPost) : Prop :=
  lenW Tryd.prog (some true) #[25] 3 #[x0] w fun t11_0 w1 =>
  lenW Tryd.prog (some true) #[25] 3 #[x1] w1 fun t13_2 w3 =>
  binN Tryd.prog .neq 3 false t11_0 t13_2 w3 fun t14_4 w5 =>
  condW t14_4 (
  K (.bool false) w5) (
  bindX (endW Tryd.prog [.tmp 6] K) fun K6 =>
  bindX (seqX (fun _ w9 =>
  K (.bool true) w9) K6) fun K7 =>
  lenW Tryd.prog (some true) #[25] 3 #[x0] w5 fun t16_10 w11 =>
  bindX (blkX 0 K7) fun K12 =>
  loopW (fun f13 w14 K15 =>
  binN Tryd.prog .lss 3 false (f13 17) (f13 16) w14 fun t18_16 w17 =>
  condW t18_16 (
  idxW (some (none, 5)) (f13 15) (f13 17) w17 fun t20_18 w19 =>
  loadW (some (true, 5)) t20_18 w19 fun t21_20 w21 =>
  allocW (zeroO Tryd.prog 27) 27 w21 fun t8_22 w23 =>
  storeW (some (true, 5)) t8_22 t21_20 w23 fun w24 =>
  idxW (some (none, 5)) (f13 1) (f13 17) w24 fun t24_25 w26 =>
  loadW (some (true, 5)) t24_25 w26 fun t25_27 w28 =>
  allocW (zeroO Tryd.prog 27) 27 w28 fun t9_29 w30 =>
  storeW (some (true, 5)) t9_29 t25_27 w30 fun w31 =>
  loadW (some (true, 5)) t8_22 w31 fun t27_32 w33 =>
  loadW (some (true, 5)) t9_29 w33 fun t28_34 w35 =>
  dynW Tryd.prog (f13 2) #[t27_32, t28_34] w35 fun t29_36 w37 =>
  unN Tryd.prog .not t29_36 w37 fun t30_38 w39 =>
  condW t30_38 (
  K15 .ret (pf 32 (pf 32 (pf 32 (pf 32 (pf 32 (pf 32 (pf 32 (pf 32 (pf 32 (pf 32 (pf 32 (pf 32 (pf 32 (pf 32 (pf 32 (pf 32 (pf 32 f13 18 t18_16) 19 (f13 17)) 20 t20_18) 21 t21_20) 8 t8_22) 7 (f13 17)) 22 (f13 1)) 23 (f13 17)) 24 t24_25) 25 t25_27) 9 t9_29) 26 (f13 2)) 27 t27_32) 28 t28_34) 29 t29_36) 30 t30_38) 6 (.bool false)) w39) (
  binN Tryd.prog .add 3 true (f13 17) (.int .i64 1) w39 fun t31_40 w41 =>
  K15 .normal (pf 32 (pf 32 (pf 32 (pf 32 (pf 32 (pf 32 (pf 32 (pf 32 (pf 32 (pf 32 (pf 32 (pf 32 (pf 32 (pf 32 (pf 32 (pf 32 (pf 32 (pf 32 f13 18 t18_16) 19 (f13 17)) 20 t20_18) 21 t21_20) 8 t8_22) 7 (f13 17)) 22 (f13 1)) 23 (f13 17)) 24 t24_25) 25 t25_27) 9 t9_29) 26 (f13 2)) 27 t27_32) 28 t28_34) 29 t29_36) 30 t30_38) 31 t31_40) 17 t31_40) w41)) (
  K15 (.exit 0) (pf 32 f13 18 t18_16) w17)) (pf 32 (pf 32 (pf 32 (pf 32 (pf 32 (pf 32 (pf 32 (pf 32 (pf 32 (argF [x0, x1, x2]) 6 (.bool false)) 10 x0) 11 t11_0) 12 x1) 13 t13_2) 14 t14_4) 15 x0) 16 t16_10) 17 (.int .i64 0)) w11 K12)
theorem c47_eq (x0 x1 x2 : Value) (w : World) (K : VPost) : c47 x0 x1 x2 w K = WP true Tryd.prog 32 [] (bodyOf Tryd.f47) (argF [x0, x1, x2]) w [.tmp 6] K := by kernel_rfl
theorem c47_calls (x0 x1 x2 : Value) (w : World) (K : VPost) (h : c47 x0 x1 x2 w K) : Calls Tryd.prog 47 #[x0, x1, x2] w (retK K) :=
  calls_of_WP (c47_eq x0 x1 x2 w K) mixedG Tryd.func47 (by kernel_rfl) Tryd.ntmps47 (by kernel_rfl) (by kernel_rfl) h

/-- slices.ContainsFunc[[]imprimatur/api.Level,imprimatur/api.Level] -/
def c71 (x0 x1 : Value) (w : World) (K : VPost) : Prop :=
  fnW Tryd.prog 92 #[x0, x1] w fun t7_0 w1 =>
  binN Tryd.prog .geq 3 true t7_0 (.int .i64 0) w1 fun t8_2 w3 =>
  K t8_2 w3
theorem c71_eq (x0 x1 : Value) (w : World) (K : VPost) : c71 x0 x1 w K = WP true Tryd.prog 9 [] (bodyOf Tryd.f71) (argF [x0, x1]) w [.tmp 4] K := by kernel_rfl
theorem c71_calls (x0 x1 : Value) (w : World) (K : VPost) (h : c71 x0 x1 w K) : Calls Tryd.prog 71 #[x0, x1] w (retK K) :=
  calls_of_WP (c71_eq x0 x1 w K) mixedG Tryd.func71 (by kernel_rfl) Tryd.ntmps71 (by kernel_rfl) (by kernel_rfl) h

/-- slices.IndexFunc[[]imprimatur/api.Level,imprimatur/api.Level] -/
def c92 (x0 x1 : Value) (w : World) (K : VPost) : Prop :=
  bindX (endW Tryd.prog [.tmp 4] K) fun K0 =>
  bindX (seqX (fun _ w3 =>
  K (.int .i64 (-1)) w3) K0) fun K1 =>
  lenW Tryd.prog (some true) #[24] 3 #[x0] w fun t7_4 w5 =>
  bindX (blkX 0 K1) fun K6 =>
  loopW (fun f7 w8 K9 =>
  binN Tryd.prog .lss 3 false (f7 8) (f7 7) w8 fun t9_10 w11 =>
  condW t9_10 (
  idxW (some (none, 5)) (f7 0) (f7 8) w11 fun t14_12 w13 =>
  loadW (some (true, 5)) t14_12 w13 fun t15_14 w15 =>
  dynW Tryd.prog (f7 1) #[t15_14] w15 fun t16_16 w17 =>
  condW t16_16 (
  K9 .ret (pf 19 (pf 19 (pf 19 (pf 19 (pf 19 (pf 19 (pf 19 (pf 19 (pf 19 (pf 19 (pf 19 f7 9 t9_10) 10 (f7 8)) 5 (f7 8)) 11 (f7 1)) 12 (f7 0)) 13 (f7 8)) 14 t14_12) 15 t15_14) 16 t16_16) 17 (f7 8)) 4 (f7 8)) w17) (
  binN Tryd.prog .add 3 true (f7 8) (.int .i64 1) w17 fun t18_18 w19 =>
  K9 .normal (pf 19 (pf 19 (pf 19 (pf 19 (pf 19 (pf 19 (pf 19 (pf 19 (pf 19 (pf 19 (pf 19 f7 9 t9_10) 10 (f7 8)) 5 (f7 8)) 11 (f7 1)) 12 (f7 0)) 13 (f7 8)) 14 t14_12) 15 t15_14) 16 t16_16) 18 t18_18) 8 t18_18) w19)) (
  K9 (.exit 0) (pf 19 f7 9 t9_10) w11)) (pf 19 (pf 19 (pf 19 (pf 19 (argF [x0, x1]) 4 (.int .i64 0)) 6 x0) 7 t7_4) 8 (.int .i64 0)) w5 K6
theorem c92_eq (x0 x1 : Value) (w : World) (K : VPost) : c92 x0 x1 w K = WP true Tryd.prog 19 [] (bodyOf Tryd.f92) (argF [x0, x1]) w [.tmp 4] K := by kernel_rfl
theorem c92_calls (x0 x1 : Value) (w : World) (K : VPost) (h : c92 x0 x1 w K) : Calls Tryd.prog 92 #[x0, x1] w (retK K) :=
  calls_of_WP (c92_eq x0 x1 w K) mixedG Tryd.func92 (by kernel_rfl) Tryd.ntmps92 (by kernel_rfl) (by kernel_rfl) h

/-- slices.Reverse[[]imprimatur/api.Term,imprimatur/api.Term] -/
def c39 (x0 : Value) (w : World) (K : VPost) : Prop :=
  lenW Tryd.prog (some true) #[25] 3 #[x0] w fun t5_0 w1 =>
  binN Tryd.prog .sub 3 true t5_0 (.int .i64 1) w1 fun t6_2 w3 =>
  bindX (endW Tryd.prog [] K) fun K4 =>
  bindX (blkX 0 K4) fun K5 =>
  loopW (fun f6 w7 K8 =>
  binN Tryd.prog .lss 3 false (f6 2) (f6 3) w7 fun t9_9 w10 =>
  condW t9_9 (
  idxW (some (none, 5)) (f6 0) (f6 3) w10.drew fun t20_11 w12 =>
  loadW (some (true, 5)) t20_11 w12 fun t21_13 w14 =>
  idxW (some (none, 5)) (f6 0) (f6 2) w14 fun t24_15 w16 =>
  loadW (some (true, 5)) t24_15 w16 fun t25_17 w18 =>
  idxW (some (none, 5)) (f6 0) (f6 2) w18 fun t26_19 w20 =>
  storeW (some (true, 5)) t26_19 t21_13 w20 fun w21 =>
  idxW (some (none, 5)) (f6 0) (f6 3) w21 fun t27_22 w23 =>
  storeW (some (true, 5)) t27_22 t25_17 w23 fun w24 =>
  binN Tryd.prog .add 3 true (f6 2) (.int .i64 1) w24 fun t11_25 w26 =>
  binN Tryd.prog .sub 3 true (f6 3) (.int .i64 1) w26 fun t13_27 w28 =>
  K8 .normal (pf 28 (pf 28 (pf 28 (pf 28 (pf 28 (pf 28 (pf 28 (pf 28 (pf 28 (pf 28 (pf 28 (pf 28 (pf 28 (pf 28 (pf 28 (pf 28 (pf 28 (pf 28 (pf 28 (pf 28 (pf 28 (pf 28 (pf 28 f6 7 (f6 2)) 8 (f6 3)) 9 t9_9) 14 (f6 0)) 15 (f6 2)) 16 (f6 0)) 17 (f6 3)) 18 (f6 0)) 19 (f6 3)) 20 t20_11) 21 t21_13) 22 (f6 0)) 23 (f6 2)) 24 t24_15) 25 t25_17) 26 t26_19) 27 t27_22) 10 (f6 2)) 11 t11_25) 12 (f6 3)) 13 t13_27) 2 t11_25) 3 t13_27) w28) (
  K8 (.exit 0) (pf 28 (pf 28 (pf 28 f6 7 (f6 2)) 8 (f6 3)) 9 t9_9) w10)) (pf 28 (pf 28 (pf 28 (pf 28 (pf 28 (argF [x0]) 4 x0) 5 t5_0) 6 t6_2) 2 (.int .i64 0)) 3 t6_2) w3 K5
theorem c39_eq (x0 : Value) (w : World) (K : VPost) : c39 x0 w K = WP true Tryd.prog 28 [(3, 40960, [0, 0, 0, 0, 0, 0, 48, 64, 0, 0, 768, 1024, 2291, 6387, 16383, 32767], [0, 0, 0, 0, 0, 0, 48, 112, 0, 0, 768, 1792, 4083, 8179, 16383, 32767])] (bodyOf Tryd.f39) (argF [x0]) w [] K := by kernel_rfl
theorem c39_calls (x0 : Value) (w : World) (K : VPost) (h : c39 x0 w K) : Calls Tryd.prog 39 #[x0] w (retK K) :=
  calls_of_WP (c39_eq x0 w K) mixedG Tryd.func39 (by kernel_rfl) Tryd.ntmps39 (by kernel_rfl) (by kernel_rfl) h

/-- slices.Backward[[]imprimatur/api.Term,imprimatur/api.Term] -/
def c37 (x0 : Value) (w : World) (K : VPost) : Prop :=
  boxW 25 x0 w fun t1_0 w1 =>
  insW Tryd.prog (Instr.makeFunc (.func 55) #[] #[t1_0]) w1 fun t3_2 w3 =>
  K t3_2 w3
theorem c37_eq (x0 : Value) (w : World) (K : VPost) : c37 x0 w K = WP true Tryd.prog 4 [] (bodyOf Tryd.f37) (argF [x0]) w [.tmp 2] K := by kernel_rfl
theorem c37_calls (x0 : Value) (w : World) (K : VPost) (h : c37 x0 w K) : Calls Tryd.prog 37 #[x0] w (retK K) :=
  calls_of_WP (c37_eq x0 w K) mixedG Tryd.func37 (by kernel_rfl) Tryd.ntmps37 (by kernel_rfl) (by kernel_rfl) h

/-- slices.Backward[[]imprimatur/api.Term,imprimatur/api.Term]$1 -/
def c55 (x0 x1 : Value) (w : World) (K : VPost) : Prop :=
  loadW (some (false, 1)) x1 w fun t4_0 w1 =>
  lenW Tryd.prog (some true) #[25] 3 #[t4_0] w1 fun t5_2 w3 =>
  binN Tryd.prog .sub 3 true t5_2 (.int .i64 1) w3 fun t6_4 w5 =>
  bindX (endW Tryd.prog [] K) fun K6 =>
  bindX (blkX 0 K6) fun K7 =>
  loopW (fun f8 w9 K10 =>
  binN Tryd.prog .geq 3 true (f8 3) (.int .i64 0) w9 fun t8_11 w12 =>
  condW t8_11 (
  loadW (some (false, 1)) (f8 1) w12 fun t13_13 w14 =>
  idxW (some (none, 5)) t13_13 (f8 3) w14 fun t15_15 w16 =>
  loadW (some (true, 5)) t15_15 w16 fun t16_17 w18 =>
  dynW Tryd.prog (f8 0) #[(f8 3), t16_17] w18 fun t17_19 w20 =>
  unN Tryd.prog .not t17_19 w20 fun t18_21 w22 =>
  condW t18_21 (
  K10 .ret (pf 19 (pf 19 (pf 19 (pf 19 (pf 19 (pf 19 (pf 19 (pf 19 (pf 19 (pf 19 f8 7 (f8 3)) 8 t8_11) 11 (f8 0)) 12 (f8 3)) 13 t13_13) 14 (f8 3)) 15 t15_15) 16 t16_17) 17 t17_19) 18 t18_21) w22) (
  binN Tryd.prog .sub 3 true (f8 3) (.int .i64 1) w22 fun t10_23 w24 =>
  K10 .normal (pf 19 (pf 19 (pf 19 (pf 19 (pf 19 (pf 19 (pf 19 (pf 19 (pf 19 (pf 19 (pf 19 (pf 19 (pf 19 f8 7 (f8 3)) 8 t8_11) 11 (f8 0)) 12 (f8 3)) 13 t13_13) 14 (f8 3)) 15 t15_15) 16 t16_17) 17 t17_19) 18 t18_21) 9 (f8 3)) 10 t10_23) 3 t10_23) w24)) (
  K10 (.exit 0) (pf 19 (pf 19 f8 7 (f8 3)) 8 t8_11) w12)) (pf 19 (pf 19 (pf 19 (pf 19 (argF [x0, x1]) 4 t4_0) 5 t5_2) 6 t6_4) 3 t6_4) w5 K7
theorem c55_eq (x0 x1 : Value) (w : World) (K : VPost) : c55 x0 x1 w K = WP true Tryd.prog 19 [] (bodyOf Tryd.f55) (argF [x0, x1]) w [] K := by kernel_rfl
theorem c55_calls (x0 x1 : Value) (w : World) (K : VPost) (h : c55 x0 x1 w K) : Calls Tryd.prog 55 #[x0, x1] w (retK K) :=
  calls_of_WP (c55_eq x0 x1 w K) mixedG Tryd.func55 (by kernel_rfl) Tryd.ntmps55 (by kernel_rfl) (by kernel_rfl) h

/-- slices.Sort[[]string,string] -/
def c49 (x0 : Value) (w : World) (K : VPost) : Prop :=
  lenW Tryd.prog (some true) #[52] 3 #[x0] w fun t4_0 w1 =>
  convN Tryd.prog 3 83 t4_0 w1 fun t8_2 w3 =>
  fnW Tryd.prog 64 #[t8_2] w3 fun t9_4 w5 =>
  fnW Tryd.prog 63 #[x0, (.int .i64 0), t4_0, t9_4] w5 fun _ w7 =>
  K (.tuple #[]) w7
theorem c49_eq (x0 : Value) (w : World) (K : VPost) : c49 x0 w K = WP true Tryd.prog 11 [] (bodyOf Tryd.f49) (argF [x0]) w [] K := by kernel_rfl
theorem c49_calls (x0 : Value) (w : World) (K : VPost) (h : c49 x0 w K) : Calls Tryd.prog 49 #[x0] w (retK K) :=
  calls_of_WP (c49_eq x0 w K) mixedG Tryd.func49 (by kernel_rfl) Tryd.ntmps49 (by kernel_rfl) (by kernel_rfl) h

/-- slices.Compact[[]string,string] -/
def c50 (x0 : Value) (w : World) (K : VPost) : Prop :=
  lenW Tryd.prog (some true) #[52] 3 #[x0] w fun t7_0 w1 =>
  binN Tryd.prog .lss 3 true t7_0 (.int .i64 2) w1 fun t8_2 w3 =>
  condW t8_2 (
  K x0 w3) (
  bindX (endW Tryd.prog [.tmp 2] K) fun K4 =>
  bindX (seqX (fun f6 w7 =>
  K (f6 0) w7) K4) fun K5 =>
  bindX (blkX 0 K5) fun K8 =>
  loopW (fun f9 w10 K11 =>
  lenW Tryd.prog (some true) #[52] 3 #[(f9 0)] w10 fun t12_12 w13 =>
  binN Tryd.prog .lss 3 false (f9 3) t12_12 w13 fun t13_14 w15 =>
  condW t13_14 (
  bindX (seqX (fun f17 w18 =>
  binN Tryd.prog .add 3 true (f17 3) (.int .i64 1) w18 fun t15_19 w20 =>
  K11 .normal (pf 61 (pf 61 (pf 61 f17 14 (f17 3)) 15 t15_19) 3 t15_19) w20) K11) fun K16 =>
  bindX (blkX 1 K16) fun K21 =>
  idxW (some (none, 1)) (f9 0) (f9 3) w15.drew fun t18_22 w23 =>
  loadW (some (false, 1)) t18_22 w23 fun t19_24 w25 =>
  binN Tryd.prog .sub 3 true (f9 3) (.int .i64 1) w25 fun t22_26 w27 =>
  idxW (some (none, 1)) (f9 0) t22_26 w27 fun t23_28 w29 =>
  loadW (some (false, 1)) t23_28 w29 fun t24_30 w31 =>
  binW Tryd.prog .eql 9 false t19_24 t24_30 w31 fun t25_32 w33 =>
  w33 = w31 ∧
  condW t25_32 (
  sliceW (.sl 1) (f9 0) (some (f9 3)) none none w33 fun t28_34 w35 =>
  bindX (seqX (fun f37 w38 =>
  sliceW (.sl 1) (f37 0) (some (f37 3)) none none w38 fun t56_39 w40 =>
  insW Tryd.prog (Builtin.clear_ #[52] 0 #[t56_39]) w40 fun _ w42 =>
  sliceW (.sl 1) (f37 0) none (some (f37 3)) none w42 fun t59_43 w44 =>
  K11 .ret (pf 61 (pf 61 (pf 61 (pf 61 (pf 61 (pf 61 (pf 61 f37 54 (f37 0)) 55 (f37 3)) 56 t56_39) 57 (f37 0)) 58 (f37 3)) 59 t59_43) 2 t59_43) w44) K21) fun K36 =>
  bindX (blkX 2 K36) fun K45 =>
  loopW (fun f46 w47 K48 =>
  lenW Tryd.prog (some true) #[52] 3 #[(f46 4)] w47 fun t31_49 w50 =>
  binN Tryd.prog .lss 3 false (f46 5) t31_49 w50 fun t32_51 w52 =>
  condW t32_51 (
  bindX (seqX (fun f54 w55 =>
  binN Tryd.prog .add 3 true (f54 5) (.int .i64 1) w55 fun t34_56 w57 =>
  K48 .normal (pf 61 (pf 61 (pf 61 f54 33 (f54 5)) 34 t34_56) 5 t34_56) w57) K48) fun K53 =>
  bindX (blkX 3 K53) fun _ =>
  idxW (some (none, 1)) (f46 4) (f46 5) w52.drew fun t37_59 w60 =>
  loadW (some (false, 1)) t37_59 w60 fun t38_61 w62 =>
  binN Tryd.prog .sub 3 true (f46 5) (.int .i64 1) w62 fun t41_63 w64 =>
  idxW (some (none, 1)) (f46 4) t41_63 w64 fun t42_65 w66 =>
  loadW (some (false, 1)) t42_65 w66 fun t43_67 w68 =>
  binW Tryd.prog .neq 9 false t38_61 t43_67 w68 fun t44_69 w70 =>
  w70 = w68 ∧
  condW t44_69 (
  idxW (some (none, 1)) (f46 4) (f46 5) w70 fun t49_71 w72 =>
  loadW (some (false, 1)) t49_71 w72 fun t50_73 w74 =>
  idxW (some (none, 1)) (f46 0) (f46 3) w74 fun t51_75 w76 =>
  storeW (some (false, 1)) t51_75 t50_73 w76 fun w77 =>
  binN Tryd.prog .add 3 true (f46 3) (.int .i64 1) w77 fun t53_78 w79 =>
  K53 .normal (pf 61 (pf 61 (pf 61 (pf 61 (pf 61 (pf 61 (pf 61 (pf 61 (pf 61 (pf 61 (pf 61 (pf 61 (pf 61 (pf 61 (pf 61 (pf 61 (pf 61 (pf 61 (pf 61 (pf 61 (pf 61 (pf 61 (pf 61 (pf 61 f46 29 (f46 5)) 30 (f46 4)) 31 t31_49) 32 t32_51) 35 (f46 4)) 36 (f46 5)) 37 t37_59) 38 t38_61) 39 (f46 4)) 40 (f46 5)) 41 t41_63) 42 t42_65) 43 t43_67) 44 t44_69) 45 (f46 0)) 46 (f46 3)) 47 (f46 4)) 48 (f46 5)) 49 t49_71) 50 t50_73) 51 t51_75) 52 (f46 3)) 53 t53_78) 3 t53_78) w79) (
  K53 .normal (pf 61 (pf 61 (pf 61 (pf 61 (pf 61 (pf 61 (pf 61 (pf 61 (pf 61 (pf 61 (pf 61 (pf 61 (pf 61 (pf 61 f46 29 (f46 5)) 30 (f46 4)) 31 t31_49) 32 t32_51) 35 (f46 4)) 36 (f46 5)) 37 t37_59) 38 t38_61) 39 (f46 4)) 40 (f46 5)) 41 t41_63) 42 t42_65) 43 t43_67) 44 t44_69) w70)) (
  K48 (.exit 2) (pf 61 (pf 61 (pf 61 (pf 61 f46 29 (f46 5)) 30 (f46 4)) 31 t31_49) 32 t32_51) w52)) (pf 61 (pf 61 (pf 61 (pf 61 (pf 61 (pf 61 (pf 61 (pf 61 (pf 61 (pf 61 (pf 61 (pf 61 (pf 61 (pf 61 (pf 61 (pf 61 (pf 61 (pf 61 (pf 61 f9 10 (f9 3)) 11 (f9 0)) 12 t12_12) 13 t13_14) 16 (f9 0)) 17 (f9 3)) 18 t18_22) 19 t19_24) 20 (f9 0)) 21 (f9 3)) 22 t22_26) 23 t23_28) 24 t24_30) 25 t25_32) 26 (f9 0)) 27 (f9 3)) 28 t28_34) 4 t28_34) 5 (.int .i64 1)) w35 K45) (
  K16 .normal (pf 61 (pf 61 (pf 61 (pf 61 (pf 61 (pf 61 (pf 61 (pf 61 (pf 61 (pf 61 (pf 61 (pf 61 (pf 61 (pf 61 f9 10 (f9 3)) 11 (f9 0)) 12 t12_12) 13 t13_14) 16 (f9 0)) 17 (f9 3)) 18 t18_22) 19 t19_24) 20 (f9 0)) 21 (f9 3)) 22 t22_26) 23 t23_28) 24 t24_30) 25 t25_32) w33)) (
  K11 (.exit 0) (pf 61 (pf 61 (pf 61 (pf 61 f9 10 (f9 3)) 11 (f9 0)) 12 t12_12) 13 t13_14) w15)) (pf 61 (pf 61 (pf 61 (pf 61 (pf 61 (argF [x0]) 2 (.slice none 0 0)) 6 x0) 7 t7_0) 8 t8_2) 3 (.int .i64 1)) w3 K8)
theorem c50_eq (x0 : Value) (w : World) (K : VPost) : c50 x0 w K = WP true Tryd.prog 61 [(6, 0, [0, 0, 3, 4, 0, 0, 32, 80, 128, 264], [0, 0, 3, 7, 0, 0, 32, 112, 240, 511]), (11, 0, [0, 0, 3, 4, 0, 0, 32, 80, 128, 264], [0, 0, 3, 7, 0, 0, 32, 112, 240, 511])] (bodyOf Tryd.f50) (argF [x0]) w [.tmp 2] K := by kernel_rfl
theorem c50_calls (x0 : Value) (w : World) (K : VPost) (h : c50 x0 w K) : Calls Tryd.prog 50 #[x0] w (retK K) :=
  calls_of_WP (c50_eq x0 w K) mixedG Tryd.func50 (by kernel_rfl) Tryd.ntmps50 (by kernel_rfl) (by kernel_rfl) h

/-- strings.Contains -/
def c32 (x0 x1 : Value) (w : World) (K : VPost) : Prop :=
  fnW Tryd.prog 51 #[x0, x1] w fun t7_0 w1 =>
  binN Tryd.prog .geq 3 true t7_0 (.int .i64 0) w1 fun t8_2 w3 =>
  K t8_2 w3
theorem c32_eq (x0 x1 : Value) (w : World) (K : VPost) : c32 x0 x1 w K = WP true Tryd.prog 9 [] (bodyOf Tryd.f32) (argF [x0, x1]) w [.tmp 4] K := by kernel_rfl
theorem c32_calls (x0 x1 : Value) (w : World) (K : VPost) (h : c32 x0 x1 w K) : Calls Tryd.prog 32 #[x0, x1] w (retK K) :=
  calls_of_WP (c32_eq x0 x1 w K) mixedG Tryd.func32 (by kernel_rfl) Tryd.ntmps32 (by kernel_rfl) (by kernel_rfl) h

/-- strings.Index -/
def c51 (x0 x1 : Value) (w : World) (K : VPost) : Prop :=
  fnW Tryd.prog 65 #[x0, x1] w fun t7_0 w1 =>
  K t7_0 w1
theorem c51_eq (x0 x1 : Value) (w : World) (K : VPost) : c51 x0 x1 w K = WP true Tryd.prog 8 [] (bodyOf Tryd.f51) (argF [x0, x1]) w [.tmp 4] K := by kernel_rfl
theorem c51_calls (x0 x1 : Value) (w : World) (K : VPost) (h : c51 x0 x1 w K) : Calls Tryd.prog 51 #[x0, x1] w (retK K) :=
  calls_of_WP (c51_eq x0 x1 w K) mixedG Tryd.func51 (by kernel_rfl) Tryd.ntmps51 (by kernel_rfl) (by kernel_rfl) h

/-- strings.SplitSeq -/
def c33 (x0 x1 : Value) (w : World) (K : VPost) : Prop :=
  fnW Tryd.prog 52 #[x0, x1, (.int .i64 0)] w fun t7_0 w1 =>
  K t7_0 w1
theorem c33_eq (x0 x1 : Value) (w : World) (K : VPost) : c33 x0 x1 w K = WP true Tryd.prog 8 [] (bodyOf Tryd.f33) (argF [x0, x1]) w [.tmp 4] K := by kernel_rfl
theorem c33_calls (x0 x1 : Value) (w : World) (K : VPost) (h : c33 x0 x1 w K) : Calls Tryd.prog 33 #[x0, x1] w (retK K) :=
  calls_of_WP (c33_eq x0 x1 w K) mixedG Tryd.func33 (by kernel_rfl) Tryd.ntmps33 (by kernel_rfl) (by kernel_rfl) h

/-- strings.splitSeq -/
def c52 (x0 x1 x2 : Value) (w : World) (K : VPost) : Prop :=
  boxW 9 x0 w fun t3_0 w1 =>
  boxW 9 x1 w1 fun t4_2 w3 =>
  boxW 3 x2 w3 fun t5_4 w5 =>
  insW Tryd.prog (Instr.makeFunc (.func 66) #[] #[t4_2, t3_0, t5_4]) w5 fun t7_6 w7 =>
  K t7_6 w7
theorem c52_eq (x0 x1 x2 : Value) (w : World) (K : VPost) : c52 x0 x1 x2 w K = WP true Tryd.prog 8 [] (bodyOf Tryd.f52) (argF [x0, x1, x2]) w [.tmp 6] K := by kernel_rfl
theorem c52_calls (x0 x1 x2 : Value) (w : World) (K : VPost) (h : c52 x0 x1 x2 w K) : Calls Tryd.prog 52 #[x0, x1, x2] w (retK K) :=
  calls_of_WP (c52_eq x0 x1 x2 w K) mixedG Tryd.func52 (by kernel_rfl) Tryd.ntmps52 (by kernel_rfl) (by kernel_rfl) h

/-- strings.splitSeq$1 -/
def c66 (x0 x1 x2 x3 : Value) (w : World) (K : VPost) : Prop :=
  bindX (endW Tryd.prog [] K) fun K0 =>
  bindX (seqX (fun f2 w3 =>
  bindX (seqX (fun f5 w6 =>
  loadW (some (false, 1)) (f5 2) w6 fun t50_7 w8 =>
  dynW Tryd.prog (f5 0) #[t50_7] w8 fun t51_9 w10 =>
  K0 .normal (pf 52 (pf 52 (pf 52 f5 49 (f5 0)) 50 t50_7) 51 t51_9) w10) K0) fun K4 =>
  bindX (blkX 2 K4) fun K11 =>
  loopW (fun f12 w13 K14 =>
  loadW (some (false, 1)) (f12 2) w13 fun t29_15 w16 =>
  loadW (some (false, 1)) (f12 1) w16 fun t30_17 w18 =>
  fnW Tryd.prog 51 #[t29_15, t30_17] w18 fun t31_19 w20 =>
  binN Tryd.prog .lss 3 true t31_19 (.int .i64 0) w20 fun t33_21 w22 =>
  condW t33_21 (
  K14 (.exit 2) (pf 52 (pf 52 (pf 52 (pf 52 (pf 52 (pf 52 f12 29 t29_15) 30 t30_17) 31 t31_19) 7 t31_19) 32 t31_19) 33 t33_21) w22) (
  loadW (some (false, 1)) (f12 2) w22 fun t34_23 w24 =>
  loadW (some (false, 1)) (f12 3) w24 fun t36_25 w26 =>
  binN Tryd.prog .add 3 false t31_19 t36_25 w26 fun t37_27 w28 =>
  sliceW .str t34_23 none (some t37_27) none w28 fun t38_29 w30 =>
  dynW Tryd.prog (f12 0) #[t38_29] w30 fun t41_31 w32 =>
  unN Tryd.prog .not t41_31 w32 fun t42_33 w34 =>
  condW t42_33 (
  K14 .ret (pf 52 (pf 52 (pf 52 (pf 52 (pf 52 (pf 52 (pf 52 (pf 52 (pf 52 (pf 52 (pf 52 (pf 52 (pf 52 (pf 52 (pf 52 (pf 52 f12 29 t29_15) 30 t30_17) 31 t31_19) 7 t31_19) 32 t31_19) 33 t33_21) 34 t34_23) 35 t31_19) 36 t36_25) 37 t37_27) 38 t38_29) 8 t38_29) 39 (f12 0)) 40 t38_29) 41 t41_31) 42 t42_33) w34) (
  loadW (some (false, 1)) (f12 2) w34 fun t43_35 w36 =>
  loadW (some (false, 1)) (f12 1) w36 fun t45_37 w38 =>
  lenW Tryd.prog (some false) #[9] 3 #[t45_37] w38 fun t46_39 w40 =>
  binN Tryd.prog .add 3 false t31_19 t46_39 w40 fun t47_41 w42 =>
  sliceW .str t43_35 (some t47_41) none none w42 fun t48_43 w44 =>
  storeW (some (false, 1)) (f12 2) t48_43 w44 fun w45 =>
  K14 .normal (pf 52 (pf 52 (pf 52 (pf 52 (pf 52 (pf 52 (pf 52 (pf 52 (pf 52 (pf 52 (pf 52 (pf 52 (pf 52 (pf 52 (pf 52 (pf 52 (pf 52 (pf 52 (pf 52 (pf 52 (pf 52 (pf 52 f12 29 t29_15) 30 t30_17) 31 t31_19) 7 t31_19) 32 t31_19) 33 t33_21) 34 t34_23) 35 t31_19) 36 t36_25) 37 t37_27) 38 t38_29) 8 t38_29) 39 (f12 0)) 40 t38_29) 41 t41_31) 42 t42_33) 43 t43_35) 44 t31_19) 45 t45_37) 46 t46_39) 47 t47_41) 48 t48_43) w45))) f2 w3 K11) K0) fun K1 =>
  loadW (some (false, 1)) x1 w fun t9_46 w47 =>
  lenW Tryd.prog (some false) #[9] 3 #[t9_46] w47 fun t10_48 w49 =>
  binN Tryd.prog .eql 3 true t10_48 (.int .i64 0) w49 fun t11_50 w51 =>
  condW t11_50 (
  bindX (seqX (fun _ w54 =>
  K (.tuple #[]) w54) K1) fun K52 =>
  bindX (blkX 0 K52) fun K55 =>
  loopW (fun f56 w57 K58 =>
  loadW (some (false, 1)) (f56 2) w57 fun t12_59 w60 =>
  lenW Tryd.prog (some false) #[9] 3 #[t12_59] w60 fun t13_61 w62 =>
  binN Tryd.prog .gtr 3 true t13_61 (.int .i64 0) w62 fun t14_63 w64 =>
  condW t14_63 (
  loadW (some (false, 1)) (f56 2) w64 fun t16_65 w66 =>
  fnW Tryd.prog 67 #[t16_65] w66 fun t17_67 w68 =>
  extrW t17_67 0 w68 fun t18_69 w70 =>
  extrW t17_67 1 w70 fun t19_71 w72 =>
  loadW (some (false, 1)) (f56 2) w72 fun t21_73 w74 =>
  sliceW .str t21_73 none (some t19_71) none w74 fun t23_75 w76 =>
  dynW Tryd.prog (f56 0) #[t23_75] w76 fun t24_77 w78 =>
  unN Tryd.prog .not t24_77 w78 fun t25_79 w80 =>
  condW t25_79 (
  K58 .ret (pf 52 (pf 52 (pf 52 (pf 52 (pf 52 (pf 52 (pf 52 (pf 52 (pf 52 (pf 52 (pf 52 (pf 52 (pf 52 (pf 52 (pf 52 (pf 52 f56 12 t12_59) 13 t13_61) 14 t14_63) 16 t16_65) 17 t17_67) 15 t17_67) 18 t18_69) 19 t19_71) 5 t18_69) 6 t19_71) 20 (f56 0)) 21 t21_73) 22 t19_71) 23 t23_75) 24 t24_77) 25 t25_79) w80) (
  loadW (some (false, 1)) (f56 2) w80 fun t26_81 w82 =>
  sliceW .str t26_81 (some t19_71) none none w82 fun t28_83 w84 =>
  storeW (some (false, 1)) (f56 2) t28_83 w84 fun w85 =>
  K58 .normal (pf 52 (pf 52 (pf 52 (pf 52 (pf 52 (pf 52 (pf 52 (pf 52 (pf 52 (pf 52 (pf 52 (pf 52 (pf 52 (pf 52 (pf 52 (pf 52 (pf 52 (pf 52 (pf 52 f56 12 t12_59) 13 t13_61) 14 t14_63) 16 t16_65) 17 t17_67) 15 t17_67) 18 t18_69) 19 t19_71) 5 t18_69) 6 t19_71) 20 (f56 0)) 21 t21_73) 22 t19_71) 23 t23_75) 24 t24_77) 25 t25_79) 26 t26_81) 27 t19_71) 28 t28_83) w85)) (
  K58 (.exit 0) (pf 52 (pf 52 (pf 52 f56 12 t12_59) 13 t13_61) 14 t14_63) w64)) (pf 52 (pf 52 (pf 52 (argF [x0, x1, x2, x3]) 9 t9_46) 10 t10_48) 11 t11_50) w51 K55) (
  K1 .normal (pf 52 (pf 52 (pf 52 (argF [x0, x1, x2, x3]) 9 t9_46) 10 t10_48) 11 t11_50) w51)
theorem c66_eq (x0 x1 x2 x3 : Value) (w : World) (K : VPost) : c66 x0 x1 x2 x3 w K = WP true Tryd.prog 52 [] (bodyOf Tryd.f66) (argF [x0, x1, x2, x3]) w [] K := by kernel_rfl
theorem c66_calls (x0 x1 x2 x3 : Value) (w : World) (K : VPost) (h : c66 x0 x1 x2 x3 w K) : Calls Tryd.prog 66 #[x0, x1, x2, x3] w (retK K) :=
  calls_of_WP (c66_eq x0 x1 x2 x3 w K) mixedG Tryd.func66 (by kernel_rfl) Tryd.ntmps66 (by kernel_rfl) (by kernel_rfl) h

end Go.Proofs.YtbaddpnlokmldaaDoor
