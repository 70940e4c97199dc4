/- The clean forms of some of the program's functions, written by a program of ours; each is the model's own by the kernel's reckoning. -/
import Derived.Test.YtedebapgmfnflaaGB
import Derived.KernelRfl
namespace Go.Proofs.Ytedebapgmfnflaa
open Go
set_option maxRecDepth 100000

/-- strings.IndexByte -/
def c85 (x0 x1 : Value) (w : World) (K : VPost) : Prop :=
  fnW Try.prog 106 #[x0, x1] w fun t7_0 w1 =>
  K t7_0 w1
theorem c85_eq (x0 x1 : Value) (w : World) (K : VPost) : c85 x0 x1 w K = WP true Try.prog 8 [] (bodyOf Try.f85) (argF [x0, x1]) w [.tmp 4] K := by kernel_rfl
theorem c85_calls (x0 x1 : Value) (w : World) (K : VPost) (h : c85 x0 x1 w K) : Calls Try.prog 85 #[x0, x1] w (retK K) :=
  calls_of_WP (c85_eq x0 x1 w K) mixedG Try.func85 (by kernel_rfl) Try.ntmps85 (by kernel_rfl) (by kernel_rfl) h

/-- (*strings.Builder).WriteByte -/
def c87 (x0 x1 : Value) (w : World) (K : VPost) : Prop :=
  fnW Try.prog 107 #[x0] w fun _ w1 =>
  nilW x0 w1 fun t9_2 w3 =>
  offW (some 1) t9_2 w3 fun t10_4 w5 =>
  loadW (some (false, 1)) t10_4 w5 fun t11_6 w7 =>
  insW Try.prog (Instr.buildSlice 34 1 #[(0, x1)]) w7 fun t13_8 w9 =>
  insW Try.prog (Builtin.append_ #[34, 34] 34 #[t11_6, t13_8]) w9 fun t14_10 w11 =>
  nilW x0 w11 fun t15_12 w13 =>
  offW (some 1) t15_12 w13 fun t16_14 w15 =>
  storeW (some (false, 1)) t16_14 t14_10 w15 fun w16 =>
  K .nilIface w16
theorem c87_eq (x0 x1 : Value) (w : World) (K : VPost) : c87 x0 x1 w K = WP true Try.prog 17 [] (bodyOf Try.f87) (argF [x0, x1]) w [.tmp 4] K := by kernel_rfl
theorem c87_calls (x0 x1 : Value) (w : World) (K : VPost) (h : c87 x0 x1 w K) : Calls Try.prog 87 #[x0, x1] w (retK K) :=
  calls_of_WP (c87_eq x0 x1 w K) mixedG Try.func87 (by kernel_rfl) Try.ntmps87 (by kernel_rfl) (by kernel_rfl) h

/-- (*strings.Builder).String -/
def c88 (x0 : Value) (w : World) (K : VPost) : Prop :=
  nilW x0 w.drew fun t4_0 w1 =>
  offW (some 1) t4_0 w1 fun t5_2 w3 =>
  loadW (some (false, 1)) t5_2 w3 fun t6_4 w5 =>
  nilW x0 w5 fun t9_6 w7 =>
  offW (some 1) t9_6 w7 fun t10_8 w9 =>
  loadW (some (false, 1)) t10_8 w9 fun t11_10 w11 =>
  lenW Try.prog (some true) #[34] 3 #[t11_10] w11 fun t12_12 w13 =>
  insW Try.prog (Builtin.unsafeSliceData_ #[34] 143 #[t6_4]) w13 fun t7_14 w15 =>
  (loadW (some (false, 1)) t10_8 w15 fun t11_16 w17 => t11_16 = t11_10 ∧ w17 = w15) ∧
  insW Try.prog (Builtin.unsafeString_ #[143, 3] 9 #[t7_14, t12_12]) w15 fun t13_18 w19 =>
  K t13_18 w19
theorem c88_eq (x0 : Value) (w : World) (K : VPost) : c88 x0 w K = WP true Try.prog 14 [(1, 1040, [0, 1, 2, 4, 8, 0, 32, 64, 128, 256, 528, 2047], [0, 1, 3, 7, 15, 0, 32, 96, 224, 480, 1023, 2047])] (bodyOf Try.f88) (argF [x0]) w [.tmp 2] K := by kernel_rfl
theorem c88_calls (x0 : Value) (w : World) (K : VPost) (h : c88 x0 w K) : Calls Try.prog 88 #[x0] w (retK K) :=
  calls_of_WP (c88_eq x0 w K) mixedG Try.func88 (by kernel_rfl) Try.ntmps88 (by kernel_rfl) (by kernel_rfl) h

/-- bytes.Compare -/
def c89 (x0 x1 : Value) (w : World) (K : VPost) : Prop :=
  fnW Try.prog 108 #[x0, x1] w fun t7_0 w1 =>
  K t7_0 w1
theorem c89_eq (x0 x1 : Value) (w : World) (K : VPost) : c89 x0 x1 w K = WP true Try.prog 8 [] (bodyOf Try.f89) (argF [x0, x1]) w [.tmp 4] K := by kernel_rfl
theorem c89_calls (x0 x1 : Value) (w : World) (K : VPost) (h : c89 x0 x1 w K) : Calls Try.prog 89 #[x0, x1] w (retK K) :=
  calls_of_WP (c89_eq x0 x1 w K) mixedG Try.func89 (by kernel_rfl) Try.ntmps89 (by kernel_rfl) (by kernel_rfl) h

/-- slices.Clone[[]imprimatur/api.Digest,imprimatur/api.Digest] -/
def c90 (x0 : Value) (w : World) (K : VPost) : Prop :=
  binW Try.prog .eql 75 true x0 (.slice none 0 0) w fun t4_0 w1 =>
  condW t4_0 (
  K (.slice none 0 0) w1) (
  insW Try.prog (Instr.buildSlice 75 0 #[]) w1 fun t5_2 w3 =>
  insW Try.prog (Builtin.append_ #[75, 75] 75 #[t5_2, x0]) w3 fun t7_4 w5 =>
  K t7_4 w5)
theorem c90_eq (x0 : Value) (w : World) (K : VPost) : c90 x0 w K = WP true Try.prog 8 [] (bodyOf Try.f90) (argF [x0]) w [.tmp 2] K := by kernel_rfl
theorem c90_calls (x0 : Value) (w : World) (K : VPost) (h : c90 x0 w K) : Calls Try.prog 90 #[x0] w (retK K) :=
  calls_of_WP (c90_eq x0 w K) mixedG Try.func90 (by kernel_rfl) Try.ntmps90 (by kernel_rfl) (by kernel_rfl) h

/-- slices.SortFunc[[]imprimatur/api.Digest,imprimatur/api.Digest] -/
def c91 (x0 x1 : Value) (w : World) (K : VPost) : Prop :=
  lenW Try.prog (some true) #[75] 3 #[x0] w fun t6_0 w1 =>
  convN Try.prog 3 54 t6_0 w1 fun t10_2 w3 =>
  fnW Try.prog 110 #[t10_2] w3 fun t11_4 w5 =>
  fnW Try.prog 109 #[x0, (.int .i64 0), t6_0, t11_4, x1] w5 fun _ w7 =>
  K (.tuple #[]) w7
theorem c91_eq (x0 x1 : Value) (w : World) (K : VPost) : c91 x0 x1 w K = WP true Try.prog 14 [] (bodyOf Try.f91) (argF [x0, x1]) w [] K := by kernel_rfl
theorem c91_calls (x0 x1 : Value) (w : World) (K : VPost) (h : c91 x0 x1 w K) : Calls Try.prog 91 #[x0, x1] w (retK K) :=
  calls_of_WP (c91_eq x0 x1 w K) mixedG Try.func91 (by kernel_rfl) Try.ntmps91 (by kernel_rfl) (by kernel_rfl) h

/-- slices.Compact[[]imprimatur/api.Digest,imprimatur/api.Digest] -/
def c92 (x0 : Value) (w : World) (K : VPost) : Prop :=
  lenW Try.prog (some true) #[75] 3 #[x0] w fun t7_0 w1 =>
  binN Try.prog .lss 3 true t7_0 (.int .i64 2) w1 fun t8_2 w3 =>
  condW t8_2 (
  K x0 w3) (
  bindX (endW Try.prog [.tmp 2] K) fun K4 =>
  bindX (seqX (fun f6 w7 =>
  K (f6 0) w7) K4) fun K5 =>
  bindX (blkX 0 K5) fun K8 =>
  loopW (fun f9 w10 K11 =>
  lenW Try.prog (some true) #[75] 3 #[(f9 0)] w10 fun t12_12 w13 =>
  binN Try.prog .lss 3 false (f9 3) t12_12 w13 fun t13_14 w15 =>
  condW t13_14 (
  bindX (seqX (fun f17 w18 =>
  binN Try.prog .add 3 true (f17 3) (.int .i64 1) w18 fun t15_19 w20 =>
  K11 .normal (pf 61 (pf 61 (pf 61 f17 14 (f17 3)) 15 t15_19) 3 t15_19) w20) K11) fun K16 =>
  bindX (blkX 1 K16) fun K21 =>
  idxW (some (none, 32)) (f9 0) (f9 3) w15.drew fun t18_22 w23 =>
  loadW (some (true, 32)) t18_22 w23 fun t19_24 w25 =>
  binN Try.prog .sub 3 true (f9 3) (.int .i64 1) w25 fun t22_26 w27 =>
  idxW (some (none, 32)) (f9 0) t22_26 w27 fun t23_28 w29 =>
  loadW (some (true, 32)) t23_28 w29 fun t24_30 w31 =>
  binW Try.prog .eql 62 false t19_24 t24_30 w31 fun t25_32 w33 =>
  w33 = w31 ∧
  condW t25_32 (
  sliceW (.sl 32) (f9 0) (some (f9 3)) none none w33 fun t28_34 w35 =>
  bindX (seqX (fun f37 w38 =>
  sliceW (.sl 32) (f37 0) (some (f37 3)) none none w38 fun t56_39 w40 =>
  insW Try.prog (Builtin.clear_ #[75] 0 #[t56_39]) w40 fun _ w42 =>
  sliceW (.sl 32) (f37 0) none (some (f37 3)) none w42 fun t59_43 w44 =>
  K11 .ret (pf 61 (pf 61 (pf 61 (pf 61 (pf 61 (pf 61 (pf 61 f37 54 (f37 0)) 55 (f37 3)) 56 t56_39) 57 (f37 0)) 58 (f37 3)) 59 t59_43) 2 t59_43) w44) K21) fun K36 =>
  bindX (blkX 2 K36) fun K45 =>
  loopW (fun f46 w47 K48 =>
  lenW Try.prog (some true) #[75] 3 #[(f46 4)] w47 fun t31_49 w50 =>
  binN Try.prog .lss 3 false (f46 5) t31_49 w50 fun t32_51 w52 =>
  condW t32_51 (
  bindX (seqX (fun f54 w55 =>
  binN Try.prog .add 3 true (f54 5) (.int .i64 1) w55 fun t34_56 w57 =>
  K48 .normal (pf 61 (pf 61 (pf 61 f54 33 (f54 5)) 34 t34_56) 5 t34_56) w57) K48) fun K53 =>
  bindX (blkX 3 K53) fun _ =>
  idxW (some (none, 32)) (f46 4) (f46 5) w52.drew fun t37_59 w60 =>
  loadW (some (true, 32)) t37_59 w60 fun t38_61 w62 =>
  binN Try.prog .sub 3 true (f46 5) (.int .i64 1) w62 fun t41_63 w64 =>
  idxW (some (none, 32)) (f46 4) t41_63 w64 fun t42_65 w66 =>
  loadW (some (true, 32)) t42_65 w66 fun t43_67 w68 =>
  binW Try.prog .neq 62 false t38_61 t43_67 w68 fun t44_69 w70 =>
  w70 = w68 ∧
  condW t44_69 (
  idxW (some (none, 32)) (f46 4) (f46 5) w70 fun t49_71 w72 =>
  loadW (some (true, 32)) t49_71 w72 fun t50_73 w74 =>
  idxW (some (none, 32)) (f46 0) (f46 3) w74 fun t51_75 w76 =>
  storeW (some (true, 32)) t51_75 t50_73 w76 fun w77 =>
  binN Try.prog .add 3 true (f46 3) (.int .i64 1) w77 fun t53_78 w79 =>
  K53 .normal (pf 61 (pf 61 (pf 61 (pf 61 (pf 61 (pf 61 (pf 61 (pf 61 (pf 61 (pf 61 (pf 61 (pf 61 (pf 61 (pf 61 (pf 61 (pf 61 (pf 61 (pf 61 (pf 61 (pf 61 (pf 61 (pf 61 (pf 61 (pf 61 f46 29 (f46 5)) 30 (f46 4)) 31 t31_49) 32 t32_51) 35 (f46 4)) 36 (f46 5)) 37 t37_59) 38 t38_61) 39 (f46 4)) 40 (f46 5)) 41 t41_63) 42 t42_65) 43 t43_67) 44 t44_69) 45 (f46 0)) 46 (f46 3)) 47 (f46 4)) 48 (f46 5)) 49 t49_71) 50 t50_73) 51 t51_75) 52 (f46 3)) 53 t53_78) 3 t53_78) w79) (
  K53 .normal (pf 61 (pf 61 (pf 61 (pf 61 (pf 61 (pf 61 (pf 61 (pf 61 (pf 61 (pf 61 (pf 61 (pf 61 (pf 61 (pf 61 f46 29 (f46 5)) 30 (f46 4)) 31 t31_49) 32 t32_51) 35 (f46 4)) 36 (f46 5)) 37 t37_59) 38 t38_61) 39 (f46 4)) 40 (f46 5)) 41 t41_63) 42 t42_65) 43 t43_67) 44 t44_69) w70)) (
  K48 (.exit 2) (pf 61 (pf 61 (pf 61 (pf 61 f46 29 (f46 5)) 30 (f46 4)) 31 t31_49) 32 t32_51) w52)) (pf 61 (pf 61 (pf 61 (pf 61 (pf 61 (pf 61 (pf 61 (pf 61 (pf 61 (pf 61 (pf 61 (pf 61 (pf 61 (pf 61 (pf 61 (pf 61 (pf 61 (pf 61 (pf 61 f9 10 (f9 3)) 11 (f9 0)) 12 t12_12) 13 t13_14) 16 (f9 0)) 17 (f9 3)) 18 t18_22) 19 t19_24) 20 (f9 0)) 21 (f9 3)) 22 t22_26) 23 t23_28) 24 t24_30) 25 t25_32) 26 (f9 0)) 27 (f9 3)) 28 t28_34) 4 t28_34) 5 (.int .i64 1)) w35 K45) (
  K16 .normal (pf 61 (pf 61 (pf 61 (pf 61 (pf 61 (pf 61 (pf 61 (pf 61 (pf 61 (pf 61 (pf 61 (pf 61 (pf 61 (pf 61 f9 10 (f9 3)) 11 (f9 0)) 12 t12_12) 13 t13_14) 16 (f9 0)) 17 (f9 3)) 18 t18_22) 19 t19_24) 20 (f9 0)) 21 (f9 3)) 22 t22_26) 23 t23_28) 24 t24_30) 25 t25_32) w33)) (
  K11 (.exit 0) (pf 61 (pf 61 (pf 61 (pf 61 f9 10 (f9 3)) 11 (f9 0)) 12 t12_12) 13 t13_14) w15)) (pf 61 (pf 61 (pf 61 (pf 61 (pf 61 (argF [x0]) 2 (.slice none 0 0)) 6 x0) 7 t7_0) 8 t8_2) 3 (.int .i64 1)) w3 K8)
theorem c92_eq (x0 : Value) (w : World) (K : VPost) : c92 x0 w K = WP true Try.prog 61 [(6, 0, [0, 0, 3, 4, 0, 0, 32, 80, 128, 264], [0, 0, 3, 7, 0, 0, 32, 112, 240, 511]), (11, 0, [0, 0, 3, 4, 0, 0, 32, 80, 128, 264], [0, 0, 3, 7, 0, 0, 32, 112, 240, 511])] (bodyOf Try.f92) (argF [x0]) w [.tmp 2] K := by kernel_rfl
theorem c92_calls (x0 : Value) (w : World) (K : VPost) (h : c92 x0 w K) : Calls Try.prog 92 #[x0] w (retK K) :=
  calls_of_WP (c92_eq x0 w K) mixedG Try.func92 (by kernel_rfl) Try.ntmps92 (by kernel_rfl) (by kernel_rfl) h

/-- bytes.Clone -/
def c93 (x0 : Value) (w : World) (K : VPost) : Prop :=
  binW Try.prog .eql 34 true x0 (.slice none 0 0) w fun t4_0 w1 =>
  condW t4_0 (
  K (.slice none 0 0) w1) (
  insW Try.prog (Instr.buildSlice 34 0 #[]) w1 fun t5_2 w3 =>
  insW Try.prog (Builtin.append_ #[34, 34] 34 #[t5_2, x0]) w3 fun t7_4 w5 =>
  K t7_4 w5)
theorem c93_eq (x0 : Value) (w : World) (K : VPost) : c93 x0 w K = WP true Try.prog 8 [] (bodyOf Try.f93) (argF [x0]) w [.tmp 2] K := by kernel_rfl
theorem c93_calls (x0 : Value) (w : World) (K : VPost) (h : c93 x0 w K) : Calls Try.prog 93 #[x0] w (retK K) :=
  calls_of_WP (c93_eq x0 w K) mixedG Try.func93 (by kernel_rfl) Try.ntmps93 (by kernel_rfl) (by kernel_rfl) h

/-- internal/stringslite.IndexByte -/
def c106 (x0 x1 : Value) (w : World) (K : VPost) : Prop :=
  fnW Try.prog 112 #[x0, x1] w fun t7_0 w1 =>
  K t7_0 w1
theorem c106_eq (x0 x1 : Value) (w : World) (K : VPost) : c106 x0 x1 w K = WP true Try.prog 8 [] (bodyOf Try.f106) (argF [x0, x1]) w [.tmp 4] K := by kernel_rfl
theorem c106_calls (x0 x1 : Value) (w : World) (K : VPost) (h : c106 x0 x1 w K) : Calls Try.prog 106 #[x0, x1] w (retK K) :=
  calls_of_WP (c106_eq x0 x1 w K) mixedG Try.func106 (by kernel_rfl) Try.ntmps106 (by kernel_rfl) (by kernel_rfl) h

/-- (*strings.Builder).copyCheck -/
def c107 (x0 : Value) (w : World) (K : VPost) : Prop :=
  nilW x0 w fun t3_0 w1 =>
  offW (some 0) t3_0 w1 fun t4_2 w3 =>
  loadW (some (false, 1)) t4_2 w3 fun t5_4 w5 =>
  binW Try.prog .eql 120 true t5_4 (.pointer none) w5 fun t6_6 w7 =>
  condW t6_6 (
  insW Try.prog (convert 120 147 x0) w7 fun t9_8 w9 =>
  fnW Try.prog 113 #[t9_8] w9 fun t10_10 w11 =>
  insW Try.prog (convert 147 120 t10_10) w11 fun t11_12 w13 =>
  nilW x0 w13 fun t12_14 w15 =>
  offW (some 0) t12_14 w15 fun t13_16 w17 =>
  storeW (some (false, 1)) t13_16 t11_12 w17 fun w18 =>
  K (.tuple #[]) w18) (
  nilW x0 w7 fun t15_19 w20 =>
  offW (some 0) t15_19 w20 fun t16_21 w22 =>
  loadW (some (false, 1)) t16_21 w22 fun t17_23 w24 =>
  binW Try.prog .neq 120 false t17_23 x0 w24 fun t19_25 w26 =>
  condW t19_25 (
  False) (
  K (.tuple #[]) w26))
theorem c107_eq (x0 : Value) (w : World) (K : VPost) : c107 x0 w K = WP true Try.prog 20 [] (bodyOf Try.f107) (argF [x0]) w [] K := by kernel_rfl
theorem c107_calls (x0 : Value) (w : World) (K : VPost) (h : c107 x0 w K) : Calls Try.prog 107 #[x0] w (retK K) :=
  calls_of_WP (c107_eq x0 w K) mixedG Try.func107 (by kernel_rfl) Try.ntmps107 (by kernel_rfl) (by kernel_rfl) h

/-- slices.insertionSortCmpFunc[imprimatur/api.Digest] -/
def c114 (x0 x1 x2 x3 : Value) (w : World) (K : VPost) : Prop :=
  binN Try.prog .add 3 true x1 (.int .i64 1) w fun t11_0 w1 =>
  bindX (endW Try.prog [] K) fun K2 =>
  bindX (blkX 0 K2) fun K3 =>
  loopW (fun f4 w5 K6 =>
  binN Try.prog .lss 3 false (f4 8) (f4 2) w5 fun t14_7 w8 =>
  condW t14_7 (
  bindX (seqX (fun f10 w11 =>
  binN Try.prog .add 3 true (f10 8) (.int .i64 1) w11 fun t16_12 w13 =>
  K6 .normal (pf 53 (pf 53 (pf 53 f10 15 (f10 8)) 16 t16_12) 8 t16_12) w13) K6) fun K9 =>
  bindX (blkX 1 K9) fun K14 =>
  bindX (blkX 2 K14) fun K15 =>
  loopW (fun f16 w17 K18 =>
  binN Try.prog .gtr 3 false (f16 9) (f16 1) w17.drew fun t20_19 w20 =>
  gstep t20_19 true w20 (fun K => K (f16 3) w20) fun t22_21 w22 =>
  gstep t20_19 true w22 (fun K => K (f16 0) w22) fun t23_23 w24 =>
  gstep t20_19 true w24 (fun K => K (f16 9) w24) fun t24_25 w26 =>
  gstep t20_19 true w26 (fun K => idxW (some (none, 32)) t23_23 t24_25 w26 K) fun t25_27 w28 =>
  gstep t20_19 true w28 (fun K => loadW (some (true, 32)) t25_27 w28 K) fun t26_29 w30 =>
  gstep t20_19 true w30 (fun K => K (f16 0) w30) fun t27_31 w32 =>
  gstep t20_19 true w32 (fun K => K (f16 9) w32) fun t28_33 w34 =>
  gstep t20_19 true w34 (fun K => binN Try.prog .sub 3 true t28_33 (.int .i64 1) w34 K) fun t29_35 w36 =>
  gstep t20_19 true w36 (fun K => idxW (some (none, 32)) t27_31 t29_35 w36 K) fun t30_37 w38 =>
  gstep t20_19 true w38 (fun K => loadW (some (true, 32)) t30_37 w38 K) fun t31_39 w40 =>
  gstep t20_19 true w40 (fun K => dynW Try.prog t22_21 #[t26_29, t31_39] w40 K) fun t32_41 w42 =>
  gstep t20_19 true w42 (fun K => binN Try.prog .lss 3 true t32_41 (.int .i64 0) w42 K) fun t33_43 w44 =>
  pickW t20_19 t33_43 (.bool false) w44 fun t34_45 w46 =>
  condW t34_45 (
  binN Try.prog .sub 3 true (f16 9) (.int .i64 1) w46.drew fun t41_47 w48 =>
  binN Try.prog .sub 3 true (f16 9) (.int .i64 1) w48 fun t44_49 w50 =>
  idxW (some (none, 32)) (f16 0) t44_49 w50 fun t45_51 w52 =>
  loadW (some (true, 32)) t45_51 w52 fun t46_53 w54 =>
  idxW (some (none, 32)) (f16 0) (f16 9) w54 fun t49_55 w56 =>
  loadW (some (true, 32)) t49_55 w56 fun t50_57 w58 =>
  idxW (some (none, 32)) (f16 0) (f16 9) w58 fun t51_59 w60 =>
  storeW (some (true, 32)) t51_59 t46_53 w60 fun w61 =>
  idxW (some (none, 32)) (f16 0) t41_47 w61 fun t52_62 w63 =>
  storeW (some (true, 32)) t52_62 t50_57 w63 fun w64 =>
  binN Try.prog .sub 3 true (f16 9) (.int .i64 1) w64 fun t36_65 w66 =>
  K18 .normal (pf 53 (pf 53 (pf 53 (pf 53 (pf 53 (pf 53 (pf 53 (pf 53 (pf 53 (pf 53 (pf 53 (pf 53 (pf 53 (pf 53 (pf 53 (pf 53 (pf 53 (pf 53 (pf 53 (pf 53 (pf 53 (pf 53 (pf 53 (pf 53 (pf 53 (pf 53 (pf 53 (pf 53 (pf 53 (pf 53 (pf 53 (pf 53 (pf 53 (pf 53 (pf 53 (pf 53 f16 18 (f16 9)) 19 (f16 1)) 20 t20_19) 21 t20_19) 22 t22_21) 23 t23_23) 24 t24_25) 25 t25_27) 26 t26_29) 27 t27_31) 28 t28_33) 29 t29_35) 30 t30_37) 31 t31_39) 32 t32_41) 33 t33_43) 34 t34_45) 37 (f16 0)) 38 (f16 9)) 39 (f16 0)) 40 (f16 9)) 41 t41_47) 42 (f16 0)) 43 (f16 9)) 44 t44_49) 45 t45_51) 46 t46_53) 47 (f16 0)) 48 (f16 9)) 49 t49_55) 50 t50_57) 51 t51_59) 52 t52_62) 35 (f16 9)) 36 t36_65) 9 t36_65) w66) (
  K18 (.exit 2) (pf 53 (pf 53 (pf 53 (pf 53 (pf 53 (pf 53 (pf 53 (pf 53 (pf 53 (pf 53 (pf 53 (pf 53 (pf 53 (pf 53 (pf 53 (pf 53 (pf 53 f16 18 (f16 9)) 19 (f16 1)) 20 t20_19) 21 t20_19) 22 t22_21) 23 t23_23) 24 t24_25) 25 t25_27) 26 t26_29) 27 t27_31) 28 t28_33) 29 t29_35) 30 t30_37) 31 t31_39) 32 t32_41) 33 t33_43) 34 t34_45) w46)) (pf 53 (pf 53 (pf 53 (pf 53 (pf 53 f4 12 (f4 8)) 13 (f4 2)) 14 t14_7) 17 (f4 8)) 9 (f4 8)) w8 K15) (
  K6 (.exit 0) (pf 53 (pf 53 (pf 53 f4 12 (f4 8)) 13 (f4 2)) 14 t14_7) w8)) (pf 53 (pf 53 (pf 53 (argF [x0, x1, x2, x3]) 10 x1) 11 t11_0) 8 t11_0) w1 K3
theorem c114_eq (x0 x1 x2 x3 : Value) (w : World) (K : VPost) : c114 x0 x1 x2 x3 w K = WP true Try.prog 53 [(4, 16384, [0, 0, 3, 4, 8, 8, 8, 104, 136, 8, 8, 1032, 2568, 4104, 8472, 16392, 32776], [0, 0, 3, 7, 15, 15, 15, 111, 239, 15, 15, 1039, 3599, 7695, 16383, 32767, 65535]), (6, 163840, [0, 0, 0, 0, 8, 0, 0, 64, 160, 256, 0, 0, 3072, 4096, 9187, 25571, 65535, 131071], [0, 0, 0, 0, 8, 0, 0, 64, 224, 480, 0, 0, 3072, 7168, 16355, 32739, 65535, 131071])] (bodyOf Try.f114) (argF [x0, x1, x2, x3]) w [] K := by kernel_rfl
theorem c114_calls (x0 x1 x2 x3 : Value) (w : World) (K : VPost) (h : c114 x0 x1 x2 x3 w K) : Calls Try.prog 114 #[x0, x1, x2, x3] w (retK K) :=
  calls_of_WP (c114_eq x0 x1 x2 x3 w K) mixedG Try.func114 (by kernel_rfl) Try.ntmps114 (by kernel_rfl) (by kernel_rfl) h

end Go.Proofs.Ytedebapgmfnflaa
