/- The clean forms of some of the program's functions, written by a program of ours; each is the model's own by the kernel's reckoning. -/
import Derived.Test.YtedebapgmfnflaaDoorGB
import Derived.KernelRfl
namespace Go.Proofs.YtedebapgmfnflaaDoor
open Go
set_option maxRecDepth 100000

/-- imprimatur/imprimaturref04.Pack -/
def c18 (x0 x1 x2 : Value) (w : World) (K : VPost) : Prop :=
  lenW Tryd.prog (some true) #[22] 3 #[x2] w fun t14_0 w1 =>
  fnW Tryd.prog 22 #[t14_0] w1 fun t15_2 w3 =>
  binN Tryd.prog .eql 3 true t15_2 (.int .i64 0) w3 fun t17_4 w5 =>
  gstep t17_4 false w5 (fun K => K x0 w5) fun t19_6 w7 =>
  gstep t17_4 false w7 (fun K => binN Tryd.prog .lss 3 true t19_6 (.int .i64 1) w7 K) fun t20_8 w9 =>
  pickW t17_4 (.bool true) t20_8 w9 fun t21_10 w11 =>
  gstep t21_10 false w11 (fun K => K x0 w11) fun t23_12 w13 =>
  gstep t21_10 false w13 (fun K => binN Tryd.prog .gtr 3 true t23_12 (.int .i64 4294967295) w13 K) fun t24_14 w15 =>
  pickW t21_10 (.bool true) t24_14 w15 fun t25_16 w17 =>
  gstep t25_16 false w17 (fun K => K x1 w17) fun t27_18 w19 =>
  gstep t25_16 false w19 (fun K => binN Tryd.prog .lss 3 true t27_18 (.int .i64 0) w19 K) fun t28_20 w21 =>
  pickW t25_16 (.bool true) t28_20 w21 fun t29_22 w23 =>
  gstep t29_22 false w23 (fun K => K x1 w23) fun t31_24 w25 =>
  gstep t29_22 false w25 (fun K => K t15_2 w25) fun t32_26 w27 =>
  gstep t29_22 false w27 (fun K => binN Tryd.prog .sub 3 true t32_26 (.int .i64 1) w27 K) fun t33_28 w29 =>
  gstep t29_22 false w29 (fun K => binN Tryd.prog .sub 3 true (.int .i64 4294967295) t33_28 w29 K) fun t34_30 w31 =>
  gstep t29_22 false w31 (fun K => binN Tryd.prog .gtr 3 false t31_24 t34_30 w31 K) fun t35_32 w33 =>
  pickW t29_22 (.bool true) t35_32 w33 fun t36_34 w35 =>
  condW t36_34 (
  K (.tuple #[(.slice none 0 0), (.bool false)]) w35) (
  lenW Tryd.prog (some true) #[22] 3 #[x2] w35 fun t38_36 w37 =>
  binN Tryd.prog .quo 3 true t38_36 (.int .i64 256) w37 fun t39_38 w39 =>
  convN Tryd.prog 3 5 t39_38 w39 fun t40_40 w41 =>
  lenW Tryd.prog (some true) #[22] 3 #[x2] w41 fun t42_42 w43 =>
  convN Tryd.prog 3 5 t42_42 w43 fun t43_44 w45 =>
  insW Tryd.prog (Instr.buildSlice 22 2 #[(0, t40_40), (1, t43_44)]) w45 fun t44_46 w47 =>
  insW Tryd.prog (Builtin.append_ #[22, 22] 22 #[t44_46, x2]) w47 fun t46_48 w49 =>
  fnW Tryd.prog 73 #[t46_48] w49 fun t48_50 w51 =>
  allocW (zeroO Tryd.prog 77) 77 w51 fun t10_52 w53 =>
  storeW (some (true, 32)) t10_52 t48_50 w53 fun w54 =>
  sliceW (.arr 32 1) t10_52 none none none w54 fun t50_55 w56 =>
  insW Tryd.prog (Builtin.append_ #[22, 22] 22 #[t46_48, t50_55]) w56 fun t51_57 w58 =>
  insW Tryd.prog (Instr.buildSlice 23 0 #[]) w58 fun t52_59 w60 =>
  bindX (endW Tryd.prog [.tmp 6, .tmp 7] K) fun K61 =>
  bindX (seqX (fun f63 w64 =>
  K (.tuple #[(f63 11), (.bool true)]) w64) K61) fun K62 =>
  bindX (blkX 0 K62) fun K65 =>
  loopW (fun f66 w67 K68 =>
  binN Tryd.prog .lss 3 false (f66 12) (f66 8) w67 fun t55_69 w70 =>
  condW t55_69 (
  binN Tryd.prog .add 3 false (f66 1) (f66 12) w70 fun t62_71 w72 =>
  binN Tryd.prog .mul 3 true (.int .i64 46) (f66 12) w72 fun t65_73 w74 =>
  binN Tryd.prog .mul 3 true (.int .i64 46) (f66 12) w74 fun t67_75 w76 =>
  binN Tryd.prog .add 3 true t67_75 (.int .i64 46) w76 fun t68_77 w78 =>
  lenW Tryd.prog (some true) #[22] 3 #[(f66 9)] w78 fun t70_79 w80 =>
  insW Tryd.prog (Builtin.min_ #[3, 3] 3 #[t68_77, t70_79]) w80 fun t71_81 w82 =>
  sliceW (.sl 1) (f66 9) (some t65_73) (some t71_81) none w82 fun t72_83 w84 =>
  fnW Tryd.prog 74 #[(f66 0), t62_71, t72_83] w84 fun t73_85 w86 =>
  insW Tryd.prog (Instr.buildSlice 23 1 #[(0, t73_85)]) w86 fun t74_87 w88 =>
  insW Tryd.prog (Builtin.append_ #[23, 23] 23 #[(f66 11), t74_87]) w88 fun t75_89 w90 =>
  binN Tryd.prog .add 3 true (f66 12) (.int .i64 1) w90 fun t57_91 w92 =>
  K68 .normal (pf 77 (pf 77 (pf 77 (pf 77 (pf 77 (pf 77 (pf 77 (pf 77 (pf 77 (pf 77 (pf 77 (pf 77 (pf 77 (pf 77 (pf 77 (pf 77 (pf 77 (pf 77 (pf 77 (pf 77 (pf 77 (pf 77 (pf 77 (pf 77 (pf 77 f66 53 (f66 12)) 54 (f66 8)) 55 t55_69) 58 (f66 11)) 59 (f66 0)) 60 (f66 1)) 61 (f66 12)) 62 t62_71) 63 (f66 9)) 64 (f66 12)) 65 t65_73) 66 (f66 12)) 67 t67_75) 68 t68_77) 69 (f66 9)) 70 t70_79) 71 t71_81) 72 t72_83) 73 t73_85) 74 t74_87) 75 t75_89) 11 t75_89) 56 (f66 12)) 57 t57_91) 12 t57_91) w92) (
  K68 (.exit 0) (pf 77 (pf 77 (pf 77 f66 53 (f66 12)) 54 (f66 8)) 55 t55_69) w70)) (pf 77 (pf 77 (pf 77 (pf 77 (pf 77 (pf 77 (pf 77 (pf 77 (pf 77 (pf 77 (pf 77 (pf 77 (pf 77 (pf 77 (pf 77 (pf 77 (pf 77 (pf 77 (pf 77 (pf 77 (pf 77 (pf 77 (pf 77 (pf 77 (pf 77 (pf 77 (pf 77 (pf 77 (pf 77 (pf 77 (pf 77 (pf 77 (pf 77 (pf 77 (pf 77 (pf 77 (pf 77 (pf 77 (pf 77 (pf 77 (pf 77 (pf 77 (pf 77 (pf 77 (pf 77 (pf 77 (pf 77 (pf 77 (argF [x0, x1, x2]) 6 (.slice none 0 0)) 7 (.bool false)) 13 x2) 14 t14_0) 15 t15_2) 8 t15_2) 16 t15_2) 17 t17_4) 18 t17_4) 19 t19_6) 20 t20_8) 21 t21_10) 22 t21_10) 23 t23_12) 24 t24_14) 25 t25_16) 26 t25_16) 27 t27_18) 28 t28_20) 29 t29_22) 30 t29_22) 31 t31_24) 32 t32_26) 33 t33_28) 34 t34_30) 35 t35_32) 36 t36_34) 37 x2) 38 t38_36) 39 t39_38) 40 t40_40) 41 x2) 42 t42_42) 43 t43_44) 44 t44_46) 45 x2) 46 t46_48) 9 t46_48) 47 t46_48) 48 t48_50) 10 t10_52) 49 t46_48) 50 t50_55) 51 t51_57) 9 t51_57) 52 t52_59) 11 t52_59) 12 (.int .i64 0)) w60 K65)
theorem c18_eq (x0 x1 x2 : Value) (w : World) (K : VPost) : c18 x0 x1 x2 w K = WP true Tryd.prog 77 [] (bodyOf Tryd.f18) (argF [x0, x1, x2]) w [.tmp 6, .tmp 7] K := by kernel_rfl
theorem c18_calls (x0 x1 x2 : Value) (w : World) (K : VPost) (h : c18 x0 x1 x2 w K) : Calls Tryd.prog 18 #[x0, x1, x2] w (retK K) :=
  calls_of_WP (c18_eq x0 x1 x2 w K) mixedG Tryd.func18 (by kernel_rfl) Tryd.ntmps18 (by kernel_rfl) (by kernel_rfl) h

/-- imprimatur/imprimaturref04.Need -/
def c22 (x0 : Value) (w : World) (K : VPost) : Prop :=
  binN Tryd.prog .lss 3 true x0 (.int .i64 0) w fun t4_0 w1 =>
  gstep t4_0 false w1 (fun K => K x0 w1) fun t6_2 w3 =>
  gstep t4_0 false w3 (fun K => binN Tryd.prog .gtr 3 true t6_2 (.int .i64 2000) w3 K) fun t7_4 w5 =>
  pickW t4_0 (.bool true) t7_4 w5 fun t8_6 w7 =>
  condW t8_6 (
  K (.int .i64 0) w7) (
  binN Tryd.prog .add 3 true x0 (.int .i64 34) w7 fun t10_8 w9 =>
  binN Tryd.prog .add 3 true t10_8 (.int .i64 45) w9 fun t11_10 w11 =>
  binN Tryd.prog .quo 3 true t11_10 (.int .i64 46) w11 fun t12_12 w13 =>
  K t12_12 w13)
theorem c22_eq (x0 : Value) (w : World) (K : VPost) : c22 x0 w K = WP true Tryd.prog 13 [] (bodyOf Tryd.f22) (argF [x0]) w [.tmp 2] K := by kernel_rfl
theorem c22_calls (x0 : Value) (w : World) (K : VPost) (h : c22 x0 w K) : Calls Tryd.prog 22 #[x0] w (retK K) :=
  calls_of_WP (c22_eq x0 w K) mixedG Tryd.func22 (by kernel_rfl) Tryd.ntmps22 (by kernel_rfl) (by kernel_rfl) h

/-- imprimatur/imprimaturref04.Mark -/
def c25 (x0 : Value) (w : World) (K : VPost) : Prop :=
  boxW 37 x0 w fun t1_0 w1 =>
  sliceW (.arr 64 1) t1_0 (some (.int .i64 8)) (some (.int .i64 10)) none w1 fun t7_2 w3 =>
  fnW Tryd.prog 79 #[t7_2] w3 fun t8_4 w5 =>
  sliceW (.arr 64 1) t1_0 none (some (.int .i64 8)) none w5.drew fun t9_6 w7 =>
  sliceW (.arr 64 1) t1_0 (some (.int .i64 56)) none none w7 fun t10_8 w9 =>
  fnW Tryd.prog 20 #[t9_6, t10_8] w9 fun t11_10 w11 =>
  unN Tryd.prog .not t11_10 w11 fun t12_12 w13 =>
  gstep t12_12 false w13 (fun K => K t8_4 w13) fun t14_14 w15 =>
  gstep t12_12 false w15 (fun K => binN Tryd.prog .gtr 3 true t14_14 (.int .i64 46) w15 K) fun t15_16 w17 =>
  pickW t12_12 (.bool true) t15_16 w17 fun t16_18 w19 =>
  condW t16_18 (
  K (.tuple #[(.int .i64 0), (.int .i64 0), (.bool false)]) w19) (
  bindX (endW Tryd.prog [.tmp 2, .tmp 3, .tmp 4] K) fun K20 =>
  bindX (seqX (fun f22 w23 =>
  sliceW (.arr 64 1) (f22 1) none (some (.int .i64 4)) none w23.drew fun t27_24 w25 =>
  sliceW (.arr 64 1) (f22 1) (some (.int .i64 4)) (some (.int .i64 8)) none w25 fun t29_26 w27 =>
  fnW Tryd.prog 79 #[t27_24] w27 fun t28_28 w29 =>
  fnW Tryd.prog 79 #[t29_26] w29 fun t30_30 w31 =>
  K (.tuple #[t28_28, t30_30, (.bool true)]) w31) K20) fun K21 =>
  binN Tryd.prog .add 3 true (.int .i64 10) t8_4 w19 fun t18_32 w33 =>
  bindX (blkX 0 K21) fun K34 =>
  loopW (fun f35 w36 K37 =>
  binN Tryd.prog .lss 3 true (f35 6) (.int .i64 56) w36 fun t20_38 w39 =>
  condW t20_38 (
  idxW (some ((some 64), 1)) (f35 1) (f35 6) w39 fun t24_40 w41 =>
  loadW (some (false, 1)) t24_40 w41 fun t25_42 w43 =>
  binN Tryd.prog .neq 5 true t25_42 (.int .u8 0) w43 fun t26_44 w45 =>
  condW t26_44 (
  K37 .ret (pf 31 (pf 31 (pf 31 (pf 31 (pf 31 (pf 31 (pf 31 (pf 31 (pf 31 f35 19 (f35 6)) 20 t20_38) 23 (f35 6)) 24 t24_40) 25 t25_42) 26 t26_44) 2 (.int .i64 0)) 3 (.int .i64 0)) 4 (.bool false)) w45) (
  binN Tryd.prog .add 3 true (f35 6) (.int .i64 1) w45 fun t22_46 w47 =>
  K37 .normal (pf 31 (pf 31 (pf 31 (pf 31 (pf 31 (pf 31 (pf 31 (pf 31 (pf 31 f35 19 (f35 6)) 20 t20_38) 23 (f35 6)) 24 t24_40) 25 t25_42) 26 t26_44) 21 (f35 6)) 22 t22_46) 6 t22_46) w47)) (
  K37 (.exit 0) (pf 31 (pf 31 f35 19 (f35 6)) 20 t20_38) w39)) (pf 31 (pf 31 (pf 31 (pf 31 (pf 31 (pf 31 (pf 31 (pf 31 (pf 31 (pf 31 (pf 31 (pf 31 (pf 31 (pf 31 (pf 31 (pf 31 (pf 31 (pf 31 (argF [x0]) 1 t1_0) 2 (.int .i64 0)) 3 (.int .i64 0)) 4 (.bool false)) 7 t7_2) 8 t8_4) 5 t8_4) 9 t9_6) 10 t10_8) 11 t11_10) 12 t12_12) 13 t12_12) 14 t14_14) 15 t15_16) 16 t16_18) 17 t8_4) 18 t18_32) 6 t18_32) w33 K34)
theorem c25_eq (x0 : Value) (w : World) (K : VPost) : c25 x0 w K = WP true Tryd.prog 31 [(2, 4, [0, 0, 3, 4, 12, 16, 48, 80], [0, 0, 3, 7, 15, 31, 63, 127]), (9, 10, [0, 1, 0, 6, 11, 31, 63], [0, 1, 0, 7, 15, 31, 63])] (bodyOf Tryd.f25) (argF [x0]) w [.tmp 2, .tmp 3, .tmp 4] K := by kernel_rfl
theorem c25_calls (x0 : Value) (w : World) (K : VPost) (h : c25 x0 w K) : Calls Tryd.prog 25 #[x0] w (retK K) :=
  calls_of_WP (c25_eq x0 w K) mixedG Tryd.func25 (by kernel_rfl) Tryd.ntmps25 (by kernel_rfl) (by kernel_rfl) h

/-- imprimatur/imprimaturref04.Data -/
def c28 (x0 : Value) (w : World) (K : VPost) : Prop :=
  boxW 37 x0 w fun t1_0 w1 =>
  loadW (some (true, 64)) t1_0 w1 fun t7_2 w3 =>
  fnW Tryd.prog 25 #[t7_2] w3 fun t8_4 w5 =>
  extrW t8_4 0 w5 fun _ w7 =>
  extrW t8_4 1 w7 fun _ w9 =>
  extrW t8_4 2 w9 fun t11_10 w11 =>
  unN Tryd.prog .not t11_10 w11 fun t13_12 w13 =>
  condW t13_12 (
  K (.slice none 0 0) w13) (
  sliceW (.arr 64 1) t1_0 (some (.int .i64 8)) (some (.int .i64 10)) none w13 fun t14_14 w15 =>
  fnW Tryd.prog 79 #[t14_14] w15 fun t15_16 w17 =>
  binN Tryd.prog .add 3 true (.int .i64 10) t15_16 w17 fun t16_18 w19 =>
  sliceW (.arr 64 1) t1_0 (some (.int .i64 10)) (some t16_18) none w19 fun t17_20 w21 =>
  fnW Tryd.prog 16 #[t17_20] w21 fun t18_22 w23 =>
  K t18_22 w23)
theorem c28_eq (x0 : Value) (w : World) (K : VPost) : c28 x0 w K = WP true Tryd.prog 19 [] (bodyOf Tryd.f28) (argF [x0]) w [.tmp 2] K := by kernel_rfl
theorem c28_calls (x0 : Value) (w : World) (K : VPost) (h : c28 x0 w K) : Calls Tryd.prog 28 #[x0] w (retK K) :=
  calls_of_WP (c28_eq x0 w K) mixedG Tryd.func28 (by kernel_rfl) Tryd.ntmps28 (by kernel_rfl) (by kernel_rfl) h

/-- imprimatur/imprimaturref04.Unpack -/
def c29 (x0 x1 x2 : Value) (w : World) (K : VPost) : Prop :=
  lenW Tryd.prog (some true) #[23] 3 #[x0] w fun t19_0 w1 =>
  binN Tryd.prog .eql 3 true t19_0 (.int .i64 0) w1 fun t20_2 w3 =>
  condW t20_2 (
  K (.tuple #[(.slice none 0 0), (.int .i64 0), (.bool false)]) w3) (
  idxW (some (none, 64)) x0 (.int .i64 0) w3 fun t22_4 w5 =>
  loadW (some (true, 64)) t22_4 w5 fun t23_6 w7 =>
  fnW Tryd.prog 28 #[t23_6] w7 fun t24_8 w9 =>
  lenW Tryd.prog (some true) #[22] 3 #[t24_8] w9 fun t26_10 w11 =>
  binN Tryd.prog .lss 3 true t26_10 (.int .i64 2) w11 fun t27_12 w13 =>
  condW t27_12 (
  K (.tuple #[(.slice none 0 0), (.int .i64 0), (.bool false)]) w13) (
  sliceW (.sl 1) t24_8 none (some (.int .i64 2)) none w13 fun t29_14 w15 =>
  fnW Tryd.prog 79 #[t29_14] w15 fun t30_16 w17 =>
  fnW Tryd.prog 22 #[t30_16] w17 fun t32_18 w19 =>
  binN Tryd.prog .eql 3 true t32_18 (.int .i64 0) w19 fun t34_20 w21 =>
  gstep t34_20 false w21 (fun K => K t32_18 w21) fun t36_22 w23 =>
  gstep t34_20 false w23 (fun K => K x0 w23) fun t37_24 w25 =>
  gstep t34_20 false w25 (fun K => lenW Tryd.prog (some true) #[23] 3 #[t37_24] w25 K) fun t38_26 w27 =>
  gstep t34_20 false w27 (fun K => binN Tryd.prog .gtr 3 false t36_22 t38_26 w27 K) fun t39_28 w29 =>
  pickW t34_20 (.bool true) t39_28 w29 fun t40_30 w31 =>
  condW t40_30 (
  K (.tuple #[(.slice none 0 0), (.int .i64 0), (.bool false)]) w31) (
  insW Tryd.prog (Instr.buildSlice 22 0 #[]) w31 fun t41_32 w33 =>
  bindX (endW Tryd.prog [.tmp 6, .tmp 7, .tmp 8] K) fun K34 =>
  bindX (seqX (fun f36 w37 =>
  lenW Tryd.prog (some true) #[22] 3 #[(f36 12)] w37 fun t55_38 w39 =>
  binN Tryd.prog .add 3 true (f36 10) (.int .i64 34) w39 fun t57_40 w41 =>
  binN Tryd.prog .neq 3 false t55_38 t57_40 w41 fun t58_42 w43 =>
  condW t58_42 (
  K (.tuple #[(.slice none 0 0), (.int .i64 0), (.bool false)]) w43) (
  binN Tryd.prog .add 3 true (.int .i64 2) (f36 10) w43 fun t61_44 w45 =>
  sliceW (.sl 1) (f36 12) (some (.int .i64 2)) (some t61_44) none w45 fun t62_46 w47 =>
  fnW Tryd.prog 16 #[t62_46] w47 fun t63_48 w49 =>
  fnW Tryd.prog 18 #[(f36 1), (f36 2), t63_48] w49 fun t68_50 w51 =>
  extrW t68_50 0 w51 fun t69_52 w53 =>
  extrW t68_50 1 w53 fun t70_54 w55 =>
  unN Tryd.prog .not t70_54 w55 fun t72_56 w57 =>
  condW t72_56 (
  K (.tuple #[(.slice none 0 0), (.int .i64 0), (.bool false)]) w57) (
  bindX (seqX (fun f59 w60 =>
  K (.tuple #[(f59 14), (f59 11), (.bool true)]) w60) K34) fun K58 =>
  bindX (blkX 2 K58) fun K61 =>
  loopW (fun f62 w63 K64 =>
  binN Tryd.prog .lss 3 false (f62 17) (f62 11) w63 fun t75_65 w66 =>
  condW t75_65 (
  idxW (some (none, 64)) (f62 15) (f62 17) w66.drew fun t80_67 w68 =>
  loadW (some (true, 64)) t80_67 w68 fun t81_69 w70 =>
  idxW (some (none, 64)) (f62 0) (f62 17) w70 fun t84_71 w72 =>
  loadW (some (true, 64)) t84_71 w72 fun t85_73 w74 =>
  binW Tryd.prog .neq 37 false t81_69 t85_73 w74 fun t86_75 w76 =>
  w76 = w74 ∧
  condW t86_75 (
  K64 .ret (pf 89 (pf 89 (pf 89 (pf 89 (pf 89 (pf 89 (pf 89 (pf 89 (pf 89 (pf 89 (pf 89 (pf 89 (pf 89 (pf 89 (pf 89 f62 73 (f62 17)) 74 (f62 11)) 75 t75_65) 78 (f62 15)) 79 (f62 17)) 80 t80_67) 81 t81_69) 82 (f62 0)) 83 (f62 17)) 84 t84_71) 85 t85_73) 86 t86_75) 6 (.slice none 0 0)) 7 (.int .i64 0)) 8 (.bool false)) w76) (
  binN Tryd.prog .add 3 true (f62 17) (.int .i64 1) w76 fun t77_77 w78 =>
  K64 .normal (pf 89 (pf 89 (pf 89 (pf 89 (pf 89 (pf 89 (pf 89 (pf 89 (pf 89 (pf 89 (pf 89 (pf 89 (pf 89 (pf 89 (pf 89 f62 73 (f62 17)) 74 (f62 11)) 75 t75_65) 78 (f62 15)) 79 (f62 17)) 80 t80_67) 81 t81_69) 82 (f62 0)) 83 (f62 17)) 84 t84_71) 85 t85_73) 86 t86_75) 76 (f62 17)) 77 t77_77) 17 t77_77) w78)) (
  K64 (.exit 2) (pf 89 (pf 89 (pf 89 f62 73 (f62 17)) 74 (f62 11)) 75 t75_65) w66)) (pf 89 (pf 89 (pf 89 (pf 89 (pf 89 (pf 89 (pf 89 (pf 89 (pf 89 (pf 89 (pf 89 (pf 89 (pf 89 (pf 89 (pf 89 (pf 89 (pf 89 (pf 89 (pf 89 (pf 89 (pf 89 (pf 89 (pf 89 f36 54 (f36 12)) 55 t55_38) 56 (f36 10)) 57 t57_40) 58 t58_42) 59 (f36 12)) 60 (f36 10)) 61 t61_44) 62 t62_46) 63 t63_48) 14 t63_48) 65 (f36 1)) 66 (f36 2)) 67 t63_48) 68 t68_50) 64 t68_50) 69 t69_52) 70 t70_54) 15 t69_52) 16 t70_54) 71 t70_54) 72 t72_56) 17 (.int .i64 0)) w57 K61))) K34) fun K35 =>
  bindX (blkX 0 K35) fun K79 =>
  loopW (fun f80 w81 K82 =>
  binN Tryd.prog .lss 3 false (f80 13) (f80 11) w81 fun t44_83 w84 =>
  condW t44_83 (
  idxW (some (none, 64)) (f80 0) (f80 13) w84 fun t50_85 w86 =>
  loadW (some (true, 64)) t50_85 w86 fun t51_87 w88 =>
  fnW Tryd.prog 28 #[t51_87] w88 fun t52_89 w90 =>
  insW Tryd.prog (Builtin.append_ #[22, 22] 22 #[(f80 12), t52_89]) w90 fun t53_91 w92 =>
  binN Tryd.prog .add 3 true (f80 13) (.int .i64 1) w92 fun t46_93 w94 =>
  K82 .normal (pf 89 (pf 89 (pf 89 (pf 89 (pf 89 (pf 89 (pf 89 (pf 89 (pf 89 (pf 89 (pf 89 (pf 89 (pf 89 (pf 89 f80 42 (f80 13)) 43 (f80 11)) 44 t44_83) 47 (f80 12)) 48 (f80 0)) 49 (f80 13)) 50 t50_85) 51 t51_87) 52 t52_89) 53 t53_91) 12 t53_91) 45 (f80 13)) 46 t46_93) 13 t46_93) w94) (
  K82 (.exit 0) (pf 89 (pf 89 (pf 89 f80 42 (f80 13)) 43 (f80 11)) 44 t44_83) w84)) (pf 89 (pf 89 (pf 89 (pf 89 (pf 89 (pf 89 (pf 89 (pf 89 (pf 89 (pf 89 (pf 89 (pf 89 (pf 89 (pf 89 (pf 89 (pf 89 (pf 89 (pf 89 (pf 89 (pf 89 (pf 89 (pf 89 (pf 89 (pf 89 (pf 89 (pf 89 (pf 89 (pf 89 (pf 89 (pf 89 (pf 89 (pf 89 (argF [x0, x1, x2]) 6 (.slice none 0 0)) 7 (.int .i64 0)) 8 (.bool false)) 18 x0) 19 t19_0) 20 t20_2) 21 x0) 22 t22_4) 23 t23_6) 24 t24_8) 9 t24_8) 25 t24_8) 26 t26_10) 27 t27_12) 28 t24_8) 29 t29_14) 30 t30_16) 10 t30_16) 31 t30_16) 32 t32_18) 11 t32_18) 33 t32_18) 34 t34_20) 35 t34_20) 36 t36_22) 37 t37_24) 38 t38_26) 39 t39_28) 40 t40_30) 41 t41_32) 12 t41_32) 13 (.int .i64 0)) w33 K79)))
theorem c29_eq (x0 x1 x2 : Value) (w : World) (K : VPost) : c29 x0 x1 x2 w K = WP true Tryd.prog 89 [(24, 0, [0, 0, 3, 4, 0, 0, 48, 64, 136], [0, 0, 3, 7, 0, 0, 48, 112, 255])] (bodyOf Tryd.f29) (argF [x0, x1, x2]) w [.tmp 6, .tmp 7, .tmp 8] K := by kernel_rfl
theorem c29_calls (x0 x1 x2 : Value) (w : World) (K : VPost) (h : c29 x0 x1 x2 w K) : Calls Tryd.prog 29 #[x0, x1, x2] w (retK K) :=
  calls_of_WP (c29_eq x0 x1 x2 w K) mixedG Tryd.func29 (by kernel_rfl) Tryd.ntmps29 (by kernel_rfl) (by kernel_rfl) h

/-- imprimatur/imprimaturref04.Highest -/
def c31 (x0 : Value) (w : World) (K : VPost) : Prop :=
  bindX (endW Tryd.prog [.tmp 2] K) fun K0 =>
  bindX (seqX (fun f2 w3 =>
  K (f2 3) w3) K0) fun K1 =>
  bindX (blkX 0 K1) fun K4 =>
  loopW (fun f5 w6 K7 =>
  lenW Tryd.prog (some true) #[23] 3 #[(f5 0)] w6 fun t7_8 w9 =>
  binN Tryd.prog .lss 3 false (f5 4) t7_8 w9 fun t8_10 w11 =>
  condW t8_10 (
  idxW (some (none, 64)) (f5 0) (f5 4) w11.drew fun t14_12 w13 =>
  sliceW (.arr 64 1) t14_12 none (some (.int .i64 4)) none w13 fun t15_14 w15 =>
  idxW (some (none, 64)) (f5 0) (f5 4) w15 fun t19_16 w17 =>
  sliceW (.arr 64 1) t19_16 (some (.int .i64 56)) (some (.int .i64 60)) none w17 fun t20_18 w19 =>
  fnW Tryd.prog 79 #[t15_14] w19 fun t16_20 w21 =>
  fnW Tryd.prog 79 #[t20_18] w21 fun t21_22 w23 =>
  insW Tryd.prog (Builtin.max_ #[3, 3] 3 #[t16_20, t21_22]) w23 fun t22_24 w25 =>
  w25 = w23 ∧
  insW Tryd.prog (Builtin.max_ #[3, 3] 3 #[(f5 3), t22_24]) w25 fun t23_26 w27 =>
  w27 = w25 ∧
  binN Tryd.prog .add 3 true (f5 4) (.int .i64 1) w27 fun t10_28 w29 =>
  K7 .normal (pf 25 (pf 25 (pf 25 (pf 25 (pf 25 (pf 25 (pf 25 (pf 25 (pf 25 (pf 25 (pf 25 (pf 25 (pf 25 (pf 25 (pf 25 (pf 25 (pf 25 (pf 25 (pf 25 (pf 25 (pf 25 f5 5 (f5 4)) 6 (f5 0)) 7 t7_8) 8 t8_10) 11 (f5 3)) 12 (f5 0)) 13 (f5 4)) 14 t14_12) 15 t15_14) 17 (f5 0)) 18 (f5 4)) 19 t19_16) 20 t20_18) 16 t16_20) 21 t21_22) 22 t22_24) 23 t23_26) 3 t23_26) 9 (f5 4)) 10 t10_28) 4 t10_28) w29) (
  K7 (.exit 0) (pf 25 (pf 25 (pf 25 (pf 25 f5 5 (f5 4)) 6 (f5 0)) 7 t7_8) 8 t8_10) w11)) (pf 25 (pf 25 (pf 25 (argF [x0]) 2 (.int .i64 0)) 3 (.int .i64 0)) 4 (.int .i64 0)) w K4
theorem c31_eq (x0 : Value) (w : World) (K : VPost) : c31 x0 w K = WP true Tryd.prog 25 [(5, 9248, [0, 0, 0, 6, 8, 16, 0, 0, 192, 256, 544, 1056, 2049, 8191], [0, 0, 0, 6, 14, 30, 0, 0, 192, 448, 1022, 2046, 4095, 8191])] (bodyOf Tryd.f31) (argF [x0]) w [.tmp 2] K := by kernel_rfl
theorem c31_calls (x0 : Value) (w : World) (K : VPost) (h : c31 x0 w K) : Calls Tryd.prog 31 #[x0] w (retK K) :=
  calls_of_WP (c31_eq x0 w K) mixedG Tryd.func31 (by kernel_rfl) Tryd.ntmps31 (by kernel_rfl) (by kernel_rfl) h

/-- imprimatur/imprimaturref04.sector -/
def c74 (x0 x1 x2 : Value) (w : World) (K : VPost) : Prop :=
  allocW (zeroO Tryd.prog 37) 37 w fun t6_0 w1 =>
  fnW Tryd.prog 135 #[x0] w1 fun t12_2 w3 =>
  fnW Tryd.prog 135 #[x1] w3 fun t14_4 w5 =>
  insW Tryd.prog (Builtin.append_ #[22, 22] 22 #[t12_2, t14_4]) w5 fun t15_6 w7 =>
  fnW Tryd.prog 16 #[t15_6] w7 fun t17_8 w9 =>
  lenW Tryd.prog (some true) #[22] 3 #[x2] w9 fun t20_10 w11 =>
  convN Tryd.prog 3 5 t20_10 w11 fun t21_12 w13 =>
  insW Tryd.prog (Instr.buildSlice 22 2 #[(0, (.int .u8 0)), (1, t21_12)]) w13 fun t22_14 w15 =>
  insW Tryd.prog (Builtin.append_ #[22, 22] 22 #[t15_6, t22_14]) w15 fun t23_16 w17 =>
  insW Tryd.prog (Builtin.append_ #[22, 22] 22 #[t23_16, x2]) w17 fun t26_18 w19 =>
  bindX (endW Tryd.prog [.cell 6 37] K) fun K20 =>
  bindX (seqX (fun f22 w23 =>
  insW Tryd.prog (Builtin.append_ #[22, 22] 22 #[(f22 7), (f22 8)]) w23 fun t35_24 w25 =>
  insW Tryd.prog (Instr.build 37 #[]) w25 fun t36_26 w27 =>
  allocW (zeroO Tryd.prog 37) 37 w27 fun t9_28 w29 =>
  storeW (some (true, 64)) t9_28 t36_26 w29 fun w30 =>
  bindX (seqX (fun f32 w33 =>
  loadW (some (true, 64)) (f32 9) w33 fun t47_34 w35 =>
  storeW (some (true, 64)) (f32 6) t47_34 w35 fun w36 =>
  loadW (some (true, 64)) (f32 6) w36 fun r37 _ =>
  K r37 w36) K20) fun K31 =>
  bindX (blkX 2 K31) fun K39 =>
  loopW (fun f40 w41 K42 =>
  binN Tryd.prog .lss 3 true (f40 10) (.int .i64 64) w41 fun t38_43 w44 =>
  condW t38_43 (
  idxW (some (none, 1)) (f40 7) (f40 10) w44 fun t44_45 w46 =>
  loadW (some (false, 1)) t44_45 w46 fun t45_47 w48 =>
  idxW (some ((some 64), 1)) (f40 9) (f40 10) w48 fun t46_49 w50 =>
  storeW (some (false, 1)) t46_49 t45_47 w50 fun w51 =>
  binN Tryd.prog .add 3 true (f40 10) (.int .i64 1) w51 fun t40_52 w53 =>
  K42 .normal (pf 48 (pf 48 (pf 48 (pf 48 (pf 48 (pf 48 (pf 48 (pf 48 (pf 48 (pf 48 (pf 48 f40 37 (f40 10)) 38 t38_43) 41 (f40 10)) 42 (f40 7)) 43 (f40 10)) 44 t44_45) 45 t45_47) 46 t46_49) 39 (f40 10)) 40 t40_52) 10 t40_52) w53) (
  K42 (.exit 2) (pf 48 (pf 48 f40 37 (f40 10)) 38 t38_43) w44)) (pf 48 (pf 48 (pf 48 (pf 48 (pf 48 (pf 48 (pf 48 f22 33 (f22 7)) 34 (f22 8)) 35 t35_24) 7 t35_24) 36 t36_26) 9 t9_28) 10 (.int .i64 0)) w30 K39) K20) fun K21 =>
  bindX (blkX 0 K21) fun K54 =>
  loopW (fun f55 w56 K57 =>
  lenW Tryd.prog (some true) #[22] 3 #[(f55 7)] w56 fun t28_58 w59 =>
  binN Tryd.prog .lss 3 true t28_58 (.int .i64 56) w59 fun t29_60 w61 =>
  condW t29_60 (
  insW Tryd.prog (Instr.buildSlice 22 1 #[(0, (.int .u8 0))]) w61 fun t31_62 w63 =>
  insW Tryd.prog (Builtin.append_ #[22, 22] 22 #[(f55 7), t31_62]) w63 fun t32_64 w65 =>
  K57 .normal (pf 48 (pf 48 (pf 48 (pf 48 (pf 48 (pf 48 (pf 48 f55 27 (f55 7)) 28 t28_58) 29 t29_60) 30 (f55 7)) 31 t31_62) 32 t32_64) 7 t32_64) w65) (
  K57 (.exit 0) (pf 48 (pf 48 (pf 48 f55 27 (f55 7)) 28 t28_58) 29 t29_60) w61)) (pf 48 (pf 48 (pf 48 (pf 48 (pf 48 (pf 48 (pf 48 (pf 48 (pf 48 (pf 48 (pf 48 (pf 48 (pf 48 (pf 48 (pf 48 (pf 48 (pf 48 (pf 48 (pf 48 (pf 48 (pf 48 (argF [x0, x1, x2]) 6 t6_0) 11 x0) 12 t12_2) 13 x1) 14 t14_4) 15 t15_6) 7 t15_6) 16 t15_6) 17 t17_8) 8 t17_8) 18 t15_6) 19 x2) 20 t20_10) 21 t21_12) 22 t22_14) 23 t23_16) 7 t23_16) 24 t23_16) 25 x2) 26 t26_18) 7 t26_18) w19 K54
theorem c74_eq (x0 x1 x2 : Value) (w : World) (K : VPost) : c74 x0 x1 x2 w K = WP true Tryd.prog 48 [] (bodyOf Tryd.f74) (argF [x0, x1, x2]) w [.cell 6 37] K := by kernel_rfl
theorem c74_calls (x0 x1 x2 : Value) (w : World) (K : VPost) (h : c74 x0 x1 x2 w K) : Calls Tryd.prog 74 #[x0, x1, x2] w (retK K) :=
  calls_of_WP (c74_eq x0 x1 x2 w K) mixedG Tryd.func74 (by kernel_rfl) Tryd.ntmps74 (by kernel_rfl) (by kernel_rfl) h

/-- imprimatur/imprimaturref04.number -/
def c79 (x0 : Value) (w : World) (K : VPost) : Prop :=
  bindX (endW Tryd.prog [.tmp 2] K) fun K0 =>
  bindX (seqX (fun f2 w3 =>
  K (f2 3) w3) K0) fun K1 =>
  bindX (blkX 0 K1) fun K4 =>
  loopW (fun f5 w6 K7 =>
  lenW Tryd.prog (some true) #[22] 3 #[(f5 0)] w6 fun t7_8 w9 =>
  binN Tryd.prog .lss 3 false (f5 4) t7_8 w9 fun t8_10 w11 =>
  condW t8_10 (
  binN Tryd.prog .mul 3 true (.int .i64 256) (f5 3) w11 fun t12_12 w13 =>
  idxW (some (none, 1)) (f5 0) (f5 4) w13 fun t15_14 w15 =>
  loadW (some (false, 1)) t15_14 w15 fun t16_16 w17 =>
  convN Tryd.prog 5 3 t16_16 w17 fun t17_18 w19 =>
  binN Tryd.prog .add 3 false t12_12 t17_18 w19 fun t18_20 w21 =>
  binN Tryd.prog .add 3 true (f5 4) (.int .i64 1) w21 fun t10_22 w23 =>
  K7 .normal (pf 20 (pf 20 (pf 20 (pf 20 (pf 20 (pf 20 (pf 20 (pf 20 (pf 20 (pf 20 (pf 20 (pf 20 (pf 20 (pf 20 (pf 20 (pf 20 f5 5 (f5 4)) 6 (f5 0)) 7 t7_8) 8 t8_10) 11 (f5 3)) 12 t12_12) 13 (f5 0)) 14 (f5 4)) 15 t15_14) 16 t16_16) 17 t17_18) 18 t18_20) 3 t18_20) 9 (f5 4)) 10 t10_22) 4 t10_22) w23) (
  K7 (.exit 0) (pf 20 (pf 20 (pf 20 (pf 20 f5 5 (f5 4)) 6 (f5 0)) 7 t7_8) 8 t8_10) w11)) (pf 20 (pf 20 (pf 20 (argF [x0]) 2 (.int .i64 0)) 3 (.int .i64 0)) 4 (.int .i64 0)) w K4
theorem c79_eq (x0 : Value) (w : World) (K : VPost) : c79 x0 w K = WP true Tryd.prog 20 [] (bodyOf Tryd.f79) (argF [x0]) w [.tmp 2] K := by kernel_rfl
theorem c79_calls (x0 : Value) (w : World) (K : VPost) (h : c79 x0 w K) : Calls Tryd.prog 79 #[x0] w (retK K) :=
  calls_of_WP (c79_eq x0 w K) mixedG Tryd.func79 (by kernel_rfl) Tryd.ntmps79 (by kernel_rfl) (by kernel_rfl) h

/-- imprimatur/imprimaturref04.four -/
def c135 (x0 : Value) (w : World) (K : VPost) : Prop :=
  binN Tryd.prog .quo 3 true x0 (.int .i64 16777216) w fun t4_0 w1 =>
  convN Tryd.prog 3 5 t4_0 w1 fun t5_2 w3 =>
  binN Tryd.prog .quo 3 true x0 (.int .i64 65536) w3 fun t7_4 w5 =>
  convN Tryd.prog 3 5 t7_4 w5 fun t8_6 w7 =>
  binN Tryd.prog .quo 3 true x0 (.int .i64 256) w7 fun t10_8 w9 =>
  convN Tryd.prog 3 5 t10_8 w9 fun t11_10 w11 =>
  convN Tryd.prog 3 5 x0 w11 fun t13_12 w13 =>
  insW Tryd.prog (Instr.buildSlice 22 4 #[(0, t5_2), (1, t8_6), (2, t11_10), (3, t13_12)]) w13 fun t14_14 w15 =>
  K t14_14 w15
theorem c135_eq (x0 : Value) (w : World) (K : VPost) : c135 x0 w K = WP true Tryd.prog 15 [] (bodyOf Tryd.f135) (argF [x0]) w [.tmp 2] K := by kernel_rfl
theorem c135_calls (x0 : Value) (w : World) (K : VPost) (h : c135 x0 w K) : Calls Tryd.prog 135 #[x0] w (retK K) :=
  calls_of_WP (c135_eq x0 w K) mixedG Tryd.func135 (by kernel_rfl) Tryd.ntmps135 (by kernel_rfl) (by kernel_rfl) h

end Go.Proofs.YtedebapgmfnflaaDoor
