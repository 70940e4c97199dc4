/- The clean forms of some of the program's functions, written by a program of ours; each is the model's own by the kernel's reckoning. -/
import Derived.Test.YtedebapgmfnflaaDoorGB
import Derived.KernelRfl
namespace Go.Proofs.YtedebapgmfnflaaDoor
open Go
set_option maxRecDepth 100000

/-- imprimatur/seal.Pack -/
def c17 (x0 x1 x2 : Value) (w : World) (K : VPost) : Prop :=
  boxW 3 x0 w fun t3_0 w1 =>
  boxW 3 x1 w1 fun t4_2 w3 =>
  lenW Tryd.prog (some true) #[22] 3 #[x2] w3 fun t12_4 w5 =>
  fnW Tryd.prog 21 #[t12_4] w5 fun t13_6 w7 =>
  binN Tryd.prog .eql 3 true t13_6 (.int .i64 0) w7 fun t15_8 w9 =>
  gstep t15_8 false w9 (fun K => loadW (some (false, 1)) t3_0 w9 K) fun t17_10 w11 =>
  gstep t15_8 false w11 (fun K => binN Tryd.prog .lss 3 true t17_10 (.int .i64 1) w11 K) fun t18_12 w13 =>
  pickW t15_8 (.bool true) t18_12 w13 fun t19_14 w15 =>
  gstep t19_14 false w15 (fun K => loadW (some (false, 1)) t3_0 w15 K) fun t21_16 w17 =>
  gstep t19_14 false w17 (fun K => binN Tryd.prog .gtr 3 true t21_16 (.int .i64 4294967295) w17 K) fun t22_18 w19 =>
  pickW t19_14 (.bool true) t22_18 w19 fun t23_20 w21 =>
  gstep t23_20 false w21 (fun K => loadW (some (false, 1)) t4_2 w21 K) fun t25_22 w23 =>
  gstep t23_20 false w23 (fun K => binN Tryd.prog .lss 3 true t25_22 (.int .i64 0) w23 K) fun t26_24 w25 =>
  pickW t23_20 (.bool true) t26_24 w25 fun t27_26 w27 =>
  gstep t27_26 false w27 (fun K => loadW (some (false, 1)) t4_2 w27 K) fun t29_28 w29 =>
  gstep t27_26 false w29 (fun K => K t13_6 w29) fun t30_30 w31 =>
  gstep t27_26 false w31 (fun K => binN Tryd.prog .sub 3 true (.int .i64 4294967296) t30_30 w31 K) fun t31_32 w33 =>
  gstep t27_26 false w33 (fun K => binN Tryd.prog .gtr 3 false t29_28 t31_32 w33 K) fun t32_34 w35 =>
  pickW t27_26 (.bool true) t32_34 w35 fun t33_36 w37 =>
  condW t33_36 (
  K (.tuple #[(.slice none 0 0), (.bool false)]) w37) (
  allocW (zeroO Tryd.prog 23) 23 w37 fun t9_38 w39 =>
  fnW Tryd.prog 71 #[x2] w39 fun t35_40 w41 =>
  fnW Tryd.prog 70 #[t35_40, (.int .i64 46)] w41 fun t36_42 w43 =>
  rangeH Tryd.prog false t36_42 1 (fun xs44 w45 T46 =>
  T46 w45 fun w47 K48 =>
  loadW (some (false, 1)) t9_38 w47.drew fun t38_49 w50 =>
  loadW (some (false, 1)) t3_0 w50 fun t39_51 w52 =>
  loadW (some (false, 1)) t4_2 w52 fun t40_53 w54 =>
  loadW (some (false, 1)) t9_38 w54 fun t41_55 w56 =>
  lenW Tryd.prog (some true) #[23] 3 #[t41_55] w56 fun t42_57 w58 =>
  binN Tryd.prog .add 3 false t40_53 t42_57 w58 fun t43_59 w60 =>
  fnW Tryd.prog 72 #[t39_51, t43_59, (xs44.getD 0 undef)] w60 fun t45_61 w62 =>
  (loadW (some (false, 1)) t9_38 w62 fun t38_63 w64 => t38_63 = t38_49 ∧ w64 = w62) ∧
  insW Tryd.prog (Instr.buildSlice 23 1 #[(0, t45_61)]) w62 fun t46_65 w66 =>
  (loadW (some (false, 1)) t9_38 w66 fun t38_67 w68 => t38_67 = t38_49 ∧ w68 = w66) ∧
  insW Tryd.prog (Builtin.append_ #[23, 23] 23 #[t38_49, t46_65]) w66 fun t47_69 w70 =>
  storeW (some (false, 1)) t9_38 t47_69 w70 fun w71 =>
  K48 .normal (pf 49 (pf 49 (pf 49 (pf 49 (pf 49 (pf 49 (pf 49 (pf 49 (pf 49 (pf 49 (pf 49 (pf 49 (pf 49 (pf 49 (pf 49 (pf 49 (pf 49 (pf 49 (pf 49 (pf 49 (pf 49 (pf 49 (pf 49 (pf 49 (pf 49 (pf 49 (pf 49 (pf 49 (pf 49 (pf 49 (pf 49 (pf 49 (pf 49 (pf 49 (pf 49 (pf 49 (pf 49 (pf 49 (pf 49 (pf 49 (pf 49 (pf 49 (pf 49 (pf 49 (argF [x0, x1, x2]) 3 t3_0) 4 t4_2) 6 (.slice none 0 0)) 7 (.bool false)) 11 x2) 12 t12_4) 13 t13_6) 8 t13_6) 14 t13_6) 15 t15_8) 16 t15_8) 17 t17_10) 18 t18_12) 19 t19_14) 20 t19_14) 21 t21_16) 22 t22_18) 23 t23_20) 24 t23_20) 25 t25_22) 26 t26_24) 27 t27_26) 28 t27_26) 29 t29_28) 30 t30_30) 31 t31_32) 32 t32_34) 33 t33_36) 9 t9_38) 34 x2) 35 t35_40) 36 t36_42) 37 (xs44.getD 0 undef)) 10 (xs44.getD 0 undef)) 38 t38_49) 39 t39_51) 40 t40_53) 41 t41_55) 42 t42_57) 43 t43_59) 44 (xs44.getD 0 undef)) 45 t45_61) 46 t46_65) 47 t47_69) w71) w43 (fun D72 w73 =>
  loadW (some (false, 1)) t9_38 w73 fun t48_74 w75 =>
  w75.heap[D72]? = some (.deferred (some [])) ∧ ∀ w76, w76 = w75.putObj D72 (.deferred none) →
  K (.tuple #[t48_74, (.bool true)]) w76) (fun _ _ _ => True))
theorem c17_eq (x0 x1 x2 : Value) (w : World) (K : VPost) : c17 x0 x1 x2 w K = WH true Tryd.prog 49 [(7, 1920, [0, 0, 0, 0, 8, 20, 0, 98, 128, 385, 1023], [0, 0, 0, 0, 8, 28, 0, 126, 254, 511, 1023])] (bodyOf Tryd.f17) (argF [x0, x1, x2]) w [.tmp 6, .tmp 7] K := by kernel_rfl
theorem c17_calls (x0 x1 x2 : Value) (w : World) (K : VPost) (h : c17 x0 x1 x2 w K) : Calls Tryd.prog 17 #[x0, x1, x2] w (retK K) :=
  calls_of_WH (c17_eq x0 x1 x2 w K) mixedG Tryd.func17 (by kernel_rfl) Tryd.ntmps17 (by kernel_rfl) (by kernel_rfl) h

/-- imprimatur/seal.Need -/
def c21 (x0 : Value) (w : World) (K : VPost) : Prop :=
  binN Tryd.prog .lss 3 true x0 (.int .i64 0) w fun t4_0 w1 =>
  gstep t4_0 false w1 (fun K => K x0 w1) fun t6_2 w3 =>
  gstep t4_0 false w3 (fun K => binN Tryd.prog .gtr 3 true t6_2 (.int .i64 2000) w3 K) fun t7_4 w5 =>
  pickW t4_0 (.bool true) t7_4 w5 fun t8_6 w7 =>
  condW t8_6 (
  K (.int .i64 0) w7) (
  binN Tryd.prog .add 3 true x0 (.int .i64 34) w7 fun t10_8 w9 =>
  binN Tryd.prog .add 3 true t10_8 (.int .i64 46) w9 fun t11_10 w11 =>
  binN Tryd.prog .sub 3 true t11_10 (.int .i64 1) w11 fun t12_12 w13 =>
  binN Tryd.prog .quo 3 true t12_12 (.int .i64 46) w13 fun t13_14 w15 =>
  K t13_14 w15)
theorem c21_eq (x0 : Value) (w : World) (K : VPost) : c21 x0 w K = WP true Tryd.prog 14 [] (bodyOf Tryd.f21) (argF [x0]) w [.tmp 2] K := by kernel_rfl
theorem c21_calls (x0 : Value) (w : World) (K : VPost) (h : c21 x0 w K) : Calls Tryd.prog 21 #[x0] w (retK K) :=
  calls_of_WP (c21_eq x0 w K) mixedG Tryd.func21 (by kernel_rfl) Tryd.ntmps21 (by kernel_rfl) (by kernel_rfl) h

/-- imprimatur/seal.Unpack -/
def c23 (x0 x1 x2 : Value) (w : World) (K : VPost) : Prop :=
  lenW Tryd.prog (some true) #[23] 3 #[x0] w fun t15_0 w1 =>
  binN Tryd.prog .eql 3 true t15_0 (.int .i64 0) w1 fun t16_2 w3 =>
  gstep t16_2 false w3 (fun K => K x1 w3) fun t18_4 w5 =>
  gstep t16_2 false w5 (fun K => binN Tryd.prog .lss 3 true t18_4 (.int .i64 1) w5 K) fun t19_6 w7 =>
  pickW t16_2 (.bool true) t19_6 w7 fun t20_8 w9 =>
  gstep t20_8 false w9 (fun K => K x1 w9) fun t22_10 w11 =>
  gstep t20_8 false w11 (fun K => binN Tryd.prog .gtr 3 true t22_10 (.int .i64 4294967295) w11 K) fun t23_12 w13 =>
  pickW t20_8 (.bool true) t23_12 w13 fun t24_14 w15 =>
  gstep t24_14 false w15 (fun K => K x2 w15) fun t26_16 w17 =>
  gstep t24_14 false w17 (fun K => binN Tryd.prog .lss 3 true t26_16 (.int .i64 0) w17 K) fun t27_18 w19 =>
  pickW t24_14 (.bool true) t27_18 w19 fun t28_20 w21 =>
  gstep t28_20 false w21 (fun K => K x2 w21) fun t30_22 w23 =>
  gstep t28_20 false w23 (fun K => binN Tryd.prog .gtr 3 true t30_22 (.int .i64 4294967295) w23 K) fun t31_24 w25 =>
  pickW t28_20 (.bool true) t31_24 w25 fun t32_26 w27 =>
  condW t32_26 (
  K (.tuple #[(.slice none 0 0), (.int .i64 0), (.bool false)]) w27) (
  idxW (some (none, 64)) x0 (.int .i64 0) w27 fun t34_28 w29 =>
  loadW (some (true, 64)) t34_28 w29 fun t35_30 w31 =>
  fnW Tryd.prog 27 #[t35_30] w31 fun t36_32 w33 =>
  lenW Tryd.prog (some true) #[22] 3 #[t36_32] w33 fun t38_34 w35 =>
  binN Tryd.prog .lss 3 true t38_34 (.int .i64 2) w35 fun t39_36 w37 =>
  condW t39_36 (
  K (.tuple #[(.slice none 0 0), (.int .i64 0), (.bool false)]) w37) (
  sliceW (.sl 1) t36_32 none (some (.int .i64 2)) none w37 fun t41_38 w39 =>
  fnW Tryd.prog 75 #[t41_38] w39 fun t42_40 w41 =>
  fnW Tryd.prog 21 #[t42_40] w41 fun t44_42 w43 =>
  binN Tryd.prog .eql 3 true t44_42 (.int .i64 0) w43 fun t46_44 w45 =>
  gstep t46_44 false w45 (fun K => K t44_42 w45) fun t48_46 w47 =>
  gstep t46_44 false w47 (fun K => K x0 w47) fun t49_48 w49 =>
  gstep t46_44 false w49 (fun K => lenW Tryd.prog (some true) #[23] 3 #[t49_48] w49 K) fun t50_50 w51 =>
  gstep t46_44 false w51 (fun K => binN Tryd.prog .gtr 3 false t48_46 t50_50 w51 K) fun t51_52 w53 =>
  pickW t46_44 (.bool true) t51_52 w53 fun t52_54 w55 =>
  condW t52_54 (
  K (.tuple #[(.slice none 0 0), (.int .i64 0), (.bool false)]) w55) (
  sliceW (.sl 64) x0 none (some t44_42) none w55 fun t56_56 w57 =>
  fnW Tryd.prog 76 #[t56_56, x1, x2] w57 fun t59_58 w59 =>
  extrW t59_58 0 w59 fun t60_60 w61 =>
  extrW t59_58 1 w61 fun t61_62 w63 =>
  binN Tryd.prog .neq 3 false t61_62 t44_42 w63 fun t64_64 w65 =>
  gstep t64_64 false w65 (fun K => K t60_60 w65) fun t66_66 w67 =>
  gstep t64_64 false w67 (fun K => lenW Tryd.prog (some true) #[22] 3 #[t66_66] w67 K) fun t67_68 w69 =>
  gstep t64_64 false w69 (fun K => K t42_40 w69) fun t68_70 w71 =>
  gstep t64_64 false w71 (fun K => binN Tryd.prog .add 3 true t68_70 (.int .i64 34) w71 K) fun t69_72 w73 =>
  gstep t64_64 false w73 (fun K => binN Tryd.prog .neq 3 false t67_68 t69_72 w73 K) fun t70_74 w75 =>
  pickW t64_64 (.bool true) t70_74 w75 fun t71_76 w77 =>
  gstep t71_76 false w77 (fun K => K t60_60 w77) fun t73_78 w79 =>
  gstep t71_76 false w79 (fun K => K t42_40 w79) fun t74_80 w81 =>
  gstep t71_76 false w81 (fun K => binN Tryd.prog .add 3 true (.int .i64 2) t74_80 w81 K) fun t75_82 w83 =>
  gstep t71_76 false w83 (fun K => sliceW (.sl 1) t73_78 (some (.int .i64 2)) (some t75_82) none w83 K) fun t76_84 w85 =>
  gstep t71_76 false w85 (fun K => fnW Tryd.prog 71 #[t76_84] w85 K) fun t77_86 w87 =>
  gstep t71_76 false w87 (fun K => K t60_60 w87) fun t78_88 w89 =>
  gstep t71_76 false w89 (fun K => fnW Tryd.prog 77 #[t77_86, t78_88] w89 K) fun t79_90 w91 =>
  gstep t71_76 false w91 (fun K => unN Tryd.prog .not t79_90 w91 K) fun t80_92 w93 =>
  pickW t71_76 (.bool true) t80_92 w93 fun t81_94 w95 =>
  condW t81_94 (
  K (.tuple #[(.slice none 0 0), (.int .i64 0), (.bool false)]) w95) (
  binN Tryd.prog .add 3 true (.int .i64 2) t42_40 w95 fun t84_96 w97 =>
  sliceW (.sl 1) t60_60 (some (.int .i64 2)) (some t84_96) none w97 fun t85_98 w99 =>
  fnW Tryd.prog 78 #[t85_98] w99 fun t86_100 w101 =>
  K (.tuple #[t86_100, t44_42, (.bool true)]) w101))))
theorem c23_eq (x0 x1 x2 : Value) (w : World) (K : VPost) : c23 x0 x1 x2 w K = WP true Tryd.prog 88 [] (bodyOf Tryd.f23) (argF [x0, x1, x2]) w [.tmp 6, .tmp 7, .tmp 8] K := by kernel_rfl
theorem c23_calls (x0 x1 x2 : Value) (w : World) (K : VPost) (h : c23 x0 x1 x2 w K) : Calls Tryd.prog 23 #[x0, x1, x2] w (retK K) :=
  calls_of_WP (c23_eq x0 x1 x2 w K) mixedG Tryd.func23 (by kernel_rfl) Tryd.ntmps23 (by kernel_rfl) (by kernel_rfl) h

/-- imprimatur/seal.Mark -/
def c24 (x0 : Value) (w : World) (K : VPost) : Prop :=
  boxW 37 x0 w fun t1_0 w1 =>
  loadW (some (true, 64)) t1_0 w1 fun t5_2 w3 =>
  fnW Tryd.prog 26 #[t5_2] w3 fun t6_4 w5 =>
  unN Tryd.prog .not t6_4 w5 fun t7_6 w7 =>
  condW t7_6 (
  K (.tuple #[(.int .i64 0), (.int .i64 0), (.bool false)]) w7) (
  sliceW (.arr 64 1) t1_0 none (some (.int .i64 4)) none w7.drew fun t8_8 w9 =>
  sliceW (.arr 64 1) t1_0 (some (.int .i64 4)) (some (.int .i64 8)) none w9 fun t10_10 w11 =>
  fnW Tryd.prog 75 #[t8_8] w11 fun t9_12 w13 =>
  fnW Tryd.prog 75 #[t10_10] w13 fun t11_14 w15 =>
  K (.tuple #[t9_12, t11_14, (.bool true)]) w15)
theorem c24_eq (x0 : Value) (w : World) (K : VPost) : c24 x0 w K = WP true Tryd.prog 12 [(3, 10, [0, 1, 0, 6, 11, 31, 63], [0, 1, 0, 7, 15, 31, 63])] (bodyOf Tryd.f24) (argF [x0]) w [.tmp 2, .tmp 3, .tmp 4] K := by kernel_rfl
theorem c24_calls (x0 : Value) (w : World) (K : VPost) (h : c24 x0 w K) : Calls Tryd.prog 24 #[x0] w (retK K) :=
  calls_of_WP (c24_eq x0 w K) mixedG Tryd.func24 (by kernel_rfl) Tryd.ntmps24 (by kernel_rfl) (by kernel_rfl) h

/-- imprimatur/seal.Whole -/
def c26 (x0 : Value) (w : World) (K : VPost) : Prop :=
  boxW 37 x0 w fun t1_0 w1 =>
  sliceW (.arr 64 1) t1_0 (some (.int .i64 8)) (some (.int .i64 10)) none w1 fun t4_2 w3 =>
  fnW Tryd.prog 75 #[t4_2] w3 fun t5_4 w5 =>
  binN Tryd.prog .leq 3 true t5_4 (.int .i64 46) w5.drew fun t7_6 w7 =>
  gstep t7_6 true w7 (fun K => sliceW (.arr 64 1) t1_0 none (some (.int .i64 8)) none w7 K) fun t9_8 w9 =>
  gstep t7_6 true w9 (fun K => sliceW (.arr 64 1) t1_0 (some (.int .i64 56)) none none w9 K) fun t10_10 w11 =>
  gstep t7_6 true w11 (fun K => fnW Tryd.prog 77 #[t9_8, t10_10] w11 K) fun t11_12 w13 =>
  pickW t7_6 t11_12 (.bool false) w13 fun t12_14 w15 =>
  gstep t12_14 true w15 (fun K => K t5_4 w15) fun t14_16 w17 =>
  gstep t12_14 true w17 (fun K => binN Tryd.prog .add 3 true (.int .i64 10) t14_16 w17 K) fun t15_18 w19 =>
  gstep t12_14 true w19 (fun K => sliceW (.arr 64 1) t1_0 (some t15_18) (some (.int .i64 56)) none w19 K) fun t16_20 w21 =>
  gstep t12_14 true w21 (fun K => fnW Tryd.prog 80 #[t16_20, (.string ⟨#[0]⟩)] w21 K) fun t17_22 w23 =>
  gstep t12_14 true w23 (fun K => lenW Tryd.prog (some true) #[22] 3 #[t17_22] w23 K) fun t18_24 w25 =>
  gstep t12_14 true w25 (fun K => binN Tryd.prog .eql 3 true t18_24 (.int .i64 0) w25 K) fun t19_26 w27 =>
  pickW t12_14 t19_26 (.bool false) w27 fun t20_28 w29 =>
  K t20_28 w29
theorem c26_eq (x0 : Value) (w : World) (K : VPost) : c26 x0 w K = WP true Tryd.prog 21 [(2, 2080, [0, 1, 2, 4, 4, 28, 36, 96, 128, 384, 640, 1152, 2176, 4224, 8320, 32767], [0, 1, 3, 7, 7, 31, 63, 127, 255, 511, 1023, 2047, 4095, 8191, 16383, 32767])] (bodyOf Tryd.f26) (argF [x0]) w [.tmp 2] K := by kernel_rfl
theorem c26_calls (x0 : Value) (w : World) (K : VPost) (h : c26 x0 w K) : Calls Tryd.prog 26 #[x0] w (retK K) :=
  calls_of_WP (c26_eq x0 w K) mixedG Tryd.func26 (by kernel_rfl) Tryd.ntmps26 (by kernel_rfl) (by kernel_rfl) h

/-- imprimatur/seal.Data -/
def c27 (x0 : Value) (w : World) (K : VPost) : Prop :=
  boxW 37 x0 w fun t1_0 w1 =>
  loadW (some (true, 64)) t1_0 w1 fun t3_2 w3 =>
  fnW Tryd.prog 26 #[t3_2] w3 fun t4_4 w5 =>
  unN Tryd.prog .not t4_4 w5 fun t5_6 w7 =>
  condW t5_6 (
  K (.slice none 0 0) w7) (
  sliceW (.arr 64 1) t1_0 (some (.int .i64 8)) (some (.int .i64 10)) none w7 fun t6_8 w9 =>
  fnW Tryd.prog 75 #[t6_8] w9 fun t7_10 w11 =>
  binN Tryd.prog .add 3 true (.int .i64 10) t7_10 w11 fun t8_12 w13 =>
  sliceW (.arr 64 1) t1_0 (some (.int .i64 10)) (some t8_12) none w13 fun t9_14 w15 =>
  fnW Tryd.prog 78 #[t9_14] w15 fun t10_16 w17 =>
  K t10_16 w17)
theorem c27_eq (x0 : Value) (w : World) (K : VPost) : c27 x0 w K = WP true Tryd.prog 11 [] (bodyOf Tryd.f27) (argF [x0]) w [.tmp 2] K := by kernel_rfl
theorem c27_calls (x0 : Value) (w : World) (K : VPost) (h : c27 x0 w K) : Calls Tryd.prog 27 #[x0] w (retK K) :=
  calls_of_WP (c27_eq x0 w K) mixedG Tryd.func27 (by kernel_rfl) Tryd.ntmps27 (by kernel_rfl) (by kernel_rfl) h

/-- imprimatur/seal.Highest -/
def c30 (x0 : Value) (w : World) (K : VPost) : Prop :=
  bindX (endW Tryd.prog [.tmp 2] K) fun K0 =>
  bindX (seqX (fun f2 w3 =>
  K (f2 3) w3) K0) fun K1 =>
  lenW Tryd.prog (some true) #[23] 3 #[x0] w fun t7_4 w5 =>
  bindX (blkX 0 K1) fun K6 =>
  loopW (fun f7 w8 K9 =>
  binN Tryd.prog .lss 3 false (f7 8) (f7 7) w8 fun t9_10 w11 =>
  condW t9_10 (
  idxW (some (none, 64)) (f7 6) (f7 8) w11 fun t10_12 w13 =>
  loadW (some (true, 64)) t10_12 w13 fun t11_14 w15 =>
  allocW (zeroO Tryd.prog 37) 37 w15 fun t5_16 w17 =>
  storeW (some (true, 64)) t5_16 t11_14 w17 fun w18 =>
  sliceW (.arr 64 1) t5_16 none (some (.int .i64 4)) none w18.drew fun t13_19 w20 =>
  sliceW (.arr 64 1) t5_16 (some (.int .i64 56)) (some (.int .i64 60)) none w20 fun t15_21 w22 =>
  fnW Tryd.prog 75 #[t13_19] w22 fun t14_23 w24 =>
  fnW Tryd.prog 75 #[t15_21] w24 fun t16_25 w26 =>
  insW Tryd.prog (Builtin.max_ #[3, 3, 3] 3 #[(f7 3), t14_23, t16_25]) w26 fun t17_27 w28 =>
  w28 = w26 ∧
  binN Tryd.prog .add 3 true (f7 8) (.int .i64 1) w28 fun t18_29 w30 =>
  K9 .normal (pf 20 (pf 20 (pf 20 (pf 20 (pf 20 (pf 20 (pf 20 (pf 20 (pf 20 (pf 20 (pf 20 (pf 20 (pf 20 f7 9 t9_10) 10 t10_12) 11 t11_14) 5 t5_16) 12 (f7 3)) 13 t13_19) 15 t15_21) 14 t14_23) 16 t16_25) 17 t17_27) 3 t17_27) 18 t18_29) 8 t18_29) w30) (
  K9 (.exit 0) (pf 20 f7 9 t9_10) w11)) (pf 20 (pf 20 (pf 20 (pf 20 (pf 20 (argF [x0]) 2 (.int .i64 0)) 3 (.int .i64 0)) 6 x0) 7 t7_4) 8 (.int .i64 0)) w5 K6
theorem c30_eq (x0 : Value) (w : World) (K : VPost) : c30 x0 w K = WP true Tryd.prog 20 [(5, 84, [0, 0, 2, 0, 12, 21, 63], [0, 0, 2, 0, 14, 31, 63])] (bodyOf Tryd.f30) (argF [x0]) w [.tmp 2] K := by kernel_rfl
theorem c30_calls (x0 : Value) (w : World) (K : VPost) (h : c30 x0 w K) : Calls Tryd.prog 30 #[x0] w (retK K) :=
  calls_of_WP (c30_eq x0 w K) mixedG Tryd.func30 (by kernel_rfl) Tryd.ntmps30 (by kernel_rfl) (by kernel_rfl) h

/-- imprimatur/seal.sealed -/
def c71 (x0 : Value) (w : World) (K : VPost) : Prop :=
  lenW Tryd.prog (some true) #[22] 3 #[x0] w fun t6_0 w1 =>
  fnW Tryd.prog 128 #[t6_0, (.int .i64 2)] w1 fun t7_2 w3 =>
  insW Tryd.prog (Builtin.append_ #[22, 22] 22 #[t7_2, x0]) w3 fun t9_4 w5 =>
  fnW Tryd.prog 129 #[t9_4] w5 fun t11_6 w7 =>
  allocW (zeroO Tryd.prog 77) 77 w7 fun t4_8 w9 =>
  storeW (some (true, 32)) t4_8 t11_6 w9 fun w10 =>
  sliceW (.arr 32 1) t4_8 none none none w10 fun t13_11 w12 =>
  insW Tryd.prog (Builtin.append_ #[22, 22] 22 #[t9_4, t13_11]) w12 fun t14_13 w14 =>
  K t14_13 w14
theorem c71_eq (x0 : Value) (w : World) (K : VPost) : c71 x0 w K = WP true Tryd.prog 15 [] (bodyOf Tryd.f71) (argF [x0]) w [.tmp 2] K := by kernel_rfl
theorem c71_calls (x0 : Value) (w : World) (K : VPost) (h : c71 x0 w K) : Calls Tryd.prog 71 #[x0] w (retK K) :=
  calls_of_WP (c71_eq x0 w K) mixedG Tryd.func71 (by kernel_rfl) Tryd.ntmps71 (by kernel_rfl) (by kernel_rfl) h

/-- imprimatur/seal.sector -/
def c72 (x0 x1 x2 : Value) (w : World) (K : VPost) : Prop :=
  allocW (zeroO Tryd.prog 37) 37 w fun t6_0 w1 =>
  allocW (zeroO Tryd.prog 37) 37 w1 fun t7_2 w3 =>
  fnW Tryd.prog 128 #[x0, (.int .i64 4)] w3 fun t10_4 w5 =>
  fnW Tryd.prog 128 #[x1, (.int .i64 4)] w5 fun t12_6 w7 =>
  insW Tryd.prog (Builtin.append_ #[22, 22] 22 #[t10_4, t12_6]) w7 fun t13_8 w9 =>
  sliceW (.arr 64 1) t7_2 none none none w9.drew fun t14_10 w11 =>
  lenW Tryd.prog (some true) #[22] 3 #[x2] w11 fun t17_12 w13 =>
  fnW Tryd.prog 128 #[t17_12, (.int .i64 2)] w13 fun t18_14 w15 =>
  insW Tryd.prog (Instr.buildSlice 45 3 #[(0, t13_8), (1, t18_14), (2, x2)]) w15 fun t20_16 w17 =>
  fnW Tryd.prog 130 #[t20_16] w17 fun t21_18 w19 =>
  insW Tryd.prog (Builtin.copy_ #[22, 22] 3 #[t14_10, t21_18]) w19 fun _ w21 =>
  sliceW (.arr 64 1) t7_2 (some (.int .i64 56)) none none w21 fun t23_22 w23 =>
  insW Tryd.prog (Builtin.copy_ #[22, 22] 3 #[t23_22, t13_8]) w23 fun _ w25 =>
  loadW (some (true, 64)) t7_2 w25 fun t26_26 w27 =>
  storeW (some (true, 64)) t6_0 t26_26 w27 fun w28 =>
  loadW (some (true, 64)) t6_0 w28 fun r29 _ =>
  K r29 w28
theorem c72_eq (x0 x1 x2 : Value) (w : World) (K : VPost) : c72 x0 x1 x2 w K = WP true Tryd.prog 27 [(3, 464, [0, 0, 0, 4, 8, 0, 50, 80, 129], [0, 0, 0, 4, 12, 0, 62, 126, 255])] (bodyOf Tryd.f72) (argF [x0, x1, x2]) w [.cell 6 37] K := by kernel_rfl
theorem c72_calls (x0 x1 x2 : Value) (w : World) (K : VPost) (h : c72 x0 x1 x2 w K) : Calls Tryd.prog 72 #[x0, x1, x2] w (retK K) :=
  calls_of_WP (c72_eq x0 x1 x2 w K) mixedG Tryd.func72 (by kernel_rfl) Tryd.ntmps72 (by kernel_rfl) (by kernel_rfl) h

/-- imprimatur/seal.get -/
def c75 (x0 : Value) (w : World) (K : VPost) : Prop :=
  bindX (endW Tryd.prog [.tmp 2] K) fun K0 =>
  bindX (seqX (fun f2 w3 =>
  K (f2 3) w3) K0) fun K1 =>
  lenW Tryd.prog (some true) #[22] 3 #[x0] w fun t7_4 w5 =>
  bindX (blkX 0 K1) fun K6 =>
  loopW (fun f7 w8 K9 =>
  binN Tryd.prog .lss 3 false (f7 8) (f7 7) w8 fun t9_10 w11 =>
  condW t9_10 (
  idxW (some (none, 1)) (f7 6) (f7 8) w11 fun t10_12 w13 =>
  loadW (some (false, 1)) t10_12 w13 fun t11_14 w15 =>
  binN Tryd.prog .shl 3 true (f7 3) (.int .u64 8) w15 fun t13_16 w17 =>
  convN Tryd.prog 5 3 t11_14 w17 fun t15_18 w19 =>
  binN Tryd.prog .or 3 false t13_16 t15_18 w19 fun t16_20 w21 =>
  binN Tryd.prog .add 3 true (f7 8) (.int .i64 1) w21 fun t17_22 w23 =>
  K9 .normal (pf 19 (pf 19 (pf 19 (pf 19 (pf 19 (pf 19 (pf 19 (pf 19 (pf 19 (pf 19 (pf 19 (pf 19 f7 9 t9_10) 10 t10_12) 11 t11_14) 5 t11_14) 12 (f7 3)) 13 t13_16) 14 t11_14) 15 t15_18) 16 t16_20) 3 t16_20) 17 t17_22) 8 t17_22) w23) (
  K9 (.exit 0) (pf 19 f7 9 t9_10) w11)) (pf 19 (pf 19 (pf 19 (pf 19 (pf 19 (argF [x0]) 2 (.int .i64 0)) 3 (.int .i64 0)) 6 x0) 7 t7_4) 8 (.int .i64 0)) w5 K6
theorem c75_eq (x0 : Value) (w : World) (K : VPost) : c75 x0 w K = WP true Tryd.prog 19 [] (bodyOf Tryd.f75) (argF [x0]) w [.tmp 2] K := by kernel_rfl
theorem c75_calls (x0 : Value) (w : World) (K : VPost) (h : c75 x0 w K) : Calls Tryd.prog 75 #[x0] w (retK K) :=
  calls_of_WP (c75_eq x0 w K) mixedG Tryd.func75 (by kernel_rfl) Tryd.ntmps75 (by kernel_rfl) (by kernel_rfl) h

/-- imprimatur/seal.put -/
def c128 (x0 x1 : Value) (w : World) (K : VPost) : Prop :=
  insW Tryd.prog (Instr.makeSlice 22 x1 x1) w fun t8_0 w1 =>
  bindX (endW Tryd.prog [.tmp 4] K) fun K2 =>
  bindX (seqX (fun f4 w5 =>
  K (f4 5) w5) K2) fun K3 =>
  lenW Tryd.prog (some true) #[22] 3 #[t8_0] w1 fun t10_6 w7 =>
  bindX (blkX 0 K3) fun K8 =>
  loopW (fun f9 w10 K11 =>
  binN Tryd.prog .lss 3 false (f9 11) (f9 10) w10 fun t12_12 w13 =>
  condW t12_12 (
  binN Tryd.prog .sub 3 true (f9 1) (.int .i64 1) w13 fun t16_14 w15 =>
  binN Tryd.prog .sub 3 false t16_14 (f9 11) w15 fun t18_16 w17 =>
  binN Tryd.prog .mul 3 true (.int .i64 8) (f9 11) w17 fun t21_18 w19 =>
  binN Tryd.prog .shr 3 false (f9 0) t21_18 w19 fun t22_20 w21 =>
  convN Tryd.prog 3 5 t22_20 w21 fun t23_22 w23 =>
  idxW (some (none, 1)) (f9 5) t18_16 w23 fun t24_24 w25 =>
  storeW (some (false, 1)) t24_24 t23_22 w25 fun w26 =>
  binN Tryd.prog .add 3 true (f9 11) (.int .i64 1) w26 fun t25_27 w28 =>
  K11 .normal (pf 27 (pf 27 (pf 27 (pf 27 (pf 27 (pf 27 (pf 27 (pf 27 (pf 27 (pf 27 (pf 27 (pf 27 (pf 27 (pf 27 (pf 27 (pf 27 f9 12 t12_12) 13 (f9 11)) 6 (f9 11)) 14 (f9 5)) 15 (f9 1)) 16 t16_14) 17 (f9 11)) 18 t18_16) 19 (f9 0)) 20 (f9 11)) 21 t21_18) 22 t22_20) 23 t23_22) 24 t24_24) 25 t25_27) 11 t25_27) w28) (
  K11 (.exit 0) (pf 27 f9 12 t12_12) w13)) (pf 27 (pf 27 (pf 27 (pf 27 (pf 27 (pf 27 (pf 27 (argF [x0, x1]) 4 (.slice none 0 0)) 7 x1) 8 t8_0) 5 t8_0) 9 t8_0) 10 t10_6) 11 (.int .i64 0)) w7 K8
theorem c128_eq (x0 x1 : Value) (w : World) (K : VPost) : c128 x0 x1 w K = WP true Tryd.prog 27 [] (bodyOf Tryd.f128) (argF [x0, x1]) w [.tmp 4] K := by kernel_rfl
theorem c128_calls (x0 x1 : Value) (w : World) (K : VPost) (h : c128 x0 x1 w K) : Calls Tryd.prog 128 #[x0, x1] w (retK K) :=
  calls_of_WP (c128_eq x0 x1 w K) mixedG Tryd.func128 (by kernel_rfl) Tryd.ntmps128 (by kernel_rfl) (by kernel_rfl) h

/-- imprimatur/seal.gather -/
def c76 (x0 x1 x2 : Value) (w : World) (K : VPost) : Prop :=
  bindX (endW Tryd.prog [.tmp 6, .tmp 7] K) fun K0 =>
  bindX (seqX (fun f2 w3 =>
  lenW Tryd.prog (some true) #[23] 3 #[(f2 0)] w3 fun t63_4 w5 =>
  K (.tuple #[(f2 8), t63_4]) w5) K0) fun K1 =>
  lenW Tryd.prog (some true) #[23] 3 #[x0] w fun t16_6 w7 =>
  bindX (blkX 0 K1) fun K8 =>
  loopW (fun f9 w10 K11 =>
  binN Tryd.prog .lss 3 false (f9 17) (f9 16) w10 fun t18_12 w13 =>
  condW t18_12 (
  idxW (some (none, 64)) (f9 15) (f9 17) w13 fun t20_14 w15 =>
  loadW (some (true, 64)) t20_14 w15 fun t21_16 w17 =>
  allocW (zeroO Tryd.prog 37) 37 w17 fun t10_18 w19 =>
  storeW (some (true, 64)) t10_18 t21_16 w19 fun w20 =>
  loadW (some (true, 64)) t10_18 w20 fun t23_21 w22 =>
  fnW Tryd.prog 24 #[t23_21] w22 fun t24_23 w24 =>
  extrW t24_23 0 w24 fun t25_25 w26 =>
  extrW t24_23 1 w26 fun t26_27 w28 =>
  extrW t24_23 2 w28 fun t27_29 w30 =>
  unN Tryd.prog .not t27_29 w30 fun t29_31 w32 =>
  gstep t29_31 false w32 (fun K => K t25_25 w32) fun t31_33 w34 =>
  gstep t29_31 false w34 (fun K => K (f9 1) w34) fun t32_35 w36 =>
  gstep t29_31 false w36 (fun K => binN Tryd.prog .neq 3 false t31_33 t32_35 w36 K) fun t33_37 w38 =>
  pickW t29_31 (.bool true) t33_37 w38 fun t34_39 w40 =>
  gstep t34_39 false w40 (fun K => K t26_27 w40) fun t36_41 w42 =>
  gstep t34_39 false w42 (fun K => K (f9 2) w42) fun t37_43 w44 =>
  gstep t34_39 false w44 (fun K => K (f9 17) w44) fun t38_45 w46 =>
  gstep t34_39 false w46 (fun K => binN Tryd.prog .add 3 false t37_43 t38_45 w46 K) fun t39_47 w48 =>
  gstep t34_39 false w48 (fun K => binN Tryd.prog .neq 3 false t36_41 t39_47 w48 K) fun t40_49 w50 =>
  pickW t34_39 (.bool true) t40_49 w50 fun t41_51 w52 =>
  condW t41_51 (
  K11 .ret (pf 64 (pf 64 (pf 64 (pf 64 (pf 64 (pf 64 (pf 64 (pf 64 (pf 64 (pf 64 (pf 64 (pf 64 (pf 64 (pf 64 (pf 64 (pf 64 (pf 64 (pf 64 (pf 64 (pf 64 (pf 64 (pf 64 (pf 64 (pf 64 (pf 64 (pf 64 (pf 64 (pf 64 (pf 64 (pf 64 (pf 64 (pf 64 (pf 64 f9 18 t18_12) 19 (f9 17)) 20 t20_14) 21 t21_16) 10 t10_18) 9 (f9 17)) 23 t23_21) 24 t24_23) 22 t24_23) 25 t25_25) 26 t26_27) 27 t27_29) 11 t25_25) 12 t26_27) 13 t27_29) 28 t27_29) 29 t29_31) 30 t29_31) 31 t31_33) 32 t32_35) 33 t33_37) 34 t34_39) 35 t34_39) 36 t36_41) 37 t37_43) 38 t38_45) 39 t39_47) 40 t40_49) 41 t41_51) 42 (f9 8)) 43 (f9 17)) 6 (f9 8)) 7 (f9 17)) w52) (
  loadW (some (true, 64)) t10_18 w52 fun t44_53 w54 =>
  fnW Tryd.prog 27 #[t44_53] w54 fun t45_55 w56 =>
  insW Tryd.prog (Builtin.append_ #[22, 22] 22 #[(f9 8), t45_55]) w56 fun t48_57 w58 =>
  lenW Tryd.prog (some true) #[22] 3 #[t45_55] w58 fun t50_59 w60 =>
  binN Tryd.prog .lss 3 true t50_59 (.int .i64 46) w60 fun t51_61 w62 =>
  gstep t51_61 false w62 (fun K => K t48_57 w62) fun t53_63 w64 =>
  gstep t51_61 false w64 (fun K => lenW Tryd.prog (some true) #[22] 3 #[t53_63] w64 K) fun t54_65 w66 =>
  gstep t51_61 false w66 (fun K => binN Tryd.prog .geq 3 true t54_65 (.int .i64 2034) w66 K) fun t55_67 w68 =>
  pickW t51_61 (.bool true) t55_67 w68 fun t56_69 w70 =>
  condW t56_69 (
  binN Tryd.prog .add 3 true (f9 17) (.int .i64 1) w70 fun t59_71 w72 =>
  K11 .ret (pf 64 (pf 64 (pf 64 (pf 64 (pf 64 (pf 64 (pf 64 (pf 64 (pf 64 (pf 64 (pf 64 (pf 64 (pf 64 (pf 64 (pf 64 (pf 64 (pf 64 (pf 64 (pf 64 (pf 64 (pf 64 (pf 64 (pf 64 (pf 64 (pf 64 (pf 64 (pf 64 (pf 64 (pf 64 (pf 64 (pf 64 (pf 64 (pf 64 (pf 64 (pf 64 (pf 64 (pf 64 (pf 64 (pf 64 (pf 64 (pf 64 (pf 64 (pf 64 (pf 64 (pf 64 (pf 64 (pf 64 (pf 64 (pf 64 f9 18 t18_12) 19 (f9 17)) 20 t20_14) 21 t21_16) 10 t10_18) 9 (f9 17)) 23 t23_21) 24 t24_23) 22 t24_23) 25 t25_25) 26 t26_27) 27 t27_29) 11 t25_25) 12 t26_27) 13 t27_29) 28 t27_29) 29 t29_31) 30 t29_31) 31 t31_33) 32 t32_35) 33 t33_37) 34 t34_39) 35 t34_39) 36 t36_41) 37 t37_43) 38 t38_45) 39 t39_47) 40 t40_49) 41 t41_51) 44 t44_53) 45 t45_55) 14 t45_55) 46 (f9 8)) 47 t45_55) 48 t48_57) 8 t48_57) 49 t45_55) 50 t50_59) 51 t51_61) 52 t51_61) 53 t53_63) 54 t54_65) 55 t55_67) 56 t56_69) 57 t48_57) 58 (f9 17)) 59 t59_71) 6 t48_57) 7 t59_71) w72) (
  binN Tryd.prog .add 3 true (f9 17) (.int .i64 1) w70 fun t60_73 w74 =>
  K11 .normal (pf 64 (pf 64 (pf 64 (pf 64 (pf 64 (pf 64 (pf 64 (pf 64 (pf 64 (pf 64 (pf 64 (pf 64 (pf 64 (pf 64 (pf 64 (pf 64 (pf 64 (pf 64 (pf 64 (pf 64 (pf 64 (pf 64 (pf 64 (pf 64 (pf 64 (pf 64 (pf 64 (pf 64 (pf 64 (pf 64 (pf 64 (pf 64 (pf 64 (pf 64 (pf 64 (pf 64 (pf 64 (pf 64 (pf 64 (pf 64 (pf 64 (pf 64 (pf 64 (pf 64 (pf 64 (pf 64 f9 18 t18_12) 19 (f9 17)) 20 t20_14) 21 t21_16) 10 t10_18) 9 (f9 17)) 23 t23_21) 24 t24_23) 22 t24_23) 25 t25_25) 26 t26_27) 27 t27_29) 11 t25_25) 12 t26_27) 13 t27_29) 28 t27_29) 29 t29_31) 30 t29_31) 31 t31_33) 32 t32_35) 33 t33_37) 34 t34_39) 35 t34_39) 36 t36_41) 37 t37_43) 38 t38_45) 39 t39_47) 40 t40_49) 41 t41_51) 44 t44_53) 45 t45_55) 14 t45_55) 46 (f9 8)) 47 t45_55) 48 t48_57) 8 t48_57) 49 t45_55) 50 t50_59) 51 t51_61) 52 t51_61) 53 t53_63) 54 t54_65) 55 t55_67) 56 t56_69) 60 t60_73) 17 t60_73) w74))) (
  K11 (.exit 0) (pf 64 f9 18 t18_12) w13)) (pf 64 (pf 64 (pf 64 (pf 64 (pf 64 (pf 64 (argF [x0, x1, x2]) 6 (.slice none 0 0)) 7 (.int .i64 0)) 8 (.slice none 0 0)) 15 x0) 16 t16_6) 17 (.int .i64 0)) w7 K8
theorem c76_eq (x0 x1 x2 : Value) (w : World) (K : VPost) : c76 x0 x1 x2 w K = WP true Tryd.prog 64 [] (bodyOf Tryd.f76) (argF [x0, x1, x2]) w [.tmp 6, .tmp 7] K := by kernel_rfl
theorem c76_calls (x0 x1 x2 : Value) (w : World) (K : VPost) (h : c76 x0 x1 x2 w K) : Calls Tryd.prog 76 #[x0, x1, x2] w (retK K) :=
  calls_of_WP (c76_eq x0 x1 x2 w K) mixedG Tryd.func76 (by kernel_rfl) Tryd.ntmps76 (by kernel_rfl) (by kernel_rfl) h

/-- slices.Chunk[[]byte,byte] -/
def c70 (x0 x1 : Value) (w : World) (K : VPost) : Prop :=
  boxW 22 x0 w fun t2_0 w1 =>
  boxW 3 x1 w1 fun t3_2 w3 =>
  bindX (endW Tryd.prog [.tmp 4] K) fun K4 =>
  bindX (seqX (fun f6 w7 =>
  insW Tryd.prog (Instr.makeFunc (.func 127) #[] #[(f6 2), (f6 3)]) w7 fun t8_8 w9 =>
  K t8_8 w9) K4) fun K5 =>
  loadW (some (false, 1)) t3_2 w3 fun t5_10 w11 =>
  binN Tryd.prog .lss 3 true t5_10 (.int .i64 1) w11 fun t6_12 w13 =>
  condW t6_12 (
  insW Tryd.prog (Instr.makeInterface 9 (.string ⟨#[99, 97, 110, 110, 111, 116, 32, 98, 101, 32, 108, 101, 115, 115, 32, 116, 104, 97, 110, 32, 49]⟩)) w13 fun _ _ =>
  False) (
  K5 .normal (pf 9 (pf 9 (pf 9 (pf 9 (pf 9 (argF [x0, x1]) 2 t2_0) 3 t3_2) 4 .nilFunc) 5 t5_10) 6 t6_12) w13)
theorem c70_eq (x0 x1 : Value) (w : World) (K : VPost) : c70 x0 x1 w K = WP true Tryd.prog 9 [] (bodyOf Tryd.f70) (argF [x0, x1]) w [.tmp 4] K := by kernel_rfl
theorem c70_calls (x0 x1 : Value) (w : World) (K : VPost) (h : c70 x0 x1 w K) : Calls Tryd.prog 70 #[x0, x1] w (retK K) :=
  calls_of_WP (c70_eq x0 x1 w K) mixedG Tryd.func70 (by kernel_rfl) Tryd.ntmps70 (by kernel_rfl) (by kernel_rfl) h

/-- slices.Chunk[[]byte,byte]$1 -/
def c127 (x0 x1 x2 : Value) (w : World) (K : VPost) : Prop :=
  bindX (endW Tryd.prog [] K) fun K0 =>
  bindX (blkX 0 K0) fun K1 =>
  loopW (fun f2 w3 K4 =>
  loadW (some (false, 1)) (f2 1) w3 fun t7_5 w6 =>
  lenW Tryd.prog (some true) #[22] 3 #[t7_5] w6 fun t8_7 w8 =>
  binN Tryd.prog .lss 3 false (f2 4) t8_7 w8 fun t9_9 w10 =>
  condW t9_9 (
  loadW (some (false, 1)) (f2 2) w10.drew fun t13_11 w12 =>
  loadW (some (false, 1)) (f2 1) w12 fun t14_13 w14 =>
  sliceW (.sl 1) t14_13 (some (f2 4)) none none w14 fun t16_15 w16 =>
  lenW Tryd.prog (some true) #[22] 3 #[t16_15] w16 fun t17_17 w18 =>
  insW Tryd.prog (Builtin.min_ #[3, 3] 3 #[t13_11, t17_17]) w18 fun t18_19 w20 =>
  w20 = w18 ∧
  loadW (some (false, 1)) (f2 1) w20 fun t20_21 w22 =>
  binN Tryd.prog .add 3 false (f2 4) t18_19 w22 fun t24_23 w24 =>
  binN Tryd.prog .add 3 false (f2 4) t18_19 w24 fun t27_25 w26 =>
  sliceW (.sl 1) t20_21 (some (f2 4)) (some t24_23) (some t27_25) w26 fun t28_27 w28 =>
  dynW Tryd.prog (f2 0) #[t28_27] w28 fun t29_29 w30 =>
  unN Tryd.prog .not t29_29 w30 fun t30_31 w32 =>
  condW t30_31 (
  K4 .ret (pf 31 (pf 31 (pf 31 (pf 31 (pf 31 (pf 31 (pf 31 (pf 31 (pf 31 (pf 31 (pf 31 (pf 31 (pf 31 (pf 31 (pf 31 (pf 31 (pf 31 (pf 31 (pf 31 (pf 31 (pf 31 (pf 31 (pf 31 f2 6 (f2 4)) 7 t7_5) 8 t8_7) 9 t9_9) 13 t13_11) 14 t14_13) 15 (f2 4)) 16 t16_15) 17 t17_17) 18 t18_19) 5 t18_19) 19 (f2 0)) 20 t20_21) 21 (f2 4)) 22 (f2 4)) 23 t18_19) 24 t24_23) 25 (f2 4)) 26 t18_19) 27 t27_25) 28 t28_27) 29 t29_29) 30 t30_31) w32) (
  loadW (some (false, 1)) (f2 2) w32 fun t11_33 w34 =>
  binN Tryd.prog .add 3 false (f2 4) t11_33 w34 fun t12_35 w36 =>
  K4 .normal (pf 31 (pf 31 (pf 31 (pf 31 (pf 31 (pf 31 (pf 31 (pf 31 (pf 31 (pf 31 (pf 31 (pf 31 (pf 31 (pf 31 (pf 31 (pf 31 (pf 31 (pf 31 (pf 31 (pf 31 (pf 31 (pf 31 (pf 31 (pf 31 (pf 31 (pf 31 (pf 31 f2 6 (f2 4)) 7 t7_5) 8 t8_7) 9 t9_9) 13 t13_11) 14 t14_13) 15 (f2 4)) 16 t16_15) 17 t17_17) 18 t18_19) 5 t18_19) 19 (f2 0)) 20 t20_21) 21 (f2 4)) 22 (f2 4)) 23 t18_19) 24 t24_23) 25 (f2 4)) 26 t18_19) 27 t27_25) 28 t28_27) 29 t29_29) 30 t30_31) 10 (f2 4)) 11 t11_33) 12 t12_35) 4 t12_35) w36)) (
  K4 (.exit 0) (pf 31 (pf 31 (pf 31 (pf 31 f2 6 (f2 4)) 7 t7_5) 8 t8_7) 9 t9_9) w10)) (pf 31 (argF [x0, x1, x2]) 4 (.int .i64 0)) w K1
theorem c127_eq (x0 x1 x2 : Value) (w : World) (K : VPost) : c127 x0 x1 x2 w K = WP true Tryd.prog 31 [(3, 0, [0, 0, 0, 6, 8, 17, 63], [0, 0, 0, 6, 14, 31, 63])] (bodyOf Tryd.f127) (argF [x0, x1, x2]) w [] K := by kernel_rfl
theorem c127_calls (x0 x1 x2 : Value) (w : World) (K : VPost) (h : c127 x0 x1 x2 w K) : Calls Tryd.prog 127 #[x0, x1, x2] w (retK K) :=
  calls_of_WP (c127_eq x0 x1 x2 w K) mixedG Tryd.func127 (by kernel_rfl) Tryd.ntmps127 (by kernel_rfl) (by kernel_rfl) h

/-- slices.Concat[[]byte,byte] -/
def c130 (x0 : Value) (w : World) (K : VPost) : Prop :=
  bindX (endW Tryd.prog [.tmp 2] K) fun K0 =>
  bindX (seqX (fun f2 w3 =>
  fnW Tryd.prog 173 #[(.slice none 0 0), (f2 3)] w3 fun t24_4 w5 =>
  bindX (seqX (fun f7 w8 =>
  K (f7 6) w8) K0) fun K6 =>
  lenW Tryd.prog (some true) #[45] 3 #[(f2 0)] w5 fun t26_9 w10 =>
  bindX (blkX 2 K6) fun K11 =>
  loopW (fun f12 w13 K14 =>
  binN Tryd.prog .lss 3 false (f12 27) (f12 26) w13 fun t28_15 w16 =>
  condW t28_15 (
  idxW (some (none, 1)) (f12 25) (f12 27) w16 fun t29_17 w18 =>
  loadW (some (false, 1)) t29_17 w18 fun t30_19 w20 =>
  insW Tryd.prog (Builtin.append_ #[22, 22] 22 #[(f12 6), t30_19]) w20 fun t33_21 w22 =>
  binN Tryd.prog .add 3 true (f12 27) (.int .i64 1) w22 fun t34_23 w24 =>
  K14 .normal (pf 36 (pf 36 (pf 36 (pf 36 (pf 36 (pf 36 (pf 36 (pf 36 (pf 36 (pf 36 f12 28 t28_15) 29 t29_17) 30 t30_19) 8 t30_19) 31 (f12 6)) 32 t30_19) 33 t33_21) 6 t33_21) 34 t34_23) 27 t34_23) w24) (
  K14 (.exit 2) (pf 36 f12 28 t28_15) w16)) (pf 36 (pf 36 (pf 36 (pf 36 (pf 36 (pf 36 f2 23 (f2 3)) 24 t24_4) 6 t24_4) 25 (f2 0)) 26 t26_9) 27 (.int .i64 0)) w10 K11) K0) fun K1 =>
  lenW Tryd.prog (some true) #[45] 3 #[x0] w fun t10_25 w26 =>
  bindX (blkX 0 K1) fun K27 =>
  loopW (fun f28 w29 K30 =>
  binN Tryd.prog .lss 3 false (f28 11) (f28 10) w29 fun t12_31 w32 =>
  condW t12_31 (
  bindX (seqX (fun f34 w35 =>
  binN Tryd.prog .add 3 true (f34 11) (.int .i64 1) w35 fun t22_36 w37 =>
  K30 .normal (pf 36 (pf 36 f34 22 t22_36) 11 t22_36) w37) K30) fun K33 =>
  bindX (blkX 1 K33) fun _ =>
  idxW (some (none, 1)) (f28 9) (f28 11) w32 fun t13_39 w40 =>
  loadW (some (false, 1)) t13_39 w40 fun t14_41 w42 =>
  lenW Tryd.prog (some true) #[22] 3 #[t14_41] w42 fun t17_43 w44 =>
  binN Tryd.prog .add 3 false (f28 3) t17_43 w44 fun t18_45 w46 =>
  binN Tryd.prog .lss 3 true t18_45 (.int .i64 0) w46 fun t20_47 w48 =>
  condW t20_47 (
  insW Tryd.prog (Instr.makeInterface 9 (.string ⟨#[108, 101, 110, 32, 111, 117, 116, 32, 111, 102, 32, 114, 97, 110, 103, 101]⟩)) w48 fun _ _ =>
  False) (
  K33 .normal (pf 36 (pf 36 (pf 36 (pf 36 (pf 36 (pf 36 (pf 36 (pf 36 (pf 36 (pf 36 (pf 36 f28 12 t12_31) 13 t13_39) 14 t14_41) 5 t14_41) 15 (f28 3)) 16 t14_41) 17 t17_43) 18 t18_45) 3 t18_45) 19 t18_45) 20 t20_47) w48)) (
  K30 (.exit 0) (pf 36 f28 12 t12_31) w32)) (pf 36 (pf 36 (pf 36 (pf 36 (pf 36 (argF [x0]) 2 (.slice none 0 0)) 3 (.int .i64 0)) 9 x0) 10 t10_25) 11 (.int .i64 0)) w26 K27
theorem c130_eq (x0 : Value) (w : World) (K : VPost) : c130 x0 w K = WP true Tryd.prog 36 [] (bodyOf Tryd.f130) (argF [x0]) w [.tmp 2] K := by kernel_rfl
theorem c130_calls (x0 : Value) (w : World) (K : VPost) (h : c130 x0 w K) : Calls Tryd.prog 130 #[x0] w (retK K) :=
  calls_of_WP (c130_eq x0 w K) mixedG Tryd.func130 (by kernel_rfl) Tryd.ntmps130 (by kernel_rfl) (by kernel_rfl) h

/-- slices.Grow[[]byte,byte] -/
def c173 (x0 x1 : Value) (w : World) (K : VPost) : Prop :=
  bindX (endW Tryd.prog [.tmp 4] K) fun K0 =>
  bindX (seqX (fun f2 w3 =>
  bindX (seqX (fun f5 w6 =>
  K (f5 0) w6) K0) fun K4 =>
  insW Tryd.prog (Builtin.cap_ #[22] 3 #[(f2 0)]) w3 fun t10_7 w8 =>
  lenW Tryd.prog (some true) #[22] 3 #[(f2 0)] w8 fun t12_9 w10 =>
  binN Tryd.prog .sub 3 false t10_7 t12_9 w10 fun t13_11 w12 =>
  binN Tryd.prog .sub 3 false (f2 1) t13_11 w12 fun t14_13 w14 =>
  binN Tryd.prog .gtr 3 true t14_13 (.int .i64 0) w14 fun t16_15 w16 =>
  condW t16_15 (
  insW Tryd.prog (Builtin.cap_ #[22] 3 #[(f2 0)]) w16 fun t19_17 w18 =>
  sliceW (.sl 1) (f2 0) none (some t19_17) none w18 fun t20_19 w20 =>
  insW Tryd.prog (Builtin.append_ #[22, 3] 22 #[t20_19, t14_13]) w20 fun t22_21 w22 =>
  lenW Tryd.prog (some true) #[22] 3 #[(f2 0)] w22 fun t24_23 w24 =>
  sliceW (.sl 1) t22_21 none (some t24_23) none w24 fun t25_25 w26 =>
  K4 .normal (pf 27 (pf 27 (pf 27 (pf 27 (pf 27 (pf 27 (pf 27 (pf 27 (pf 27 (pf 27 (pf 27 (pf 27 (pf 27 (pf 27 (pf 27 (pf 27 (pf 27 (pf 27 (pf 27 (pf 27 f2 8 (f2 1)) 9 (f2 0)) 10 t10_7) 11 (f2 0)) 12 t12_9) 13 t13_11) 14 t14_13) 1 t14_13) 15 t14_13) 16 t16_15) 17 (f2 0)) 18 (f2 0)) 19 t19_17) 20 t20_19) 21 t14_13) 22 t22_21) 23 (f2 0)) 24 t24_23) 25 t25_25) 0 t25_25) w26) (
  K4 .normal (pf 27 (pf 27 (pf 27 (pf 27 (pf 27 (pf 27 (pf 27 (pf 27 (pf 27 (pf 27 f2 8 (f2 1)) 9 (f2 0)) 10 t10_7) 11 (f2 0)) 12 t12_9) 13 t13_11) 14 t14_13) 1 t14_13) 15 t14_13) 16 t16_15) w16)) K0) fun K1 =>
  binN Tryd.prog .lss 3 true x1 (.int .i64 0) w fun t6_27 w28 =>
  condW t6_27 (
  insW Tryd.prog (Instr.makeInterface 9 (.string ⟨#[99, 97, 110, 110, 111, 116, 32, 98, 101, 32, 110, 101, 103, 97, 116, 105, 118, 101]⟩)) w28 fun _ _ =>
  False) (
  K1 .normal (pf 27 (pf 27 (pf 27 (argF [x0, x1]) 4 (.slice none 0 0)) 5 x1) 6 t6_27) w28)
theorem c173_eq (x0 x1 : Value) (w : World) (K : VPost) : c173 x0 x1 w K = WP true Tryd.prog 27 [] (bodyOf Tryd.f173) (argF [x0, x1]) w [.tmp 4] K := by kernel_rfl
theorem c173_calls (x0 x1 : Value) (w : World) (K : VPost) (h : c173 x0 x1 w K) : Calls Tryd.prog 173 #[x0, x1] w (retK K) :=
  calls_of_WP (c173_eq x0 x1 w K) mixedG Tryd.func173 (by kernel_rfl) Tryd.ntmps173 (by kernel_rfl) (by kernel_rfl) h

/-- bytes.Equal -/
def c77 (x0 x1 : Value) (w : World) (K : VPost) : Prop :=
  insW Tryd.prog (convert 22 9 x0) w fun t6_0 w1 =>
  insW Tryd.prog (convert 22 9 x1) w1 fun t8_2 w3 =>
  binW Tryd.prog .eql 9 false t6_0 t8_2 w3 fun t9_4 w5 =>
  K t9_4 w5
theorem c77_eq (x0 x1 : Value) (w : World) (K : VPost) : c77 x0 x1 w K = WP true Tryd.prog 10 [] (bodyOf Tryd.f77) (argF [x0, x1]) w [.tmp 4] K := by kernel_rfl
theorem c77_calls (x0 x1 : Value) (w : World) (K : VPost) (h : c77 x0 x1 w K) : Calls Tryd.prog 77 #[x0, x1] w (retK K) :=
  calls_of_WP (c77_eq x0 x1 w K) mixedG Tryd.func77 (by kernel_rfl) Tryd.ntmps77 (by kernel_rfl) (by kernel_rfl) h

/-- bytes.Trim -/
def c80 (x0 x1 : Value) (w : World) (K : VPost) : Prop :=
  lenW Tryd.prog (some true) #[22] 3 #[x0] w fun t8_0 w1 =>
  binN Tryd.prog .eql 3 true t8_0 (.int .i64 0) w1 fun t9_2 w3 =>
  condW t9_2 (
  K (.slice none 0 0) w3) (
  binW Tryd.prog .eql 9 true x1 (.string ⟨#[]⟩) w3 fun t11_4 w5 =>
  condW t11_4 (
  K x0 w5) (
  lenW Tryd.prog (some false) #[9] 3 #[x1] w5 fun t14_6 w7 =>
  binN Tryd.prog .eql 3 true t14_6 (.int .i64 1) w7 fun t15_8 w9 =>
  gstep t15_8 true w9 (fun K => K x1 w9) fun t17_10 w11 =>
  gstep t15_8 true w11 (fun K => ixvW .str t17_10 (.int .i64 0) w11 K) fun t18_12 w13 =>
  gstep t15_8 true w13 (fun K => binN Tryd.prog .lss 5 true t18_12 (.int .u8 128) w13 K) fun t19_14 w15 =>
  pickW t15_8 t19_14 (.bool false) w15 fun t20_16 w17 =>
  condW t20_16 (
  ixvW .str x1 (.int .i64 0) w17.drew fun t23_18 w19 =>
  ixvW .str x1 (.int .i64 0) w19 fun t26_20 w21 =>
  fnW Tryd.prog 137 #[x0, t23_18] w21 fun t24_22 w23 =>
  fnW Tryd.prog 136 #[t24_22, t26_20] w23 fun t27_24 w25 =>
  K t27_24 w25) (
  fnW Tryd.prog 138 #[x1] w17 fun t30_26 w27 =>
  extrW t30_26 0 w27 fun t31_28 w29 =>
  extrW t30_26 1 w29 fun t32_30 w31 =>
  allocW (zeroO Tryd.prog 175) 175 w31 fun t5_32 w33 =>
  storeW (some (true, 256)) t5_32 t31_28 w33 fun w34 =>
  condW t32_30 (
  fnW Tryd.prog 140 #[x0, t5_32] w34 fun t35_35 w36 =>
  fnW Tryd.prog 139 #[t35_35, t5_32] w36 fun t36_37 w38 =>
  K t36_37 w38) (
  fnW Tryd.prog 142 #[x0, x1] w34 fun t39_39 w40 =>
  fnW Tryd.prog 141 #[t39_39, x1] w40 fun t41_41 w42 =>
  K t41_41 w42))))
theorem c80_eq (x0 x1 : Value) (w : World) (K : VPost) : c80 x0 x1 w K = WP true Tryd.prog 42 [(6, 72, [0, 0, 2, 5, 0, 16, 40, 127], [0, 0, 2, 7, 0, 16, 63, 127])] (bodyOf Tryd.f80) (argF [x0, x1]) w [.tmp 4] K := by kernel_rfl
theorem c80_calls (x0 x1 : Value) (w : World) (K : VPost) (h : c80 x0 x1 w K) : Calls Tryd.prog 80 #[x0, x1] w (retK K) :=
  calls_of_WP (c80_eq x0 x1 w K) mixedG Tryd.func80 (by kernel_rfl) Tryd.ntmps80 (by kernel_rfl) (by kernel_rfl) h

/-- bytes.trimLeftByte -/
def c136 (x0 x1 : Value) (w : World) (K : VPost) : Prop :=
  bindX (endW Tryd.prog [.tmp 4] K) fun K0 =>
  bindX (seqX (fun f2 w3 =>
  lenW Tryd.prog (some true) #[22] 3 #[(f2 0)] w3 fun t18_4 w5 =>
  binN Tryd.prog .eql 3 true t18_4 (.int .i64 0) w5 fun t19_6 w7 =>
  condW t19_6 (
  K (.slice none 0 0) w7) (
  K (f2 0) w7)) K0) fun K1 =>
  bindX (blkX 0 K1) fun K8 =>
  loopW (fun f9 w10 K11 =>
  lenW Tryd.prog (some true) #[22] 3 #[(f9 0)] w10 fun t6_12 w13 =>
  binN Tryd.prog .gtr 3 true t6_12 (.int .i64 0) w13 fun t7_14 w15 =>
  gstep t7_14 true w15 (fun K => K (f9 0) w15) fun t9_16 w17 =>
  gstep t7_14 true w17 (fun K => idxW (some (none, 1)) t9_16 (.int .i64 0) w17 K) fun t10_18 w19 =>
  gstep t7_14 true w19 (fun K => loadW (some (false, 1)) t10_18 w19 K) fun t11_20 w21 =>
  gstep t7_14 true w21 (fun K => K (f9 1) w21) fun t12_22 w23 =>
  gstep t7_14 true w23 (fun K => binN Tryd.prog .eql 5 false t11_20 t12_22 w23 K) fun t13_24 w25 =>
  pickW t7_14 t13_24 (.bool false) w25 fun t14_26 w27 =>
  condW t14_26 (
  sliceW (.sl 1) (f9 0) (some (.int .i64 1)) none none w27 fun t16_28 w29 =>
  K11 .normal (pf 21 (pf 21 (pf 21 (pf 21 (pf 21 (pf 21 (pf 21 (pf 21 (pf 21 (pf 21 (pf 21 (pf 21 (pf 21 f9 5 (f9 0)) 6 t6_12) 7 t7_14) 8 t7_14) 9 t9_16) 10 t10_18) 11 t11_20) 12 t12_22) 13 t13_24) 14 t14_26) 15 (f9 0)) 16 t16_28) 0 t16_28) w29) (
  K11 (.exit 0) (pf 21 (pf 21 (pf 21 (pf 21 (pf 21 (pf 21 (pf 21 (pf 21 (pf 21 (pf 21 f9 5 (f9 0)) 6 t6_12) 7 t7_14) 8 t7_14) 9 t9_16) 10 t10_18) 11 t11_20) 12 t12_22) 13 t13_24) 14 t14_26) w27)) (pf 21 (argF [x0, x1]) 4 (.slice none 0 0)) w K8
theorem c136_eq (x0 x1 : Value) (w : World) (K : VPost) : c136 x0 x1 w K = WP true Tryd.prog 21 [] (bodyOf Tryd.f136) (argF [x0, x1]) w [.tmp 4] K := by kernel_rfl
theorem c136_calls (x0 x1 : Value) (w : World) (K : VPost) (h : c136 x0 x1 w K) : Calls Tryd.prog 136 #[x0, x1] w (retK K) :=
  calls_of_WP (c136_eq x0 x1 w K) mixedG Tryd.func136 (by kernel_rfl) Tryd.ntmps136 (by kernel_rfl) (by kernel_rfl) h

/-- bytes.trimRightByte -/
def c137 (x0 x1 : Value) (w : World) (K : VPost) : Prop :=
  bindX (endW Tryd.prog [.tmp 4] K) fun K0 =>
  bindX (seqX (fun f2 w3 =>
  K (f2 0) w3) K0) fun K1 =>
  bindX (blkX 0 K1) fun K4 =>
  loopW (fun f5 w6 K7 =>
  lenW Tryd.prog (some true) #[22] 3 #[(f5 0)] w6 fun t6_8 w9 =>
  binN Tryd.prog .gtr 3 true t6_8 (.int .i64 0) w9 fun t7_10 w11 =>
  gstep t7_10 true w11 (fun K => K (f5 0) w11) fun t9_12 w13 =>
  gstep t7_10 true w13 (fun K => K (f5 0) w13) fun t10_14 w15 =>
  gstep t7_10 true w15 (fun K => lenW Tryd.prog (some true) #[22] 3 #[t10_14] w15 K) fun t11_16 w17 =>
  gstep t7_10 true w17 (fun K => binN Tryd.prog .sub 3 true t11_16 (.int .i64 1) w17 K) fun t12_18 w19 =>
  gstep t7_10 true w19 (fun K => idxW (some (none, 1)) t9_12 t12_18 w19 K) fun t13_20 w21 =>
  gstep t7_10 true w21 (fun K => loadW (some (false, 1)) t13_20 w21 K) fun t14_22 w23 =>
  gstep t7_10 true w23 (fun K => K (f5 1) w23) fun t15_24 w25 =>
  gstep t7_10 true w25 (fun K => binN Tryd.prog .eql 5 false t14_22 t15_24 w25 K) fun t16_26 w27 =>
  pickW t7_10 t16_26 (.bool false) w27 fun t17_28 w29 =>
  condW t17_28 (
  lenW Tryd.prog (some true) #[22] 3 #[(f5 0)] w29 fun t20_30 w31 =>
  binN Tryd.prog .sub 3 true t20_30 (.int .i64 1) w31 fun t21_32 w33 =>
  sliceW (.sl 1) (f5 0) none (some t21_32) none w33 fun t22_34 w35 =>
  K7 .normal (pf 24 (pf 24 (pf 24 (pf 24 (pf 24 (pf 24 (pf 24 (pf 24 (pf 24 (pf 24 (pf 24 (pf 24 (pf 24 (pf 24 (pf 24 (pf 24 (pf 24 (pf 24 (pf 24 f5 5 (f5 0)) 6 t6_8) 7 t7_10) 8 t7_10) 9 t9_12) 10 t10_14) 11 t11_16) 12 t12_18) 13 t13_20) 14 t14_22) 15 t15_24) 16 t16_26) 17 t17_28) 18 (f5 0)) 19 (f5 0)) 20 t20_30) 21 t21_32) 22 t22_34) 0 t22_34) w35) (
  K7 (.exit 0) (pf 24 (pf 24 (pf 24 (pf 24 (pf 24 (pf 24 (pf 24 (pf 24 (pf 24 (pf 24 (pf 24 (pf 24 (pf 24 f5 5 (f5 0)) 6 t6_8) 7 t7_10) 8 t7_10) 9 t9_12) 10 t10_14) 11 t11_16) 12 t12_18) 13 t13_20) 14 t14_22) 15 t15_24) 16 t16_26) 17 t17_28) w29)) (pf 24 (argF [x0, x1]) 4 (.slice none 0 0)) w K4
theorem c137_eq (x0 x1 : Value) (w : World) (K : VPost) : c137 x0 x1 w K = WP true Tryd.prog 24 [] (bodyOf Tryd.f137) (argF [x0, x1]) w [.tmp 4] K := by kernel_rfl
theorem c137_calls (x0 x1 : Value) (w : World) (K : VPost) (h : c137 x0 x1 w K) : Calls Tryd.prog 137 #[x0, x1] w (retK K) :=
  calls_of_WP (c137_eq x0 x1 w K) mixedG Tryd.func137 (by kernel_rfl) Tryd.ntmps137 (by kernel_rfl) (by kernel_rfl) h

end Go.Proofs.YtedebapgmfnflaaDoor
