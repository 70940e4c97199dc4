/- The clean forms of some of the program's functions, written by a program of ours; each is the model's own by the kernel's reckoning. -/
import Derived.Test.YtbaddpnlokmldaaDoorGB
import Derived.KernelRfl
namespace Go.Proofs.YtbaddpnlokmldaaDoor
open Go
set_option maxRecDepth 100000

/-- imprimatur/imprimaturref00.CopyTerm -/
def c38 (x0 : Value) (w : World) (K : VPost) : Prop :=
  boxW 27 x0 w fun t1_0 w1 =>
  allocW (zeroO Tryd.prog 27) 27 w1 fun t2_2 w3 =>
  offW (some 0) t1_0 w3 fun t6_4 w5 =>
  loadW (some (false, 1)) t6_4 w5 fun t7_6 w7 =>
  offW (some 1) t1_0 w7 fun t8_8 w9 =>
  loadW (some (false, 1)) t8_8 w9 fun t9_10 w11 =>
  offW (some 2) t1_0 w11 fun t10_12 w13 =>
  loadW (some (false, 1)) t10_12 w13 fun t11_14 w15 =>
  insW Tryd.prog (Instr.build 27 #[(0, t7_6), (1, t9_10), (2, t11_14)]) w15 fun t12_16 w17 =>
  allocW (zeroO Tryd.prog 27) 27 w17 fun t3_18 w19 =>
  storeW (some (true, 5)) t3_18 t12_16 w19 fun w20 =>
  bindX (endW Tryd.prog [.cell 2 27] K) fun K21 =>
  bindX (seqX (fun f23 w24 =>
  bindX (seqX (fun f26 w27 =>
  loadW (some (true, 5)) (f26 3) w27 fun t48_28 w29 =>
  storeW (some (true, 5)) (f26 2) t48_28 w29 fun w30 =>
  loadW (some (true, 5)) (f26 2) w30 fun r31 _ =>
  K r31 w30) K21) fun K25 =>
  bindX (blkX 2 K25) fun K33 =>
  loopW (fun f34 w35 K36 =>
  offW (some 4) (f34 1) w35 fun t31_37 w38 =>
  loadW (some (false, 1)) t31_37 w38 fun t32_39 w40 =>
  lenW Tryd.prog (some true) #[25] 3 #[t32_39] w40 fun t33_41 w42 =>
  binN Tryd.prog .lss 3 false (f34 5) t33_41 w42 fun t34_43 w44 =>
  condW t34_43 (
  offW (some 4) (f34 3) w44.drew fun t37_45 w46 =>
  loadW (some (false, 1)) t37_45 w46 fun t38_47 w48 =>
  offW (some 4) (f34 1) w48 fun t39_49 w50 =>
  loadW (some (false, 1)) t39_49 w50 fun t40_51 w52 =>
  idxW (some (none, 5)) t40_51 (f34 5) w52 fun t42_53 w54 =>
  loadW (some (true, 5)) t42_53 w54 fun t43_55 w56 =>
  fnW Tryd.prog 38 #[t43_55] w56 fun t44_57 w58 =>
  (loadW (some (false, 1)) t37_45 w58 fun t38_59 w60 => t38_59 = t38_47 ∧ w60 = w58) ∧
  insW Tryd.prog (Instr.buildSlice 25 1 #[(0, t44_57)]) w58 fun t45_61 w62 =>
  (loadW (some (false, 1)) t37_45 w62 fun t38_63 w64 => t38_63 = t38_47 ∧ w64 = w62) ∧
  insW Tryd.prog (Builtin.append_ #[25, 25] 25 #[t38_47, t45_61]) w62 fun t46_65 w66 =>
  offW (some 4) (f34 3) w66 fun t47_67 w68 =>
  storeW (some (false, 1)) t47_67 t46_65 w68 fun w69 =>
  binN Tryd.prog .add 3 true (f34 5) (.int .i64 1) w69 fun t36_70 w71 =>
  K36 .normal (pf 49 (pf 49 (pf 49 (pf 49 (pf 49 (pf 49 (pf 49 (pf 49 (pf 49 (pf 49 (pf 49 (pf 49 (pf 49 (pf 49 (pf 49 (pf 49 (pf 49 (pf 49 (pf 49 f34 30 (f34 5)) 31 t31_37) 32 t32_39) 33 t33_41) 34 t34_43) 37 t37_45) 38 t38_47) 39 t39_49) 40 t40_51) 41 (f34 5)) 42 t42_53) 43 t43_55) 44 t44_57) 45 t45_61) 46 t46_65) 47 t47_67) 35 (f34 5)) 36 t36_70) 5 t36_70) w71) (
  K36 (.exit 2) (pf 49 (pf 49 (pf 49 (pf 49 (pf 49 f34 30 (f34 5)) 31 t31_37) 32 t32_39) 33 t33_41) 34 t34_43) w44)) (pf 49 f23 5 (.int .i64 0)) w24 K33) K21) fun K22 =>
  bindX (blkX 0 K22) fun K72 =>
  loopW (fun f73 w74 K75 =>
  offW (some 3) (f73 1) w74 fun t14_76 w77 =>
  loadW (some (false, 1)) t14_76 w77 fun t15_78 w79 =>
  lenW Tryd.prog (some true) #[24] 3 #[t15_78] w79 fun t16_80 w81 =>
  binN Tryd.prog .lss 3 false (f73 4) t16_80 w81 fun t17_82 w83 =>
  condW t17_82 (
  offW (some 3) (f73 3) w83.drew fun t20_84 w85 =>
  loadW (some (false, 1)) t20_84 w85 fun t21_86 w87 =>
  offW (some 3) (f73 1) w87 fun t22_88 w89 =>
  loadW (some (false, 1)) t22_88 w89 fun t23_90 w91 =>
  idxW (some (none, 5)) t23_90 (f73 4) w91 fun t25_92 w93 =>
  loadW (some (true, 5)) t25_92 w93 fun t26_94 w95 =>
  insW Tryd.prog (Instr.buildSlice 24 1 #[(0, t26_94)]) w95 fun t27_96 w97 =>
  (loadW (some (false, 1)) t20_84 w97 fun t21_98 w99 => t21_98 = t21_86 ∧ w99 = w97) ∧
  insW Tryd.prog (Builtin.append_ #[24, 24] 24 #[t21_86, t27_96]) w97 fun t28_100 w101 =>
  offW (some 3) (f73 3) w101 fun t29_102 w103 =>
  storeW (some (false, 1)) t29_102 t28_100 w103 fun w104 =>
  binN Tryd.prog .add 3 true (f73 4) (.int .i64 1) w104 fun t19_105 w106 =>
  K75 .normal (pf 49 (pf 49 (pf 49 (pf 49 (pf 49 (pf 49 (pf 49 (pf 49 (pf 49 (pf 49 (pf 49 (pf 49 (pf 49 (pf 49 (pf 49 (pf 49 (pf 49 (pf 49 f73 13 (f73 4)) 14 t14_76) 15 t15_78) 16 t16_80) 17 t17_82) 20 t20_84) 21 t21_86) 22 t22_88) 23 t23_90) 24 (f73 4)) 25 t25_92) 26 t26_94) 27 t27_96) 28 t28_100) 29 t29_102) 18 (f73 4)) 19 t19_105) 4 t19_105) w106) (
  K75 (.exit 0) (pf 49 (pf 49 (pf 49 (pf 49 (pf 49 f73 13 (f73 4)) 14 t14_76) 15 t15_78) 16 t16_80) 17 t17_82) w83)) (pf 49 (pf 49 (pf 49 (pf 49 (pf 49 (pf 49 (pf 49 (pf 49 (pf 49 (pf 49 (pf 49 (argF [x0]) 1 t1_0) 2 t2_2) 6 t6_4) 7 t7_6) 8 t8_8) 9 t9_10) 10 t10_12) 11 t11_14) 12 t12_16) 3 t3_18) 4 (.int .i64 0)) w20 K72
theorem c38_eq (x0 : Value) (w : World) (K : VPost) : c38 x0 w K = WP true Tryd.prog 49 [(5, 1408, [0, 1, 0, 4, 0, 24, 32, 64, 130, 511, 1023], [0, 1, 0, 4, 0, 28, 60, 124, 255, 511, 1023]), (9, 2944, [0, 1, 0, 4, 0, 24, 32, 64, 128, 386, 1023, 2047], [0, 1, 0, 4, 0, 28, 60, 124, 252, 511, 1023, 2047])] (bodyOf Tryd.f38) (argF [x0]) w [.cell 2 27] K := by kernel_rfl
theorem c38_calls (x0 : Value) (w : World) (K : VPost) (h : c38 x0 w K) : Calls Tryd.prog 38 #[x0] w (retK K) :=
  calls_of_WP (c38_eq x0 w K) mixedG Tryd.func38 (by kernel_rfl) Tryd.ntmps38 (by kernel_rfl) (by kernel_rfl) h

/-- imprimatur/imprimaturref00.Nodes -/
def c11 (x0 x1 : Value) (w : World) (K : VPost) : Prop :=
  boxW 27 x0 w fun t2_0 w1 =>
  offW (some 3) t2_0 w1 fun t7_2 w3 =>
  loadW (some (false, 1)) t7_2 w3 fun t8_4 w5 =>
  lenW Tryd.prog (some true) #[24] 3 #[t8_4] w5 fun t9_6 w7 =>
  binN Tryd.prog .add 3 true (.int .i64 1) t9_6 w7 fun t10_8 w9 =>
  bindX (endW Tryd.prog [.tmp 4] K) fun K10 =>
  bindX (seqX (fun f12 w13 =>
  binN Tryd.prog .add 3 true (f12 1) (.int .i64 1) w13 fun t34_14 w15 =>
  insW Tryd.prog (Builtin.min_ #[3, 3] 3 #[(f12 5), t34_14]) w15 fun t35_16 w17 =>
  K t35_16 w17) K10) fun K11 =>
  bindX (blkX 0 K11) fun K18 =>
  loopW (fun f19 w20 K21 =>
  offW (some 4) (f19 2) w20 fun t12_22 w23 =>
  loadW (some (false, 1)) t12_22 w23 fun t13_24 w25 =>
  lenW Tryd.prog (some true) #[25] 3 #[t13_24] w25 fun t14_26 w27 =>
  binN Tryd.prog .lss 3 false (f19 6) t14_26 w27 fun t15_28 w29 =>
  gstep t15_28 true w29 (fun K => K (f19 5) w29) fun t17_30 w31 =>
  gstep t15_28 true w31 (fun K => K (f19 1) w31) fun t18_32 w33 =>
  gstep t15_28 true w33 (fun K => binN Tryd.prog .leq 3 false t17_30 t18_32 w33 K) fun t19_34 w35 =>
  pickW t15_28 t19_34 (.bool false) w35 fun t20_36 w37 =>
  condW t20_36 (
  offW (some 4) (f19 2) w37 fun t24_38 w39 =>
  loadW (some (false, 1)) t24_38 w39 fun t25_40 w41 =>
  idxW (some (none, 5)) t25_40 (f19 6) w41 fun t27_42 w43 =>
  loadW (some (true, 5)) t27_42 w43 fun t28_44 w45 =>
  fnW Tryd.prog 11 #[t28_44, (f19 1)] w45 fun t30_46 w47 =>
  binN Tryd.prog .add 3 false (f19 5) t30_46 w47 fun t31_48 w49 =>
  binN Tryd.prog .add 3 true (f19 6) (.int .i64 1) w49 fun t22_50 w51 =>
  K21 .normal (pf 36 (pf 36 (pf 36 (pf 36 (pf 36 (pf 36 (pf 36 (pf 36 (pf 36 (pf 36 (pf 36 (pf 36 (pf 36 (pf 36 (pf 36 (pf 36 (pf 36 (pf 36 (pf 36 (pf 36 (pf 36 (pf 36 (pf 36 f19 11 (f19 6)) 12 t12_22) 13 t13_24) 14 t14_26) 15 t15_28) 16 t15_28) 17 t17_30) 18 t18_32) 19 t19_34) 20 t20_36) 23 (f19 5)) 24 t24_38) 25 t25_40) 26 (f19 6)) 27 t27_42) 28 t28_44) 29 (f19 1)) 30 t30_46) 31 t31_48) 5 t31_48) 21 (f19 6)) 22 t22_50) 6 t22_50) w51) (
  K21 (.exit 0) (pf 36 (pf 36 (pf 36 (pf 36 (pf 36 (pf 36 (pf 36 (pf 36 (pf 36 (pf 36 f19 11 (f19 6)) 12 t12_22) 13 t13_24) 14 t14_26) 15 t15_28) 16 t15_28) 17 t17_30) 18 t18_32) 19 t19_34) 20 t20_36) w37)) (pf 36 (pf 36 (pf 36 (pf 36 (pf 36 (pf 36 (pf 36 (pf 36 (argF [x0, x1]) 2 t2_0) 4 (.int .i64 0)) 7 t7_2) 8 t8_4) 9 t9_6) 10 t10_8) 5 t10_8) 6 (.int .i64 0)) w9 K18
theorem c11_eq (x0 x1 : Value) (w : World) (K : VPost) : c11 x0 x1 w K = WP true Tryd.prog 36 [] (bodyOf Tryd.f11) (argF [x0, x1]) w [.tmp 4] K := by kernel_rfl
theorem c11_calls (x0 x1 : Value) (w : World) (K : VPost) (h : c11 x0 x1 w K) : Calls Tryd.prog 11 #[x0, x1] w (retK K) :=
  calls_of_WP (c11_eq x0 x1 w K) mixedG Tryd.func11 (by kernel_rfl) Tryd.ntmps11 (by kernel_rfl) (by kernel_rfl) h

/-- imprimatur/imprimaturref00.SameTerm -/
def c14 (x0 x1 : Value) (w : World) (K : VPost) : Prop :=
  boxW 27 x0 w fun t2_0 w1 =>
  boxW 27 x1 w1 fun t3_2 w3 =>
  offW (some 0) t2_0 w3 fun t7_4 w5 =>
  loadW (some (false, 1)) t7_4 w5 fun t8_6 w7 =>
  offW (some 0) t3_2 w7 fun t9_8 w9 =>
  loadW (some (false, 1)) t9_8 w9 fun t10_10 w11 =>
  binN Tryd.prog .neq 3 false t8_6 t10_10 w11 fun t11_12 w13 =>
  gstep t11_12 false w13 (fun K => offW (some 1) t2_0 w13 K) fun t13_14 w15 =>
  gstep t11_12 false w15 (fun K => loadW (some (false, 1)) t13_14 w15 K) fun t14_16 w17 =>
  gstep t11_12 false w17 (fun K => offW (some 1) t3_2 w17 K) fun t15_18 w19 =>
  gstep t11_12 false w19 (fun K => loadW (some (false, 1)) t15_18 w19 K) fun t16_20 w21 =>
  gstep t11_12 false w21 (fun K => binN Tryd.prog .neq 3 false t14_16 t16_20 w21 K) fun t17_22 w23 =>
  pickW t11_12 (.bool true) t17_22 w23 fun t18_24 w25 =>
  gstep t18_24 false w25 (fun K => offW (some 2) t2_0 w25 K) fun t20_26 w27 =>
  gstep t18_24 false w27 (fun K => loadW (some (false, 1)) t20_26 w27 K) fun t21_28 w29 =>
  gstep t18_24 false w29 (fun K => offW (some 2) t3_2 w29 K) fun t22_30 w31 =>
  gstep t18_24 false w31 (fun K => loadW (some (false, 1)) t22_30 w31 K) fun t23_32 w33 =>
  gstep t18_24 false w33 (fun K => binW Tryd.prog .neq 9 false t21_28 t23_32 w33 K) fun t24_34 w35 =>
  pickW t18_24 (.bool true) t24_34 w35 fun t25_36 w37 =>
  gstep t25_36 false w37 (fun K => offW (some 3) t2_0 w37 K) fun t27_38 w39 =>
  gstep t25_36 false w39 (fun K => loadW (some (false, 1)) t27_38 w39 K) fun t28_40 w41 =>
  gstep t25_36 false w41 (fun K => lenW Tryd.prog (some true) #[24] 3 #[t28_40] w41 K) fun t29_42 w43 =>
  gstep t25_36 false w43 (fun K => offW (some 3) t3_2 w43 K) fun t30_44 w45 =>
  gstep t25_36 false w45 (fun K => loadW (some (false, 1)) t30_44 w45 K) fun t31_46 w47 =>
  gstep t25_36 false w47 (fun K => lenW Tryd.prog (some true) #[24] 3 #[t31_46] w47 K) fun t32_48 w49 =>
  gstep t25_36 false w49 (fun K => binN Tryd.prog .neq 3 false t29_42 t32_48 w49 K) fun t33_50 w51 =>
  pickW t25_36 (.bool true) t33_50 w51 fun t34_52 w53 =>
  gstep t34_52 false w53 (fun K => offW (some 4) t2_0 w53 K) fun t36_54 w55 =>
  gstep t34_52 false w55 (fun K => loadW (some (false, 1)) t36_54 w55 K) fun t37_56 w57 =>
  gstep t34_52 false w57 (fun K => lenW Tryd.prog (some true) #[25] 3 #[t37_56] w57 K) fun t38_58 w59 =>
  gstep t34_52 false w59 (fun K => offW (some 4) t3_2 w59 K) fun t39_60 w61 =>
  gstep t34_52 false w61 (fun K => loadW (some (false, 1)) t39_60 w61 K) fun t40_62 w63 =>
  gstep t34_52 false w63 (fun K => lenW Tryd.prog (some true) #[25] 3 #[t40_62] w63 K) fun t41_64 w65 =>
  gstep t34_52 false w65 (fun K => binN Tryd.prog .neq 3 false t38_58 t41_64 w65 K) fun t42_66 w67 =>
  pickW t34_52 (.bool true) t42_66 w67 fun t43_68 w69 =>
  condW t43_68 (
  K (.bool false) w69) (
  bindX (endW Tryd.prog [.tmp 4] K) fun K70 =>
  bindX (seqX (fun f72 w73 =>
  bindX (seqX (fun _ w76 =>
  K (.bool true) w76) K70) fun K74 =>
  bindX (blkX 2 K74) fun K77 =>
  loopW (fun f78 w79 K80 =>
  offW (some 4) (f78 2) w79 fun t63_81 w82 =>
  loadW (some (false, 1)) t63_81 w82 fun t64_83 w84 =>
  lenW Tryd.prog (some true) #[25] 3 #[t64_83] w84 fun t65_85 w86 =>
  binN Tryd.prog .lss 3 false (f78 6) t65_85 w86 fun t66_87 w88 =>
  condW t66_87 (
  offW (some 4) (f78 2) w88.drew fun t69_89 w90 =>
  loadW (some (false, 1)) t69_89 w90 fun t70_91 w92 =>
  idxW (some (none, 5)) t70_91 (f78 6) w92 fun t72_93 w94 =>
  loadW (some (true, 5)) t72_93 w94 fun t73_95 w96 =>
  offW (some 4) (f78 3) w96 fun t74_97 w98 =>
  loadW (some (false, 1)) t74_97 w98 fun t75_99 w100 =>
  idxW (some (none, 5)) t75_99 (f78 6) w100 fun t77_101 w102 =>
  loadW (some (true, 5)) t77_101 w102 fun t78_103 w104 =>
  fnW Tryd.prog 14 #[t73_95, t78_103] w104 fun t79_105 w106 =>
  unN Tryd.prog .not t79_105 w106 fun t80_107 w108 =>
  condW t80_107 (
  K80 .ret (pf 81 (pf 81 (pf 81 (pf 81 (pf 81 (pf 81 (pf 81 (pf 81 (pf 81 (pf 81 (pf 81 (pf 81 (pf 81 (pf 81 (pf 81 (pf 81 (pf 81 (pf 81 f78 62 (f78 6)) 63 t63_81) 64 t64_83) 65 t65_85) 66 t66_87) 69 t69_89) 70 t70_91) 71 (f78 6)) 72 t72_93) 73 t73_95) 74 t74_97) 75 t75_99) 76 (f78 6)) 77 t77_101) 78 t78_103) 79 t79_105) 80 t80_107) 4 (.bool false)) w108) (
  binN Tryd.prog .add 3 true (f78 6) (.int .i64 1) w108 fun t68_109 w110 =>
  K80 .normal (pf 81 (pf 81 (pf 81 (pf 81 (pf 81 (pf 81 (pf 81 (pf 81 (pf 81 (pf 81 (pf 81 (pf 81 (pf 81 (pf 81 (pf 81 (pf 81 (pf 81 (pf 81 (pf 81 (pf 81 f78 62 (f78 6)) 63 t63_81) 64 t64_83) 65 t65_85) 66 t66_87) 69 t69_89) 70 t70_91) 71 (f78 6)) 72 t72_93) 73 t73_95) 74 t74_97) 75 t75_99) 76 (f78 6)) 77 t77_101) 78 t78_103) 79 t79_105) 80 t80_107) 67 (f78 6)) 68 t68_109) 6 t68_109) w110)) (
  K80 (.exit 2) (pf 81 (pf 81 (pf 81 (pf 81 (pf 81 f78 62 (f78 6)) 63 t63_81) 64 t64_83) 65 t65_85) 66 t66_87) w88)) (pf 81 f72 6 (.int .i64 0)) w73 K77) K70) fun K71 =>
  bindX (blkX 0 K71) fun K111 =>
  loopW (fun f112 w113 K114 =>
  offW (some 3) (f112 2) w113 fun t45_115 w116 =>
  loadW (some (false, 1)) t45_115 w116 fun t46_117 w118 =>
  lenW Tryd.prog (some true) #[24] 3 #[t46_117] w118 fun t47_119 w120 =>
  binN Tryd.prog .lss 3 false (f112 5) t47_119 w120 fun t48_121 w122 =>
  condW t48_121 (
  offW (some 3) (f112 2) w122.drew fun t51_123 w124 =>
  loadW (some (false, 1)) t51_123 w124 fun t52_125 w126 =>
  idxW (some (none, 5)) t52_125 (f112 5) w126 fun t54_127 w128 =>
  loadW (some (true, 5)) t54_127 w128 fun t55_129 w130 =>
  offW (some 3) (f112 3) w130 fun t56_131 w132 =>
  loadW (some (false, 1)) t56_131 w132 fun t57_133 w134 =>
  idxW (some (none, 5)) t57_133 (f112 5) w134 fun t59_135 w136 =>
  loadW (some (true, 5)) t59_135 w136 fun t60_137 w138 =>
  binW Tryd.prog .neq 48 false t55_129 t60_137 w138 fun t61_139 w140 =>
  w140 = w138 ∧
  condW t61_139 (
  K114 .ret (pf 81 (pf 81 (pf 81 (pf 81 (pf 81 (pf 81 (pf 81 (pf 81 (pf 81 (pf 81 (pf 81 (pf 81 (pf 81 (pf 81 (pf 81 (pf 81 (pf 81 f112 44 (f112 5)) 45 t45_115) 46 t46_117) 47 t47_119) 48 t48_121) 51 t51_123) 52 t52_125) 53 (f112 5)) 54 t54_127) 55 t55_129) 56 t56_131) 57 t57_133) 58 (f112 5)) 59 t59_135) 60 t60_137) 61 t61_139) 4 (.bool false)) w140) (
  binN Tryd.prog .add 3 true (f112 5) (.int .i64 1) w140 fun t50_141 w142 =>
  K114 .normal (pf 81 (pf 81 (pf 81 (pf 81 (pf 81 (pf 81 (pf 81 (pf 81 (pf 81 (pf 81 (pf 81 (pf 81 (pf 81 (pf 81 (pf 81 (pf 81 (pf 81 (pf 81 (pf 81 f112 44 (f112 5)) 45 t45_115) 46 t46_117) 47 t47_119) 48 t48_121) 51 t51_123) 52 t52_125) 53 (f112 5)) 54 t54_127) 55 t55_129) 56 t56_131) 57 t57_133) 58 (f112 5)) 59 t59_135) 60 t60_137) 61 t61_139) 49 (f112 5)) 50 t50_141) 5 t50_141) w142)) (
  K114 (.exit 0) (pf 81 (pf 81 (pf 81 (pf 81 (pf 81 f112 44 (f112 5)) 45 t45_115) 46 t46_117) 47 t47_119) 48 t48_121) w122)) (pf 81 (pf 81 (pf 81 (pf 81 (pf 81 (pf 81 (pf 81 (pf 81 (pf 81 (pf 81 (pf 81 (pf 81 (pf 81 (pf 81 (pf 81 (pf 81 (pf 81 (pf 81 (pf 81 (pf 81 (pf 81 (pf 81 (pf 81 (pf 81 (pf 81 (pf 81 (pf 81 (pf 81 (pf 81 (pf 81 (pf 81 (pf 81 (pf 81 (pf 81 (pf 81 (pf 81 (pf 81 (pf 81 (pf 81 (pf 81 (pf 81 (argF [x0, x1]) 2 t2_0) 3 t3_2) 4 (.bool false)) 7 t7_4) 8 t8_6) 9 t9_8) 10 t10_10) 11 t11_12) 12 t11_12) 13 t13_14) 14 t14_16) 15 t15_18) 16 t16_20) 17 t17_22) 18 t18_24) 19 t18_24) 20 t20_26) 21 t21_28) 22 t22_30) 23 t23_32) 24 t24_34) 25 t25_36) 26 t25_36) 27 t27_38) 28 t28_40) 29 t29_42) 30 t30_44) 31 t31_46) 32 t32_48) 33 t33_50) 34 t34_52) 35 t34_52) 36 t36_54) 37 t37_56) 38 t38_58) 39 t39_60) 40 t40_62) 41 t41_64) 42 t42_66) 43 t43_68) 5 (.int .i64 0)) w69 K111)
theorem c14_eq (x0 x1 : Value) (w : World) (K : VPost) : c14 x0 x1 w K = WP true Tryd.prog 81 [(6, 0, [0, 1, 0, 6, 8, 0, 32, 0, 192, 256, 528], [0, 1, 0, 7, 15, 0, 32, 0, 224, 480, 1023]), (11, 1024, [0, 1, 0, 6, 8, 0, 32, 0, 192, 256, 528, 1024], [0, 1, 0, 7, 15, 0, 32, 0, 224, 480, 1023, 2047])] (bodyOf Tryd.f14) (argF [x0, x1]) w [.tmp 4] K := by kernel_rfl
theorem c14_calls (x0 x1 : Value) (w : World) (K : VPost) (h : c14 x0 x1 w K) : Calls Tryd.prog 14 #[x0, x1] w (retK K) :=
  calls_of_WP (c14_eq x0 x1 w K) mixedG Tryd.func14 (by kernel_rfl) Tryd.ntmps14 (by kernel_rfl) (by kernel_rfl) h

/-- imprimatur/imprimaturref00.SameTexts -/
def c30 (x0 x1 : Value) (w : World) (K : VPost) : Prop :=
  lenW Tryd.prog (some true) #[52] 3 #[x0] w fun t7_0 w1 =>
  lenW Tryd.prog (some true) #[52] 3 #[x1] w1 fun t9_2 w3 =>
  binN Tryd.prog .neq 3 false t7_0 t9_2 w3 fun t10_4 w5 =>
  condW t10_4 (
  K (.bool false) w5) (
  bindX (endW Tryd.prog [.tmp 4] K) fun K6 =>
  bindX (seqX (fun _ w9 =>
  K (.bool true) w9) K6) fun K7 =>
  bindX (blkX 0 K7) fun K10 =>
  loopW (fun f11 w12 K13 =>
  lenW Tryd.prog (some true) #[52] 3 #[(f11 0)] w12 fun t13_14 w15 =>
  binN Tryd.prog .lss 3 false (f11 5) t13_14 w15 fun t14_16 w17 =>
  condW t14_16 (
  idxW (some (none, 1)) (f11 0) (f11 5) w17.drew fun t19_18 w19 =>
  loadW (some (false, 1)) t19_18 w19 fun t20_20 w21 =>
  idxW (some (none, 1)) (f11 1) (f11 5) w21 fun t23_22 w23 =>
  loadW (some (false, 1)) t23_22 w23 fun t24_24 w25 =>
  binW Tryd.prog .neq 9 false t20_20 t24_24 w25 fun t25_26 w27 =>
  w27 = w25 ∧
  condW t25_26 (
  K13 .ret (pf 26 (pf 26 (pf 26 (pf 26 (pf 26 (pf 26 (pf 26 (pf 26 (pf 26 (pf 26 (pf 26 (pf 26 (pf 26 (pf 26 f11 11 (f11 5)) 12 (f11 0)) 13 t13_14) 14 t14_16) 17 (f11 0)) 18 (f11 5)) 19 t19_18) 20 t20_20) 21 (f11 1)) 22 (f11 5)) 23 t23_22) 24 t24_24) 25 t25_26) 4 (.bool false)) w27) (
  binN Tryd.prog .add 3 true (f11 5) (.int .i64 1) w27 fun t16_28 w29 =>
  K13 .normal (pf 26 (pf 26 (pf 26 (pf 26 (pf 26 (pf 26 (pf 26 (pf 26 (pf 26 (pf 26 (pf 26 (pf 26 (pf 26 (pf 26 (pf 26 (pf 26 f11 11 (f11 5)) 12 (f11 0)) 13 t13_14) 14 t14_16) 17 (f11 0)) 18 (f11 5)) 19 t19_18) 20 t20_20) 21 (f11 1)) 22 (f11 5)) 23 t23_22) 24 t24_24) 25 t25_26) 15 (f11 5)) 16 t16_28) 5 t16_28) w29)) (
  K13 (.exit 0) (pf 26 (pf 26 (pf 26 (pf 26 f11 11 (f11 5)) 12 (f11 0)) 13 t13_14) 14 t14_16) w17)) (pf 26 (pf 26 (pf 26 (pf 26 (pf 26 (pf 26 (pf 26 (argF [x0, x1]) 4 (.bool false)) 6 x0) 7 t7_0) 8 x1) 9 t9_2) 10 t10_4) 5 (.int .i64 0)) w5 K10)
theorem c30_eq (x0 x1 : Value) (w : World) (K : VPost) : c30 x0 x1 w K = WP true Tryd.prog 26 [(6, 0, [0, 0, 3, 4, 0, 0, 48, 64, 136], [0, 0, 3, 7, 0, 0, 48, 112, 255])] (bodyOf Tryd.f30) (argF [x0, x1]) w [.tmp 4] K := by kernel_rfl
theorem c30_calls (x0 x1 : Value) (w : World) (K : VPost) (h : c30 x0 x1 w K) : Calls Tryd.prog 30 #[x0, x1] w (retK K) :=
  calls_of_WP (c30_eq x0 x1 w K) mixedG Tryd.func30 (by kernel_rfl) Tryd.ntmps30 (by kernel_rfl) (by kernel_rfl) h

/-- imprimatur/imprimaturref07.Num -/
def c43 (x0 : Value) (w : World) (K : VPost) : Prop :=
  allocW (zeroO Tryd.prog 48) 48 w fun t2_0 w1 =>
  insW Tryd.prog (Instr.build 46 #[(0, (.int .i64 (-1))), (1, (.int .i64 (-1))), (2, (.int .i64 (-1))), (3, (.int .i64 (-1)))]) w1 fun t4_2 w3 =>
  insW Tryd.prog (Instr.build 48 #[(0, x0), (1, t4_2)]) w3 fun t5_4 w5 =>
  storeW (some (true, 5)) t2_0 t5_4 w5 fun w6 =>
  loadW (some (true, 5)) t2_0 w6 fun r7 _ =>
  K r7 w6
theorem c43_eq (x0 : Value) (w : World) (K : VPost) : c43 x0 w K = WP true Tryd.prog 6 [] (bodyOf Tryd.f43) (argF [x0]) w [.cell 2 48] K := by kernel_rfl
theorem c43_calls (x0 : Value) (w : World) (K : VPost) (h : c43 x0 w K) : Calls Tryd.prog 43 #[x0] w (retK K) :=
  calls_of_WP (c43_eq x0 w K) mixedG Tryd.func43 (by kernel_rfl) Tryd.ntmps43 (by kernel_rfl) (by kernel_rfl) h

/-- imprimatur/imprimaturref07.Param -/
def c26 (x0 x1 : Value) (w : World) (K : VPost) : Prop :=
  allocW (zeroO Tryd.prog 48) 48 w fun t4_0 w1 =>
  fnW Tryd.prog 43 #[(.int .i64 (-1))] w1 fun t6_2 w3 =>
  allocW (zeroO Tryd.prog 48) 48 w3 fun t5_4 w5 =>
  storeW (some (true, 5)) t5_4 t6_2 w5 fun w6 =>
  binN Tryd.prog .lss 3 true x0 (.int .i64 0) w6 fun t8_7 w8 =>
  gstep t8_7 false w8 (fun K => K x0 w8) fun t10_9 w10 =>
  gstep t8_7 false w10 (fun K => binN Tryd.prog .gtr 3 true t10_9 (.int .i64 3) w10 K) fun t11_11 w12 =>
  pickW t8_7 (.bool true) t11_11 w12 fun t12_13 w14 =>
  gstep t12_13 false w14 (fun K => K x1 w14) fun t14_15 w16 =>
  gstep t12_13 false w16 (fun K => binN Tryd.prog .lss 3 true t14_15 (.int .i64 0) w16 K) fun t15_17 w18 =>
  pickW t12_13 (.bool true) t15_17 w18 fun t16_19 w20 =>
  gstep t16_19 false w20 (fun K => K x1 w20) fun t18_21 w22 =>
  gstep t16_19 false w22 (fun K => binN Tryd.prog .gtr 3 true t18_21 (.int .i64 100) w22 K) fun t19_23 w24 =>
  pickW t16_19 (.bool true) t19_23 w24 fun t20_25 w26 =>
  condW t20_25 (
  loadW (some (true, 5)) t5_4 w26 fun t21_27 w28 =>
  storeW (some (true, 5)) t4_0 t21_27 w28 fun w29 =>
  loadW (some (true, 5)) t4_0 w29 fun r30 _ =>
  K r30 w29) (
  offW (some 0) t5_4 w26 fun t23_32 w33 =>
  storeW (some (false, 1)) t23_32 x1 w33 fun w34 =>
  offW (some 1) t5_4 w34 fun t26_35 w36 =>
  idxW (some ((some 4), 1)) t26_35 x0 w36 fun t27_37 w38 =>
  storeW (some (false, 1)) t27_37 x1 w38 fun w39 =>
  loadW (some (true, 5)) t5_4 w39 fun t28_40 w41 =>
  storeW (some (true, 5)) t4_0 t28_40 w41 fun w42 =>
  loadW (some (true, 5)) t4_0 w42 fun r43 _ =>
  K r43 w42)
theorem c26_eq (x0 x1 : Value) (w : World) (K : VPost) : c26 x0 x1 w K = WP true Tryd.prog 29 [] (bodyOf Tryd.f26) (argF [x0, x1]) w [.cell 4 48] K := by kernel_rfl
theorem c26_calls (x0 x1 : Value) (w : World) (K : VPost) (h : c26 x0 x1 w K) : Calls Tryd.prog 26 #[x0, x1] w (retK K) :=
  calls_of_WP (c26_eq x0 x1 w K) mixedG Tryd.func26 (by kernel_rfl) Tryd.ntmps26 (by kernel_rfl) (by kernel_rfl) h

/-- imprimatur/imprimaturref07.Right -/
def c73 (x0 : Value) (w : World) (K : VPost) : Prop :=
  boxW 48 x0 w fun t1_0 w1 =>
  offW (some 0) t1_0 w1 fun t4_2 w3 =>
  loadW (some (false, 1)) t4_2 w3 fun t5_4 w5 =>
  binN Tryd.prog .lss 3 true t5_4 (.int .i64 0) w5 fun t6_6 w7 =>
  gstep t6_6 false w7 (fun K => offW (some 0) t1_0 w7 K) fun t8_8 w9 =>
  gstep t6_6 false w9 (fun K => loadW (some (false, 1)) t8_8 w9 K) fun t9_10 w11 =>
  gstep t6_6 false w11 (fun K => binN Tryd.prog .gtr 3 true t9_10 (.int .i64 100) w11 K) fun t10_12 w13 =>
  pickW t6_6 (.bool true) t10_12 w13 fun t11_14 w15 =>
  condW t11_14 (
  K (.bool false) w15) (
  bindX (endW Tryd.prog [.tmp 2] K) fun K16 =>
  bindX (seqX (fun _ w19 =>
  K (.bool true) w19) K16) fun K17 =>
  bindX (blkX 0 K17) fun K20 =>
  loopW (fun f21 w22 K23 =>
  binN Tryd.prog .lss 3 true (f21 3) (.int .i64 4) w22 fun t13_24 w25 =>
  condW t13_24 (
  offW (some 1) (f21 1) w25.drew fun t17_26 w27 =>
  idxW (some ((some 4), 1)) t17_26 (f21 3) w27 fun t18_28 w29 =>
  loadW (some (false, 1)) t18_28 w29 fun t19_30 w31 =>
  binN Tryd.prog .lss 3 true t19_30 (.int .i64 (-1)) w31 fun t20_32 w33 =>
  gstep t20_32 false w33 (fun K => K (f21 3) w33) fun t22_34 w35 =>
  gstep t20_32 false w35 (fun K => offW (some 1) (f21 1) w35 K) fun t23_36 w37 =>
  gstep t20_32 false w37 (fun K => idxW (some ((some 4), 1)) t23_36 t22_34 w37 K) fun t24_38 w39 =>
  gstep t20_32 false w39 (fun K => loadW (some (false, 1)) t24_38 w39 K) fun t25_40 w41 =>
  gstep t20_32 false w41 (fun K => binN Tryd.prog .gtr 3 true t25_40 (.int .i64 100) w41 K) fun t26_42 w43 =>
  pickW t20_32 (.bool true) t26_42 w43 fun t27_44 w45 =>
  gstep t27_44 false w45 (fun K => K (f21 3) w45) fun t29_46 w47 =>
  gstep t27_44 false w47 (fun K => offW (some 1) (f21 1) w47 K) fun t30_48 w49 =>
  gstep t27_44 false w49 (fun K => idxW (some ((some 4), 1)) t30_48 t29_46 w49 K) fun t31_50 w51 =>
  gstep t27_44 false w51 (fun K => loadW (some (false, 1)) t31_50 w51 K) fun t32_52 w53 =>
  gstep t27_44 false w53 (fun K => offW (some 0) (f21 1) w53 K) fun t33_54 w55 =>
  gstep t27_44 false w55 (fun K => loadW (some (false, 1)) t33_54 w55 K) fun t34_56 w57 =>
  gstep t27_44 false w57 (fun K => binN Tryd.prog .gtr 3 false t32_52 t34_56 w57 K) fun t35_58 w59 =>
  pickW t27_44 (.bool true) t35_58 w59 fun t36_60 w61 =>
  condW t36_60 (
  K23 .ret (pf 37 (pf 37 (pf 37 (pf 37 (pf 37 (pf 37 (pf 37 (pf 37 (pf 37 (pf 37 (pf 37 (pf 37 (pf 37 (pf 37 (pf 37 (pf 37 (pf 37 (pf 37 (pf 37 (pf 37 (pf 37 (pf 37 (pf 37 (pf 37 f21 12 (f21 3)) 13 t13_24) 16 (f21 3)) 17 t17_26) 18 t18_28) 19 t19_30) 20 t20_32) 21 t20_32) 22 t22_34) 23 t23_36) 24 t24_38) 25 t25_40) 26 t26_42) 27 t27_44) 28 t27_44) 29 t29_46) 30 t30_48) 31 t31_50) 32 t32_52) 33 t33_54) 34 t34_56) 35 t35_58) 36 t36_60) 2 (.bool false)) w61) (
  binN Tryd.prog .add 3 true (f21 3) (.int .i64 1) w61 fun t15_62 w63 =>
  K23 .normal (pf 37 (pf 37 (pf 37 (pf 37 (pf 37 (pf 37 (pf 37 (pf 37 (pf 37 (pf 37 (pf 37 (pf 37 (pf 37 (pf 37 (pf 37 (pf 37 (pf 37 (pf 37 (pf 37 (pf 37 (pf 37 (pf 37 (pf 37 (pf 37 (pf 37 (pf 37 f21 12 (f21 3)) 13 t13_24) 16 (f21 3)) 17 t17_26) 18 t18_28) 19 t19_30) 20 t20_32) 21 t20_32) 22 t22_34) 23 t23_36) 24 t24_38) 25 t25_40) 26 t26_42) 27 t27_44) 28 t27_44) 29 t29_46) 30 t30_48) 31 t31_50) 32 t32_52) 33 t33_54) 34 t34_56) 35 t35_58) 36 t36_60) 14 (f21 3)) 15 t15_62) 3 t15_62) w63)) (
  K23 (.exit 0) (pf 37 (pf 37 f21 12 (f21 3)) 13 t13_24) w25)) (pf 37 (pf 37 (pf 37 (pf 37 (pf 37 (pf 37 (pf 37 (pf 37 (pf 37 (pf 37 (pf 37 (argF [x0]) 1 t1_0) 2 (.bool false)) 4 t4_2) 5 t5_4) 6 t6_6) 7 t6_6) 8 t8_8) 9 t9_10) 10 t10_12) 11 t11_14) 3 (.int .i64 0)) w15 K20)
theorem c73_eq (x0 : Value) (w : World) (K : VPost) : c73 x0 w K = WP true Tryd.prog 37 [(6, 0, [0, 0, 3, 4, 8, 16, 32, 32, 224, 288, 544, 1056, 2080, 4096, 4096, 28672, 36864, 4096, 135168, 331776, 528384], [0, 0, 3, 7, 15, 31, 63, 63, 255, 511, 1023, 2047, 4095, 8191, 8191, 32767, 65535, 8191, 139263, 524287, 1048575])] (bodyOf Tryd.f73) (argF [x0]) w [.tmp 2] K := by kernel_rfl
theorem c73_calls (x0 : Value) (w : World) (K : VPost) (h : c73 x0 w K) : Calls Tryd.prog 73 #[x0] w (retK K) :=
  calls_of_WP (c73_eq x0 w K) mixedG Tryd.func73 (by kernel_rfl) Tryd.ntmps73 (by kernel_rfl) (by kernel_rfl) h

/-- imprimatur/imprimaturref07.Width -/
def c74 (x0 : Value) (w : World) (K : VPost) : Prop :=
  boxW 48 x0 w fun t1_0 w1 =>
  bindX (endW Tryd.prog [.tmp 2] K) fun K2 =>
  bindX (seqX (fun f4 w5 =>
  K (f4 3) w5) K2) fun K3 =>
  bindX (blkX 0 K3) fun K6 =>
  loopW (fun f7 w8 K9 =>
  binN Tryd.prog .lss 3 true (f7 4) (.int .i64 4) w8 fun t6_10 w11 =>
  condW t6_10 (
  bindX (seqX (fun f13 w14 =>
  binN Tryd.prog .add 3 true (f13 4) (.int .i64 1) w14 fun t8_15 w16 =>
  K9 .normal (pf 17 (pf 17 (pf 17 f13 7 (f13 4)) 8 t8_15) 4 t8_15) w16) K9) fun K12 =>
  bindX (blkX 1 K12) fun _ =>
  offW (some 1) (f7 1) w11 fun t10_18 w19 =>
  idxW (some ((some 4), 1)) t10_18 (f7 4) w19 fun t11_20 w21 =>
  loadW (some (false, 1)) t11_20 w21 fun t12_22 w23 =>
  binN Tryd.prog .geq 3 true t12_22 (.int .i64 0) w23 fun t13_24 w25 =>
  condW t13_24 (
  binN Tryd.prog .add 3 true (f7 4) (.int .i64 1) w25 fun t15_26 w27 =>
  K12 .normal (pf 17 (pf 17 (pf 17 (pf 17 (pf 17 (pf 17 (pf 17 (pf 17 (pf 17 (pf 17 f7 5 (f7 4)) 6 t6_10) 9 (f7 4)) 10 t10_18) 11 t11_20) 12 t12_22) 13 t13_24) 14 (f7 4)) 15 t15_26) 3 t15_26) w27) (
  K12 .normal (pf 17 (pf 17 (pf 17 (pf 17 (pf 17 (pf 17 (pf 17 f7 5 (f7 4)) 6 t6_10) 9 (f7 4)) 10 t10_18) 11 t11_20) 12 t12_22) 13 t13_24) w25)) (
  K9 (.exit 0) (pf 17 (pf 17 f7 5 (f7 4)) 6 t6_10) w11)) (pf 17 (pf 17 (pf 17 (pf 17 (argF [x0]) 1 t1_0) 2 (.int .i64 0)) 3 (.int .i64 0)) 4 (.int .i64 0)) w1 K6
theorem c74_eq (x0 : Value) (w : World) (K : VPost) : c74 x0 w K = WP true Tryd.prog 17 [] (bodyOf Tryd.f74) (argF [x0]) w [.tmp 2] K := by kernel_rfl
theorem c74_calls (x0 : Value) (w : World) (K : VPost) (h : c74 x0 w K) : Calls Tryd.prog 74 #[x0] w (retK K) :=
  calls_of_WP (c74_eq x0 w K) mixedG Tryd.func74 (by kernel_rfl) Tryd.ntmps74 (by kernel_rfl) (by kernel_rfl) h

/-- imprimatur/imprimaturref08.Any -/
def c23 (x0 : Value) (w : World) (K : VPost) : Prop :=
  boxW 27 x0 w fun t1_0 w1 =>
  loadW (some (true, 5)) t1_0 w1 fun t3_2 w3 =>
  fnW Tryd.prog 42 #[t3_2, (.int .i64 4), (.int .i64 1099511627776)] w3 fun t4_4 w5 =>
  K t4_4 w5
theorem c23_eq (x0 : Value) (w : World) (K : VPost) : c23 x0 w K = WP true Tryd.prog 5 [] (bodyOf Tryd.f23) (argF [x0]) w [.tmp 2] K := by kernel_rfl
theorem c23_calls (x0 : Value) (w : World) (K : VPost) (h : c23 x0 w K) : Calls Tryd.prog 23 #[x0] w (retK K) :=
  calls_of_WP (c23_eq x0 w K) mixedG Tryd.func23 (by kernel_rfl) Tryd.ntmps23 (by kernel_rfl) (by kernel_rfl) h

/-- imprimatur/imprimaturref08.App -/
def c15 (x0 x1 : Value) (w : World) (K : VPost) : Prop :=
  boxW 27 x0 w fun t2_0 w1 =>
  allocW (zeroO Tryd.prog 27) 27 w1 fun t4_2 w3 =>
  loadW (some (true, 5)) t2_0 w3 fun t7_4 w5 =>
  fnW Tryd.prog 38 #[t7_4] w5 fun t8_6 w7 =>
  allocW (zeroO Tryd.prog 27) 27 w7 fun t5_8 w9 =>
  storeW (some (true, 5)) t5_8 t8_6 w9 fun w10 =>
  bindX (endW Tryd.prog [.cell 4 27] K) fun K11 =>
  bindX (seqX (fun f13 w14 =>
  loadW (some (true, 5)) (f13 5) w14 fun t23_15 w16 =>
  storeW (some (true, 5)) (f13 4) t23_15 w16 fun w17 =>
  loadW (some (true, 5)) (f13 4) w17 fun r18 _ =>
  K r18 w17) K11) fun K12 =>
  bindX (blkX 0 K12) fun K20 =>
  loopW (fun f21 w22 K23 =>
  lenW Tryd.prog (some true) #[25] 3 #[(f21 1)] w22 fun t11_24 w25 =>
  binN Tryd.prog .lss 3 false (f21 6) t11_24 w25 fun t12_26 w27 =>
  condW t12_26 (
  loadW (some (true, 5)) (f21 5) w27.drew fun t15_28 w29 =>
  idxW (some (none, 5)) (f21 1) (f21 6) w29 fun t18_30 w31 =>
  loadW (some (true, 5)) t18_30 w31 fun t19_32 w33 =>
  fnW Tryd.prog 38 #[t19_32] w33 fun t20_34 w35 =>
  (loadW (some (true, 5)) (f21 5) w35 fun t15_36 w37 => t15_36 = t15_28 ∧ w37 = w35) ∧
  insW Tryd.prog (Instr.buildSlice 25 2 #[(0, t15_28), (1, t20_34)]) w35 fun t21_38 w39 =>
  insW Tryd.prog (Instr.build 27 #[(0, (.int .i64 5)), (4, t21_38)]) w39 fun t22_40 w41 =>
  storeW (some (true, 5)) (f21 5) t22_40 w41 fun w42 =>
  binN Tryd.prog .add 3 true (f21 6) (.int .i64 1) w42 fun t14_43 w44 =>
  K23 .normal (pf 24 (pf 24 (pf 24 (pf 24 (pf 24 (pf 24 (pf 24 (pf 24 (pf 24 (pf 24 (pf 24 (pf 24 (pf 24 (pf 24 (pf 24 f21 9 (f21 6)) 10 (f21 1)) 11 t11_24) 12 t12_26) 15 t15_28) 16 (f21 1)) 17 (f21 6)) 18 t18_30) 19 t19_32) 20 t20_34) 21 t21_38) 22 t22_40) 13 (f21 6)) 14 t14_43) 6 t14_43) w44) (
  K23 (.exit 0) (pf 24 (pf 24 (pf 24 (pf 24 f21 9 (f21 6)) 10 (f21 1)) 11 t11_24) 12 t12_26) w27)) (pf 24 (pf 24 (pf 24 (pf 24 (pf 24 (pf 24 (argF [x0, x1]) 2 t2_0) 4 t4_2) 7 t7_4) 8 t8_6) 5 t5_8) 6 (.int .i64 0)) w10 K20
theorem c15_eq (x0 x1 : Value) (w : World) (K : VPost) : c15 x0 x1 w K = WP true Tryd.prog 24 [(5, 352, [0, 0, 0, 6, 8, 16, 33, 64, 255], [0, 0, 0, 6, 14, 30, 63, 127, 255])] (bodyOf Tryd.f15) (argF [x0, x1]) w [.cell 4 27] K := by kernel_rfl
theorem c15_calls (x0 x1 : Value) (w : World) (K : VPost) (h : c15 x0 x1 w K) : Calls Tryd.prog 15 #[x0, x1] w (retK K) :=
  calls_of_WP (c15_eq x0 x1 w K) mixedG Tryd.func15 (by kernel_rfl) Tryd.ntmps15 (by kernel_rfl) (by kernel_rfl) h

/-- imprimatur/imprimaturref08.Bind -/
def c16 (x0 x1 x2 : Value) (w : World) (K : VPost) : Prop :=
  boxW 27 x1 w fun t4_0 w1 =>
  allocW (zeroO Tryd.prog 27) 27 w1 fun t6_2 w3 =>
  loadW (some (true, 5)) t4_0 w3 fun t9_4 w5 =>
  fnW Tryd.prog 38 #[t9_4] w5 fun t10_6 w7 =>
  allocW (zeroO Tryd.prog 27) 27 w7 fun t7_8 w9 =>
  storeW (some (true, 5)) t7_8 t10_6 w9 fun w10 =>
  bindX (endW Tryd.prog [.cell 6 27] K) fun K11 =>
  bindX (seqX (fun f13 w14 =>
  loadW (some (true, 5)) (f13 7) w14 fun t27_15 w16 =>
  storeW (some (true, 5)) (f13 6) t27_15 w16 fun w17 =>
  loadW (some (true, 5)) (f13 6) w17 fun r18 _ =>
  K r18 w17) K11) fun K12 =>
  lenW Tryd.prog (some true) #[25] 3 #[x2] w10 fun t12_20 w21 =>
  binN Tryd.prog .sub 3 true t12_20 (.int .i64 1) w21 fun t13_22 w23 =>
  bindX (blkX 0 K12) fun K24 =>
  loopW (fun f25 w26 K27 =>
  binN Tryd.prog .geq 3 true (f25 8) (.int .i64 0) w26 fun t15_28 w29 =>
  condW t15_28 (
  idxW (some (none, 5)) (f25 2) (f25 8) w29.drew fun t21_30 w31 =>
  loadW (some (true, 5)) t21_30 w31 fun t22_32 w33 =>
  loadW (some (true, 5)) (f25 7) w33 fun t24_34 w35 =>
  fnW Tryd.prog 38 #[t22_32] w35 fun t23_36 w37 =>
  (loadW (some (true, 5)) (f25 7) w37 fun t24_38 w39 => t24_38 = t24_34 ∧ w39 = w37) ∧
  insW Tryd.prog (Instr.buildSlice 25 2 #[(0, t23_36), (1, t24_34)]) w37 fun t25_40 w41 =>
  insW Tryd.prog (Instr.build 27 #[(0, (f25 0)), (4, t25_40)]) w41 fun t26_42 w43 =>
  storeW (some (true, 5)) (f25 7) t26_42 w43 fun w44 =>
  binN Tryd.prog .sub 3 true (f25 8) (.int .i64 1) w44 fun t17_45 w46 =>
  K27 .normal (pf 28 (pf 28 (pf 28 (pf 28 (pf 28 (pf 28 (pf 28 (pf 28 (pf 28 (pf 28 (pf 28 (pf 28 (pf 28 (pf 28 f25 14 (f25 8)) 15 t15_28) 18 (f25 0)) 19 (f25 2)) 20 (f25 8)) 21 t21_30) 22 t22_32) 24 t24_34) 23 t23_36) 25 t25_40) 26 t26_42) 16 (f25 8)) 17 t17_45) 8 t17_45) w46) (
  K27 (.exit 0) (pf 28 (pf 28 f25 14 (f25 8)) 15 t15_28) w29)) (pf 28 (pf 28 (pf 28 (pf 28 (pf 28 (pf 28 (pf 28 (pf 28 (pf 28 (argF [x0, x1, x2]) 4 t4_0) 6 t6_2) 9 t9_4) 10 t10_6) 7 t7_8) 11 x2) 12 t12_20) 13 t13_22) 8 t13_22) w23 K24
theorem c16_eq (x0 x1 x2 : Value) (w : World) (K : VPost) : c16 x0 x1 x2 w K = WP true Tryd.prog 28 [(5, 672, [0, 0, 0, 6, 8, 16, 0, 96, 129, 511], [0, 0, 0, 6, 14, 30, 0, 126, 255, 511])] (bodyOf Tryd.f16) (argF [x0, x1, x2]) w [.cell 6 27] K := by kernel_rfl
theorem c16_calls (x0 x1 x2 : Value) (w : World) (K : VPost) (h : c16 x0 x1 x2 w K) : Calls Tryd.prog 16 #[x0, x1, x2] w (retK K) :=
  calls_of_WP (c16_eq x0 x1 x2 w K) mixedG Tryd.func16 (by kernel_rfl) Tryd.ntmps16 (by kernel_rfl) (by kernel_rfl) h

/-- imprimatur/imprimaturref08.Right -/
def c42 (x0 x1 x2 : Value) (w : World) (K : VPost) : Prop :=
  boxW 27 x0 w fun t3_0 w1 =>
  binN Tryd.prog .geq 3 true x1 (.int .i64 0) w1 fun t8_2 w3 =>
  gstep t8_2 true w3 (fun K => K x1 w3) fun t10_4 w5 =>
  gstep t8_2 true w5 (fun K => binN Tryd.prog .leq 3 true t10_4 (.int .i64 4) w5 K) fun t11_6 w7 =>
  pickW t8_2 t11_6 (.bool false) w7 fun t12_8 w9 =>
  gstep t12_8 true w9 (fun K => K x2 w9) fun t14_10 w11 =>
  gstep t12_8 true w11 (fun K => binN Tryd.prog .geq 3 true t14_10 (.int .i64 0) w11 K) fun t15_12 w13 =>
  pickW t12_8 t15_12 (.bool false) w13 fun t16_14 w15 =>
  gstep t16_14 true w15 (fun K => K x2 w15) fun t18_16 w17 =>
  gstep t16_14 true w17 (fun K => binN Tryd.prog .leq 3 true t18_16 (.int .i64 1099511627776) w17 K) fun t19_18 w19 =>
  pickW t16_14 t19_18 (.bool false) w19 fun t20_20 w21 =>
  gstep t20_20 true w21 (fun K => loadW (some (true, 5)) t3_0 w21 K) fun t22_22 w23 =>
  gstep t20_20 true w23 (fun K => fnW Tryd.prog 11 #[t22_22, (.int .i64 3000)] w23 K) fun t23_24 w25 =>
  gstep t20_20 true w25 (fun K => binN Tryd.prog .leq 3 true t23_24 (.int .i64 3000) w25 K) fun t24_26 w27 =>
  pickW t20_20 t24_26 (.bool false) w27 fun t25_28 w29 =>
  gstep t25_28 true w29 (fun K => loadW (some (true, 5)) t3_0 w29 K) fun t27_30 w31 =>
  gstep t25_28 true w31 (fun K => K x1 w31) fun t28_32 w33 =>
  gstep t25_28 true w33 (fun K => K x2 w33) fun t29_34 w35 =>
  gstep t25_28 true w35 (fun K => fnW Tryd.prog 62 #[t27_30, t28_32, t29_34, (.int .i64 0)] w35 K) fun t30_36 w37 =>
  pickW t25_28 t30_36 (.bool false) w37 fun t31_38 w39 =>
  K t31_38 w39
theorem c42_eq (x0 x1 x2 : Value) (w : World) (K : VPost) : c42 x0 x1 x2 w K = WP true Tryd.prog 32 [] (bodyOf Tryd.f42) (argF [x0, x1, x2]) w [.tmp 6] K := by kernel_rfl
theorem c42_calls (x0 x1 x2 : Value) (w : World) (K : VPost) (h : c42 x0 x1 x2 w K) : Calls Tryd.prog 42 #[x0, x1, x2] w (retK K) :=
  calls_of_WP (c42_eq x0 x1 x2 w K) mixedG Tryd.func42 (by kernel_rfl) Tryd.ntmps42 (by kernel_rfl) (by kernel_rfl) h

/-- imprimatur/imprimaturref08.Word -/
def c9 (x0 : Value) (w : World) (K : VPost) : Prop :=
  lenW Tryd.prog (some false) #[9] 3 #[x0] w fun t8_0 w1 =>
  binN Tryd.prog .lss 3 true t8_0 (.int .i64 1) w1 fun t9_2 w3 =>
  gstep t9_2 false w3 (fun K => K x0 w3) fun t11_4 w5 =>
  gstep t9_2 false w5 (fun K => lenW Tryd.prog (some false) #[9] 3 #[t11_4] w5 K) fun t12_6 w7 =>
  gstep t9_2 false w7 (fun K => binN Tryd.prog .gtr 3 true t12_6 (.int .i64 32) w7 K) fun t13_8 w9 =>
  pickW t9_2 (.bool true) t13_8 w9 fun t14_10 w11 =>
  condW t14_10 (
  K (.bool false) w11) (
  bindX (endW Tryd.prog [.tmp 2] K) fun K12 =>
  bindX (seqX (fun f14 w15 =>
  insW Tryd.prog (Instr.buildSlice 52 16 #[(0, (.string ⟨#[80, 114, 111, 112]⟩)), (1, (.string ⟨#[84, 121, 112, 101]⟩)), (2, (.string ⟨#[102, 117, 110]⟩)), (3, (.string ⟨#[97, 108, 108]⟩)), (4, (.string ⟨#[108, 101, 116]⟩)), (5, (.string ⟨#[105, 110]⟩)), (6, (.string ⟨#[111, 102]⟩)), (7, (.string ⟨#[119, 105, 116, 104]⟩)), (8, (.string ⟨#[97, 120, 105, 111, 109]⟩)), (9, (.string ⟨#[100, 101, 102]⟩)), (10, (.string ⟨#[116, 104, 101, 111, 114, 101, 109]⟩)), (11, (.string ⟨#[102, 97, 109, 105, 108, 121]⟩)), (12, (.string ⟨#[117, 48]⟩)), (13, (.string ⟨#[117, 49]⟩)), (14, (.string ⟨#[117, 50]⟩)), (15, (.string ⟨#[117, 51]⟩))]) w15 fun t54_16 w17 =>
  bindX (seqX (fun f19 w20 =>
  unN Tryd.prog .not (f19 3) w20 fun t68_21 w22 =>
  K t68_21 w22) K12) fun K18 =>
  bindX (blkX 3 K18) fun K23 =>
  loopW (fun f24 w25 K26 =>
  lenW Tryd.prog (some true) #[52] 3 #[(f24 5)] w25 fun t57_27 w28 =>
  binN Tryd.prog .lss 3 false (f24 6) t57_27 w28 fun t58_29 w30 =>
  condW t58_29 (
  idxW (some (none, 1)) (f24 5) (f24 6) w30 fun t63_31 w32 =>
  loadW (some (false, 1)) t63_31 w32 fun t64_33 w34 =>
  binW Tryd.prog .eql 9 false t64_33 (f24 0) w34 fun t66_35 w36 =>
  condW t66_35 (
  K26 .ret (pf 69 (pf 69 (pf 69 (pf 69 (pf 69 (pf 69 (pf 69 (pf 69 (pf 69 (pf 69 (pf 69 f24 55 (f24 6)) 56 (f24 5)) 57 t57_27) 58 t58_29) 61 (f24 5)) 62 (f24 6)) 63 t63_31) 64 t64_33) 65 (f24 0)) 66 t66_35) 2 (.bool false)) w36) (
  binN Tryd.prog .add 3 true (f24 6) (.int .i64 1) w36 fun t60_37 w38 =>
  K26 .normal (pf 69 (pf 69 (pf 69 (pf 69 (pf 69 (pf 69 (pf 69 (pf 69 (pf 69 (pf 69 (pf 69 (pf 69 (pf 69 f24 55 (f24 6)) 56 (f24 5)) 57 t57_27) 58 t58_29) 61 (f24 5)) 62 (f24 6)) 63 t63_31) 64 t64_33) 65 (f24 0)) 66 t66_35) 59 (f24 6)) 60 t60_37) 6 t60_37) w38)) (
  K26 (.exit 3) (pf 69 (pf 69 (pf 69 (pf 69 f24 55 (f24 6)) 56 (f24 5)) 57 t57_27) 58 t58_29) w30)) (pf 69 (pf 69 (pf 69 f14 54 t54_16) 5 t54_16) 6 (.int .i64 0)) w17 K23) K12) fun K13 =>
  bindX (blkX 0 K13) fun K39 =>
  loopW (fun f40 w41 K42 =>
  lenW Tryd.prog (some false) #[9] 3 #[(f40 0)] w41 fun t17_43 w44 =>
  binN Tryd.prog .lss 3 false (f40 4) t17_43 w44 fun t18_45 w46 =>
  condW t18_45 (
  bindX (seqX (fun f48 w49 =>
  binN Tryd.prog .add 3 true (f48 4) (.int .i64 1) w49 fun t20_50 w51 =>
  K42 .normal (pf 69 (pf 69 (pf 69 f48 19 (f48 4)) 20 t20_50) 4 t20_50) w51) K42) fun K47 =>
  bindX (blkX 1 K47) fun _ =>
  gstep (f40 3) true w46 (fun K => K (f40 0) w46) fun t24_53 w54 =>
  gstep (f40 3) true w54 (fun K => K (f40 4) w54) fun t25_55 w56 =>
  gstep (f40 3) true w56 (fun K => ixvW .str t24_53 t25_55 w56 K) fun t26_57 w58 =>
  gstep (f40 3) true w58 (fun K => fnW Tryd.prog 35 #[t26_57] w58 K) fun t27_59 w60 =>
  gstep (f40 3) true w60 (fun K => unN Tryd.prog .not t27_59 w60 K) fun t28_61 w62 =>
  pickW (f40 3) t28_61 (.bool false) w62 fun t29_63 w64 =>
  condW t29_63 (
  K42 .ret (pf 69 (pf 69 (pf 69 (pf 69 (pf 69 (pf 69 (pf 69 (pf 69 (pf 69 (pf 69 (pf 69 (pf 69 (pf 69 (pf 69 f40 15 (f40 4)) 16 (f40 0)) 17 t17_43) 18 t18_45) 22 (f40 3)) 23 (f40 3)) 24 t24_53) 25 t25_55) 26 t26_57) 27 t27_59) 28 t28_61) 29 t29_63) 21 t29_63) 2 (.bool false)) w64) (
  ixvW .str (f40 0) (f40 4) w64 fun t33_65 w66 =>
  binN Tryd.prog .eql 5 true t33_65 (.int .u8 46) w66 fun t34_67 w68 =>
  condW t34_67 (
  K47 .normal (pf 69 (pf 69 (pf 69 (pf 69 (pf 69 (pf 69 (pf 69 (pf 69 (pf 69 (pf 69 (pf 69 (pf 69 (pf 69 (pf 69 (pf 69 (pf 69 (pf 69 (pf 69 (pf 69 f40 15 (f40 4)) 16 (f40 0)) 17 t17_43) 18 t18_45) 22 (f40 3)) 23 (f40 3)) 24 t24_53) 25 t25_55) 26 t26_57) 27 t27_59) 28 t28_61) 29 t29_63) 21 t29_63) 31 (f40 0)) 32 (f40 4)) 33 t33_65) 34 t34_67) 30 t34_67) 3 (.bool true)) w68) (
  ixvW .str (f40 0) (f40 4) w68 fun t38_69 w70 =>
  fnW Tryd.prog 35 #[t38_69] w70 fun t39_71 w72 =>
  unN Tryd.prog .not t39_71 w72 fun t40_73 w74 =>
  gstep t40_73 true w74 (fun K => K (f40 0) w74) fun t42_75 w76 =>
  gstep t40_73 true w76 (fun K => K (f40 4) w76) fun t43_77 w78 =>
  gstep t40_73 true w78 (fun K => ixvW .str t42_75 t43_77 w78 K) fun t44_79 w80 =>
  gstep t40_73 true w80 (fun K => fnW Tryd.prog 36 #[t44_79] w80 K) fun t45_81 w82 =>
  gstep t40_73 true w82 (fun K => unN Tryd.prog .not t45_81 w82 K) fun t46_83 w84 =>
  pickW t40_73 t46_83 (.bool false) w84 fun t47_85 w86 =>
  gstep t47_85 true w86 (fun K => K (f40 0) w86) fun t49_87 w88 =>
  gstep t47_85 true w88 (fun K => K (f40 4) w88) fun t50_89 w90 =>
  gstep t47_85 true w90 (fun K => ixvW .str t49_87 t50_89 w90 K) fun t51_91 w92 =>
  gstep t47_85 true w92 (fun K => binN Tryd.prog .neq 5 true t51_91 (.int .u8 95) w92 K) fun t52_93 w94 =>
  pickW t47_85 t52_93 (.bool false) w94 fun t53_95 w96 =>
  condW t53_95 (
  K42 .ret (pf 69 (pf 69 (pf 69 (pf 69 (pf 69 (pf 69 (pf 69 (pf 69 (pf 69 (pf 69 (pf 69 (pf 69 (pf 69 (pf 69 (pf 69 (pf 69 (pf 69 (pf 69 (pf 69 (pf 69 (pf 69 (pf 69 (pf 69 (pf 69 (pf 69 (pf 69 (pf 69 (pf 69 (pf 69 (pf 69 (pf 69 (pf 69 (pf 69 (pf 69 (pf 69 (pf 69 (pf 69 (pf 69 f40 15 (f40 4)) 16 (f40 0)) 17 t17_43) 18 t18_45) 22 (f40 3)) 23 (f40 3)) 24 t24_53) 25 t25_55) 26 t26_57) 27 t27_59) 28 t28_61) 29 t29_63) 21 t29_63) 31 (f40 0)) 32 (f40 4)) 33 t33_65) 34 t34_67) 30 t34_67) 36 (f40 0)) 37 (f40 4)) 38 t38_69) 39 t39_71) 40 t40_73) 41 t40_73) 42 t42_75) 43 t43_77) 44 t44_79) 45 t45_81) 46 t46_83) 47 t47_85) 48 t47_85) 49 t49_87) 50 t50_89) 51 t51_91) 52 t52_93) 53 t53_95) 35 t53_95) 2 (.bool false)) w96) (
  K47 .normal (pf 69 (pf 69 (pf 69 (pf 69 (pf 69 (pf 69 (pf 69 (pf 69 (pf 69 (pf 69 (pf 69 (pf 69 (pf 69 (pf 69 (pf 69 (pf 69 (pf 69 (pf 69 (pf 69 (pf 69 (pf 69 (pf 69 (pf 69 (pf 69 (pf 69 (pf 69 (pf 69 (pf 69 (pf 69 (pf 69 (pf 69 (pf 69 (pf 69 (pf 69 (pf 69 (pf 69 (pf 69 (pf 69 f40 15 (f40 4)) 16 (f40 0)) 17 t17_43) 18 t18_45) 22 (f40 3)) 23 (f40 3)) 24 t24_53) 25 t25_55) 26 t26_57) 27 t27_59) 28 t28_61) 29 t29_63) 21 t29_63) 31 (f40 0)) 32 (f40 4)) 33 t33_65) 34 t34_67) 30 t34_67) 36 (f40 0)) 37 (f40 4)) 38 t38_69) 39 t39_71) 40 t40_73) 41 t40_73) 42 t42_75) 43 t43_77) 44 t44_79) 45 t45_81) 46 t46_83) 47 t47_85) 48 t47_85) 49 t49_87) 50 t50_89) 51 t51_91) 52 t52_93) 53 t53_95) 35 t53_95) 3 (.bool false)) w96)))) (
  K42 (.exit 0) (pf 69 (pf 69 (pf 69 (pf 69 f40 15 (f40 4)) 16 (f40 0)) 17 t17_43) 18 t18_45) w46)) (pf 69 (pf 69 (pf 69 (pf 69 (pf 69 (pf 69 (pf 69 (pf 69 (pf 69 (pf 69 (pf 69 (argF [x0]) 2 (.bool false)) 7 x0) 8 t8_0) 9 t9_2) 10 t9_2) 11 t11_4) 12 t12_6) 13 t13_8) 14 t14_10) 3 (.bool true)) 4 (.int .i64 0)) w11 K39)
theorem c9_eq (x0 : Value) (w : World) (K : VPost) : c9 x0 w K = WP true Tryd.prog 69 [] (bodyOf Tryd.f9) (argF [x0]) w [.tmp 2] K := by kernel_rfl
theorem c9_calls (x0 : Value) (w : World) (K : VPost) (h : c9 x0 w K) : Calls Tryd.prog 9 #[x0] w (retK K) :=
  calls_of_WP (c9_eq x0 w K) mixedG Tryd.func9 (by kernel_rfl) Tryd.ntmps9 (by kernel_rfl) (by kernel_rfl) h

/-- imprimatur/imprimaturref08.binds -/
def c75 (x0 x1 : Value) (w : World) (K : VPost) : Prop :=
  binN Tryd.prog .eql 3 true x0 (.int .i64 6) w fun t6_0 w1 =>
  gstep t6_0 false w1 (fun K => K x0 w1) fun t8_2 w3 =>
  gstep t6_0 false w3 (fun K => binN Tryd.prog .eql 3 true t8_2 (.int .i64 7) w3 K) fun t9_4 w5 =>
  pickW t6_0 (.bool true) t9_4 w5 fun t10_6 w7 =>
  gstep t10_6 true w7 (fun K => K x1 w7) fun t12_8 w9 =>
  gstep t10_6 true w9 (fun K => binN Tryd.prog .eql 3 true t12_8 (.int .i64 1) w9 K) fun t13_10 w11 =>
  pickW t10_6 t13_10 (.bool false) w11 fun t14_12 w13 =>
  gstep t14_12 false w13 (fun K => K x0 w13) fun t16_14 w15 =>
  gstep t14_12 false w15 (fun K => binN Tryd.prog .eql 3 true t16_14 (.int .i64 8) w15 K) fun t17_16 w17 =>
  gstep t14_12 false w17 (fun K => K t17_16 w17) fun t18_18 w19 =>
  gstep t18_18 true w19 (fun K => K x1 w19) fun t19_20 w21 =>
  gstep t18_18 true w21 (fun K => binN Tryd.prog .eql 3 true t19_20 (.int .i64 2) w21 K) fun t20_22 w23 =>
  gstep t14_12 false w23 (fun K => pickW t18_18 t20_22 (.bool false) w23 K) fun t21_24 w25 =>
  pickW t14_12 (.bool true) t21_24 w25 fun t22_26 w27 =>
  K t22_26 w27
theorem c75_eq (x0 x1 : Value) (w : World) (K : VPost) : c75 x0 x1 w K = WP true Tryd.prog 23 [] (bodyOf Tryd.f75) (argF [x0, x1]) w [.tmp 4] K := by kernel_rfl
theorem c75_calls (x0 x1 : Value) (w : World) (K : VPost) (h : c75 x0 x1 w K) : Calls Tryd.prog 75 #[x0, x1] w (retK K) :=
  calls_of_WP (c75_eq x0 x1 w K) mixedG Tryd.func75 (by kernel_rfl) Tryd.ntmps75 (by kernel_rfl) (by kernel_rfl) h

/-- imprimatur/imprimaturref08.digit -/
def c36 (x0 : Value) (w : World) (K : VPost) : Prop :=
  binN Tryd.prog .geq 5 true x0 (.int .u8 48) w fun t4_0 w1 =>
  gstep t4_0 true w1 (fun K => K x0 w1) fun t6_2 w3 =>
  gstep t4_0 true w3 (fun K => binN Tryd.prog .leq 5 true t6_2 (.int .u8 57) w3 K) fun t7_4 w5 =>
  pickW t4_0 t7_4 (.bool false) w5 fun t8_6 w7 =>
  K t8_6 w7
theorem c36_eq (x0 : Value) (w : World) (K : VPost) : c36 x0 w K = WP true Tryd.prog 9 [] (bodyOf Tryd.f36) (argF [x0]) w [.tmp 2] K := by kernel_rfl
theorem c36_calls (x0 : Value) (w : World) (K : VPost) (h : c36 x0 w K) : Calls Tryd.prog 36 #[x0] w (retK K) :=
  calls_of_WP (c36_eq x0 w K) mixedG Tryd.func36 (by kernel_rfl) Tryd.ntmps36 (by kernel_rfl) (by kernel_rfl) h

/-- imprimatur/imprimaturref08.letter -/
def c35 (x0 : Value) (w : World) (K : VPost) : Prop :=
  binN Tryd.prog .geq 5 true x0 (.int .u8 97) w fun t4_0 w1 =>
  gstep t4_0 true w1 (fun K => K x0 w1) fun t6_2 w3 =>
  gstep t4_0 true w3 (fun K => binN Tryd.prog .leq 5 true t6_2 (.int .u8 122) w3 K) fun t7_4 w5 =>
  pickW t4_0 t7_4 (.bool false) w5 fun t8_6 w7 =>
  gstep t8_6 false w7 (fun K => K x0 w7) fun t10_8 w9 =>
  gstep t8_6 false w9 (fun K => binN Tryd.prog .geq 5 true t10_8 (.int .u8 65) w9 K) fun t11_10 w11 =>
  gstep t8_6 false w11 (fun K => K t11_10 w11) fun t12_12 w13 =>
  gstep t12_12 true w13 (fun K => K x0 w13) fun t13_14 w15 =>
  gstep t12_12 true w15 (fun K => binN Tryd.prog .leq 5 true t13_14 (.int .u8 90) w15 K) fun t14_16 w17 =>
  gstep t8_6 false w17 (fun K => pickW t12_12 t14_16 (.bool false) w17 K) fun t15_18 w19 =>
  pickW t8_6 (.bool true) t15_18 w19 fun t16_20 w21 =>
  K t16_20 w21
theorem c35_eq (x0 : Value) (w : World) (K : VPost) : c35 x0 w K = WP true Tryd.prog 17 [] (bodyOf Tryd.f35) (argF [x0]) w [.tmp 2] K := by kernel_rfl
theorem c35_calls (x0 : Value) (w : World) (K : VPost) (h : c35 x0 w K) : Calls Tryd.prog 35 #[x0] w (retK K) :=
  calls_of_WP (c35_eq x0 w K) mixedG Tryd.func35 (by kernel_rfl) Tryd.ntmps35 (by kernel_rfl) (by kernel_rfl) h

/-- imprimatur/imprimaturref08.right -/
def c62 (x0 x1 x2 x3 : Value) (w : World) (K : VPost) : Prop :=
  boxW 27 x0 w fun t4_0 w1 =>
  offW (some 0) t4_0 w1 fun t16_2 w3 =>
  loadW (some (false, 1)) t16_2 w3 fun t17_4 w5 =>
  fnW Tryd.prog 72 #[t17_4] w5 fun t18_6 w7 =>
  extrW t18_6 0 w7 fun t19_8 w9 =>
  extrW t18_6 1 w9 fun t20_10 w11 =>
  offW (some 0) t4_0 w11 fun t21_12 w13 =>
  loadW (some (false, 1)) t21_12 w13 fun t22_14 w15 =>
  binN Tryd.prog .lss 3 true t22_14 (.int .i64 1) w15 fun t23_16 w17 =>
  gstep t23_16 false w17 (fun K => offW (some 0) t4_0 w17 K) fun t25_18 w19 =>
  gstep t23_16 false w19 (fun K => loadW (some (false, 1)) t25_18 w19 K) fun t26_20 w21 =>
  gstep t23_16 false w21 (fun K => binN Tryd.prog .gtr 3 true t26_20 (.int .i64 9) w21 K) fun t27_22 w23 =>
  pickW t23_16 (.bool true) t27_22 w23 fun t28_24 w25 =>
  gstep t28_24 false w25 (fun K => K x3 w25) fun t30_26 w27 =>
  gstep t28_24 false w27 (fun K => binN Tryd.prog .gtr 3 true t30_26 (.int .i64 200) w27 K) fun t31_28 w29 =>
  pickW t28_24 (.bool true) t31_28 w29 fun t32_30 w31 =>
  gstep t32_30 false w31 (fun K => offW (some 4) t4_0 w31 K) fun t34_32 w33 =>
  gstep t32_30 false w33 (fun K => loadW (some (false, 1)) t34_32 w33 K) fun t35_34 w35 =>
  gstep t32_30 false w35 (fun K => lenW Tryd.prog (some true) #[25] 3 #[t35_34] w35 K) fun t36_36 w37 =>
  gstep t32_30 false w37 (fun K => K t19_8 w37) fun t37_38 w39 =>
  gstep t32_30 false w39 (fun K => binN Tryd.prog .neq 3 false t36_36 t37_38 w39 K) fun t38_40 w41 =>
  pickW t32_30 (.bool true) t38_40 w41 fun t39_42 w43 =>
  gstep t39_42 false w43 (fun K => K t20_10 w43) fun t41_44 w45 =>
  gstep t39_42 false w45 (fun K => binN Tryd.prog .geq 3 true t41_44 (.int .i64 0) w45 K) fun t42_46 w47 =>
  gstep t39_42 false w47 (fun K => K t42_46 w47) fun t43_48 w49 =>
  gstep t43_48 true w49 (fun K => offW (some 3) t4_0 w49 K) fun t44_50 w51 =>
  gstep t43_48 true w51 (fun K => loadW (some (false, 1)) t44_50 w51 K) fun t45_52 w53 =>
  gstep t43_48 true w53 (fun K => lenW Tryd.prog (some true) #[24] 3 #[t45_52] w53 K) fun t46_54 w55 =>
  gstep t43_48 true w55 (fun K => K t20_10 w55) fun t47_56 w57 =>
  gstep t43_48 true w57 (fun K => binN Tryd.prog .neq 3 false t46_54 t47_56 w57 K) fun t48_58 w59 =>
  gstep t39_42 false w59 (fun K => pickW t43_48 t48_58 (.bool false) w59 K) fun t49_60 w61 =>
  pickW t39_42 (.bool true) t49_60 w61 fun t50_62 w63 =>
  gstep t50_62 false w63 (fun K => offW (some 3) t4_0 w63 K) fun t52_64 w65 =>
  gstep t50_62 false w65 (fun K => loadW (some (false, 1)) t52_64 w65 K) fun t53_66 w67 =>
  gstep t50_62 false w67 (fun K => lenW Tryd.prog (some true) #[24] 3 #[t53_66] w67 K) fun t54_68 w69 =>
  gstep t50_62 false w69 (fun K => binN Tryd.prog .gtr 3 true t54_68 (.int .i64 4) w69 K) fun t55_70 w71 =>
  pickW t50_62 (.bool true) t55_70 w71 fun t56_72 w73 =>
  condW t56_72 (
  K (.bool false) w73) (
  bindX (endW Tryd.prog [.tmp 8] K) fun K74 =>
  bindX (seqX (fun f76 w77 =>
  offW (some 0) (f76 4) w77 fun t81_78 w79 =>
  loadW (some (false, 1)) t81_78 w79 fun t82_80 w81 =>
  binN Tryd.prog .eql 3 true t82_80 (.int .i64 4) w81 fun t83_82 w83 =>
  gstep t83_82 false w83 (fun K => offW (some 0) (f76 4) w83 K) fun t85_84 w85 =>
  gstep t83_82 false w85 (fun K => loadW (some (false, 1)) t85_84 w85 K) fun t86_86 w87 =>
  gstep t83_82 false w87 (fun K => binN Tryd.prog .eql 3 true t86_86 (.int .i64 9) w87 K) fun t87_88 w89 =>
  pickW t83_82 (.bool true) t87_88 w89 fun t88_90 w91 =>
  gstep t88_90 true w91 (fun K => offW (some 2) (f76 4) w91 K) fun t91_92 w93 =>
  gstep t88_90 true w93 (fun K => loadW (some (false, 1)) t91_92 w93 K) fun t92_94 w95 =>
  gstep t88_90 true w95 (fun K => fnW Tryd.prog 9 #[t92_94] w95 K) fun t93_96 w97 =>
  gstep t88_90 true w97 (fun K => unN Tryd.prog .not t93_96 w97 K) fun t94_98 w99 =>
  pickW t88_90 t94_98 (.bool false) w99 fun t95_100 w101 =>
  gstep t95_100 false w101 (fun K => K t88_90 w101) fun t97_102 w103 =>
  gstep t95_100 false w103 (fun K => unN Tryd.prog .not t97_102 w103 K) fun t98_104 w105 =>
  gstep t95_100 false w105 (fun K => K t98_104 w105) fun t99_106 w107 =>
  gstep t99_106 true w107 (fun K => offW (some 2) (f76 4) w107 K) fun t100_108 w109 =>
  gstep t99_106 true w109 (fun K => loadW (some (false, 1)) t100_108 w109 K) fun t101_110 w111 =>
  gstep t99_106 true w111 (fun K => binW Tryd.prog .neq 9 true t101_110 (.string ⟨#[]⟩) w111 K) fun t102_112 w113 =>
  gstep t95_100 false w113 (fun K => pickW t99_106 t102_112 (.bool false) w113 K) fun t103_114 w115 =>
  pickW t95_100 (.bool true) t103_114 w115 fun t104_116 w117 =>
  gstep t104_116 false w117 (fun K => offW (some 1) (f76 4) w117 K) fun t106_118 w119 =>
  gstep t104_116 false w119 (fun K => loadW (some (false, 1)) t106_118 w119 K) fun t107_120 w121 =>
  gstep t104_116 false w121 (fun K => binN Tryd.prog .lss 3 true t107_120 (.int .i64 0) w121 K) fun t108_122 w123 =>
  pickW t104_116 (.bool true) t108_122 w123 fun t109_124 w125 =>
  condW t109_124 (
  K (.bool false) w125) (
  offW (some 0) (f76 4) w125 fun t110_126 w127 =>
  loadW (some (false, 1)) t110_126 w127 fun t111_128 w129 =>
  binN Tryd.prog .eql 3 true t111_128 (.int .i64 1) w129 fun t112_130 w131 =>
  gstep t112_130 true w131 (fun K => offW (some 1) (f76 4) w131 K) fun t114_132 w133 =>
  gstep t112_130 true w133 (fun K => loadW (some (false, 1)) t114_132 w133 K) fun t115_134 w135 =>
  gstep t112_130 true w135 (fun K => K (f76 2) w135) fun t116_136 w137 =>
  gstep t112_130 true w137 (fun K => binN Tryd.prog .geq 3 false t115_134 t116_136 w137 K) fun t117_138 w139 =>
  pickW t112_130 t117_138 (.bool false) w139 fun t118_140 w141 =>
  gstep t118_140 false w141 (fun K => offW (some 0) (f76 4) w141 K) fun t120_142 w143 =>
  gstep t118_140 false w143 (fun K => loadW (some (false, 1)) t120_142 w143 K) fun t121_144 w145 =>
  gstep t118_140 false w145 (fun K => binN Tryd.prog .eql 3 true t121_144 (.int .i64 9) w145 K) fun t122_146 w147 =>
  gstep t118_140 false w147 (fun K => K t122_146 w147) fun t123_148 w149 =>
  gstep t123_148 true w149 (fun K => offW (some 1) (f76 4) w149 K) fun t124_150 w151 =>
  gstep t123_148 true w151 (fun K => loadW (some (false, 1)) t124_150 w151 K) fun t125_152 w153 =>
  gstep t123_148 true w153 (fun K => binN Tryd.prog .gtr 3 true t125_152 (.int .i64 31) w153 K) fun t126_154 w155 =>
  gstep t118_140 false w155 (fun K => pickW t123_148 t126_154 (.bool false) w155 K) fun t127_156 w157 =>
  pickW t118_140 (.bool true) t127_156 w157 fun t128_158 w159 =>
  gstep t128_158 false w159 (fun K => offW (some 0) (f76 4) w159 K) fun t130_160 w161 =>
  gstep t128_158 false w161 (fun K => loadW (some (false, 1)) t130_160 w161 K) fun t131_162 w163 =>
  gstep t128_158 false w163 (fun K => binN Tryd.prog .neq 3 true t131_162 (.int .i64 1) w163 K) fun t132_164 w165 =>
  gstep t128_158 false w165 (fun K => K t132_164 w165) fun t133_166 w167 =>
  gstep t133_166 true w167 (fun K => offW (some 0) (f76 4) w167 K) fun t134_168 w169 =>
  gstep t133_166 true w169 (fun K => loadW (some (false, 1)) t134_168 w169 K) fun t135_170 w171 =>
  gstep t133_166 true w171 (fun K => binN Tryd.prog .neq 3 true t135_170 (.int .i64 9) w171 K) fun t136_172 w173 =>
  gstep t128_158 false w173 (fun K => pickW t133_166 t136_172 (.bool false) w173 K) fun t137_174 w175 =>
  gstep t128_158 false w175 (fun K => K t137_174 w175) fun t138_176 w177 =>
  gstep t138_176 true w177 (fun K => offW (some 1) (f76 4) w177 K) fun t139_178 w179 =>
  gstep t138_176 true w179 (fun K => loadW (some (false, 1)) t139_178 w179 K) fun t140_180 w181 =>
  gstep t138_176 true w181 (fun K => binN Tryd.prog .neq 3 true t140_180 (.int .i64 0) w181 K) fun t141_182 w183 =>
  gstep t128_158 false w183 (fun K => pickW t138_176 t141_182 (.bool false) w183 K) fun t142_184 w185 =>
  pickW t128_158 (.bool true) t142_184 w185 fun t143_186 w187 =>
  condW t143_186 (
  K (.bool false) w187) (
  bindX (seqX (fun _ w190 =>
  K (.bool true) w190) K74) fun K188 =>
  bindX (blkX 2 K188) fun K191 =>
  loopW (fun f192 w193 K194 =>
  offW (some 4) (f192 4) w193 fun t145_195 w196 =>
  loadW (some (false, 1)) t145_195 w196 fun t146_197 w198 =>
  lenW Tryd.prog (some true) #[25] 3 #[t146_197] w198 fun t147_199 w200 =>
  binN Tryd.prog .lss 3 false (f192 13) t147_199 w200 fun t148_201 w202 =>
  condW t148_201 (
  bindX (seqX (fun f204 w205 =>
  binN Tryd.prog .add 3 true (f204 13) (.int .i64 1) w205 fun t150_206 w207 =>
  K194 .normal (pf 169 (pf 169 (pf 169 f204 149 (f204 13)) 150 t150_206) 13 t150_206) w207) K194) fun K203 =>
  bindX (blkX 3 K203) fun K208 =>
  bindX (seqX (fun f210 w211 =>
  offW (some 4) (f210 4) w211 fun t155_212 w213 =>
  loadW (some (false, 1)) t155_212 w213 fun t156_214 w215 =>
  idxW (some (none, 5)) t156_214 (f210 13) w215 fun t158_216 w217 =>
  loadW (some (true, 5)) t158_216 w217 fun t159_218 w219 =>
  binN Tryd.prog .add 3 false (f210 2) (f210 14) w219 fun t163_220 w221 =>
  binN Tryd.prog .add 3 false (f210 3) (f210 14) w221 fun t166_222 w223 =>
  fnW Tryd.prog 62 #[t159_218, (f210 1), t163_220, t166_222] w223 fun t167_224 w225 =>
  unN Tryd.prog .not t167_224 w225 fun t168_226 w227 =>
  condW t168_226 (
  K194 .ret (pf 169 (pf 169 (pf 169 (pf 169 (pf 169 (pf 169 (pf 169 (pf 169 (pf 169 (pf 169 (pf 169 (pf 169 (pf 169 (pf 169 (pf 169 f210 155 t155_212) 156 t156_214) 157 (f210 13)) 158 t158_216) 159 t159_218) 160 (f210 1)) 161 (f210 2)) 162 (f210 14)) 163 t163_220) 164 (f210 3)) 165 (f210 14)) 166 t166_222) 167 t167_224) 168 t168_226) 8 (.bool false)) w227) (
  K203 .normal (pf 169 (pf 169 (pf 169 (pf 169 (pf 169 (pf 169 (pf 169 (pf 169 (pf 169 (pf 169 (pf 169 (pf 169 (pf 169 (pf 169 f210 155 t155_212) 156 t156_214) 157 (f210 13)) 158 t158_216) 159 t159_218) 160 (f210 1)) 161 (f210 2)) 162 (f210 14)) 163 t163_220) 164 (f210 3)) 165 (f210 14)) 166 t166_222) 167 t167_224) 168 t168_226) w227)) K208) fun K209 =>
  offW (some 0) (f192 4) w202 fun t151_228 w229 =>
  loadW (some (false, 1)) t151_228 w229 fun t152_230 w231 =>
  fnW Tryd.prog 75 #[t152_230, (f192 13)] w231 fun t154_232 w233 =>
  condW t154_232 (
  K209 .normal (pf 169 (pf 169 (pf 169 (pf 169 (pf 169 (pf 169 (pf 169 (pf 169 (pf 169 (pf 169 (pf 169 f192 144 (f192 13)) 145 t145_195) 146 t146_197) 147 t147_199) 148 t148_201) 14 (.int .i64 0)) 151 t151_228) 152 t152_230) 153 (f192 13)) 154 t154_232) 14 (.int .i64 1)) w233) (
  K209 .normal (pf 169 (pf 169 (pf 169 (pf 169 (pf 169 (pf 169 (pf 169 (pf 169 (pf 169 (pf 169 f192 144 (f192 13)) 145 t145_195) 146 t146_197) 147 t147_199) 148 t148_201) 14 (.int .i64 0)) 151 t151_228) 152 t152_230) 153 (f192 13)) 154 t154_232) w233)) (
  K194 (.exit 2) (pf 169 (pf 169 (pf 169 (pf 169 (pf 169 f192 144 (f192 13)) 145 t145_195) 146 t146_197) 147 t147_199) 148 t148_201) w202)) (pf 169 (pf 169 (pf 169 (pf 169 (pf 169 (pf 169 (pf 169 (pf 169 (pf 169 (pf 169 (pf 169 (pf 169 (pf 169 (pf 169 (pf 169 (pf 169 (pf 169 (pf 169 (pf 169 (pf 169 (pf 169 (pf 169 (pf 169 (pf 169 (pf 169 (pf 169 (pf 169 (pf 169 (pf 169 (pf 169 (pf 169 (pf 169 (pf 169 (pf 169 (pf 169 (pf 169 (pf 169 (pf 169 (pf 169 (pf 169 (pf 169 (pf 169 (pf 169 (pf 169 (pf 169 (pf 169 (pf 169 (pf 169 (pf 169 (pf 169 (pf 169 (pf 169 (pf 169 (pf 169 (pf 169 (pf 169 (pf 169 (pf 169 (pf 169 (pf 169 (pf 169 (pf 169 (pf 169 (pf 169 (pf 169 f76 81 t81_78) 82 t82_80) 83 t83_82) 84 t83_82) 85 t85_84) 86 t86_86) 87 t87_88) 88 t88_90) 12 t88_90) 89 t88_90) 90 t88_90) 91 t91_92) 92 t92_94) 93 t93_96) 94 t94_98) 95 t95_100) 96 t95_100) 97 t97_102) 98 t98_104) 99 t99_106) 100 t100_108) 101 t101_110) 102 t102_112) 103 t103_114) 104 t104_116) 105 t104_116) 106 t106_118) 107 t107_120) 108 t108_122) 109 t109_124) 110 t110_126) 111 t111_128) 112 t112_130) 113 t112_130) 114 t114_132) 115 t115_134) 116 t116_136) 117 t117_138) 118 t118_140) 119 t118_140) 120 t120_142) 121 t121_144) 122 t122_146) 123 t123_148) 124 t124_150) 125 t125_152) 126 t126_154) 127 t127_156) 128 t128_158) 129 t128_158) 130 t130_160) 131 t131_162) 132 t132_164) 133 t133_166) 134 t134_168) 135 t135_170) 136 t136_172) 137 t137_174) 138 t138_176) 139 t139_178) 140 t140_180) 141 t141_182) 142 t142_184) 143 t143_186) 13 (.int .i64 0)) w187 K191))) K74) fun K75 =>
  bindX (blkX 0 K75) fun K234 =>
  loopW (fun f235 w236 K237 =>
  offW (some 3) (f235 4) w236 fun t58_238 w239 =>
  loadW (some (false, 1)) t58_238 w239 fun t59_240 w241 =>
  lenW Tryd.prog (some true) #[24] 3 #[t59_240] w241 fun t60_242 w243 =>
  binN Tryd.prog .lss 3 false (f235 11) t60_242 w243 fun t61_244 w245 =>
  condW t61_244 (
  offW (some 3) (f235 4) w245 fun t64_246 w247 =>
  loadW (some (false, 1)) t64_246 w247 fun t65_248 w249 =>
  idxW (some (none, 5)) t65_248 (f235 11) w249 fun t67_250 w251 =>
  loadW (some (true, 5)) t67_250 w251 fun t68_252 w253 =>
  fnW Tryd.prog 73 #[t68_252] w253 fun t69_254 w255 =>
  unN Tryd.prog .not t69_254 w255 fun t70_256 w257 =>
  gstep t70_256 false w257 (fun K => offW (some 3) (f235 4) w257 K) fun t72_258 w259 =>
  gstep t70_256 false w259 (fun K => loadW (some (false, 1)) t72_258 w259 K) fun t73_260 w261 =>
  gstep t70_256 false w261 (fun K => K (f235 11) w261) fun t74_262 w263 =>
  gstep t70_256 false w263 (fun K => idxW (some (none, 5)) t73_260 t74_262 w263 K) fun t75_264 w265 =>
  gstep t70_256 false w265 (fun K => loadW (some (true, 5)) t75_264 w265 K) fun t76_266 w267 =>
  gstep t70_256 false w267 (fun K => fnW Tryd.prog 74 #[t76_266] w267 K) fun t77_268 w269 =>
  gstep t70_256 false w269 (fun K => K (f235 1) w269) fun t78_270 w271 =>
  gstep t70_256 false w271 (fun K => binN Tryd.prog .gtr 3 false t77_268 t78_270 w271 K) fun t79_272 w273 =>
  pickW t70_256 (.bool true) t79_272 w273 fun t80_274 w275 =>
  condW t80_274 (
  K237 .ret (pf 169 (pf 169 (pf 169 (pf 169 (pf 169 (pf 169 (pf 169 (pf 169 (pf 169 (pf 169 (pf 169 (pf 169 (pf 169 (pf 169 (pf 169 (pf 169 (pf 169 (pf 169 (pf 169 (pf 169 (pf 169 (pf 169 (pf 169 f235 57 (f235 11)) 58 t58_238) 59 t59_240) 60 t60_242) 61 t61_244) 64 t64_246) 65 t65_248) 66 (f235 11)) 67 t67_250) 68 t68_252) 69 t69_254) 70 t70_256) 71 t70_256) 72 t72_258) 73 t73_260) 74 t74_262) 75 t75_264) 76 t76_266) 77 t77_268) 78 t78_270) 79 t79_272) 80 t80_274) 8 (.bool false)) w275) (
  binN Tryd.prog .add 3 true (f235 11) (.int .i64 1) w275 fun t63_276 w277 =>
  K237 .normal (pf 169 (pf 169 (pf 169 (pf 169 (pf 169 (pf 169 (pf 169 (pf 169 (pf 169 (pf 169 (pf 169 (pf 169 (pf 169 (pf 169 (pf 169 (pf 169 (pf 169 (pf 169 (pf 169 (pf 169 (pf 169 (pf 169 (pf 169 (pf 169 (pf 169 f235 57 (f235 11)) 58 t58_238) 59 t59_240) 60 t60_242) 61 t61_244) 64 t64_246) 65 t65_248) 66 (f235 11)) 67 t67_250) 68 t68_252) 69 t69_254) 70 t70_256) 71 t70_256) 72 t72_258) 73 t73_260) 74 t74_262) 75 t75_264) 76 t76_266) 77 t77_268) 78 t78_270) 79 t79_272) 80 t80_274) 62 (f235 11)) 63 t63_276) 11 t63_276) w277)) (
  K237 (.exit 0) (pf 169 (pf 169 (pf 169 (pf 169 (pf 169 f235 57 (f235 11)) 58 t58_238) 59 t59_240) 60 t60_242) 61 t61_244) w245)) (pf 169 (pf 169 (pf 169 (pf 169 (pf 169 (pf 169 (pf 169 (pf 169 (pf 169 (pf 169 (pf 169 (pf 169 (pf 169 (pf 169 (pf 169 (pf 169 (pf 169 (pf 169 (pf 169 (pf 169 (pf 169 (pf 169 (pf 169 (pf 169 (pf 169 (pf 169 (pf 169 (pf 169 (pf 169 (pf 169 (pf 169 (pf 169 (pf 169 (pf 169 (pf 169 (pf 169 (pf 169 (pf 169 (pf 169 (pf 169 (pf 169 (pf 169 (pf 169 (pf 169 (pf 169 (pf 169 (pf 169 (argF [x0, x1, x2, x3]) 4 t4_0) 8 (.bool false)) 16 t16_2) 17 t17_4) 18 t18_6) 15 t18_6) 19 t19_8) 20 t20_10) 9 t19_8) 10 t20_10) 21 t21_12) 22 t22_14) 23 t23_16) 24 t23_16) 25 t25_18) 26 t26_20) 27 t27_22) 28 t28_24) 29 t28_24) 30 t30_26) 31 t31_28) 32 t32_30) 33 t32_30) 34 t34_32) 35 t35_34) 36 t36_36) 37 t37_38) 38 t38_40) 39 t39_42) 40 t39_42) 41 t41_44) 42 t42_46) 43 t43_48) 44 t44_50) 45 t45_52) 46 t46_54) 47 t47_56) 48 t48_58) 49 t49_60) 50 t50_62) 51 t50_62) 52 t52_64) 53 t53_66) 54 t54_68) 55 t55_70) 56 t56_72) 11 (.int .i64 0)) w73 K234)
theorem c62_eq (x0 x1 x2 x3 : Value) (w : World) (K : VPost) : c62 x0 x1 x2 x3 w K = WP true Tryd.prog 169 [] (bodyOf Tryd.f62) (argF [x0, x1, x2, x3]) w [.tmp 8] K := by kernel_rfl
theorem c62_calls (x0 x1 x2 x3 : Value) (w : World) (K : VPost) (h : c62 x0 x1 x2 x3 w K) : Calls Tryd.prog 62 #[x0, x1, x2, x3] w (retK K) :=
  calls_of_WP (c62_eq x0 x1 x2 x3 w K) mixedG Tryd.func62 (by kernel_rfl) Tryd.ntmps62 (by kernel_rfl) (by kernel_rfl) h

/-- imprimatur/imprimaturref08.shape -/
def c72 (x0 : Value) (w : World) (K : VPost) : Prop :=
  bindX (endW Tryd.prog [.tmp 2, .tmp 3] K) fun K0 =>
  bindX (seqX (fun _ w3 =>
  K (.tuple #[(.int .i64 0), (.int .i64 0)]) w3) K0) fun K1 =>
  bindX (blkX 0 K1) fun K4 =>
  binN Tryd.prog .eql 3 true x0 (.int .i64 3) w fun t6_5 w6 =>
  condW t6_5 (
  K (.tuple #[(.int .i64 0), (.int .i64 1)]) w6) (
  binN Tryd.prog .eql 3 true x0 (.int .i64 4) w6 fun t8_7 w8 =>
  condW t8_7 (
  K (.tuple #[(.int .i64 0), (.int .i64 (-1))]) w8) (
  bindX (seqX (fun f10 w11 =>
  condW (f10 9) (
  K (.tuple #[(.int .i64 2), (.int .i64 0)]) w11) (
  binN Tryd.prog .eql 3 true (f10 4) (.int .i64 8) w11 fun t14_12 w13 =>
  condW t14_12 (
  K (.tuple #[(.int .i64 3), (.int .i64 0)]) w13) (
  binN Tryd.prog .eql 3 true (f10 4) (.int .i64 9) w13 fun t16_14 w15 =>
  condW t16_14 (
  K (.tuple #[(.int .i64 1), (.int .i64 0)]) w15) (
  K1 .normal (pf 17 (pf 17 (pf 17 (pf 17 f10 14 t14_12) 13 t14_12) 16 t16_14) 15 t16_14) w15)))) K4) fun K9 =>
  binN Tryd.prog .eql 3 true x0 (.int .i64 5) w8 fun t10_16 w17 =>
  condW t10_16 (
  K9 .normal (pf 17 (pf 17 (pf 17 (pf 17 (pf 17 (pf 17 (pf 17 (pf 17 (pf 17 (argF [x0]) 2 (.int .i64 0)) 3 (.int .i64 0)) 4 x0) 6 t6_5) 5 t6_5) 8 t8_7) 7 t8_7) 10 t10_16) 9 t10_16) w17) (
  binN Tryd.prog .eql 3 true x0 (.int .i64 6) w17 fun t11_18 w19 =>
  condW t11_18 (
  K9 .normal (pf 17 (pf 17 (pf 17 (pf 17 (pf 17 (pf 17 (pf 17 (pf 17 (pf 17 (pf 17 (pf 17 (argF [x0]) 2 (.int .i64 0)) 3 (.int .i64 0)) 4 x0) 6 t6_5) 5 t6_5) 8 t8_7) 7 t8_7) 10 t10_16) 9 t10_16) 11 t11_18) 9 t11_18) w19) (
  binN Tryd.prog .eql 3 true x0 (.int .i64 7) w19 fun t12_20 w21 =>
  K9 .normal (pf 17 (pf 17 (pf 17 (pf 17 (pf 17 (pf 17 (pf 17 (pf 17 (pf 17 (pf 17 (pf 17 (pf 17 (pf 17 (argF [x0]) 2 (.int .i64 0)) 3 (.int .i64 0)) 4 x0) 6 t6_5) 5 t6_5) 8 t8_7) 7 t8_7) 10 t10_16) 9 t10_16) 11 t11_18) 9 t11_18) 12 t12_20) 9 t12_20) w21))))
theorem c72_eq (x0 : Value) (w : World) (K : VPost) : c72 x0 w K = WP true Tryd.prog 17 [] (bodyOf Tryd.f72) (argF [x0]) w [.tmp 2, .tmp 3] K := by kernel_rfl
theorem c72_calls (x0 : Value) (w : World) (K : VPost) (h : c72 x0 w K) : Calls Tryd.prog 72 #[x0] w (retK K) :=
  calls_of_WP (c72_eq x0 w K) mixedG Tryd.func72 (by kernel_rfl) Tryd.ntmps72 (by kernel_rfl) (by kernel_rfl) h

end Go.Proofs.YtbaddpnlokmldaaDoor
