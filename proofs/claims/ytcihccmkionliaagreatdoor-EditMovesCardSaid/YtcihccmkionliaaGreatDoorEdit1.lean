/- Texts that the law EditMoves stands on, part 2 of 7. Conditions: see each. -/
import Derived.Test.YtcihccmkionliaaGreatDoorEdit0
import Derived.KernelRfl

namespace Go.Proofs.YtcihccmkionliaaGreatDoor
open Go
set_option maxRecDepth 100000



def c72 (x0 x1 : Value) (w : World) (K : VPost) : Prop :=
 boxW 25 x0 w fun t2_0 w1 =>
 offW (some 3) t2_0 w1 fun t7_2 w3 =>
 loadW (some (false, 1)) t7_2 w3 fun t8_4 w5 =>
 lenW Tryz.prog (some true) #[22] 3 #[t8_4] w5 fun t9_6 w7 =>
 binN Tryz.prog .add 3 true (.int .i64 1) t9_6 w7 fun t10_8 w9 =>
 bindX (endW Tryz.prog [.tmp 4] K) fun K10 =>
 bindX (seqX (fun f12 w13 =>
 binN Tryz.prog .add 3 true (f12 1) (.int .i64 1) w13 fun t34_14 w15 =>
 insW Tryz.prog (Builtin.min_ #[3, 3] 3 #[(f12 5), t34_14]) w15 fun t35_16 w17 =>
 K t35_16 w17) K10) fun K11 =>
 bindX (blkX 0 K11) fun K18 =>
 loopW (fun f19 w20 K21 =>
 offW (some 4) (f19 2) w20 fun t12_22 w23 =>
 loadW (some (false, 1)) t12_22 w23 fun t13_24 w25 =>
 lenW Tryz.prog (some true) #[23] 3 #[t13_24] w25 fun t14_26 w27 =>
 binN Tryz.prog .lss 3 false (f19 6) t14_26 w27 fun t15_28 w29 =>
 gstep t15_28 true w29 (fun K => K (f19 5) w29) fun t17_30 w31 =>
 gstep t15_28 true w31 (fun K => K (f19 1) w31) fun t18_32 w33 =>
 gstep t15_28 true w33 (fun K => binN Tryz.prog .leq 3 false t17_30 t18_32 w33 K) fun t19_34 w35 =>
 pickW t15_28 t19_34 (.bool false) w35 fun t20_36 w37 =>
 condW t20_36 (
 offW (some 4) (f19 2) w37 fun t24_38 w39 =>
 loadW (some (false, 1)) t24_38 w39 fun t25_40 w41 =>
 idxW (some (none, 5)) t25_40 (f19 6) w41 fun t27_42 w43 =>
 loadW (some (true, 5)) t27_42 w43 fun t28_44 w45 =>
 fnW Tryz.prog 72 #[t28_44, (f19 1)] w45 fun t30_46 w47 =>
 binN Tryz.prog .add 3 false (f19 5) t30_46 w47 fun t31_48 w49 =>
 binN Tryz.prog .add 3 true (f19 6) (.int .i64 1) w49 fun t22_50 w51 =>
 K21 .normal (pf 36 (pf 36 (pf 36 (pf 36 (pf 36 (pf 36 (pf 36 (pf 36 (pf 36 (pf 36 (pf 36 (pf 36 (pf 36 (pf 36 (pf 36 (pf 36 (pf 36 (pf 36 (pf 36 (pf 36 (pf 36 (pf 36 (pf 36 f19 11 (f19 6)) 12 t12_22) 13 t13_24) 14 t14_26) 15 t15_28) 16 t15_28) 17 t17_30) 18 t18_32) 19 t19_34) 20 t20_36) 23 (f19 5)) 24 t24_38) 25 t25_40) 26 (f19 6)) 27 t27_42) 28 t28_44) 29 (f19 1)) 30 t30_46) 31 t31_48) 5 t31_48) 21 (f19 6)) 22 t22_50) 6 t22_50) w51) (
 K21 (.exit 0) (pf 36 (pf 36 (pf 36 (pf 36 (pf 36 (pf 36 (pf 36 (pf 36 (pf 36 (pf 36 f19 11 (f19 6)) 12 t12_22) 13 t13_24) 14 t14_26) 15 t15_28) 16 t15_28) 17 t17_30) 18 t18_32) 19 t19_34) 20 t20_36) w37)) (pf 36 (pf 36 (pf 36 (pf 36 (pf 36 (pf 36 (pf 36 (pf 36 (argF [x0, x1]) 2 t2_0) 4 (.int .i64 0)) 7 t7_2) 8 t8_4) 9 t9_6) 10 t10_8) 5 t10_8) 6 (.int .i64 0)) w9 K18
theorem c72_eq (x0 x1 : Value) (w : World) (K : VPost) : c72 x0 x1 w K = WP true Tryz.prog 36 [] (bodyOf Tryz.f72) (argF [x0, x1]) w [.tmp 4] K := by kernel_rfl
theorem c72_calls (x0 x1 : Value) (w : World) (K : VPost) (h : c72 x0 x1 w K) : Calls Tryz.prog 72 #[x0, x1] w (retK K) :=
 calls_of_WP (c72_eq x0 x1 w K) mixedG Tryz.func72 (by kernel_rfl) Tryz.ntmps72 (by kernel_rfl) (by kernel_rfl) h
def c31 (x0 x1 : Value) (w : World) (K : VPost) : Prop :=
 boxW 25 x0 w fun t2_0 w1 =>
 boxW 25 x1 w1 fun t3_2 w3 =>
 offW (some 0) t2_0 w3 fun t7_4 w5 =>
 loadW (some (false, 1)) t7_4 w5 fun t8_6 w7 =>
 offW (some 0) t3_2 w7 fun t9_8 w9 =>
 loadW (some (false, 1)) t9_8 w9 fun t10_10 w11 =>
 binN Tryz.prog .neq 3 false t8_6 t10_10 w11 fun t11_12 w13 =>
 gstep t11_12 false w13 (fun K => offW (some 1) t2_0 w13 K) fun t13_14 w15 =>
 gstep t11_12 false w15 (fun K => loadW (some (false, 1)) t13_14 w15 K) fun t14_16 w17 =>
 gstep t11_12 false w17 (fun K => offW (some 1) t3_2 w17 K) fun t15_18 w19 =>
 gstep t11_12 false w19 (fun K => loadW (some (false, 1)) t15_18 w19 K) fun t16_20 w21 =>
 gstep t11_12 false w21 (fun K => binN Tryz.prog .neq 3 false t14_16 t16_20 w21 K) fun t17_22 w23 =>
 pickW t11_12 (.bool true) t17_22 w23 fun t18_24 w25 =>
 gstep t18_24 false w25 (fun K => offW (some 2) t2_0 w25 K) fun t20_26 w27 =>
 gstep t18_24 false w27 (fun K => loadW (some (false, 1)) t20_26 w27 K) fun t21_28 w29 =>
 gstep t18_24 false w29 (fun K => offW (some 2) t3_2 w29 K) fun t22_30 w31 =>
 gstep t18_24 false w31 (fun K => loadW (some (false, 1)) t22_30 w31 K) fun t23_32 w33 =>
 gstep t18_24 false w33 (fun K => binW Tryz.prog .neq 9 false t21_28 t23_32 w33 K) fun t24_34 w35 =>
 pickW t18_24 (.bool true) t24_34 w35 fun t25_36 w37 =>
 gstep t25_36 false w37 (fun K => offW (some 3) t2_0 w37 K) fun t27_38 w39 =>
 gstep t25_36 false w39 (fun K => loadW (some (false, 1)) t27_38 w39 K) fun t28_40 w41 =>
 gstep t25_36 false w41 (fun K => lenW Tryz.prog (some true) #[22] 3 #[t28_40] w41 K) fun t29_42 w43 =>
 gstep t25_36 false w43 (fun K => offW (some 3) t3_2 w43 K) fun t30_44 w45 =>
 gstep t25_36 false w45 (fun K => loadW (some (false, 1)) t30_44 w45 K) fun t31_46 w47 =>
 gstep t25_36 false w47 (fun K => lenW Tryz.prog (some true) #[22] 3 #[t31_46] w47 K) fun t32_48 w49 =>
 gstep t25_36 false w49 (fun K => binN Tryz.prog .neq 3 false t29_42 t32_48 w49 K) fun t33_50 w51 =>
 pickW t25_36 (.bool true) t33_50 w51 fun t34_52 w53 =>
 gstep t34_52 false w53 (fun K => offW (some 4) t2_0 w53 K) fun t36_54 w55 =>
 gstep t34_52 false w55 (fun K => loadW (some (false, 1)) t36_54 w55 K) fun t37_56 w57 =>
 gstep t34_52 false w57 (fun K => lenW Tryz.prog (some true) #[23] 3 #[t37_56] w57 K) fun t38_58 w59 =>
 gstep t34_52 false w59 (fun K => offW (some 4) t3_2 w59 K) fun t39_60 w61 =>
 gstep t34_52 false w61 (fun K => loadW (some (false, 1)) t39_60 w61 K) fun t40_62 w63 =>
 gstep t34_52 false w63 (fun K => lenW Tryz.prog (some true) #[23] 3 #[t40_62] w63 K) fun t41_64 w65 =>
 gstep t34_52 false w65 (fun K => binN Tryz.prog .neq 3 false t38_58 t41_64 w65 K) fun t42_66 w67 =>
 pickW t34_52 (.bool true) t42_66 w67 fun t43_68 w69 =>
 condW t43_68 (
 K (.bool false) w69) (
 bindX (endW Tryz.prog [.tmp 4] K) fun K70 =>
 bindX (seqX (fun f72 w73 =>
 bindX (seqX (fun _ w76 =>
 K (.bool true) w76) K70) fun K74 =>
 bindX (blkX 2 K74) fun K77 =>
 loopW (fun f78 w79 K80 =>
 offW (some 4) (f78 2) w79 fun t63_81 w82 =>
 loadW (some (false, 1)) t63_81 w82 fun t64_83 w84 =>
 lenW Tryz.prog (some true) #[23] 3 #[t64_83] w84 fun t65_85 w86 =>
 binN Tryz.prog .lss 3 false (f78 6) t65_85 w86 fun t66_87 w88 =>
 condW t66_87 (
 offW (some 4) (f78 2) w88.drew fun t69_89 w90 =>
 loadW (some (false, 1)) t69_89 w90 fun t70_91 w92 =>
 idxW (some (none, 5)) t70_91 (f78 6) w92 fun t72_93 w94 =>
 loadW (some (true, 5)) t72_93 w94 fun t73_95 w96 =>
 offW (some 4) (f78 3) w96 fun t74_97 w98 =>
 loadW (some (false, 1)) t74_97 w98 fun t75_99 w100 =>
 idxW (some (none, 5)) t75_99 (f78 6) w100 fun t77_101 w102 =>
 loadW (some (true, 5)) t77_101 w102 fun t78_103 w104 =>
 fnW Tryz.prog 31 #[t73_95, t78_103] w104 fun t79_105 w106 =>
 unN Tryz.prog .not t79_105 w106 fun t80_107 w108 =>
 condW t80_107 (
 K80 .ret (pf 81 (pf 81 (pf 81 (pf 81 (pf 81 (pf 81 (pf 81 (pf 81 (pf 81 (pf 81 (pf 81 (pf 81 (pf 81 (pf 81 (pf 81 (pf 81 (pf 81 (pf 81 f78 62 (f78 6)) 63 t63_81) 64 t64_83) 65 t65_85) 66 t66_87) 69 t69_89) 70 t70_91) 71 (f78 6)) 72 t72_93) 73 t73_95) 74 t74_97) 75 t75_99) 76 (f78 6)) 77 t77_101) 78 t78_103) 79 t79_105) 80 t80_107) 4 (.bool false)) w108) (
 binN Tryz.prog .add 3 true (f78 6) (.int .i64 1) w108 fun t68_109 w110 =>
 K80 .normal (pf 81 (pf 81 (pf 81 (pf 81 (pf 81 (pf 81 (pf 81 (pf 81 (pf 81 (pf 81 (pf 81 (pf 81 (pf 81 (pf 81 (pf 81 (pf 81 (pf 81 (pf 81 (pf 81 (pf 81 f78 62 (f78 6)) 63 t63_81) 64 t64_83) 65 t65_85) 66 t66_87) 69 t69_89) 70 t70_91) 71 (f78 6)) 72 t72_93) 73 t73_95) 74 t74_97) 75 t75_99) 76 (f78 6)) 77 t77_101) 78 t78_103) 79 t79_105) 80 t80_107) 67 (f78 6)) 68 t68_109) 6 t68_109) w110)) (
 K80 (.exit 2) (pf 81 (pf 81 (pf 81 (pf 81 (pf 81 f78 62 (f78 6)) 63 t63_81) 64 t64_83) 65 t65_85) 66 t66_87) w88)) (pf 81 f72 6 (.int .i64 0)) w73 K77) K70) fun K71 =>
 bindX (blkX 0 K71) fun K111 =>
 loopW (fun f112 w113 K114 =>
 offW (some 3) (f112 2) w113 fun t45_115 w116 =>
 loadW (some (false, 1)) t45_115 w116 fun t46_117 w118 =>
 lenW Tryz.prog (some true) #[22] 3 #[t46_117] w118 fun t47_119 w120 =>
 binN Tryz.prog .lss 3 false (f112 5) t47_119 w120 fun t48_121 w122 =>
 condW t48_121 (
 offW (some 3) (f112 2) w122.drew fun t51_123 w124 =>
 loadW (some (false, 1)) t51_123 w124 fun t52_125 w126 =>
 idxW (some (none, 5)) t52_125 (f112 5) w126 fun t54_127 w128 =>
 loadW (some (true, 5)) t54_127 w128 fun t55_129 w130 =>
 offW (some 3) (f112 3) w130 fun t56_131 w132 =>
 loadW (some (false, 1)) t56_131 w132 fun t57_133 w134 =>
 idxW (some (none, 5)) t57_133 (f112 5) w134 fun t59_135 w136 =>
 loadW (some (true, 5)) t59_135 w136 fun t60_137 w138 =>
 binW Tryz.prog .neq 95 false t55_129 t60_137 w138 fun t61_139 w140 =>
 w140 = w138 ∧
 condW t61_139 (
 K114 .ret (pf 81 (pf 81 (pf 81 (pf 81 (pf 81 (pf 81 (pf 81 (pf 81 (pf 81 (pf 81 (pf 81 (pf 81 (pf 81 (pf 81 (pf 81 (pf 81 (pf 81 f112 44 (f112 5)) 45 t45_115) 46 t46_117) 47 t47_119) 48 t48_121) 51 t51_123) 52 t52_125) 53 (f112 5)) 54 t54_127) 55 t55_129) 56 t56_131) 57 t57_133) 58 (f112 5)) 59 t59_135) 60 t60_137) 61 t61_139) 4 (.bool false)) w140) (
 binN Tryz.prog .add 3 true (f112 5) (.int .i64 1) w140 fun t50_141 w142 =>
 K114 .normal (pf 81 (pf 81 (pf 81 (pf 81 (pf 81 (pf 81 (pf 81 (pf 81 (pf 81 (pf 81 (pf 81 (pf 81 (pf 81 (pf 81 (pf 81 (pf 81 (pf 81 (pf 81 (pf 81 f112 44 (f112 5)) 45 t45_115) 46 t46_117) 47 t47_119) 48 t48_121) 51 t51_123) 52 t52_125) 53 (f112 5)) 54 t54_127) 55 t55_129) 56 t56_131) 57 t57_133) 58 (f112 5)) 59 t59_135) 60 t60_137) 61 t61_139) 49 (f112 5)) 50 t50_141) 5 t50_141) w142)) (
 K114 (.exit 0) (pf 81 (pf 81 (pf 81 (pf 81 (pf 81 f112 44 (f112 5)) 45 t45_115) 46 t46_117) 47 t47_119) 48 t48_121) w122)) (pf 81 (pf 81 (pf 81 (pf 81 (pf 81 (pf 81 (pf 81 (pf 81 (pf 81 (pf 81 (pf 81 (pf 81 (pf 81 (pf 81 (pf 81 (pf 81 (pf 81 (pf 81 (pf 81 (pf 81 (pf 81 (pf 81 (pf 81 (pf 81 (pf 81 (pf 81 (pf 81 (pf 81 (pf 81 (pf 81 (pf 81 (pf 81 (pf 81 (pf 81 (pf 81 (pf 81 (pf 81 (pf 81 (pf 81 (pf 81 (pf 81 (argF [x0, x1]) 2 t2_0) 3 t3_2) 4 (.bool false)) 7 t7_4) 8 t8_6) 9 t9_8) 10 t10_10) 11 t11_12) 12 t11_12) 13 t13_14) 14 t14_16) 15 t15_18) 16 t16_20) 17 t17_22) 18 t18_24) 19 t18_24) 20 t20_26) 21 t21_28) 22 t22_30) 23 t23_32) 24 t24_34) 25 t25_36) 26 t25_36) 27 t27_38) 28 t28_40) 29 t29_42) 30 t30_44) 31 t31_46) 32 t32_48) 33 t33_50) 34 t34_52) 35 t34_52) 36 t36_54) 37 t37_56) 38 t38_58) 39 t39_60) 40 t40_62) 41 t41_64) 42 t42_66) 43 t43_68) 5 (.int .i64 0)) w69 K111)
theorem c31_eq (x0 x1 : Value) (w : World) (K : VPost) : c31 x0 x1 w K = WP true Tryz.prog 81 [(6, 0, [0, 1, 0, 6, 8, 0, 32, 0, 192, 256, 528], [0, 1, 0, 7, 15, 0, 32, 0, 224, 480, 1023]), (11, 1024, [0, 1, 0, 6, 8, 0, 32, 0, 192, 256, 528, 1024], [0, 1, 0, 7, 15, 0, 32, 0, 224, 480, 1023, 2047])] (bodyOf Tryz.f31) (argF [x0, x1]) w [.tmp 4] K := by kernel_rfl
theorem c31_calls (x0 x1 : Value) (w : World) (K : VPost) (h : c31 x0 x1 w K) : Calls Tryz.prog 31 #[x0, x1] w (retK K) :=
 calls_of_WP (c31_eq x0 x1 w K) mixedG Tryz.func31 (by kernel_rfl) Tryz.ntmps31 (by kernel_rfl) (by kernel_rfl) h
def c120 (x0 : Value) (w : World) (K : VPost) : Prop :=
 binW Tryz.prog .eql 22 true x0 (.slice none 0 0) w fun t4_0 w1 =>
 condW t4_0 (
 K (.slice none 0 0) w1) (
 insW Tryz.prog (Instr.buildSlice 22 0 #[]) w1 fun t5_2 w3 =>
 insW Tryz.prog (Builtin.append_ #[22, 22] 22 #[t5_2, x0]) w3 fun t7_4 w5 =>
 K t7_4 w5)
theorem c120_eq (x0 : Value) (w : World) (K : VPost) : c120 x0 w K = WP true Tryz.prog 8 [] (bodyOf Tryz.f120) (argF [x0]) w [.tmp 2] K := by kernel_rfl
theorem c120_calls (x0 : Value) (w : World) (K : VPost) (h : c120 x0 w K) : Calls Tryz.prog 120 #[x0] w (retK K) :=
 calls_of_WP (c120_eq x0 w K) mixedG Tryz.func120 (by kernel_rfl) Tryz.ntmps120 (by kernel_rfl) (by kernel_rfl) h
def c116 (x0 x1 : Value) (w : World) (K : VPost) : Prop :=
 lenW Tryz.prog (some true) #[22] 3 #[x0] w fun t7_0 w1 =>
 lenW Tryz.prog (some true) #[22] 3 #[x1] w1 fun t9_2 w3 =>
 binN Tryz.prog .neq 3 false t7_0 t9_2 w3 fun t10_4 w5 =>
 condW t10_4 (
 K (.bool false) w5) (
 bindX (endW Tryz.prog [.tmp 4] K) fun K6 =>
 bindX (seqX (fun _ w9 =>
 K (.bool true) w9) K6) fun K7 =>
 lenW Tryz.prog (some true) #[22] 3 #[x0] w5 fun t12_10 w11 =>
 bindX (blkX 0 K7) fun K12 =>
 loopW (fun f13 w14 K15 =>
 binN Tryz.prog .lss 3 false (f13 13) (f13 12) w14 fun t14_16 w17 =>
 condW t14_16 (
 idxW (some (none, 5)) (f13 0) (f13 13) w17.drew fun t18_18 w19 =>
 loadW (some (true, 5)) t18_18 w19 fun t19_20 w21 =>
 idxW (some (none, 5)) (f13 1) (f13 13) w21 fun t22_22 w23 =>
 loadW (some (true, 5)) t22_22 w23 fun t23_24 w25 =>
 binW Tryz.prog .neq 95 false t19_20 t23_24 w25 fun t24_26 w27 =>
 w27 = w25 ∧
 condW t24_26 (
 K15 .ret (pf 26 (pf 26 (pf 26 (pf 26 (pf 26 (pf 26 (pf 26 (pf 26 (pf 26 (pf 26 (pf 26 (pf 26 (pf 26 f13 14 t14_16) 15 (f13 13)) 5 (f13 13)) 16 (f13 0)) 17 (f13 13)) 18 t18_18) 19 t19_20) 20 (f13 1)) 21 (f13 13)) 22 t22_22) 23 t23_24) 24 t24_26) 4 (.bool false)) w27) (
 binN Tryz.prog .add 3 true (f13 13) (.int .i64 1) w27 fun t25_28 w29 =>
 K15 .normal (pf 26 (pf 26 (pf 26 (pf 26 (pf 26 (pf 26 (pf 26 (pf 26 (pf 26 (pf 26 (pf 26 (pf 26 (pf 26 (pf 26 f13 14 t14_16) 15 (f13 13)) 5 (f13 13)) 16 (f13 0)) 17 (f13 13)) 18 t18_18) 19 t19_20) 20 (f13 1)) 21 (f13 13)) 22 t22_22) 23 t23_24) 24 t24_26) 25 t25_28) 13 t25_28) w29)) (
 K15 (.exit 0) (pf 26 f13 14 t14_16) w17)) (pf 26 (pf 26 (pf 26 (pf 26 (pf 26 (pf 26 (pf 26 (pf 26 (pf 26 (argF [x0, x1]) 4 (.bool false)) 6 x0) 7 t7_0) 8 x1) 9 t9_2) 10 t10_4) 11 x0) 12 t12_10) 13 (.int .i64 0)) w11 K12)
theorem c116_eq (x0 x1 : Value) (w : World) (K : VPost) : c116 x0 x1 w K = WP true Tryz.prog 26 [(6, 0, [0, 0, 3, 4, 0, 0, 48, 64, 136], [0, 0, 3, 7, 0, 0, 48, 112, 255])] (bodyOf Tryz.f116) (argF [x0, x1]) w [.tmp 4] K := by kernel_rfl
theorem c116_calls (x0 x1 : Value) (w : World) (K : VPost) (h : c116 x0 x1 w K) : Calls Tryz.prog 116 #[x0, x1] w (retK K) :=
 calls_of_WP (c116_eq x0 x1 w K) mixedG Tryz.func116 (by kernel_rfl) Tryz.ntmps116 (by kernel_rfl) (by kernel_rfl) h
def c117 (x0 x1 x2 : Value) (w : World) (K : VPost) : Prop :=
 lenW Tryz.prog (some true) #[23] 3 #[x0] w fun t11_0 w1 =>
 lenW Tryz.prog (some true) #[23] 3 #[x1] w1 fun t13_2 w3 =>
 binN Tryz.prog .neq 3 false t11_0 t13_2 w3 fun t14_4 w5 =>
 condW t14_4 (
 K (.bool false) w5) (
 bindX (endW Tryz.prog [.tmp 6] K) fun K6 =>
 bindX (seqX (fun _ w9 =>
 K (.bool true) w9) K6) fun K7 =>
 lenW Tryz.prog (some true) #[23] 3 #[x0] w5 fun t16_10 w11 =>
 bindX (blkX 0 K7) fun K12 =>
 loopW (fun f13 w14 K15 =>
 binN Tryz.prog .lss 3 false (f13 17) (f13 16) w14 fun t18_16 w17 =>
 condW t18_16 (
 idxW (some (none, 5)) (f13 15) (f13 17) w17 fun t20_18 w19 =>
 loadW (some (true, 5)) t20_18 w19 fun t21_20 w21 =>
 allocW (zeroO Tryz.prog 25) 25 w21 fun t8_22 w23 =>
 storeW (some (true, 5)) t8_22 t21_20 w23 fun w24 =>
 idxW (some (none, 5)) (f13 1) (f13 17) w24 fun t24_25 w26 =>
 loadW (some (true, 5)) t24_25 w26 fun t25_27 w28 =>
 allocW (zeroO Tryz.prog 25) 25 w28 fun t9_29 w30 =>
 storeW (some (true, 5)) t9_29 t25_27 w30 fun w31 =>
 loadW (some (true, 5)) t8_22 w31 fun t27_32 w33 =>
 loadW (some (true, 5)) t9_29 w33 fun t28_34 w35 =>
 dynW Tryz.prog (f13 2) #[t27_32, t28_34] w35 fun t29_36 w37 =>
 unN Tryz.prog .not t29_36 w37 fun t30_38 w39 =>
 condW t30_38 (
 K15 .ret (pf 32 (pf 32 (pf 32 (pf 32 (pf 32 (pf 32 (pf 32 (pf 32 (pf 32 (pf 32 (pf 32 (pf 32 (pf 32 (pf 32 (pf 32 (pf 32 (pf 32 f13 18 t18_16) 19 (f13 17)) 20 t20_18) 21 t21_20) 8 t8_22) 7 (f13 17)) 22 (f13 1)) 23 (f13 17)) 24 t24_25) 25 t25_27) 9 t9_29) 26 (f13 2)) 27 t27_32) 28 t28_34) 29 t29_36) 30 t30_38) 6 (.bool false)) w39) (
 binN Tryz.prog .add 3 true (f13 17) (.int .i64 1) w39 fun t31_40 w41 =>
 K15 .normal (pf 32 (pf 32 (pf 32 (pf 32 (pf 32 (pf 32 (pf 32 (pf 32 (pf 32 (pf 32 (pf 32 (pf 32 (pf 32 (pf 32 (pf 32 (pf 32 (pf 32 (pf 32 f13 18 t18_16) 19 (f13 17)) 20 t20_18) 21 t21_20) 8 t8_22) 7 (f13 17)) 22 (f13 1)) 23 (f13 17)) 24 t24_25) 25 t25_27) 9 t9_29) 26 (f13 2)) 27 t27_32) 28 t28_34) 29 t29_36) 30 t30_38) 31 t31_40) 17 t31_40) w41)) (
 K15 (.exit 0) (pf 32 f13 18 t18_16) w17)) (pf 32 (pf 32 (pf 32 (pf 32 (pf 32 (pf 32 (pf 32 (pf 32 (pf 32 (argF [x0, x1, x2]) 6 (.bool false)) 10 x0) 11 t11_0) 12 x1) 13 t13_2) 14 t14_4) 15 x0) 16 t16_10) 17 (.int .i64 0)) w11 K12)
theorem c117_eq (x0 x1 x2 : Value) (w : World) (K : VPost) : c117 x0 x1 x2 w K = WP true Tryz.prog 32 [] (bodyOf Tryz.f117) (argF [x0, x1, x2]) w [.tmp 6] K := by kernel_rfl
theorem c117_calls (x0 x1 x2 : Value) (w : World) (K : VPost) (h : c117 x0 x1 x2 w K) : Calls Tryz.prog 117 #[x0, x1, x2] w (retK K) :=
 calls_of_WP (c117_eq x0 x1 x2 w K) mixedG Tryz.func117 (by kernel_rfl) Tryz.ntmps117 (by kernel_rfl) (by kernel_rfl) h
def c176 (x0 x1 : Value) (w : World) (K : VPost) : Prop :=
 fnW Tryz.prog 194 #[x0, x1] w fun t7_0 w1 =>
 binN Tryz.prog .geq 3 true t7_0 (.int .i64 0) w1 fun t8_2 w3 =>
 K t8_2 w3
theorem c176_eq (x0 x1 : Value) (w : World) (K : VPost) : c176 x0 x1 w K = WP true Tryz.prog 9 [] (bodyOf Tryz.f176) (argF [x0, x1]) w [.tmp 4] K := by kernel_rfl
theorem c176_calls (x0 x1 : Value) (w : World) (K : VPost) (h : c176 x0 x1 w K) : Calls Tryz.prog 176 #[x0, x1] w (retK K) :=
 calls_of_WP (c176_eq x0 x1 w K) mixedG Tryz.func176 (by kernel_rfl) Tryz.ntmps176 (by kernel_rfl) (by kernel_rfl) h
def c194 (x0 x1 : Value) (w : World) (K : VPost) : Prop :=
 bindX (endW Tryz.prog [.tmp 4] K) fun K0 =>
 bindX (seqX (fun _ w3 =>
 K (.int .i64 (-1)) w3) K0) fun K1 =>
 lenW Tryz.prog (some true) #[22] 3 #[x0] w fun t7_4 w5 =>
 bindX (blkX 0 K1) fun K6 =>
 loopW (fun f7 w8 K9 =>
 binN Tryz.prog .lss 3 false (f7 8) (f7 7) w8 fun t9_10 w11 =>
 condW t9_10 (
 idxW (some (none, 5)) (f7 0) (f7 8) w11 fun t14_12 w13 =>
 loadW (some (true, 5)) t14_12 w13 fun t15_14 w15 =>
 dynW Tryz.prog (f7 1) #[t15_14] w15 fun t16_16 w17 =>
 condW t16_16 (
 K9 .ret (pf 19 (pf 19 (pf 19 (pf 19 (pf 19 (pf 19 (pf 19 (pf 19 (pf 19 (pf 19 (pf 19 f7 9 t9_10) 10 (f7 8)) 5 (f7 8)) 11 (f7 1)) 12 (f7 0)) 13 (f7 8)) 14 t14_12) 15 t15_14) 16 t16_16) 17 (f7 8)) 4 (f7 8)) w17) (
 binN Tryz.prog .add 3 true (f7 8) (.int .i64 1) w17 fun t18_18 w19 =>
 K9 .normal (pf 19 (pf 19 (pf 19 (pf 19 (pf 19 (pf 19 (pf 19 (pf 19 (pf 19 (pf 19 (pf 19 f7 9 t9_10) 10 (f7 8)) 5 (f7 8)) 11 (f7 1)) 12 (f7 0)) 13 (f7 8)) 14 t14_12) 15 t15_14) 16 t16_16) 18 t18_18) 8 t18_18) w19)) (
 K9 (.exit 0) (pf 19 f7 9 t9_10) w11)) (pf 19 (pf 19 (pf 19 (pf 19 (argF [x0, x1]) 4 (.int .i64 0)) 6 x0) 7 t7_4) 8 (.int .i64 0)) w5 K6
theorem c194_eq (x0 x1 : Value) (w : World) (K : VPost) : c194 x0 x1 w K = WP true Tryz.prog 19 [] (bodyOf Tryz.f194) (argF [x0, x1]) w [.tmp 4] K := by kernel_rfl
theorem c194_calls (x0 x1 : Value) (w : World) (K : VPost) (h : c194 x0 x1 w K) : Calls Tryz.prog 194 #[x0, x1] w (retK K) :=
 calls_of_WP (c194_eq x0 x1 w K) mixedG Tryz.func194 (by kernel_rfl) Tryz.ntmps194 (by kernel_rfl) (by kernel_rfl) h
def c113 (x0 x1 : Value) (w : World) (K : VPost) : Prop :=
 fnW Tryz.prog 149 #[x0, x1, (.int .i64 0)] w fun t7_0 w1 =>
 K t7_0 w1
theorem c113_eq (x0 x1 : Value) (w : World) (K : VPost) : c113 x0 x1 w K = WP true Tryz.prog 8 [] (bodyOf Tryz.f113) (argF [x0, x1]) w [.tmp 4] K := by kernel_rfl
theorem c113_calls (x0 x1 : Value) (w : World) (K : VPost) (h : c113 x0 x1 w K) : Calls Tryz.prog 113 #[x0, x1] w (retK K) :=
 calls_of_WP (c113_eq x0 x1 w K) mixedG Tryz.func113 (by kernel_rfl) Tryz.ntmps113 (by kernel_rfl) (by kernel_rfl) h
def c149 (x0 x1 x2 : Value) (w : World) (K : VPost) : Prop :=
 boxW 9 x0 w fun t3_0 w1 =>
 boxW 9 x1 w1 fun t4_2 w3 =>
 boxW 3 x2 w3 fun t5_4 w5 =>
 insW Tryz.prog (Instr.makeFunc (.func 178) #[] #[t4_2, t3_0, t5_4]) w5 fun t7_6 w7 =>
 K t7_6 w7
theorem c149_eq (x0 x1 x2 : Value) (w : World) (K : VPost) : c149 x0 x1 x2 w K = WP true Tryz.prog 8 [] (bodyOf Tryz.f149) (argF [x0, x1, x2]) w [.tmp 6] K := by kernel_rfl
theorem c149_calls (x0 x1 x2 : Value) (w : World) (K : VPost) (h : c149 x0 x1 x2 w K) : Calls Tryz.prog 149 #[x0, x1, x2] w (retK K) :=
 calls_of_WP (c149_eq x0 x1 x2 w K) mixedG Tryz.func149 (by kernel_rfl) Tryz.ntmps149 (by kernel_rfl) (by kernel_rfl) h
def c178 (x0 x1 x2 x3 : Value) (w : World) (K : VPost) : Prop :=
 bindX (endW Tryz.prog [] K) fun K0 =>
 bindX (seqX (fun f2 w3 =>
 bindX (seqX (fun f5 w6 =>
 loadW (some (false, 1)) (f5 2) w6 fun t50_7 w8 =>
 dynW Tryz.prog (f5 0) #[t50_7] w8 fun t51_9 w10 =>
 K0 .normal (pf 52 (pf 52 (pf 52 f5 49 (f5 0)) 50 t50_7) 51 t51_9) w10) K0) fun K4 =>
 bindX (blkX 2 K4) fun K11 =>
 loopW (fun f12 w13 K14 =>
 loadW (some (false, 1)) (f12 2) w13 fun t29_15 w16 =>
 loadW (some (false, 1)) (f12 1) w16 fun t30_17 w18 =>
 fnW Tryz.prog 148 #[t29_15, t30_17] w18 fun t31_19 w20 =>
 binN Tryz.prog .lss 3 true t31_19 (.int .i64 0) w20 fun t33_21 w22 =>
 condW t33_21 (
 K14 (.exit 2) (pf 52 (pf 52 (pf 52 (pf 52 (pf 52 (pf 52 f12 29 t29_15) 30 t30_17) 31 t31_19) 7 t31_19) 32 t31_19) 33 t33_21) w22) (
 loadW (some (false, 1)) (f12 2) w22 fun t34_23 w24 =>
 loadW (some (false, 1)) (f12 3) w24 fun t36_25 w26 =>
 binN Tryz.prog .add 3 false t31_19 t36_25 w26 fun t37_27 w28 =>
 sliceW .str t34_23 none (some t37_27) none w28 fun t38_29 w30 =>
 dynW Tryz.prog (f12 0) #[t38_29] w30 fun t41_31 w32 =>
 unN Tryz.prog .not t41_31 w32 fun t42_33 w34 =>
 condW t42_33 (
 K14 .ret (pf 52 (pf 52 (pf 52 (pf 52 (pf 52 (pf 52 (pf 52 (pf 52 (pf 52 (pf 52 (pf 52 (pf 52 (pf 52 (pf 52 (pf 52 (pf 52 f12 29 t29_15) 30 t30_17) 31 t31_19) 7 t31_19) 32 t31_19) 33 t33_21) 34 t34_23) 35 t31_19) 36 t36_25) 37 t37_27) 38 t38_29) 8 t38_29) 39 (f12 0)) 40 t38_29) 41 t41_31) 42 t42_33) w34) (
 loadW (some (false, 1)) (f12 2) w34 fun t43_35 w36 =>
 loadW (some (false, 1)) (f12 1) w36 fun t45_37 w38 =>
 lenW Tryz.prog (some false) #[9] 3 #[t45_37] w38 fun t46_39 w40 =>
 binN Tryz.prog .add 3 false t31_19 t46_39 w40 fun t47_41 w42 =>
 sliceW .str t43_35 (some t47_41) none none w42 fun t48_43 w44 =>
 storeW (some (false, 1)) (f12 2) t48_43 w44 fun w45 =>
 K14 .normal (pf 52 (pf 52 (pf 52 (pf 52 (pf 52 (pf 52 (pf 52 (pf 52 (pf 52 (pf 52 (pf 52 (pf 52 (pf 52 (pf 52 (pf 52 (pf 52 (pf 52 (pf 52 (pf 52 (pf 52 (pf 52 (pf 52 f12 29 t29_15) 30 t30_17) 31 t31_19) 7 t31_19) 32 t31_19) 33 t33_21) 34 t34_23) 35 t31_19) 36 t36_25) 37 t37_27) 38 t38_29) 8 t38_29) 39 (f12 0)) 40 t38_29) 41 t41_31) 42 t42_33) 43 t43_35) 44 t31_19) 45 t45_37) 46 t46_39) 47 t47_41) 48 t48_43) w45))) f2 w3 K11) K0) fun K1 =>
 loadW (some (false, 1)) x1 w fun t9_46 w47 =>
 lenW Tryz.prog (some false) #[9] 3 #[t9_46] w47 fun t10_48 w49 =>
 binN Tryz.prog .eql 3 true t10_48 (.int .i64 0) w49 fun t11_50 w51 =>
 condW t11_50 (
 bindX (seqX (fun _ w54 =>
 K (.tuple #[]) w54) K1) fun K52 =>
 bindX (blkX 0 K52) fun K55 =>
 loopW (fun f56 w57 K58 =>
 loadW (some (false, 1)) (f56 2) w57 fun t12_59 w60 =>
 lenW Tryz.prog (some false) #[9] 3 #[t12_59] w60 fun t13_61 w62 =>
 binN Tryz.prog .gtr 3 true t13_61 (.int .i64 0) w62 fun t14_63 w64 =>
 condW t14_63 (
 loadW (some (false, 1)) (f56 2) w64 fun t16_65 w66 =>
 fnW Tryz.prog 179 #[t16_65] w66 fun t17_67 w68 =>
 extrW t17_67 0 w68 fun t18_69 w70 =>
 extrW t17_67 1 w70 fun t19_71 w72 =>
 loadW (some (false, 1)) (f56 2) w72 fun t21_73 w74 =>
 sliceW .str t21_73 none (some t19_71) none w74 fun t23_75 w76 =>
 dynW Tryz.prog (f56 0) #[t23_75] w76 fun t24_77 w78 =>
 unN Tryz.prog .not t24_77 w78 fun t25_79 w80 =>
 condW t25_79 (
 K58 .ret (pf 52 (pf 52 (pf 52 (pf 52 (pf 52 (pf 52 (pf 52 (pf 52 (pf 52 (pf 52 (pf 52 (pf 52 (pf 52 (pf 52 (pf 52 (pf 52 f56 12 t12_59) 13 t13_61) 14 t14_63) 16 t16_65) 17 t17_67) 15 t17_67) 18 t18_69) 19 t19_71) 5 t18_69) 6 t19_71) 20 (f56 0)) 21 t21_73) 22 t19_71) 23 t23_75) 24 t24_77) 25 t25_79) w80) (
 loadW (some (false, 1)) (f56 2) w80 fun t26_81 w82 =>
 sliceW .str t26_81 (some t19_71) none none w82 fun t28_83 w84 =>
 storeW (some (false, 1)) (f56 2) t28_83 w84 fun w85 =>
 K58 .normal (pf 52 (pf 52 (pf 52 (pf 52 (pf 52 (pf 52 (pf 52 (pf 52 (pf 52 (pf 52 (pf 52 (pf 52 (pf 52 (pf 52 (pf 52 (pf 52 (pf 52 (pf 52 (pf 52 f56 12 t12_59) 13 t13_61) 14 t14_63) 16 t16_65) 17 t17_67) 15 t17_67) 18 t18_69) 19 t19_71) 5 t18_69) 6 t19_71) 20 (f56 0)) 21 t21_73) 22 t19_71) 23 t23_75) 24 t24_77) 25 t25_79) 26 t26_81) 27 t19_71) 28 t28_83) w85)) (
 K58 (.exit 0) (pf 52 (pf 52 (pf 52 f56 12 t12_59) 13 t13_61) 14 t14_63) w64)) (pf 52 (pf 52 (pf 52 (argF [x0, x1, x2, x3]) 9 t9_46) 10 t10_48) 11 t11_50) w51 K55) (
 K1 .normal (pf 52 (pf 52 (pf 52 (argF [x0, x1, x2, x3]) 9 t9_46) 10 t10_48) 11 t11_50) w51)
theorem c178_eq (x0 x1 x2 x3 : Value) (w : World) (K : VPost) : c178 x0 x1 x2 x3 w K = WP true Tryz.prog 52 [] (bodyOf Tryz.f178) (argF [x0, x1, x2, x3]) w [] K := by kernel_rfl
theorem c178_calls (x0 x1 x2 x3 : Value) (w : World) (K : VPost) (h : c178 x0 x1 x2 x3 w K) : Calls Tryz.prog 178 #[x0, x1, x2, x3] w (retK K) :=
 calls_of_WP (c178_eq x0 x1 x2 x3 w K) mixedG Tryz.func178 (by kernel_rfl) Tryz.ntmps178 (by kernel_rfl) (by kernel_rfl) h
def c174 (x0 : Value) (w : World) (K : VPost) : Prop :=
 boxW 95 x0 w fun t1_0 w1 =>
 bindX (endW Tryz.prog [.tmp 2] K) fun K2 =>
 bindX (seqX (fun f4 w5 =>
 offW (some 0) (f4 1) w5 fun t19_6 w7 =>
 loadW (some (false, 1)) t19_6 w7 fun t20_8 w9 =>
 binN Tryz.prog .geq 3 true t20_8 (.int .i64 0) w9 fun t21_10 w11 =>
 gstep t21_10 true w11 (fun K => offW (some 0) (f4 1) w11 K) fun t23_12 w13 =>
 gstep t21_10 true w13 (fun K => loadW (some (false, 1)) t23_12 w13 K) fun t24_14 w15 =>
 gstep t21_10 true w15 (fun K => binN Tryz.prog .leq 3 true t24_14 (.int .i64 100) w15 K) fun t25_16 w17 =>
 pickW t21_10 t25_16 (.bool false) w17 fun t26_18 w19 =>
 K t26_18 w19) K2) fun K3 =>
 offW (some 1) t1_0 w1 fun t5_20 w21 =>
 loadW (some (true, 4)) t5_20 w21 fun t6_22 w23 =>
 bindX (blkX 0 K3) fun K24 =>
 loopW (fun f25 w26 K27 =>
 binN Tryz.prog .lss 3 true (f25 7) (.int .i64 4) w26 fun t8_28 w29 =>
 condW t8_28 (
 ixvW (.arr 4 false 1) (f25 6) (f25 7) w29 fun t9_30 w31 =>
 binN Tryz.prog .lss 3 true t9_30 (.int .i64 (-1)) w31 fun t11_32 w33 =>
 gstep t11_32 false w33 (fun K => K t9_30 w33) fun t13_34 w35 =>
 gstep t11_32 false w35 (fun K => offW (some 0) (f25 1) w35 K) fun t14_36 w37 =>
 gstep t11_32 false w37 (fun K => loadW (some (false, 1)) t14_36 w37 K) fun t15_38 w39 =>
 gstep t11_32 false w39 (fun K => binN Tryz.prog .gtr 3 false t13_34 t15_38 w39 K) fun t16_40 w41 =>
 pickW t11_32 (.bool true) t16_40 w41 fun t17_42 w43 =>
 condW t17_42 (
 K27 .ret (pf 27 (pf 27 (pf 27 (pf 27 (pf 27 (pf 27 (pf 27 (pf 27 (pf 27 (pf 27 (pf 27 (pf 27 f25 8 t8_28) 9 t9_30) 4 t9_30) 10 t9_30) 11 t11_32) 12 t11_32) 13 t13_34) 14 t14_36) 15 t15_38) 16 t16_40) 17 t17_42) 2 (.bool false)) w43) (
 binN Tryz.prog .add 3 true (f25 7) (.int .i64 1) w43 fun t18_44 w45 =>
 K27 .normal (pf 27 (pf 27 (pf 27 (pf 27 (pf 27 (pf 27 (pf 27 (pf 27 (pf 27 (pf 27 (pf 27 (pf 27 (pf 27 f25 8 t8_28) 9 t9_30) 4 t9_30) 10 t9_30) 11 t11_32) 12 t11_32) 13 t13_34) 14 t14_36) 15 t15_38) 16 t16_40) 17 t17_42) 18 t18_44) 7 t18_44) w45)) (
 K27 (.exit 0) (pf 27 f25 8 t8_28) w29)) (pf 27 (pf 27 (pf 27 (pf 27 (pf 27 (argF [x0]) 1 t1_0) 2 (.bool false)) 5 t5_20) 6 t6_22) 7 (.int .i64 0)) w23 K24
theorem c174_eq (x0 : Value) (w : World) (K : VPost) : c174 x0 w K = WP true Tryz.prog 27 [] (bodyOf Tryz.f174) (argF [x0]) w [.tmp 2] K := by kernel_rfl
theorem c174_calls (x0 : Value) (w : World) (K : VPost) (h : c174 x0 w K) : Calls Tryz.prog 174 #[x0] w (retK K) :=
 calls_of_WP (c174_eq x0 w K) mixedG Tryz.func174 (by kernel_rfl) Tryz.ntmps174 (by kernel_rfl) (by kernel_rfl) h
def c175 (x0 : Value) (w : World) (K : VPost) : Prop :=
 boxW 95 x0 w fun t1_0 w1 =>
 bindX (endW Tryz.prog [.tmp 2] K) fun K2 =>
 bindX (seqX (fun f4 w5 =>
 K (f4 3) w5) K2) fun K3 =>
 offW (some 1) t1_0 w1 fun t6_6 w7 =>
 loadW (some (true, 4)) t6_6 w7 fun t7_8 w9 =>
 bindX (blkX 0 K3) fun K10 =>
 loopW (fun f11 w12 K13 =>
 binN Tryz.prog .lss 3 true (f11 8) (.int .i64 4) w12 fun t9_14 w15 =>
 condW t9_14 (
 bindX (seqX (fun f17 w18 =>
 binN Tryz.prog .add 3 true (f17 8) (.int .i64 1) w18 fun t16_19 w20 =>
 K13 .normal (pf 18 (pf 18 f17 16 t16_19) 8 t16_19) w20) K13) fun K16 =>
 bindX (blkX 1 K16) fun _ =>
 ixvW (.arr 4 false 1) (f11 7) (f11 8) w15 fun t11_22 w23 =>
 binN Tryz.prog .gtr 3 true t11_22 (.int .i64 (-1)) w23 fun t13_24 w25 =>
 condW t13_24 (
 binN Tryz.prog .add 3 true (f11 8) (.int .i64 1) w25 fun t15_26 w27 =>
 K16 .normal (pf 18 (pf 18 (pf 18 (pf 18 (pf 18 (pf 18 (pf 18 (pf 18 (pf 18 (pf 18 f11 9 t9_14) 10 (f11 8)) 11 t11_22) 4 (f11 8)) 5 t11_22) 12 t11_22) 13 t13_24) 14 (f11 8)) 15 t15_26) 3 t15_26) w27) (
 K16 .normal (pf 18 (pf 18 (pf 18 (pf 18 (pf 18 (pf 18 (pf 18 f11 9 t9_14) 10 (f11 8)) 11 t11_22) 4 (f11 8)) 5 t11_22) 12 t11_22) 13 t13_24) w25)) (
 K13 (.exit 0) (pf 18 f11 9 t9_14) w15)) (pf 18 (pf 18 (pf 18 (pf 18 (pf 18 (pf 18 (argF [x0]) 1 t1_0) 2 (.int .i64 0)) 3 (.int .i64 0)) 6 t6_6) 7 t7_8) 8 (.int .i64 0)) w9 K10
theorem c175_eq (x0 : Value) (w : World) (K : VPost) : c175 x0 w K = WP true Tryz.prog 18 [] (bodyOf Tryz.f175) (argF [x0]) w [.tmp 2] K := by kernel_rfl
theorem c175_calls (x0 : Value) (w : World) (K : VPost) (h : c175 x0 w K) : Calls Tryz.prog 175 #[x0] w (retK K) :=
 calls_of_WP (c175_eq x0 w K) mixedG Tryz.func175 (by kernel_rfl) Tryz.ntmps175 (by kernel_rfl) (by kernel_rfl) h
def c88 (x0 : Value) (w : World) (K : VPost) : Prop :=
 boxW 25 x0 w fun t1_0 w1 =>
 allocW (zeroO Tryz.prog 25) 25 w1 fun t2_2 w3 =>
 offW (some 3) t1_0 w3 fun t6_4 w5 =>
 loadW (some (false, 1)) t6_4 w5 fun t7_6 w7 =>
 fnW Tryz.prog 120 #[t7_6] w7 fun t8_8 w9 =>
 offW (some 3) t1_0 w9 fun t9_10 w11 =>
 storeW (some (false, 1)) t9_10 t8_8 w11 fun w12 =>
 offW (some 4) t1_0 w12 fun t10_13 w14 =>
 loadW (some (false, 1)) t10_13 w14 fun t11_15 w16 =>
 offW (some 4) t1_0 w16 fun t12_17 w18 =>
 storeW (some (false, 1)) t12_17 (.slice none 0 0) w18 fun w19 =>
 bindX (endW Tryz.prog [.cell 2 25] K) fun K20 =>
 bindX (seqX (fun f22 w23 =>
 loadW (some (true, 5)) (f22 1) w23 fun t27_24 w25 =>
 storeW (some (true, 5)) (f22 2) t27_24 w25 fun w26 =>
 loadW (some (true, 5)) (f22 2) w26 fun r27 _ =>
 K r27 w26) K20) fun K21 =>
 lenW Tryz.prog (some true) #[23] 3 #[t11_15] w19 fun t14_29 w30 =>
 bindX (blkX 0 K21) fun K31 =>
 loopW (fun f32 w33 K34 =>
 binN Tryz.prog .lss 3 false (f32 15) (f32 14) w33 fun t16_35 w36 =>
 condW t16_35 (
 idxW (some (none, 5)) (f32 13) (f32 15) w36 fun t17_37 w38 =>
 loadW (some (true, 5)) t17_37 w38 fun t18_39 w40 =>
 allocW (zeroO Tryz.prog 25) 25 w40 fun t5_41 w42 =>
 storeW (some (true, 5)) t5_41 t18_39 w42 fun w43 =>
 offW (some 4) (f32 1) w43.drew fun t19_44 w45 =>
 loadW (some (false, 1)) t19_44 w45 fun t20_46 w47 =>
 loadW (some (true, 5)) t5_41 w47 fun t21_48 w49 =>
 fnW Tryz.prog 88 #[t21_48] w49 fun t22_50 w51 =>
 (loadW (some (false, 1)) t19_44 w51 fun t20_52 w53 => t20_52 = t20_46 ∧ w53 = w51) ∧
 insW Tryz.prog (Instr.buildSlice 23 1 #[(0, t22_50)]) w51 fun t23_54 w55 =>
 (loadW (some (false, 1)) t19_44 w55 fun t20_56 w57 => t20_56 = t20_46 ∧ w57 = w55) ∧
 insW Tryz.prog (Builtin.append_ #[23, 23] 23 #[t20_46, t23_54]) w55 fun t24_58 w59 =>
 offW (some 4) (f32 1) w59 fun t25_60 w61 =>
 storeW (some (false, 1)) t25_60 t24_58 w61 fun w62 =>
 binN Tryz.prog .add 3 true (f32 15) (.int .i64 1) w62 fun t26_63 w64 =>
 K34 .normal (pf 28 (pf 28 (pf 28 (pf 28 (pf 28 (pf 28 (pf 28 (pf 28 (pf 28 (pf 28 (pf 28 (pf 28 (pf 28 f32 16 t16_35) 17 t17_37) 18 t18_39) 5 t5_41) 19 t19_44) 20 t20_46) 21 t21_48) 22 t22_50) 23 t23_54) 24 t24_58) 25 t25_60) 26 t26_63) 15 t26_63) w64) (
 K34 (.exit 0) (pf 28 f32 16 t16_35) w36)) (pf 28 (pf 28 (pf 28 (pf 28 (pf 28 (pf 28 (pf 28 (pf 28 (pf 28 (pf 28 (pf 28 (pf 28 (pf 28 (argF [x0]) 1 t1_0) 2 t2_2) 6 t6_4) 7 t7_6) 8 t8_8) 9 t9_10) 10 t10_13) 11 t11_15) 3 t11_15) 12 t12_17) 13 t11_15) 14 t14_29) 15 (.int .i64 0)) w30 K31
theorem c88_eq (x0 : Value) (w : World) (K : VPost) : c88 x0 w K = WP true Tryz.prog 28 [(7, 184, [0, 1, 0, 4, 8, 26, 63, 127], [0, 1, 0, 4, 12, 31, 63, 127])] (bodyOf Tryz.f88) (argF [x0]) w [.cell 2 25] K := by kernel_rfl
theorem c88_calls (x0 : Value) (w : World) (K : VPost) (h : c88 x0 w K) : Calls Tryz.prog 88 #[x0] w (retK K) :=
 calls_of_WP (c88_eq x0 w K) mixedG Tryz.func88 (by kernel_rfl) Tryz.ntmps88 (by kernel_rfl) (by kernel_rfl) h
def c110 (x0 : Value) (w : World) (K : VPost) : Prop :=
 boxW 25 x0 w fun t1_0 w1 =>
 allocW (zeroO Tryz.prog 3) 3 w1 fun t3_2 w3 =>
 storeW (some (false, 1)) t3_2 (.int .i64 0) w3 fun w4 =>
 loadW (some (true, 5)) t1_0 w4 fun t4_5 w6 =>
 insW Tryz.prog (Instr.makeFunc (.func 143) #[] #[t3_2]) w6 fun t5_7 w8 =>
 fnW Tryz.prog 139 #[t4_5, (.int .i64 0), t5_7] w8 fun _ w10 =>
 loadW (some (false, 1)) t3_2 w10 fun t7_11 w12 =>
 insW Tryz.prog (Builtin.min_ #[3, 3] 3 #[t7_11, (.int .i64 3001)]) w12 fun t8_13 w14 =>
 K t8_13 w14
theorem c110_eq (x0 : Value) (w : World) (K : VPost) : c110 x0 w K = WP true Tryz.prog 9 [] (bodyOf Tryz.f110) (argF [x0]) w [.tmp 2] K := by kernel_rfl
theorem c110_calls (x0 : Value) (w : World) (K : VPost) (h : c110 x0 w K) : Calls Tryz.prog 110 #[x0] w (retK K) :=
 calls_of_WP (c110_eq x0 w K) mixedG Tryz.func110 (by kernel_rfl) Tryz.ntmps110 (by kernel_rfl) (by kernel_rfl) h
def c143 (x0 x1 x2 : Value) (w : World) (K : VPost) : Prop :=
 boxW 25 x0 w fun t3_0 w1 =>
 loadW (some (false, 1)) x2 w1 fun t6_2 w3 =>
 offW (some 3) t3_0 w3 fun t7_4 w5 =>
 loadW (some (false, 1)) t7_4 w5 fun t8_6 w7 =>
 lenW Tryz.prog (some true) #[22] 3 #[t8_6] w7 fun t9_8 w9 =>
 binN Tryz.prog .add 3 true (.int .i64 1) t9_8 w9 fun t10_10 w11 =>
 binN Tryz.prog .add 3 false t6_2 t10_10 w11 fun t11_12 w13 =>
 storeW (some (false, 1)) x2 t11_12 w13 fun w14 =>
 loadW (some (false, 1)) x2 w14 fun t12_15 w16 =>
 binN Tryz.prog .leq 3 true t12_15 (.int .i64 3000) w16 fun t13_17 w18 =>
 K t13_17 w18
theorem c143_eq (x0 x1 x2 : Value) (w : World) (K : VPost) : c143 x0 x1 x2 w K = WP true Tryz.prog 14 [] (bodyOf Tryz.f143) (argF [x0, x1, x2]) w [.tmp 5] K := by kernel_rfl
theorem c143_calls (x0 x1 x2 : Value) (w : World) (K : VPost) (h : c143 x0 x1 x2 w K) : Calls Tryz.prog 143 #[x0, x1, x2] w (retK K) :=
 calls_of_WP (c143_eq x0 x1 x2 w K) mixedG Tryz.func143 (by kernel_rfl) Tryz.ntmps143 (by kernel_rfl) (by kernel_rfl) h
def c74 (x0 x1 x2 : Value) (w : World) (K : VPost) : Prop :=
 boxW 25 x0 w fun t3_0 w1 =>
 binN Tryz.prog .geq 3 true x1 (.int .i64 0) w1 fun t8_2 w3 =>
 gstep t8_2 true w3 (fun K => K x1 w3) fun t10_4 w5 =>
 gstep t8_2 true w5 (fun K => binN Tryz.prog .leq 3 true t10_4 (.int .i64 4) w5 K) fun t11_6 w7 =>
 pickW t8_2 t11_6 (.bool false) w7 fun t12_8 w9 =>
 gstep t12_8 true w9 (fun K => K x2 w9) fun t14_10 w11 =>
 gstep t12_8 true w11 (fun K => binN Tryz.prog .geq 3 true t14_10 (.int .i64 0) w11 K) fun t15_12 w13 =>
 pickW t12_8 t15_12 (.bool false) w13 fun t16_14 w15 =>
 gstep t16_14 true w15 (fun K => K x2 w15) fun t18_16 w17 =>
 gstep t16_14 true w17 (fun K => binN Tryz.prog .leq 3 true t18_16 (.int .i64 1099511627776) w17 K) fun t19_18 w19 =>
 pickW t16_14 t19_18 (.bool false) w19 fun t20_20 w21 =>
 gstep t20_20 true w21 (fun K => loadW (some (true, 5)) t3_0 w21 K) fun t22_22 w23 =>
 gstep t20_20 true w23 (fun K => fnW Tryz.prog 110 #[t22_22] w23 K) fun t23_24 w25 =>
 gstep t20_20 true w25 (fun K => binN Tryz.prog .leq 3 true t23_24 (.int .i64 3000) w25 K) fun t24_26 w27 =>
 pickW t20_20 t24_26 (.bool false) w27 fun t25_28 w29 =>
 gstep t25_28 true w29 (fun K => loadW (some (true, 5)) t3_0 w29 K) fun t27_30 w31 =>
 gstep t25_28 true w31 (fun K => K x1 w31) fun t28_32 w33 =>
 gstep t25_28 true w33 (fun K => K x2 w33) fun t29_34 w35 =>
 gstep t25_28 true w35 (fun K => fnW Tryz.prog 111 #[t27_30, t28_32, t29_34, (.int .i64 0)] w35 K) fun t30_36 w37 =>
 pickW t25_28 t30_36 (.bool false) w37 fun t31_38 w39 =>
 K t31_38 w39
theorem c74_eq (x0 x1 x2 : Value) (w : World) (K : VPost) : c74 x0 x1 x2 w K = WP true Tryz.prog 32 [] (bodyOf Tryz.f74) (argF [x0, x1, x2]) w [.tmp 6] K := by kernel_rfl
theorem c74_calls (x0 x1 x2 : Value) (w : World) (K : VPost) (h : c74 x0 x1 x2 w K) : Calls Tryz.prog 74 #[x0, x1, x2] w (retK K) :=
 calls_of_WP (c74_eq x0 x1 x2 w K) mixedG Tryz.func74 (by kernel_rfl) Tryz.ntmps74 (by kernel_rfl) (by kernel_rfl) h
def c80 (x0 x1 : Value) (w : World) (K : VPost) : Prop :=
 boxW 25 x0 w fun t2_0 w1 =>
 boxW 25 x1 w1 fun t3_2 w3 =>
 offW (some 0) t2_0 w3 fun t5_4 w5 =>
 loadW (some (false, 1)) t5_4 w5 fun t6_6 w7 =>
 offW (some 0) t3_2 w7 fun t7_8 w9 =>
 loadW (some (false, 1)) t7_8 w9 fun t8_10 w11 =>
 binN Tryz.prog .eql 3 false t6_6 t8_10 w11 fun t9_12 w13 =>
 gstep t9_12 true w13 (fun K => offW (some 1) t2_0 w13 K) fun t11_14 w15 =>
 gstep t9_12 true w15 (fun K => loadW (some (false, 1)) t11_14 w15 K) fun t12_16 w17 =>
 gstep t9_12 true w17 (fun K => offW (some 1) t3_2 w17 K) fun t13_18 w19 =>
 gstep t9_12 true w19 (fun K => loadW (some (false, 1)) t13_18 w19 K) fun t14_20 w21 =>
 gstep t9_12 true w21 (fun K => binN Tryz.prog .eql 3 false t12_16 t14_20 w21 K) fun t15_22 w23 =>
 pickW t9_12 t15_22 (.bool false) w23 fun t16_24 w25 =>
 gstep t16_24 true w25 (fun K => offW (some 2) t2_0 w25 K) fun t18_26 w27 =>
 gstep t16_24 true w27 (fun K => loadW (some (false, 1)) t18_26 w27 K) fun t19_28 w29 =>
 gstep t16_24 true w29 (fun K => offW (some 2) t3_2 w29 K) fun t20_30 w31 =>
 gstep t16_24 true w31 (fun K => loadW (some (false, 1)) t20_30 w31 K) fun t21_32 w33 =>
 gstep t16_24 true w33 (fun K => binW Tryz.prog .eql 9 false t19_28 t21_32 w33 K) fun t22_34 w35 =>
 pickW t16_24 t22_34 (.bool false) w35 fun t23_36 w37 =>
 gstep t23_36 true w37 (fun K => offW (some 3) t2_0 w37 K) fun t25_38 w39 =>
 gstep t23_36 true w39 (fun K => loadW (some (false, 1)) t25_38 w39 K) fun t26_40 w41 =>
 gstep t23_36 true w41 (fun K => offW (some 3) t3_2 w41 K) fun t27_42 w43 =>
 gstep t23_36 true w43 (fun K => loadW (some (false, 1)) t27_42 w43 K) fun t28_44 w45 =>
 gstep t23_36 true w45 (fun K => fnW Tryz.prog 116 #[t26_40, t28_44] w45 K) fun t29_46 w47 =>
 pickW t23_36 t29_46 (.bool false) w47 fun t30_48 w49 =>
 gstep t30_48 true w49 (fun K => offW (some 4) t2_0 w49 K) fun t32_50 w51 =>
 gstep t30_48 true w51 (fun K => loadW (some (false, 1)) t32_50 w51 K) fun t33_52 w53 =>
 gstep t30_48 true w53 (fun K => offW (some 4) t3_2 w53 K) fun t34_54 w55 =>
 gstep t30_48 true w55 (fun K => loadW (some (false, 1)) t34_54 w55 K) fun t35_56 w57 =>
 gstep t30_48 true w57 (fun K => fnW Tryz.prog 117 #[t33_52, t35_56, (.func (.func 80) #[] #[])] w57 K) fun t36_58 w59 =>
 pickW t30_48 t36_58 (.bool false) w59 fun t37_60 w61 =>
 K t37_60 w61
theorem c80_eq (x0 x1 : Value) (w : World) (K : VPost) : c80 x0 x1 w K = WP true Tryz.prog 38 [] (bodyOf Tryz.f80) (argF [x0, x1]) w [.tmp 4] K := by kernel_rfl
theorem c80_calls (x0 x1 : Value) (w : World) (K : VPost) (h : c80 x0 x1 w K) : Calls Tryz.prog 80 #[x0, x1] w (retK K) :=
 calls_of_WP (c80_eq x0 x1 w K) mixedG Tryz.func80 (by kernel_rfl) Tryz.ntmps80 (by kernel_rfl) (by kernel_rfl) h
def c76 (x0 : Value) (w : World) (K : VPost) : Prop :=
 allocW (zeroO Tryz.prog 4) 4 w fun t2_0 w1 =>
 lenW Tryz.prog (some false) #[9] 3 #[x0] w1 fun t5_2 w3 =>
 binN Tryz.prog .gtr 3 true t5_2 (.int .i64 32) w3 fun t6_4 w5 =>
 gstep t6_4 false w5 (fun K => K x0 w5) fun t8_6 w7 =>
 gstep t6_4 false w7 (fun K => binW Tryz.prog .add 9 true (.string ⟨#[32]⟩) t8_6 w7 K) fun t9_8 w9 =>
 gstep t6_4 false w9 (fun K => binW Tryz.prog .add 9 true t9_8 (.string ⟨#[32]⟩) w9 K) fun t10_10 w11 =>
 gstep t6_4 false w11 (fun K => fnW Tryz.prog 112 #[(.string ⟨#[32, 80, 114, 111, 112, 32, 84, 121, 112, 101, 32, 102, 117, 110, 32, 97, 108, 108, 32, 108, 101, 116, 32, 105, 110, 32, 111, 102, 32, 119, 105, 116, 104, 32, 97, 120, 105, 111, 109, 32, 100, 101, 102, 32, 116, 104, 101, 111, 114, 101, 109, 32, 102, 97, 109, 105, 108, 121, 32, 117, 48, 32, 117, 49, 32, 117, 50, 32, 117, 51, 32]⟩), t10_10] w11 K) fun t11_12 w13 =>
 pickW t6_4 (.bool true) t11_12 w13 fun t12_14 w15 =>
 condW t12_14 (
 storeW (some (false, 1)) t2_0 (.bool false) w15 fun w16 =>
 loadW (some (false, 1)) t2_0 w16 fun r17 _ =>
 K r17 w16) (
 bindV (endH Tryz.prog [.cell 2 4] K) fun K19 =>
 bindV (seqH (fun (d21 : List Nat) (f22 : Fr) (w23 : World) =>
 storeW (some (false, 1)) (f22 2) (.bool true) w23 fun w24 =>
 outW d21 w24 fun w25 =>
 loadW (some (false, 1)) (f22 2) w25 fun r26 _ =>
 K r26 w25) K19) fun K20 =>
 fnW Tryz.prog 113 #[x0, (.string ⟨#[46]⟩)] w15 fun t14_28 w29 =>
 bindV (blkH 0 K20) fun K30 =>
 rangeH Tryz.prog true t14_28 1 (fun xs31 w32 T33 =>
 T33 w32 fun w34 K35 =>
 fnW Tryz.prog 114 #[(xs31.getD 0 undef)] w34 fun t17_36 w37 =>
 unN Tryz.prog .not t17_36 w37 fun t18_38 w39 =>
 condW t18_38 (
 storeW (some (false, 1)) t2_0 (.bool false) w39 fun w40 =>
 K35 .ret (pf 19 (pf 19 (pf 19 (pf 19 (pf 19 (pf 19 (pf 19 (pf 19 (pf 19 (pf 19 (pf 19 (pf 19 (pf 19 (pf 19 (pf 19 (pf 19 (pf 19 (argF [x0]) 2 t2_0) 4 x0) 5 t5_2) 6 t6_4) 7 t6_4) 8 t8_6) 9 t9_8) 10 t10_10) 11 t11_12) 12 t12_14) 13 x0) 14 t14_28) 15 (xs31.getD 0 undef)) 3 (xs31.getD 0 undef)) 16 (xs31.getD 0 undef)) 17 t17_36) 18 t18_38) w40) (
 K35 .normal (pf 19 (pf 19 (pf 19 (pf 19 (pf 19 (pf 19 (pf 19 (pf 19 (pf 19 (pf 19 (pf 19 (pf 19 (pf 19 (pf 19 (pf 19 (pf 19 (pf 19 (argF [x0]) 2 t2_0) 4 x0) 5 t5_2) 6 t6_4) 7 t6_4) 8 t8_6) 9 t9_8) 10 t10_10) 11 t11_12) 12 t12_14) 13 x0) 14 t14_28) 15 (xs31.getD 0 undef)) 3 (xs31.getD 0 undef)) 16 (xs31.getD 0 undef)) 17 t17_36) 18 t18_38) w39)) w29 (fun D41 w42 =>
 K20 (D41 :: []) .normal (pf 19 (pf 19 (pf 19 (pf 19 (pf 19 (pf 19 (pf 19 (pf 19 (pf 19 (pf 19 (pf 19 (pf 19 (argF [x0]) 2 t2_0) 4 x0) 5 t5_2) 6 t6_4) 7 t6_4) 8 t8_6) 9 t9_8) 10 t10_10) 11 t11_12) 12 t12_14) 13 x0) 14 t14_28) w42) (fun (e43 : Exit) (D44 : Nat) (w45 : World) => match e43 with | .ret => K30 (D44 :: []) .ret (pf 19 (pf 19 (pf 19 (pf 19 (pf 19 (pf 19 (pf 19 (pf 19 (pf 19 (pf 19 (pf 19 (pf 19 (argF [x0]) 2 t2_0) 4 x0) 5 t5_2) 6 t6_4) 7 t6_4) 8 t8_6) 9 t9_8) 10 t10_10) 11 t11_12) 12 t12_14) 13 x0) 14 t14_28) w45 | .exit i => K30 (D44 :: []) (.exit i) (pf 19 (pf 19 (pf 19 (pf 19 (pf 19 (pf 19 (pf 19 (pf 19 (pf 19 (pf 19 (pf 19 (pf 19 (argF [x0]) 2 t2_0) 4 x0) 5 t5_2) 6 t6_4) 7 t6_4) 8 t8_6) 9 t9_8) 10 t10_10) 11 t11_12) 12 t12_14) 13 x0) 14 t14_28) w45 | _ => True))
theorem c76_eq (x0 : Value) (w : World) (K : VPost) : c76 x0 w K = WH true Tryz.prog 19 [] (bodyOf Tryz.f76) (argF [x0]) w [.cell 2 4] K := by kernel_rfl
theorem c76_calls (x0 : Value) (w : World) (K : VPost) (h : c76 x0 w K) : Calls Tryz.prog 76 #[x0] w (retK K) :=
 calls_of_WH (c76_eq x0 w K) mixedG Tryz.func76 (by kernel_rfl) Tryz.ntmps76 (by kernel_rfl) (by kernel_rfl) h
def c111 (x0 x1 x2 x3 : Value) (w : World) (K : VPost) : Prop :=
 boxW 25 x0 w fun t4_0 w1 =>
 offW (some 0) t4_0 w1.drew fun t12_2 w3 =>
 loadW (some (false, 1)) t12_2 w3 fun t13_4 w5 =>
 binN Tryz.prog .lss 3 true t13_4 (.int .i64 1) w5 fun t14_6 w7 =>
 gstep t14_6 false w7 (fun K => offW (some 0) t4_0 w7 K) fun t16_8 w9 =>
 gstep t14_6 false w9 (fun K => loadW (some (false, 1)) t16_8 w9 K) fun t17_10 w11 =>
 gstep t14_6 false w11 (fun K => binN Tryz.prog .gtr 3 true t17_10 (.int .i64 9) w11 K) fun t18_12 w13 =>
 pickW t14_6 (.bool true) t18_12 w13 fun t19_14 w15 =>
 gstep t19_14 false w15 (fun K => K x3 w15) fun t21_16 w17 =>
 gstep t19_14 false w17 (fun K => binN Tryz.prog .gtr 3 true t21_16 (.int .i64 200) w17 K) fun t22_18 w19 =>
 pickW t19_14 (.bool true) t22_18 w19 fun t23_20 w21 =>
 gstep t23_20 false w21 (fun K => offW (some 4) t4_0 w21 K) fun t25_22 w23 =>
 gstep t23_20 false w23 (fun K => loadW (some (false, 1)) t25_22 w23 K) fun t26_24 w25 =>
 gstep t23_20 false w25 (fun K => lenW Tryz.prog (some true) #[23] 3 #[t26_24] w25 K) fun t27_26 w27 =>
 gstep t23_20 false w27 (fun K => offW (some 0) t4_0 w27 K) fun t29_28 w29 =>
 gstep t23_20 false w29 (fun K => loadW (some (false, 1)) t29_28 w29 K) fun t30_30 w31 =>
 gstep t23_20 false w31 (fun K => fnW Tryz.prog 144 #[] w31 K) fun t28_32 w33 =>
 (gstep t23_20 false w33 (fun K => loadW (some (false, 1)) t25_22 w33 K) fun t26_34 w35 => t26_34 = t26_24 ∧ w35 = w33) ∧
 (gstep t23_20 false w33 (fun K => loadW (some (false, 1)) t29_28 w33 K) fun t30_36 w37 => t30_36 = t30_30 ∧ w37 = w33) ∧
 gstep t23_20 false w33 (fun K => ixvW (.arr 10 true 3) t28_32 t30_30 w33 K) fun t31_38 w39 =>
 gstep t23_20 false w39 (fun K => fldW (some (false, 0, 1)) t31_38 w39 K) fun t32_40 w41 =>
 gstep t23_20 false w41 (fun K => binN Tryz.prog .neq 3 false t27_26 t32_40 w41 K) fun t33_42 w43 =>
 pickW t23_20 (.bool true) t33_42 w43 fun t34_44 w45 =>
 gstep t34_44 false w45 (fun K => loadW (some (true, 5)) t4_0 w45 K) fun t36_46 w47 =>
 gstep t34_44 false w47 (fun K => K x2 w47) fun t37_48 w49 =>
 gstep t34_44 false w49 (fun K => fnW Tryz.prog 145 #[t36_46, t37_48] w49 K) fun t38_50 w51 =>
 gstep t34_44 false w51 (fun K => unN Tryz.prog .not t38_50 w51 K) fun t39_52 w53 =>
 pickW t34_44 (.bool true) t39_52 w53 fun t40_54 w55 =>
 gstep t40_54 false w55 (fun K => loadW (some (true, 5)) t4_0 w55 K) fun t42_56 w57 =>
 gstep t40_54 false w57 (fun K => K x1 w57) fun t43_58 w59 =>
 gstep t40_54 false w59 (fun K => fnW Tryz.prog 146 #[t42_56, t43_58] w59 K) fun t44_60 w61 =>
 gstep t40_54 false w61 (fun K => unN Tryz.prog .not t44_60 w61 K) fun t45_62 w63 =>
 pickW t40_54 (.bool true) t45_62 w63 fun t46_64 w65 =>
 condW t46_64 (
 K (.bool false) w65) (
 bindX (endW Tryz.prog [.tmp 8] K) fun K66 =>
 bindX (seqX (fun _ w69 =>
 K (.bool true) w69) K66) fun K67 =>
 offW (some 4) t4_0 w65 fun t47_70 w71 =>
 loadW (some (false, 1)) t47_70 w71 fun t48_72 w73 =>
 lenW Tryz.prog (some true) #[23] 3 #[t48_72] w73 fun t49_74 w75 =>
 bindX (blkX 0 K67) fun K76 =>
 loopW (fun f77 w78 K79 =>
 binN Tryz.prog .lss 3 false (f77 50) (f77 49) w78 fun t51_80 w81 =>
 condW t51_80 (
 idxW (some (none, 5)) (f77 48) (f77 50) w81 fun t53_82 w83 =>
 loadW (some (true, 5)) t53_82 w83 fun t54_84 w85 =>
 allocW (zeroO Tryz.prog 25) 25 w85 fun t10_86 w87 =>
 storeW (some (true, 5)) t10_86 t54_84 w87 fun w88 =>
 offW (some 0) (f77 4) w88 fun t55_89 w90 =>
 loadW (some (false, 1)) t55_89 w90 fun t56_91 w92 =>
 fnW Tryz.prog 147 #[t56_91, (f77 50)] w92 fun t58_93 w94 =>
 loadW (some (true, 5)) t10_86 w94 fun t59_95 w96 =>
 binN Tryz.prog .add 3 false (f77 2) t58_93 w96 fun t63_97 w98 =>
 binN Tryz.prog .add 3 false (f77 3) t58_93 w98 fun t66_99 w100 =>
 fnW Tryz.prog 111 #[t59_95, (f77 1), t63_97, t66_99] w100 fun t67_101 w102 =>
 unN Tryz.prog .not t67_101 w102 fun t68_103 w104 =>
 condW t68_103 (
 K79 .ret (pf 70 (pf 70 (pf 70 (pf 70 (pf 70 (pf 70 (pf 70 (pf 70 (pf 70 (pf 70 (pf 70 (pf 70 (pf 70 (pf 70 (pf 70 (pf 70 (pf 70 (pf 70 (pf 70 (pf 70 (pf 70 (pf 70 f77 51 t51_80) 52 (f77 50)) 53 t53_82) 54 t54_84) 10 t10_86) 9 (f77 50)) 55 t55_89) 56 t56_91) 57 (f77 50)) 58 t58_93) 11 t58_93) 59 t59_95) 60 (f77 1)) 61 (f77 2)) 62 t58_93) 63 t63_97) 64 (f77 3)) 65 t58_93) 66 t66_99) 67 t67_101) 68 t68_103) 8 (.bool false)) w104) (
 binN Tryz.prog .add 3 true (f77 50) (.int .i64 1) w104 fun t69_105 w106 =>
 K79 .normal (pf 70 (pf 70 (pf 70 (pf 70 (pf 70 (pf 70 (pf 70 (pf 70 (pf 70 (pf 70 (pf 70 (pf 70 (pf 70 (pf 70 (pf 70 (pf 70 (pf 70 (pf 70 (pf 70 (pf 70 (pf 70 (pf 70 (pf 70 f77 51 t51_80) 52 (f77 50)) 53 t53_82) 54 t54_84) 10 t10_86) 9 (f77 50)) 55 t55_89) 56 t56_91) 57 (f77 50)) 58 t58_93) 11 t58_93) 59 t59_95) 60 (f77 1)) 61 (f77 2)) 62 t58_93) 63 t63_97) 64 (f77 3)) 65 t58_93) 66 t66_99) 67 t67_101) 68 t68_103) 69 t69_105) 50 t69_105) w106)) (
 K79 (.exit 0) (pf 70 f77 51 t51_80) w81)) (pf 70 (pf 70 (pf 70 (pf 70 (pf 70 (pf 70 (pf 70 (pf 70 (pf 70 (pf 70 (pf 70 (pf 70 (pf 70 (pf 70 (pf 70 (pf 70 (pf 70 (pf 70 (pf 70 (pf 70 (pf 70 (pf 70 (pf 70 (pf 70 (pf 70 (pf 70 (pf 70 (pf 70 (pf 70 (pf 70 (pf 70 (pf 70 (pf 70 (pf 70 (pf 70 (pf 70 (pf 70 (pf 70 (pf 70 (pf 70 (pf 70 (argF [x0, x1, x2, x3]) 4 t4_0) 8 (.bool false)) 12 t12_2) 13 t13_4) 14 t14_6) 15 t14_6) 16 t16_8) 17 t17_10) 18 t18_12) 19 t19_14) 20 t19_14) 21 t21_16) 22 t22_18) 23 t23_20) 24 t23_20) 25 t25_22) 26 t26_24) 27 t27_26) 29 t29_28) 30 t30_30) 28 t28_32) 31 t31_38) 32 t32_40) 33 t33_42) 34 t34_44) 35 t34_44) 36 t36_46) 37 t37_48) 38 t38_50) 39 t39_52) 40 t40_54) 41 t40_54) 42 t42_56) 43 t43_58) 44 t44_60) 45 t45_62) 46 t46_64) 47 t47_70) 48 t48_72) 49 t49_74) 50 (.int .i64 0)) w75 K76)
theorem c111_eq (x0 x1 x2 x3 : Value) (w : World) (K : VPost) : c111 x0 x1 x2 x3 w K = WP true Tryz.prog 70 [(1, 4362141696, [0, 1, 2, 4, 8, 24, 40, 72, 136, 256, 768, 1280, 2304, 4096, 12288, 20480, 4096, 4096, 135168, 331776, 528384, 1085440, 2101248, 4259840, 8388608, 8388608, 58720256, 75497472, 142606336, 335544320, 536870912, 536870912, 3758096384, 4831838208, 9126805504], [0, 1, 3, 7, 15, 31, 63, 127, 255, 511, 1023, 2047, 4095, 8191, 16383, 32767, 8191, 8191, 139263, 466943, 991231, 2097151, 4194303, 8388607, 16777215, 16777215, 67108863, 134217727, 268435455, 536870911, 1073741823, 1073741823, 4294967295, 8589934591, 17179869183])] (bodyOf Tryz.f111) (argF [x0, x1, x2, x3]) w [.tmp 8] K := by kernel_rfl
theorem c111_calls (x0 x1 x2 x3 : Value) (w : World) (K : VPost) (h : c111 x0 x1 x2 x3 w K) : Calls Tryz.prog 111 #[x0, x1, x2, x3] w (retK K) :=
 calls_of_WP (c111_eq x0 x1 x2 x3 w K) mixedG Tryz.func111 (by kernel_rfl) Tryz.ntmps111 (by kernel_rfl) (by kernel_rfl) h
def c147 (x0 x1 : Value) (w : World) (K : VPost) : Prop :=
 binN Tryz.prog .geq 3 true x0 (.int .i64 1) w fun t6_0 w1 =>
 gstep t6_0 true w1 (fun K => K x0 w1) fun t8_2 w3 =>
 gstep t6_0 true w3 (fun K => binN Tryz.prog .leq 3 true t8_2 (.int .i64 9) w3 K) fun t9_4 w5 =>
 pickW t6_0 t9_4 (.bool false) w5 fun t10_6 w7 =>
 gstep t10_6 true w7 (fun K => fnW Tryz.prog 144 #[] w7 K) fun t12_8 w9 =>
 gstep t10_6 true w9 (fun K => K x0 w9) fun t13_10 w11 =>
 gstep t10_6 true w11 (fun K => ixvW (.arr 10 true 3) t12_8 t13_10 w11 K) fun t14_12 w13 =>
 gstep t10_6 true w13 (fun K => fldW (some (false, 2, 1)) t14_12 w13 K) fun t15_14 w15 =>
 gstep t10_6 true w15 (fun K => K x1 w15) fun t16_16 w17 =>
 gstep t10_6 true w17 (fun K => binN Tryz.prog .eql 3 false t15_14 t16_16 w17 K) fun t17_18 w19 =>
 pickW t10_6 t17_18 (.bool false) w19 fun t18_20 w21 =>
 condW t18_20 (
 K (.int .i64 1) w21) (
 K (.int .i64 0) w21)
theorem c147_eq (x0 x1 : Value) (w : World) (K : VPost) : c147 x0 x1 w K = WP true Tryz.prog 19 [] (bodyOf Tryz.f147) (argF [x0, x1]) w [.tmp 4] K := by kernel_rfl
theorem c147_calls (x0 x1 : Value) (w : World) (K : VPost) (h : c147 x0 x1 w K) : Calls Tryz.prog 147 #[x0, x1] w (retK K) :=
 calls_of_WP (c147_eq x0 x1 w K) mixedG Tryz.func147 (by kernel_rfl) Tryz.ntmps147 (by kernel_rfl) (by kernel_rfl) h
def c150 (x0 : Value) (w : World) (K : VPost) : Prop :=
 binN Tryz.prog .or 5 true x0 (.int .u8 32) w fun t4_0 w1 =>
 binN Tryz.prog .geq 5 true t4_0 (.int .u8 97) w1 fun t5_2 w3 =>
 gstep t5_2 true w3 (fun K => K x0 w3) fun t7_4 w5 =>
 gstep t5_2 true w5 (fun K => binN Tryz.prog .or 5 true t7_4 (.int .u8 32) w5 K) fun t8_6 w7 =>
 gstep t5_2 true w7 (fun K => binN Tryz.prog .leq 5 true t8_6 (.int .u8 122) w7 K) fun t9_8 w9 =>
 pickW t5_2 t9_8 (.bool false) w9 fun t10_10 w11 =>
 K t10_10 w11
theorem c150_eq (x0 : Value) (w : World) (K : VPost) : c150 x0 w K = WP true Tryz.prog 11 [] (bodyOf Tryz.f150) (argF [x0]) w [.tmp 2] K := by kernel_rfl
theorem c150_calls (x0 : Value) (w : World) (K : VPost) (h : c150 x0 w K) : Calls Tryz.prog 150 #[x0] w (retK K) :=
 calls_of_WP (c150_eq x0 w K) mixedG Tryz.func150 (by kernel_rfl) Tryz.ntmps150 (by kernel_rfl) (by kernel_rfl) h
def c146 (x0 x1 : Value) (w : World) (K : VPost) : Prop :=
 boxW 25 x0 w fun t2_0 w1 =>
 boxW 3 x1 w1 fun t3_2 w3 =>
 offW (some 0) t2_0 w3.drew fun t8_4 w5 =>
 loadW (some (false, 1)) t8_4 w5 fun t9_6 w7 =>
 bindV (fun (t7_9 : Value) (t10_10 : Value) (t5_11 : Value) (w13 : World) =>
 storeW (some (true, 3)) t5_11 t10_10 w13 fun w14 =>
 offW (some 3) t2_0 w14 fun t11_15 w16 =>
 loadW (some (false, 1)) t11_15 w16 fun t12_17 w18 =>
 lenW Tryz.prog (some true) #[22] 3 #[t12_17] w18 fun t13_19 w20 =>
 offW (some 1) t5_11 w20 fun t14_21 w22 =>
 loadW (some (false, 1)) t14_21 w22 fun t15_23 w24 =>
 binN Tryz.prog .gtr 3 false t13_19 t15_23 w24 fun t16_25 w26 =>
 gstep t16_25 false w26 (fun K => offW (some 0) t2_0 w26 K) fun t18_27 w28 =>
 gstep t16_25 false w28 (fun K => loadW (some (false, 1)) t18_27 w28 K) fun t19_29 w30 =>
 gstep t16_25 false w30 (fun K => binN Tryz.prog .eql 3 true t19_29 (.int .i64 3) w30 K) fun t20_31 w32 =>
 gstep t16_25 false w32 (fun K => K t20_31 w32) fun t21_33 w34 =>
 gstep t21_33 true w34 (fun K => offW (some 3) t2_0 w34 K) fun t22_35 w36 =>
 gstep t21_33 true w36 (fun K => loadW (some (false, 1)) t22_35 w36 K) fun t23_37 w38 =>
 gstep t21_33 true w38 (fun K => lenW Tryz.prog (some true) #[22] 3 #[t23_37] w38 K) fun t24_39 w40 =>
 gstep t21_33 true w40 (fun K => binN Tryz.prog .eql 3 true t24_39 (.int .i64 0) w40 K) fun t25_41 w42 =>
 gstep t16_25 false w42 (fun K => pickW t21_33 t25_41 (.bool false) w42 K) fun t26_43 w44 =>
 pickW t16_25 (.bool true) t26_43 w44 fun t27_45 w46 =>
 condW t27_45 (
 K (.bool false) w46) (
 insW Tryz.prog (Instr.makeFunc (.func 173) #[] #[t3_2]) w46 fun t28_47 w48 =>
 offW (some 3) t2_0 w48 fun t29_49 w50 =>
 loadW (some (false, 1)) t29_49 w50 fun t30_51 w52 =>
 fnW Tryz.prog 176 #[t30_51, t28_47] w52 fun t32_53 w54 =>
 unN Tryz.prog .not t32_53 w54 fun t33_55 w56 =>
 K t33_55 w56)) fun J8 =>
 (fnW Tryz.prog 144 #[] w7 fun t7_57 w58 =>
 (loadW (some (false, 1)) t8_4 w58 fun t9_59 w60 => t9_59 = t9_6 ∧ w60 = w58) ∧
 ixvW (.arr 10 true 3) t7_57 t9_6 w58 fun t10_61 w62 =>
 allocW (zeroO Tryz.prog 192) 192 w62 fun t5_63 w64 =>
 (loadW (some (false, 1)) t8_4 w64 fun t9_65 w66 => t9_65 = t9_6 ∧ w66 = w64) ∧
 J8 t7_57 t10_61 t5_63 w64) ∧
 (allocW (zeroO Tryz.prog 192) 192 w7 fun t5_67 w68 =>
 (loadW (some (false, 1)) t8_4 w68 fun t9_69 w70 => t9_69 = t9_6 ∧ w70 = w68) ∧
 fnW Tryz.prog 144 #[] w68 fun t7_71 w72 =>
 (loadW (some (false, 1)) t8_4 w72 fun t9_73 w74 => t9_73 = t9_6 ∧ w74 = w72) ∧
 ixvW (.arr 10 true 3) t7_71 t9_6 w72 fun t10_75 w76 =>
 J8 t7_71 t10_75 t5_67 w76)
theorem c146_eq (x0 x1 : Value) (w : World) (K : VPost) : c146 x0 x1 w K = WP true Tryz.prog 34 [(1, 49, [0, 0, 2, 5, 0, 31], [0, 0, 2, 7, 0, 31])] (bodyOf Tryz.f146) (argF [x0, x1]) w [.tmp 4] K := by kernel_rfl
theorem c146_calls (x0 x1 : Value) (w : World) (K : VPost) (h : c146 x0 x1 w K) : Calls Tryz.prog 146 #[x0, x1] w (retK K) :=
 calls_of_WP (c146_eq x0 x1 w K) mixedG Tryz.func146 (by kernel_rfl) Tryz.ntmps146 (by kernel_rfl) (by kernel_rfl) h
def c173 (x0 x1 : Value) (w : World) (K : VPost) : Prop :=
 boxW 95 x0 w fun t2_0 w1 =>
 loadW (some (true, 5)) t2_0 w1.drew fun t4_2 w3 =>
 fnW Tryz.prog 174 #[t4_2] w3 fun t5_4 w5 =>
 unN Tryz.prog .not t5_4 w5 fun t6_6 w7 =>
 gstep t6_6 false w7 (fun K => loadW (some (true, 5)) t2_0 w7 K) fun t8_8 w9 =>
 gstep t6_6 false w9 (fun K => loadW (some (false, 1)) x1 w9 K) fun t10_10 w11 =>
 gstep t6_6 false w11 (fun K => fnW Tryz.prog 175 #[t8_8] w11 K) fun t9_12 w13 =>
 (gstep t6_6 false w13 (fun K => loadW (some (false, 1)) x1 w13 K) fun t10_14 w15 => t10_14 = t10_10 ∧ w15 = w13) ∧
 gstep t6_6 false w13 (fun K => binN Tryz.prog .gtr 3 false t9_12 t10_10 w13 K) fun t11_16 w17 =>
 pickW t6_6 (.bool true) t11_16 w17 fun t12_18 w19 =>
 K t12_18 w19
theorem c173_eq (x0 x1 : Value) (w : World) (K : VPost) : c173 x0 x1 w K = WP true Tryz.prog 13 [(1, 34, [0, 1, 2, 6, 8, 24, 8, 104, 136, 511], [0, 1, 3, 7, 15, 31, 15, 127, 255, 511])] (bodyOf Tryz.f173) (argF [x0, x1]) w [.tmp 3] K := by kernel_rfl
theorem c173_calls (x0 x1 : Value) (w : World) (K : VPost) (h : c173 x0 x1 w K) : Calls Tryz.prog 173 #[x0, x1] w (retK K) :=
 calls_of_WP (c173_eq x0 x1 w K) mixedG Tryz.func173 (by kernel_rfl) Tryz.ntmps173 (by kernel_rfl) (by kernel_rfl) h
def c145 (x0 x1 : Value) (w : World) (K : VPost) : Prop :=
 boxW 25 x0 w fun t2_0 w1 =>
 offW (some 0) t2_0 w1 fun t5_2 w3 =>
 loadW (some (false, 1)) t5_2 w3 fun t6_4 w5 =>
 binN Tryz.prog .eql 3 true t6_4 (.int .i64 1) w5 fun t8_6 w7 =>
 condW t8_6 (
 offW (some 1) t2_0 w7 fun t9_8 w9 =>
 loadW (some (false, 1)) t9_8 w9 fun t10_10 w11 =>
 binN Tryz.prog .geq 3 true t10_10 (.int .i64 0) w11 fun t11_12 w13 =>
 gstep t11_12 true w13 (fun K => offW (some 1) t2_0 w13 K) fun t13_14 w15 =>
 gstep t11_12 true w15 (fun K => loadW (some (false, 1)) t13_14 w15 K) fun t14_16 w17 =>
 gstep t11_12 true w17 (fun K => K x1 w17) fun t15_18 w19 =>
 gstep t11_12 true w19 (fun K => binN Tryz.prog .lss 3 false t14_16 t15_18 w19 K) fun t16_20 w21 =>
 pickW t11_12 t16_20 (.bool false) w21 fun t17_22 w23 =>
 gstep t17_22 true w23 (fun K => offW (some 2) t2_0 w23 K) fun t19_24 w25 =>
 gstep t17_22 true w25 (fun K => loadW (some (false, 1)) t19_24 w25 K) fun t20_26 w27 =>
 gstep t17_22 true w27 (fun K => binW Tryz.prog .eql 9 true t20_26 (.string ⟨#[]⟩) w27 K) fun t21_28 w29 =>
 pickW t17_22 t21_28 (.bool false) w29 fun t22_30 w31 =>
 K t22_30 w31) (
 binN Tryz.prog .eql 3 true t6_4 (.int .i64 4) w7 fun t24_32 w33 =>
 condW t24_32 (
 offW (some 1) t2_0 w33 fun t25_34 w35 =>
 loadW (some (false, 1)) t25_34 w35 fun t26_36 w37 =>
 binN Tryz.prog .eql 3 true t26_36 (.int .i64 0) w37 fun t27_38 w39 =>
 gstep t27_38 true w39 (fun K => offW (some 2) t2_0 w39 K) fun t29_40 w41 =>
 gstep t27_38 true w41 (fun K => loadW (some (false, 1)) t29_40 w41 K) fun t30_42 w43 =>
 gstep t27_38 true w43 (fun K => fnW Tryz.prog 76 #[t30_42] w43 K) fun t31_44 w45 =>
 pickW t27_38 t31_44 (.bool false) w45 fun t32_46 w47 =>
 K t32_46 w47) (
 binN Tryz.prog .eql 3 true t6_4 (.int .i64 9) w33 fun t34_48 w49 =>
 condW t34_48 (
 offW (some 1) t2_0 w49 fun t35_50 w51 =>
 loadW (some (false, 1)) t35_50 w51 fun t36_52 w53 =>
 binN Tryz.prog .geq 3 true t36_52 (.int .i64 0) w53 fun t37_54 w55 =>
 gstep t37_54 true w55 (fun K => offW (some 1) t2_0 w55 K) fun t39_56 w57 =>
 gstep t37_54 true w57 (fun K => loadW (some (false, 1)) t39_56 w57 K) fun t40_58 w59 =>
 gstep t37_54 true w59 (fun K => binN Tryz.prog .leq 3 true t40_58 (.int .i64 31) w59 K) fun t41_60 w61 =>
 pickW t37_54 t41_60 (.bool false) w61 fun t42_62 w63 =>
 gstep t42_62 true w63 (fun K => offW (some 2) t2_0 w63 K) fun t44_64 w65 =>
 gstep t42_62 true w65 (fun K => loadW (some (false, 1)) t44_64 w65 K) fun t45_66 w67 =>
 gstep t42_62 true w67 (fun K => fnW Tryz.prog 76 #[t45_66] w67 K) fun t46_68 w69 =>
 pickW t42_62 t46_68 (.bool false) w69 fun t47_70 w71 =>
 K t47_70 w71) (
 offW (some 1) t2_0 w49 fun t48_72 w73 =>
 loadW (some (false, 1)) t48_72 w73 fun t49_74 w75 =>
 binN Tryz.prog .eql 3 true t49_74 (.int .i64 0) w75 fun t50_76 w77 =>
 gstep t50_76 true w77 (fun K => offW (some 2) t2_0 w77 K) fun t52_78 w79 =>
 gstep t50_76 true w79 (fun K => loadW (some (false, 1)) t52_78 w79 K) fun t53_80 w81 =>
 gstep t50_76 true w81 (fun K => binW Tryz.prog .eql 9 true t53_80 (.string ⟨#[]⟩) w81 K) fun t54_82 w83 =>
 pickW t50_76 t54_82 (.bool false) w83 fun t55_84 w85 =>
 K t55_84 w85)))
theorem c145_eq (x0 x1 : Value) (w : World) (K : VPost) : c145 x0 x1 w K = WP true Tryz.prog 56 [] (bodyOf Tryz.f145) (argF [x0, x1]) w [.tmp 4] K := by kernel_rfl
theorem c145_calls (x0 x1 : Value) (w : World) (K : VPost) (h : c145 x0 x1 w K) : Calls Tryz.prog 145 #[x0, x1] w (retK K) :=
 calls_of_WP (c145_eq x0 x1 w K) mixedG Tryz.func145 (by kernel_rfl) Tryz.ntmps145 (by kernel_rfl) (by kernel_rfl) h
def c114 (x0 : Value) (w : World) (K : VPost) : Prop :=
 binW Tryz.prog .eql 9 true x0 (.string ⟨#[]⟩) w fun t5_0 w1 =>
 gstep t5_0 false w1 (fun K => K x0 w1) fun t7_2 w3 =>
 gstep t5_0 false w3 (fun K => ixvW .str t7_2 (.int .i64 0) w3 K) fun t8_4 w5 =>
 gstep t5_0 false w5 (fun K => fnW Tryz.prog 150 #[t8_4] w5 K) fun t9_6 w7 =>
 gstep t5_0 false w7 (fun K => unN Tryz.prog .not t9_6 w7 K) fun t10_8 w9 =>
 pickW t5_0 (.bool true) t10_8 w9 fun t11_10 w11 =>
 condW t11_10 (
 K (.bool false) w11) (
 bindX (endW Tryz.prog [.tmp 2] K) fun K12 =>
 bindX (seqX (fun _ w15 =>
 K (.bool true) w15) K12) fun K13 =>
 lenW Tryz.prog (some false) #[9] 3 #[x0] w11 fun t13_16 w17 =>
 bindX (blkX 0 K13) fun K18 =>
 loopW (fun f19 w20 K21 =>
 binN Tryz.prog .lss 3 false (f19 14) (f19 13) w20 fun t15_22 w23 =>
 condW t15_22 (
 ixvW .str (f19 0) (f19 14) w23 fun t19_24 w25 =>
 fnW Tryz.prog 151 #[t19_24] w25 fun t20_26 w27 =>
 unN Tryz.prog .not t20_26 w27 fun t21_28 w29 =>
 condW t21_28 (
 K21 .ret (pf 23 (pf 23 (pf 23 (pf 23 (pf 23 (pf 23 (pf 23 (pf 23 (pf 23 f19 15 t15_22) 16 (f19 14)) 3 (f19 14)) 17 (f19 0)) 18 (f19 14)) 19 t19_24) 20 t20_26) 21 t21_28) 2 (.bool false)) w29) (
 binN Tryz.prog .add 3 true (f19 14) (.int .i64 1) w29 fun t22_30 w31 =>
 K21 .normal (pf 23 (pf 23 (pf 23 (pf 23 (pf 23 (pf 23 (pf 23 (pf 23 (pf 23 (pf 23 f19 15 t15_22) 16 (f19 14)) 3 (f19 14)) 17 (f19 0)) 18 (f19 14)) 19 t19_24) 20 t20_26) 21 t21_28) 22 t22_30) 14 t22_30) w31)) (
 K21 (.exit 0) (pf 23 f19 15 t15_22) w23)) (pf 23 (pf 23 (pf 23 (pf 23 (pf 23 (pf 23 (pf 23 (pf 23 (pf 23 (pf 23 (pf 23 (pf 23 (argF [x0]) 2 (.bool false)) 4 x0) 5 t5_0) 6 t5_0) 7 t7_2) 8 t8_4) 9 t9_6) 10 t10_8) 11 t11_10) 12 x0) 13 t13_16) 14 (.int .i64 0)) w17 K18)
theorem c114_eq (x0 : Value) (w : World) (K : VPost) : c114 x0 w K = WP true Tryz.prog 23 [] (bodyOf Tryz.f114) (argF [x0]) w [.tmp 2] K := by kernel_rfl
theorem c114_calls (x0 : Value) (w : World) (K : VPost) (h : c114 x0 w K) : Calls Tryz.prog 114 #[x0] w (retK K) :=
 calls_of_WP (c114_eq x0 w K) mixedG Tryz.func114 (by kernel_rfl) Tryz.ntmps114 (by kernel_rfl) (by kernel_rfl) h
def c151 (x0 : Value) (w : World) (K : VPost) : Prop :=
 fnW Tryz.prog 150 #[x0] w fun t4_0 w1 =>
 gstep t4_0 false w1 (fun K => K x0 w1) fun t6_2 w3 =>
 gstep t4_0 false w3 (fun K => binN Tryz.prog .geq 5 true t6_2 (.int .u8 48) w3 K) fun t7_4 w5 =>
 gstep t4_0 false w5 (fun K => K t7_4 w5) fun t8_6 w7 =>
 gstep t8_6 true w7 (fun K => K x0 w7) fun t9_8 w9 =>
 gstep t8_6 true w9 (fun K => binN Tryz.prog .leq 5 true t9_8 (.int .u8 57) w9 K) fun t10_10 w11 =>
 gstep t4_0 false w11 (fun K => pickW t8_6 t10_10 (.bool false) w11 K) fun t11_12 w13 =>
 pickW t4_0 (.bool true) t11_12 w13 fun t12_14 w15 =>
 gstep t12_14 false w15 (fun K => K x0 w15) fun t14_16 w17 =>
 gstep t12_14 false w17 (fun K => binN Tryz.prog .eql 5 true t14_16 (.int .u8 95) w17 K) fun t15_18 w19 =>
 pickW t12_14 (.bool true) t15_18 w19 fun t16_20 w21 =>
 K t16_20 w21
theorem c151_eq (x0 : Value) (w : World) (K : VPost) : c151 x0 w K = WP true Tryz.prog 17 [] (bodyOf Tryz.f151) (argF [x0]) w [.tmp 2] K := by kernel_rfl
theorem c151_calls (x0 : Value) (w : World) (K : VPost) (h : c151 x0 w K) : Calls Tryz.prog 151 #[x0] w (retK K) :=
 calls_of_WP (c151_eq x0 w K) mixedG Tryz.func151 (by kernel_rfl) Tryz.ntmps151 (by kernel_rfl) (by kernel_rfl) h
def c139 (x0 x1 x2 : Value) (w : World) (K : VPost) : Prop :=
 boxW 25 x0 w fun t3_0 w1 =>
 loadW (some (true, 5)) t3_0 w1 fun t10_2 w3 =>
 dynW Tryz.prog x2 #[t10_2, x1] w3 fun t12_4 w5 =>
 unN Tryz.prog .not t12_4 w5 fun t13_6 w7 =>
 condW t13_6 (
 K (.bool false) w7) (
 bindX (endW Tryz.prog [.tmp 6] K) fun K8 =>
 bindX (seqX (fun _ w11 =>
 K (.bool true) w11) K8) fun K9 =>
 offW (some 4) t3_0 w7 fun t14_12 w13 =>
 loadW (some (false, 1)) t14_12 w13 fun t15_14 w15 =>
 lenW Tryz.prog (some true) #[23] 3 #[t15_14] w15 fun t16_16 w17 =>
 bindX (blkX 0 K9) fun K18 =>
 loopW (fun f19 w20 K21 =>
 binN Tryz.prog .lss 3 false (f19 17) (f19 16) w20 fun t18_22 w23 =>
 condW t18_22 (
 idxW (some (none, 5)) (f19 15) (f19 17) w23 fun t20_24 w25 =>
 loadW (some (true, 5)) t20_24 w25 fun t21_26 w27 =>
 allocW (zeroO Tryz.prog 25) 25 w27 fun t8_28 w29 =>
 storeW (some (true, 5)) t8_28 t21_26 w29 fun w30 =>
 loadW (some (true, 5)) t8_28 w30.drew fun t22_31 w32 =>
 offW (some 0) (f19 3) w32 fun t24_33 w34 =>
 loadW (some (false, 1)) t24_33 w34 fun t25_35 w36 =>
 fnW Tryz.prog 147 #[t25_35, (f19 17)] w36 fun t27_37 w38 =>
 (loadW (some (true, 5)) t8_28 w38 fun t22_39 w40 => t22_39 = t22_31 ∧ w40 = w38) ∧
 binN Tryz.prog .add 3 false (f19 1) t27_37 w38 fun t28_41 w42 =>
 fnW Tryz.prog 139 #[t22_31, t28_41, (f19 2)] w42 fun t30_43 w44 =>
 unN Tryz.prog .not t30_43 w44 fun t31_45 w46 =>
 condW t31_45 (
 K21 .ret (pf 33 (pf 33 (pf 33 (pf 33 (pf 33 (pf 33 (pf 33 (pf 33 (pf 33 (pf 33 (pf 33 (pf 33 (pf 33 (pf 33 (pf 33 (pf 33 (pf 33 f19 18 t18_22) 19 (f19 17)) 20 t20_24) 21 t21_26) 8 t8_28) 7 (f19 17)) 22 t22_31) 23 (f19 1)) 24 t24_33) 25 t25_35) 26 (f19 17)) 29 (f19 2)) 27 t27_37) 28 t28_41) 30 t30_43) 31 t31_45) 6 (.bool false)) w46) (
 binN Tryz.prog .add 3 true (f19 17) (.int .i64 1) w46 fun t32_47 w48 =>
 K21 .normal (pf 33 (pf 33 (pf 33 (pf 33 (pf 33 (pf 33 (pf 33 (pf 33 (pf 33 (pf 33 (pf 33 (pf 33 (pf 33 (pf 33 (pf 33 (pf 33 (pf 33 (pf 33 f19 18 t18_22) 19 (f19 17)) 20 t20_24) 21 t21_26) 8 t8_28) 7 (f19 17)) 22 t22_31) 23 (f19 1)) 24 t24_33) 25 t25_35) 26 (f19 17)) 29 (f19 2)) 27 t27_37) 28 t28_41) 30 t30_43) 31 t31_45) 32 t32_47) 17 t32_47) w48)) (
 K21 (.exit 0) (pf 33 f19 18 t18_22) w23)) (pf 33 (pf 33 (pf 33 (pf 33 (pf 33 (pf 33 (pf 33 (pf 33 (pf 33 (pf 33 (pf 33 (argF [x0, x1, x2]) 3 t3_0) 6 (.bool false)) 9 x2) 10 t10_2) 11 x1) 12 t12_4) 13 t13_6) 14 t14_12) 15 t15_14) 16 t16_16) 17 (.int .i64 0)) w17 K18)
theorem c139_eq (x0 x1 x2 : Value) (w : World) (K : VPost) : c139 x0 x1 x2 w K = WP true Tryz.prog 33 [(6, 288, [0, 0, 0, 4, 0, 24, 34, 0, 225, 256], [0, 0, 0, 4, 0, 28, 62, 0, 255, 511])] (bodyOf Tryz.f139) (argF [x0, x1, x2]) w [.tmp 6] K := by kernel_rfl
theorem c139_calls (x0 x1 x2 : Value) (w : World) (K : VPost) (h : c139 x0 x1 x2 w K) : Calls Tryz.prog 139 #[x0, x1, x2] w (retK K) :=
 calls_of_WP (c139_eq x0 x1 x2 w K) mixedG Tryz.func139 (by kernel_rfl) Tryz.ntmps139 (by kernel_rfl) (by kernel_rfl) h
def c44 (x0 x1 : Value) (w : World) (K : VPost) : Prop :=
 boxW 28 x0 w fun t2_0 w1 =>
 offW (some 3) t2_0 w1.drew fun t7_2 w3 =>
 loadW (some (true, 5)) t7_2 w3 fun t8_4 w5 =>
 offW (some 8) t2_0 w5 fun t11_6 w7 =>
 loadW (some (true, 5)) t11_6 w7 fun t12_8 w9 =>
 offW (some 2) t2_0 w9 fun t16_10 w11 =>
 loadW (some (false, 1)) t16_10 w11 fun t17_12 w13 =>
 lenW Tryz.prog (some false) #[9] 3 #[t17_12] w13 fun t18_14 w15 =>
 fnW Tryz.prog 72 #[t8_4, x1] w15 fun t10_16 w17 =>
 (loadW (some (true, 5)) t11_6 w17 fun t12_18 w19 => t12_18 = t12_8 ∧ w19 = w17) ∧
 (loadW (some (false, 1)) t16_10 w17 fun t17_20 w21 => t17_20 = t17_12 ∧ w21 = w17) ∧
 fnW Tryz.prog 72 #[t12_8, x1] w17 fun t14_22 w23 =>
 (loadW (some (false, 1)) t16_10 w23 fun t17_24 w25 => t17_24 = t17_12 ∧ w25 = w23) ∧
 binN Tryz.prog .add 3 false t10_16 t14_22 w23 fun t15_26 w27 =>
 binN Tryz.prog .add 3 false t15_26 t18_14 w27 fun t19_28 w29 =>
 bindX (endW Tryz.prog [.tmp 4] K) fun K30 =>
 bindX (seqX (fun f32 w33 =>
 binN Tryz.prog .add 3 true (f32 1) (.int .i64 1) w33 fun t53_34 w35 =>
 insW Tryz.prog (Builtin.min_ #[3, 3] 3 #[(f32 5), t53_34]) w35 fun t54_36 w37 =>
 K t54_36 w37) K30) fun K31 =>
 bindX (blkX 0 K31) fun K38 =>
 loopW (fun f39 w40 K41 =>
 offW (some 14) (f39 2) w40 fun t21_42 w43 =>
 loadW (some (false, 1)) t21_42 w43 fun t22_44 w45 =>
 lenW Tryz.prog (some true) #[26] 3 #[t22_44] w45 fun t23_46 w47 =>
 binN Tryz.prog .lss 3 false (f39 6) t23_46 w47 fun t24_48 w49 =>
 gstep t24_48 true w49 (fun K => K (f39 5) w49) fun t26_50 w51 =>
 gstep t24_48 true w51 (fun K => K (f39 1) w51) fun t27_52 w53 =>
 gstep t24_48 true w53 (fun K => binN Tryz.prog .leq 3 false t26_50 t27_52 w53 K) fun t28_54 w55 =>
 pickW t24_48 t28_54 (.bool false) w55 fun t29_56 w57 =>
 condW t29_56 (
 offW (some 14) (f39 2) w57.drew fun t33_58 w59 =>
 loadW (some (false, 1)) t33_58 w59 fun t34_60 w61 =>
 idxW (some (none, 6)) t34_60 (f39 6) w61 fun t36_62 w63 =>
 offW (some 0) t36_62 w63 fun t37_64 w65 =>
 loadW (some (false, 1)) t37_64 w65 fun t38_66 w67 =>
 lenW Tryz.prog (some false) #[9] 3 #[t38_66] w67 fun t39_68 w69 =>
 binN Tryz.prog .add 3 true (.int .i64 1) t39_68 w69 fun t40_70 w71 =>
 offW (some 14) (f39 2) w71 fun t41_72 w73 =>
 loadW (some (false, 1)) t41_72 w73 fun t42_74 w75 =>
 idxW (some (none, 6)) t42_74 (f39 6) w75 fun t44_76 w77 =>
 offW (some 1) t44_76 w77 fun t45_78 w79 =>
 loadW (some (true, 5)) t45_78 w79 fun t46_80 w81 =>
 fnW Tryz.prog 72 #[t46_80, (f39 1)] w81 fun t48_82 w83 =>
 (loadW (some (false, 1)) t33_58 w83 fun t34_84 w85 => t34_84 = t34_60 ∧ w85 = w83) ∧
 (loadW (some (false, 1)) t37_64 w83 fun t38_86 w87 => t38_86 = t38_66 ∧ w87 = w83) ∧
 binN Tryz.prog .add 3 false t40_70 t48_82 w83 fun t49_88 w89 =>
 binN Tryz.prog .add 3 false (f39 5) t49_88 w89 fun t50_90 w91 =>
 binN Tryz.prog .add 3 true (f39 6) (.int .i64 1) w91 fun t31_92 w93 =>
 K41 .normal (pf 55 (pf 55 (pf 55 (pf 55 (pf 55 (pf 55 (pf 55 (pf 55 (pf 55 (pf 55 (pf 55 (pf 55 (pf 55 (pf 55 (pf 55 (pf 55 (pf 55 (pf 55 (pf 55 (pf 55 (pf 55 (pf 55 (pf 55 (pf 55 (pf 55 (pf 55 (pf 55 (pf 55 (pf 55 (pf 55 (pf 55 (pf 55 (pf 55 f39 20 (f39 6)) 21 t21_42) 22 t22_44) 23 t23_46) 24 t24_48) 25 t24_48) 26 t26_50) 27 t27_52) 28 t28_54) 29 t29_56) 32 (f39 5)) 33 t33_58) 34 t34_60) 35 (f39 6)) 36 t36_62) 37 t37_64) 38 t38_66) 39 t39_68) 40 t40_70) 41 t41_72) 42 t42_74) 43 (f39 6)) 44 t44_76) 45 t45_78) 46 t46_80) 47 (f39 1)) 48 t48_82) 49 t49_88) 50 t50_90) 5 t50_90) 30 (f39 6)) 31 t31_92) 6 t31_92) w93) (
 K41 (.exit 0) (pf 55 (pf 55 (pf 55 (pf 55 (pf 55 (pf 55 (pf 55 (pf 55 (pf 55 (pf 55 f39 20 (f39 6)) 21 t21_42) 22 t22_44) 23 t23_46) 24 t24_48) 25 t24_48) 26 t26_50) 27 t27_52) 28 t28_54) 29 t29_56) w57)) (pf 55 (pf 55 (pf 55 (pf 55 (pf 55 (pf 55 (pf 55 (pf 55 (pf 55 (pf 55 (pf 55 (pf 55 (pf 55 (pf 55 (pf 55 (pf 55 (pf 55 (argF [x0, x1]) 2 t2_0) 4 (.int .i64 0)) 7 t7_2) 8 t8_4) 9 x1) 11 t11_6) 12 t12_8) 13 x1) 16 t16_10) 17 t17_12) 18 t18_14) 10 t10_16) 14 t14_22) 15 t15_26) 19 t19_28) 5 t19_28) 6 (.int .i64 0)) w29 K38
theorem c44_eq (x0 x1 : Value) (w : World) (K : VPost) : c44 x0 x1 w K = WP true Tryz.prog 55 [(1, 136, [0, 1, 0, 6, 0, 16, 0, 104, 136, 0, 512, 1024, 2304, 8191], [0, 1, 0, 7, 0, 16, 0, 127, 255, 0, 512, 1536, 4095, 8191]), (5, 589824, [0, 0, 2, 0, 12, 16, 32, 64, 128, 0, 512, 0, 3072, 4096, 8192, 0, 49152, 65792, 131073, 524287], [0, 0, 2, 0, 14, 30, 62, 126, 254, 0, 512, 0, 3584, 7680, 15872, 0, 65024, 131070, 262143, 524287])] (bodyOf Tryz.f44) (argF [x0, x1]) w [.tmp 4] K := by kernel_rfl
theorem c44_calls (x0 x1 : Value) (w : World) (K : VPost) (h : c44 x0 x1 w K) : Calls Tryz.prog 44 #[x0, x1] w (retK K) :=
 calls_of_WP (c44_eq x0 x1 w K) mixedG Tryz.func44 (by kernel_rfl) Tryz.ntmps44 (by kernel_rfl) (by kernel_rfl) h
def c9 (x0 x1 : Value) (w : World) (K : VPost) : Prop :=
 boxW 28 x0 w fun t2_0 w1 =>
 boxW 28 x1 w1 fun t3_2 w3 =>
 offW (some 0) t2_0 w3 fun t6_4 w5 =>
 loadW (some (false, 1)) t6_4 w5 fun t7_6 w7 =>
 offW (some 0) t3_2 w7 fun t8_8 w9 =>
 loadW (some (false, 1)) t8_8 w9 fun t9_10 w11 =>
 binN Tryz.prog .neq 3 false t7_6 t9_10 w11 fun t10_12 w13 =>
 gstep t10_12 false w13 (fun K => offW (some 1) t2_0 w13 K) fun t12_14 w15 =>
 gstep t10_12 false w15 (fun K => loadW (some (false, 1)) t12_14 w15 K) fun t13_16 w17 =>
 gstep t10_12 false w17 (fun K => offW (some 1) t3_2 w17 K) fun t14_18 w19 =>
 gstep t10_12 false w19 (fun K => loadW (some (false, 1)) t14_18 w19 K) fun t15_20 w21 =>
 gstep t10_12 false w21 (fun K => binN Tryz.prog .neq 3 false t13_16 t15_20 w21 K) fun t16_22 w23 =>
 pickW t10_12 (.bool true) t16_22 w23 fun t17_24 w25 =>
 gstep t17_24 false w25 (fun K => offW (some 2) t2_0 w25 K) fun t19_26 w27 =>
 gstep t17_24 false w27 (fun K => loadW (some (false, 1)) t19_26 w27 K) fun t20_28 w29 =>
 gstep t17_24 false w29 (fun K => offW (some 2) t3_2 w29 K) fun t21_30 w31 =>
 gstep t17_24 false w31 (fun K => loadW (some (false, 1)) t21_30 w31 K) fun t22_32 w33 =>
 gstep t17_24 false w33 (fun K => binW Tryz.prog .neq 9 false t20_28 t22_32 w33 K) fun t23_34 w35 =>
 pickW t17_24 (.bool true) t23_34 w35 fun t24_36 w37 =>
 gstep t24_36 false w37 (fun K => offW (some 13) t2_0 w37 K) fun t26_38 w39 =>
 gstep t24_36 false w39 (fun K => loadW (some (false, 1)) t26_38 w39 K) fun t27_40 w41 =>
 gstep t24_36 false w41 (fun K => offW (some 13) t3_2 w41 K) fun t28_42 w43 =>
 gstep t24_36 false w43 (fun K => loadW (some (false, 1)) t28_42 w43 K) fun t29_44 w45 =>
 gstep t24_36 false w45 (fun K => binN Tryz.prog .neq 3 false t27_40 t29_44 w45 K) fun t30_46 w47 =>
 pickW t24_36 (.bool true) t30_46 w47 fun t31_48 w49 =>
 gstep t31_48 false w49 (fun K => offW (some 14) t2_0 w49 K) fun t33_50 w51 =>
 gstep t31_48 false w51 (fun K => loadW (some (false, 1)) t33_50 w51 K) fun t34_52 w53 =>
 gstep t31_48 false w53 (fun K => lenW Tryz.prog (some true) #[26] 3 #[t34_52] w53 K) fun t35_54 w55 =>
 gstep t31_48 false w55 (fun K => offW (some 14) t3_2 w55 K) fun t36_56 w57 =>
 gstep t31_48 false w57 (fun K => loadW (some (false, 1)) t36_56 w57 K) fun t37_58 w59 =>
 gstep t31_48 false w59 (fun K => lenW Tryz.prog (some true) #[26] 3 #[t37_58] w59 K) fun t38_60 w61 =>
 gstep t31_48 false w61 (fun K => binN Tryz.prog .neq 3 false t35_54 t38_60 w61 K) fun t39_62 w63 =>
 pickW t31_48 (.bool true) t39_62 w63 fun t40_64 w65 =>
 gstep t40_64 false w65 (fun K => offW (some 3) t2_0 w65 K) fun t42_66 w67 =>
 gstep t40_64 false w67 (fun K => loadW (some (true, 5)) t42_66 w67 K) fun t43_68 w69 =>
 gstep t40_64 false w69 (fun K => offW (some 3) t3_2 w69 K) fun t44_70 w71 =>
 gstep t40_64 false w71 (fun K => loadW (some (true, 5)) t44_70 w71 K) fun t45_72 w73 =>
 gstep t40_64 false w73 (fun K => fnW Tryz.prog 31 #[t43_68, t45_72] w73 K) fun t46_74 w75 =>
 gstep t40_64 false w75 (fun K => unN Tryz.prog .not t46_74 w75 K) fun t47_76 w77 =>
 pickW t40_64 (.bool true) t47_76 w77 fun t48_78 w79 =>
 gstep t48_78 false w79 (fun K => offW (some 8) t2_0 w79 K) fun t50_80 w81 =>
 gstep t48_78 false w81 (fun K => loadW (some (true, 5)) t50_80 w81 K) fun t51_82 w83 =>
 gstep t48_78 false w83 (fun K => offW (some 8) t3_2 w83 K) fun t52_84 w85 =>
 gstep t48_78 false w85 (fun K => loadW (some (true, 5)) t52_84 w85 K) fun t53_86 w87 =>
 gstep t48_78 false w87 (fun K => fnW Tryz.prog 31 #[t51_82, t53_86] w87 K) fun t54_88 w89 =>
 gstep t48_78 false w89 (fun K => unN Tryz.prog .not t54_88 w89 K) fun t55_90 w91 =>
 pickW t48_78 (.bool true) t55_90 w91 fun t56_92 w93 =>
 condW t56_92 (
 K (.bool false) w93) (
 bindX (endW Tryz.prog [.tmp 4] K) fun K94 =>
 bindX (seqX (fun _ w97 =>
 K (.bool true) w97) K94) fun K95 =>
 bindX (blkX 0 K95) fun K98 =>
 loopW (fun f99 w100 K101 =>
 offW (some 14) (f99 2) w100 fun t58_102 w103 =>
 loadW (some (false, 1)) t58_102 w103 fun t59_104 w105 =>
 lenW Tryz.prog (some true) #[26] 3 #[t59_104] w105 fun t60_106 w107 =>
 binN Tryz.prog .lss 3 false (f99 5) t60_106 w107 fun t61_108 w109 =>
 condW t61_108 (
 offW (some 14) (f99 2) w109.drew fun t64_110 w111 =>
 loadW (some (false, 1)) t64_110 w111 fun t65_112 w113 =>
 idxW (some (none, 6)) t65_112 (f99 5) w113 fun t67_114 w115 =>
 offW (some 0) t67_114 w115 fun t68_116 w117 =>
 loadW (some (false, 1)) t68_116 w117 fun t69_118 w119 =>
 offW (some 14) (f99 3) w119 fun t70_120 w121 =>
 loadW (some (false, 1)) t70_120 w121 fun t71_122 w123 =>
 idxW (some (none, 6)) t71_122 (f99 5) w123 fun t73_124 w125 =>
 offW (some 0) t73_124 w125 fun t74_126 w127 =>
 loadW (some (false, 1)) t74_126 w127 fun t75_128 w129 =>
 binW Tryz.prog .neq 9 false t69_118 t75_128 w129 fun t76_130 w131 =>
 w131 = w129 ∧
 gstep t76_130 false w131 (fun K => offW (some 14) (f99 2) w131 K) fun t78_132 w133 =>
 gstep t76_130 false w133 (fun K => loadW (some (false, 1)) t78_132 w133 K) fun t79_134 w135 =>
 gstep t76_130 false w135 (fun K => K (f99 5) w135) fun t80_136 w137 =>
 gstep t76_130 false w137 (fun K => idxW (some (none, 6)) t79_134 t80_136 w137 K) fun t81_138 w139 =>
 gstep t76_130 false w139 (fun K => offW (some 1) t81_138 w139 K) fun t82_140 w141 =>
 gstep t76_130 false w141 (fun K => loadW (some (true, 5)) t82_140 w141 K) fun t83_142 w143 =>
 gstep t76_130 false w143 (fun K => offW (some 14) (f99 3) w143 K) fun t84_144 w145 =>
 gstep t76_130 false w145 (fun K => loadW (some (false, 1)) t84_144 w145 K) fun t85_146 w147 =>
 gstep t76_130 false w147 (fun K => K (f99 5) w147) fun t86_148 w149 =>
 gstep t76_130 false w149 (fun K => idxW (some (none, 6)) t85_146 t86_148 w149 K) fun t87_150 w151 =>
 gstep t76_130 false w151 (fun K => offW (some 1) t87_150 w151 K) fun t88_152 w153 =>
 gstep t76_130 false w153 (fun K => loadW (some (true, 5)) t88_152 w153 K) fun t89_154 w155 =>
 gstep t76_130 false w155 (fun K => fnW Tryz.prog 31 #[t83_142, t89_154] w155 K) fun t90_156 w157 =>
 gstep t76_130 false w157 (fun K => unN Tryz.prog .not t90_156 w157 K) fun t91_158 w159 =>
 pickW t76_130 (.bool true) t91_158 w159 fun t92_160 w161 =>
 condW t92_160 (
 K101 .ret (pf 93 (pf 93 (pf 93 (pf 93 (pf 93 (pf 93 (pf 93 (pf 93 (pf 93 (pf 93 (pf 93 (pf 93 (pf 93 (pf 93 (pf 93 (pf 93 (pf 93 (pf 93 (pf 93 (pf 93 (pf 93 (pf 93 (pf 93 (pf 93 (pf 93 (pf 93 (pf 93 (pf 93 (pf 93 (pf 93 (pf 93 (pf 93 (pf 93 (pf 93 (pf 93 f99 57 (f99 5)) 58 t58_102) 59 t59_104) 60 t60_106) 61 t61_108) 64 t64_110) 65 t65_112) 66 (f99 5)) 67 t67_114) 68 t68_116) 69 t69_118) 70 t70_120) 71 t71_122) 72 (f99 5)) 73 t73_124) 74 t74_126) 75 t75_128) 76 t76_130) 77 t76_130) 78 t78_132) 79 t79_134) 80 t80_136) 81 t81_138) 82 t82_140) 83 t83_142) 84 t84_144) 85 t85_146) 86 t86_148) 87 t87_150) 88 t88_152) 89 t89_154) 90 t90_156) 91 t91_158) 92 t92_160) 4 (.bool false)) w161) (
 binN Tryz.prog .add 3 true (f99 5) (.int .i64 1) w161 fun t63_162 w163 =>
 K101 .normal (pf 93 (pf 93 (pf 93 (pf 93 (pf 93 (pf 93 (pf 93 (pf 93 (pf 93 (pf 93 (pf 93 (pf 93 (pf 93 (pf 93 (pf 93 (pf 93 (pf 93 (pf 93 (pf 93 (pf 93 (pf 93 (pf 93 (pf 93 (pf 93 (pf 93 (pf 93 (pf 93 (pf 93 (pf 93 (pf 93 (pf 93 (pf 93 (pf 93 (pf 93 (pf 93 (pf 93 (pf 93 f99 57 (f99 5)) 58 t58_102) 59 t59_104) 60 t60_106) 61 t61_108) 64 t64_110) 65 t65_112) 66 (f99 5)) 67 t67_114) 68 t68_116) 69 t69_118) 70 t70_120) 71 t71_122) 72 (f99 5)) 73 t73_124) 74 t74_126) 75 t75_128) 76 t76_130) 77 t76_130) 78 t78_132) 79 t79_134) 80 t80_136) 81 t81_138) 82 t82_140) 83 t83_142) 84 t84_144) 85 t85_146) 86 t86_148) 87 t87_150) 88 t88_152) 89 t89_154) 90 t90_156) 91 t91_158) 92 t92_160) 62 (f99 5)) 63 t63_162) 5 t63_162) w163)) (
 K101 (.exit 0) (pf 93 (pf 93 (pf 93 (pf 93 (pf 93 f99 57 (f99 5)) 58 t58_102) 59 t59_104) 60 t60_106) 61 t61_108) w109)) (pf 93 (pf 93 (pf 93 (pf 93 (pf 93 (pf 93 (pf 93 (pf 93 (pf 93 (pf 93 (pf 93 (pf 93 (pf 93 (pf 93 (pf 93 (pf 93 (pf 93 (pf 93 (pf 93 (pf 93 (pf 93 (pf 93 (pf 93 (pf 93 (pf 93 (pf 93 (pf 93 (pf 93 (pf 93 (pf 93 (pf 93 (pf 93 (pf 93 (pf 93 (pf 93 (pf 93 (pf 93 (pf 93 (pf 93 (pf 93 (pf 93 (pf 93 (pf 93 (pf 93 (pf 93 (pf 93 (pf 93 (pf 93 (pf 93 (pf 93 (pf 93 (pf 93 (pf 93 (pf 93 (pf 93 (argF [x0, x1]) 2 t2_0) 3 t3_2) 4 (.bool false)) 6 t6_4) 7 t7_6) 8 t8_8) 9 t9_10) 10 t10_12) 11 t10_12) 12 t12_14) 13 t13_16) 14 t14_18) 15 t15_20) 16 t16_22) 17 t17_24) 18 t17_24) 19 t19_26) 20 t20_28) 21 t21_30) 22 t22_32) 23 t23_34) 24 t24_36) 25 t24_36) 26 t26_38) 27 t27_40) 28 t28_42) 29 t29_44) 30 t30_46) 31 t31_48) 32 t31_48) 33 t33_50) 34 t34_52) 35 t35_54) 36 t36_56) 37 t37_58) 38 t38_60) 39 t39_62) 40 t40_64) 41 t40_64) 42 t42_66) 43 t43_68) 44 t44_70) 45 t45_72) 46 t46_74) 47 t47_76) 48 t48_78) 49 t48_78) 50 t50_80) 51 t51_82) 52 t52_84) 53 t53_86) 54 t54_88) 55 t55_90) 56 t56_92) 5 (.int .i64 0)) w93 K98)
theorem c9_eq (x0 x1 : Value) (w : World) (K : VPost) : c9 x0 x1 w K = WP true Tryz.prog 93 [(6, 67108864, [0, 1, 0, 6, 8, 16, 0, 64, 0, 384, 512, 1024, 2080, 4096, 8192, 24576, 8192, 106496, 139264, 270336, 8192, 1056768, 8192, 6299648, 8396800, 16785408, 34086912, 67117056, 134225920], [0, 1, 0, 7, 15, 31, 0, 64, 0, 448, 960, 1984, 4095, 8191, 16383, 32767, 16383, 131071, 262143, 524287, 16383, 1064959, 16383, 7356415, 15745023, 32522239, 67108863, 134217727, 268435455])] (bodyOf Tryz.f9) (argF [x0, x1]) w [.tmp 4] K := by kernel_rfl
theorem c9_calls (x0 x1 : Value) (w : World) (K : VPost) (h : c9 x0 x1 w K) : Calls Tryz.prog 9 #[x0, x1] w (retK K) :=
 calls_of_WP (c9_eq x0 x1 w K) mixedG Tryz.func9 (by kernel_rfl) Tryz.ntmps9 (by kernel_rfl) (by kernel_rfl) h
def c19 (x0 : Value) (w : World) (K : VPost) : Prop :=
 lenW Tryz.prog (some true) #[42] 3 #[x0] w fun t6_0 w1 =>
 binN Tryz.prog .gtr 3 true t6_0 (.int .i64 70) w1 fun t7_2 w3 =>
 condW t7_2 (
 K (.bool true) w3) (
 bindX (endW Tryz.prog [.tmp 2] K) fun K4 =>
 bindX (seqX (fun _ w7 =>
 K (.bool false) w7) K4) fun K5 =>
 bindX (blkX 0 K5) fun K8 =>
 loopW (fun f9 w10 K11 =>
 lenW Tryz.prog (some true) #[42] 3 #[(f9 0)] w10 fun t10_12 w13 =>
 binN Tryz.prog .lss 3 false (f9 4) t10_12 w13 fun t11_14 w15 =>
 condW t11_14 (
 idxW (some (none, 15)) (f9 0) (f9 4) w15 fun t16_16 w17 =>
 offW (some 14) t16_16 w17 fun t17_18 w19 =>
 loadW (some (false, 1)) t17_18 w19 fun t18_20 w21 =>
 lenW Tryz.prog (some true) #[26] 3 #[t18_20] w21 fun t19_22 w23 =>
 binN Tryz.prog .gtr 3 true t19_22 (.int .i64 20) w23 fun t20_24 w25 =>
 condW t20_24 (
 K11 .ret (pf 30 (pf 30 (pf 30 (pf 30 (pf 30 (pf 30 (pf 30 (pf 30 (pf 30 (pf 30 (pf 30 (pf 30 f9 8 (f9 4)) 9 (f9 0)) 10 t10_12) 11 t11_14) 14 (f9 0)) 15 (f9 4)) 16 t16_16) 17 t17_18) 18 t18_20) 19 t19_22) 20 t20_24) 2 (.bool true)) w25) (
 idxW (some (none, 15)) (f9 0) (f9 4) w25 fun t24_26 w27 =>
 loadW (some (true, 15)) t24_26 w27 fun t25_28 w29 =>
 fnW Tryz.prog 44 #[t25_28, (.int .i64 8000)] w29 fun t26_30 w31 =>
 binN Tryz.prog .add 3 false (f9 3) t26_30 w31 fun t27_32 w33 =>
 binN Tryz.prog .gtr 3 true t27_32 (.int .i64 8000) w33 fun t29_34 w35 =>
 condW t29_34 (
 K11 .ret (pf 30 (pf 30 (pf 30 (pf 30 (pf 30 (pf 30 (pf 30 (pf 30 (pf 30 (pf 30 (pf 30 (pf 30 (pf 30 (pf 30 (pf 30 (pf 30 (pf 30 (pf 30 (pf 30 (pf 30 (pf 30 (pf 30 f9 8 (f9 4)) 9 (f9 0)) 10 t10_12) 11 t11_14) 14 (f9 0)) 15 (f9 4)) 16 t16_16) 17 t17_18) 18 t18_20) 19 t19_22) 20 t20_24) 21 (f9 3)) 22 (f9 0)) 23 (f9 4)) 24 t24_26) 25 t25_28) 26 t26_30) 27 t27_32) 3 t27_32) 28 t27_32) 29 t29_34) 2 (.bool true)) w35) (
 binN Tryz.prog .add 3 true (f9 4) (.int .i64 1) w35 fun t13_36 w37 =>
 K11 .normal (pf 30 (pf 30 (pf 30 (pf 30 (pf 30 (pf 30 (pf 30 (pf 30 (pf 30 (pf 30 (pf 30 (pf 30 (pf 30 (pf 30 (pf 30 (pf 30 (pf 30 (pf 30 (pf 30 (pf 30 (pf 30 (pf 30 (pf 30 (pf 30 f9 8 (f9 4)) 9 (f9 0)) 10 t10_12) 11 t11_14) 14 (f9 0)) 15 (f9 4)) 16 t16_16) 17 t17_18) 18 t18_20) 19 t19_22) 20 t20_24) 21 (f9 3)) 22 (f9 0)) 23 (f9 4)) 24 t24_26) 25 t25_28) 26 t26_30) 27 t27_32) 3 t27_32) 28 t27_32) 29 t29_34) 12 (f9 4)) 13 t13_36) 4 t13_36) w37))) (
 K11 (.exit 0) (pf 30 (pf 30 (pf 30 (pf 30 f9 8 (f9 4)) 9 (f9 0)) 10 t10_12) 11 t11_14) w15)) (pf 30 (pf 30 (pf 30 (pf 30 (pf 30 (pf 30 (argF [x0]) 2 (.bool false)) 5 x0) 6 t6_0) 7 t7_2) 3 (.int .i64 0)) 4 (.int .i64 0)) w3 K8)
theorem c19_eq (x0 : Value) (w : World) (K : VPost) : c19 x0 w K = WP true Tryz.prog 30 [] (bodyOf Tryz.f19) (argF [x0]) w [.tmp 2] K := by kernel_rfl
theorem c19_calls (x0 : Value) (w : World) (K : VPost) (h : c19 x0 w K) : Calls Tryz.prog 19 #[x0] w (retK K) :=
 calls_of_WP (c19_eq x0 w K) mixedG Tryz.func19 (by kernel_rfl) Tryz.ntmps19 (by kernel_rfl) (by kernel_rfl) h
def c6 (x0 x1 : Value) (w : World) (K : VPost) : Prop :=
 boxW 30 x1 w fun t3_0 w1 =>
 fnW Tryz.prog 19 #[x0] w1 fun t6_2 w3 =>
 gstep t6_2 false w3 (fun K => offW (some 4) t3_0 w3 K) fun t8_4 w5 =>
 gstep t6_2 false w5 (fun K => loadW (some (true, 15)) t8_4 w5 K) fun t9_6 w7 =>
 gstep t6_2 false w7 (fun K => insW Tryz.prog (Instr.buildSlice 42 1 #[(0, t9_6)]) w7 K) fun t10_8 w9 =>
 gstep t6_2 false w9 (fun K => fnW Tryz.prog 19 #[t10_8] w9 K) fun t11_10 w11 =>
 pickW t6_2 (.bool true) t11_10 w11 fun t12_12 w13 =>
 gstep t12_12 false w13 (fun K => offW (some 2) t3_0 w13 K) fun t14_14 w15 =>
 gstep t12_12 false w15 (fun K => loadW (some (false, 1)) t14_14 w15 K) fun t15_16 w17 =>
 gstep t12_12 false w17 (fun K => lenW Tryz.prog (some false) #[9] 3 #[t15_16] w17 K) fun t16_18 w19 =>
 gstep t12_12 false w19 (fun K => binN Tryz.prog .gtr 3 true t16_18 (.int .i64 2000) w19 K) fun t17_20 w21 =>
 pickW t12_12 (.bool true) t17_20 w21 fun t18_22 w23 =>
 gstep t18_22 false w23 (fun K => offW (some 3) t3_0 w23 K) fun t20_24 w25 =>
 gstep t18_22 false w25 (fun K => loadW (some (false, 1)) t20_24 w25 K) fun t21_26 w27 =>
 gstep t18_22 false w27 (fun K => lenW Tryz.prog (some false) #[9] 3 #[t21_26] w27 K) fun t22_28 w29 =>
 gstep t18_22 false w29 (fun K => binN Tryz.prog .gtr 3 true t22_28 (.int .i64 2000) w29 K) fun t23_30 w31 =>
 pickW t18_22 (.bool true) t23_30 w31 fun t24_32 w33 =>
 K t24_32 w33
theorem c6_eq (x0 x1 : Value) (w : World) (K : VPost) : c6 x0 x1 w K = WP true Tryz.prog 25 [] (bodyOf Tryz.f6) (argF [x0, x1]) w [.tmp 4] K := by kernel_rfl
theorem c6_calls (x0 x1 : Value) (w : World) (K : VPost) (h : c6 x0 x1 w K) : Calls Tryz.prog 6 #[x0, x1] w (retK K) :=
 calls_of_WP (c6_eq x0 x1 w K) mixedG Tryz.func6 (by kernel_rfl) Tryz.ntmps6 (by kernel_rfl) (by kernel_rfl) h
def c14 (x0 x1 : Value) (w : World) (K : VPost) : Prop :=
 lenW Tryz.prog (some true) #[42] 3 #[x0] w fun t7_0 w1 =>
 lenW Tryz.prog (some true) #[42] 3 #[x1] w1 fun t9_2 w3 =>
 binN Tryz.prog .neq 3 false t7_0 t9_2 w3 fun t10_4 w5 =>
 condW t10_4 (
 K (.bool false) w5) (
 bindX (endW Tryz.prog [.tmp 4] K) fun K6 =>
 bindX (seqX (fun _ w9 =>
 K (.bool true) w9) K6) fun K7 =>
 bindX (blkX 0 K7) fun K10 =>
 loopW (fun f11 w12 K13 =>
 lenW Tryz.prog (some true) #[42] 3 #[(f11 0)] w12 fun t13_14 w15 =>
 binN Tryz.prog .lss 3 false (f11 5) t13_14 w15 fun t14_16 w17 =>
 condW t14_16 (
 idxW (some (none, 15)) (f11 0) (f11 5) w17.drew fun t19_18 w19 =>
 loadW (some (true, 15)) t19_18 w19 fun t20_20 w21 =>
 idxW (some (none, 15)) (f11 1) (f11 5) w21 fun t23_22 w23 =>
 loadW (some (true, 15)) t23_22 w23 fun t24_24 w25 =>
 fnW Tryz.prog 9 #[t20_20, t24_24] w25 fun t25_26 w27 =>
 unN Tryz.prog .not t25_26 w27 fun t26_28 w29 =>
 condW t26_28 (
 K13 .ret (pf 27 (pf 27 (pf 27 (pf 27 (pf 27 (pf 27 (pf 27 (pf 27 (pf 27 (pf 27 (pf 27 (pf 27 (pf 27 (pf 27 (pf 27 f11 11 (f11 5)) 12 (f11 0)) 13 t13_14) 14 t14_16) 17 (f11 0)) 18 (f11 5)) 19 t19_18) 20 t20_20) 21 (f11 1)) 22 (f11 5)) 23 t23_22) 24 t24_24) 25 t25_26) 26 t26_28) 4 (.bool false)) w29) (
 binN Tryz.prog .add 3 true (f11 5) (.int .i64 1) w29 fun t16_30 w31 =>
 K13 .normal (pf 27 (pf 27 (pf 27 (pf 27 (pf 27 (pf 27 (pf 27 (pf 27 (pf 27 (pf 27 (pf 27 (pf 27 (pf 27 (pf 27 (pf 27 (pf 27 (pf 27 f11 11 (f11 5)) 12 (f11 0)) 13 t13_14) 14 t14_16) 17 (f11 0)) 18 (f11 5)) 19 t19_18) 20 t20_20) 21 (f11 1)) 22 (f11 5)) 23 t23_22) 24 t24_24) 25 t25_26) 26 t26_28) 15 (f11 5)) 16 t16_30) 5 t16_30) w31)) (
 K13 (.exit 0) (pf 27 (pf 27 (pf 27 (pf 27 f11 11 (f11 5)) 12 (f11 0)) 13 t13_14) 14 t14_16) w17)) (pf 27 (pf 27 (pf 27 (pf 27 (pf 27 (pf 27 (pf 27 (argF [x0, x1]) 4 (.bool false)) 6 x0) 7 t7_0) 8 x1) 9 t9_2) 10 t10_4) 5 (.int .i64 0)) w5 K10)
theorem c14_eq (x0 x1 : Value) (w : World) (K : VPost) : c14 x0 x1 w K = WP true Tryz.prog 27 [(6, 256, [0, 0, 3, 4, 0, 0, 48, 64, 136, 256], [0, 0, 3, 7, 0, 0, 48, 112, 255, 511])] (bodyOf Tryz.f14) (argF [x0, x1]) w [.tmp 4] K := by kernel_rfl
theorem c14_calls (x0 x1 : Value) (w : World) (K : VPost) (h : c14 x0 x1 w K) : Calls Tryz.prog 14 #[x0, x1] w (retK K) :=
 calls_of_WP (c14_eq x0 x1 w K) mixedG Tryz.func14 (by kernel_rfl) Tryz.ntmps14 (by kernel_rfl) (by kernel_rfl) h
def c4 (x0 x1 x2 : Value) (w : World) (K : VPost) : Prop :=
 fnW Tryz.prog 5 #[] w fun t14_0 w1 =>
 unN Tryz.prog .not t14_0 w1 fun t15_2 w3 =>
 condW t15_2 (
 K (.bool false) w3) (
 insW Tryz.prog (Instr.build 30 #[(2, x1)]) w3 fun t18_4 w5 =>
 fnW Tryz.prog 6 #[x0, t18_4] w5 fun t19_6 w7 =>
 condW t19_6 (
 K (.bool true) w7) (
 fnW Tryz.prog 12 #[x0, x1] w7 fun t22_8 w9 =>
 insW Tryz.prog (Instr.build 30 #[(0, (.int .i64 5)), (2, x1), (1, x2)]) w9 fun t27_10 w11 =>
 fnW Tryz.prog 13 #[x0, t27_10] w11 fun t28_12 w13 =>
 extrW t28_12 0 w13 fun t29_14 w15 =>
 extrW t28_12 1 w15 fun t30_16 w17 =>
 insW Tryz.prog (Instr.build 30 #[(0, (.int .i64 2)), (2, x1)]) w17 fun t34_18 w19 =>
 fnW Tryz.prog 13 #[x0, t34_18] w19 fun t35_20 w21 =>
 extrW t35_20 0 w21 fun t36_22 w23 =>
 extrW t35_20 1 w23 fun t37_24 w25 =>
 binN Tryz.prog .neq 44 true t30_16 (.int .i64 0) w25 fun t39_26 w27 =>
 gstep t39_26 false w27 (fun K => K t37_24 w27) fun t41_28 w29 =>
 gstep t39_26 false w29 (fun K => binN Tryz.prog .neq 44 true t41_28 (.int .i64 0) w29 K) fun t42_30 w31 =>
 pickW t39_26 (.bool true) t42_30 w31 fun t43_32 w33 =>
 condW t43_32 (
 binN Tryz.prog .neq 44 true t37_24 (.int .i64 0) w33 fun t45_34 w35 =>
 gstep t45_34 false w35 (fun K => K x2 w35) fun t47_36 w37 =>
 gstep t45_34 false w37 (fun K => binN Tryz.prog .lss 3 true t47_36 (.int .i64 0) w37 K) fun t48_38 w39 =>
 pickW t45_34 (.bool true) t48_38 w39 fun t49_40 w41 =>
 gstep t49_40 false w41 (fun K => K x2 w41) fun t51_42 w43 =>
 gstep t49_40 false w43 (fun K => K x0 w43) fun t52_44 w45 =>
 gstep t49_40 false w45 (fun K => lenW Tryz.prog (some true) #[42] 3 #[t52_44] w45 K) fun t53_46 w47 =>
 gstep t49_40 false w47 (fun K => binN Tryz.prog .geq 3 false t51_42 t53_46 w47 K) fun t54_48 w49 =>
 pickW t49_40 (.bool true) t54_48 w49 fun t55_50 w51 =>
 K t55_50 w51) (
 binN Tryz.prog .lss 3 true t22_8 (.int .i64 0) w33.drew fun t57_52 w53 =>
 gstep t57_52 false w53 (fun K => K x2 w53) fun t59_54 w55 =>
 gstep t57_52 false w55 (fun K => binN Tryz.prog .lss 3 true t59_54 (.int .i64 0) w55 K) fun t60_56 w57 =>
 pickW t57_52 (.bool true) t60_56 w57 fun t61_58 w59 =>
 gstep t61_58 false w59 (fun K => K x2 w59) fun t63_60 w61 =>
 gstep t61_58 false w61 (fun K => K t29_14 w61) fun t64_62 w63 =>
 gstep t61_58 false w63 (fun K => lenW Tryz.prog (some true) #[42] 3 #[t64_62] w63 K) fun t65_64 w65 =>
 gstep t61_58 false w65 (fun K => binN Tryz.prog .geq 3 false t63_60 t65_64 w65 K) fun t66_66 w67 =>
 pickW t61_58 (.bool true) t66_66 w67 fun t67_68 w69 =>
 gstep t67_68 false w69 (fun K => K t36_22 w69) fun t69_70 w71 =>
 gstep t67_68 false w71 (fun K => lenW Tryz.prog (some true) #[42] 3 #[t69_70] w71 K) fun t70_72 w73 =>
 gstep t67_68 false w73 (fun K => K x0 w73) fun t71_74 w75 =>
 gstep t67_68 false w75 (fun K => lenW Tryz.prog (some true) #[42] 3 #[t71_74] w75 K) fun t72_76 w77 =>
 gstep t67_68 false w77 (fun K => binN Tryz.prog .sub 3 true t72_76 (.int .i64 1) w77 K) fun t73_78 w79 =>
 gstep t67_68 false w79 (fun K => binN Tryz.prog .neq 3 false t70_72 t73_78 w79 K) fun t74_80 w81 =>
 pickW t67_68 (.bool true) t74_80 w81 fun t75_82 w83 =>
 gstep t75_82 false w83 (fun K => K t29_14 w83) fun t77_84 w85 =>
 gstep t75_82 false w85 (fun K => K x2 w85) fun t78_86 w87 =>
 gstep t75_82 false w87 (fun K => idxW (some (none, 15)) t77_84 t78_86 w87 K) fun t79_88 w89 =>
 gstep t75_82 false w89 (fun K => loadW (some (true, 15)) t79_88 w89 K) fun t80_90 w91 =>
 gstep t75_82 false w91 (fun K => K x0 w91) fun t81_92 w93 =>
 gstep t75_82 false w93 (fun K => K t22_8 w93) fun t82_94 w95 =>
 gstep t75_82 false w95 (fun K => idxW (some (none, 15)) t81_92 t82_94 w95 K) fun t83_96 w97 =>
 gstep t75_82 false w97 (fun K => loadW (some (true, 15)) t83_96 w97 K) fun t84_98 w99 =>
 gstep t75_82 false w99 (fun K => fnW Tryz.prog 9 #[t80_90, t84_98] w99 K) fun t85_100 w101 =>
 gstep t75_82 false w101 (fun K => unN Tryz.prog .not t85_100 w101 K) fun t86_102 w103 =>
 pickW t75_82 (.bool true) t86_102 w103 fun t87_104 w105 =>
 condW t87_104 (
 K (.bool false) w105) (
 sliceW (.sl 15) t29_14 none (some x2) none w105.drew fun t91_106 w107 =>
 binN Tryz.prog .add 3 true x2 (.int .i64 1) w107 fun t95_108 w109 =>
 sliceW (.sl 15) t29_14 (some t95_108) none none w109 fun t96_110 w111 =>
 insW Tryz.prog (Instr.buildSlice 42 0 #[]) w111 fun t88_112 w113 =>
 insW Tryz.prog (Builtin.append_ #[42, 42] 42 #[t88_112, t91_106]) w113 fun t92_114 w115 =>
 insW Tryz.prog (Builtin.append_ #[42, 42] 42 #[t92_114, t96_110]) w115 fun t97_116 w117 =>
 sliceW (.sl 15) x0 none (some t22_8) none w117.drew fun t101_118 w119 =>
 binN Tryz.prog .add 3 true t22_8 (.int .i64 1) w119 fun t105_120 w121 =>
 sliceW (.sl 15) x0 (some t105_120) none none w121 fun t106_122 w123 =>
 insW Tryz.prog (Instr.buildSlice 42 0 #[]) w123 fun t98_124 w125 =>
 insW Tryz.prog (Builtin.append_ #[42, 42] 42 #[t98_124, t101_118]) w125 fun t102_126 w127 =>
 insW Tryz.prog (Builtin.append_ #[42, 42] 42 #[t102_126, t106_122]) w127 fun t107_128 w129 =>
 fnW Tryz.prog 14 #[t97_116, t36_22] w129 fun t110_130 w131 =>
 gstep t110_130 true w131 (fun K => K t107_128 w131) fun t112_132 w133 =>
 gstep t110_130 true w133 (fun K => K t36_22 w133) fun t113_134 w135 =>
 gstep t110_130 true w135 (fun K => fnW Tryz.prog 14 #[t112_132, t113_134] w135 K) fun t114_136 w137 =>
 pickW t110_130 t114_136 (.bool false) w137 fun t115_138 w139 =>
 K t115_138 w139))))
theorem c4_eq (x0 x1 x2 : Value) (w : World) (K : VPost) : c4 x0 x1 x2 w K = WP true Tryz.prog 116 [(10, 536870912, [0, 1, 2, 4, 12, 20, 36, 64, 64, 320, 704, 1088, 2112, 4096, 12288, 4096, 36864, 69632, 151552, 266240, 528384, 1048576, 1048576, 7340032, 9437184, 1048576, 1048576, 101711872, 135266304, 286261248, 537919488, 1074790400], [0, 1, 3, 7, 15, 31, 63, 127, 127, 383, 1023, 2047, 4095, 8191, 16383, 8191, 40959, 106495, 262143, 524287, 1048575, 2097151, 2097151, 8388607, 16777215, 2097151, 2097151, 102760447, 236978175, 536870911, 1073741823, 2147483647]), (12, 529, [0, 0, 0, 6, 9, 0, 0, 64, 160, 272, 1023], [0, 0, 0, 6, 15, 0, 0, 64, 224, 511, 1023]), (13, 529, [0, 0, 0, 6, 9, 0, 0, 64, 160, 272, 1023], [0, 0, 0, 6, 15, 0, 0, 64, 224, 511, 1023])] (bodyOf Tryz.f4) (argF [x0, x1, x2]) w [.tmp 6] K := by kernel_rfl
theorem c4_calls (x0 x1 x2 : Value) (w : World) (K : VPost) (h : c4 x0 x1 x2 w K) : Calls Tryz.prog 4 #[x0, x1, x2] w (retK K) :=
 calls_of_WP (c4_eq x0 x1 x2 w K) mixedG Tryz.func4 (by kernel_rfl) Tryz.ntmps4 (by kernel_rfl) (by kernel_rfl) h
def c45 (x0 x1 : Value) (w : World) (K : VPost) : Prop :=
 lenW Tryz.prog (some true) #[31] 3 #[x0] w fun t8_0 w1 =>
 insW Tryz.prog (Instr.buildSlice 31 1 #[(0, (.int .u8 0))]) w1 fun t10_2 w3 =>
 insW Tryz.prog (Builtin.append_ #[31, 31] 31 #[x0, t10_2]) w3 fun t11_4 w5 =>
 bindX (endW Tryz.prog [.tmp 4] K) fun K6 =>
 bindX (seqX (fun f8 w9 =>
 K (f8 0) w9) K6) fun K7 =>
 bindX (blkX 0 K7) fun K10 =>
 loopW (fun f11 w12 K13 =>
 binN Tryz.prog .geq 3 true (f11 6) (.int .i64 0) w12 fun t13_14 w15 =>
 condW t13_14 (
 bindX (seqX (fun f17 w18 =>
 binN Tryz.prog .sub 3 true (f17 6) (.int .i64 8) w18 fun t15_19 w20 =>
 K13 .normal (pf 34 (pf 34 (pf 34 f17 14 (f17 6)) 15 t15_19) 6 t15_19) w20) K13) fun K16 =>
 bindX (blkX 1 K16) fun _ =>
 binN Tryz.prog .shr 3 false (f11 1) (f11 6) w15 fun t18_22 w23 =>
 binN Tryz.prog .gtr 3 true t18_22 (.int .i64 0) w23 fun t19_24 w25 =>
 condW t19_24 (
 binN Tryz.prog .shr 3 false (f11 1) (f11 6) w25 fun t23_26 w27 =>
 convN Tryz.prog 3 5 t23_26 w27 fun t24_28 w29 =>
 insW Tryz.prog (Instr.buildSlice 31 1 #[(0, t24_28)]) w29 fun t25_30 w31 =>
 insW Tryz.prog (Builtin.append_ #[31, 31] 31 #[(f11 0), t25_30]) w31 fun t26_32 w33 =>
 idxW (some (none, 1)) t26_32 (f11 5) w33 fun t29_34 w35 =>
 loadW (some (false, 1)) t29_34 w35 fun t30_36 w37 =>
 binN Tryz.prog .add 5 true t30_36 (.int .u8 1) w37 fun t31_38 w39 =>
 idxW (some (none, 1)) t26_32 (f11 5) w39 fun t32_40 w41 =>
 storeW (some (false, 1)) t32_40 t31_38 w41 fun w42 =>
 K16 .normal (pf 34 (pf 34 (pf 34 (pf 34 (pf 34 (pf 34 (pf 34 (pf 34 (pf 34 (pf 34 (pf 34 (pf 34 (pf 34 (pf 34 (pf 34 (pf 34 (pf 34 (pf 34 (pf 34 (pf 34 f11 12 (f11 6)) 13 t13_14) 16 (f11 1)) 17 (f11 6)) 18 t18_22) 19 t19_24) 20 (f11 0)) 21 (f11 1)) 22 (f11 6)) 23 t23_26) 24 t24_28) 25 t25_30) 26 t26_32) 0 t26_32) 27 t26_32) 28 (f11 5)) 29 t29_34) 30 t30_36) 31 t31_38) 32 t32_40) w42) (
 K16 .normal (pf 34 (pf 34 (pf 34 (pf 34 (pf 34 (pf 34 f11 12 (f11 6)) 13 t13_14) 16 (f11 1)) 17 (f11 6)) 18 t18_22) 19 t19_24) w25)) (
 K13 (.exit 0) (pf 34 (pf 34 f11 12 (f11 6)) 13 t13_14) w15)) (pf 34 (pf 34 (pf 34 (pf 34 (pf 34 (pf 34 (pf 34 (pf 34 (pf 34 (argF [x0, x1]) 4 (.slice none 0 0)) 7 x0) 8 t8_0) 5 t8_0) 9 x0) 10 t10_2) 11 t11_4) 0 t11_4) 6 (.int .i64 40)) w5 K10
theorem c45_eq (x0 x1 : Value) (w : World) (K : VPost) : c45 x0 x1 w K = WP true Tryz.prog 34 [] (bodyOf Tryz.f45) (argF [x0, x1]) w [.tmp 4] K := by kernel_rfl
theorem c45_calls (x0 x1 : Value) (w : World) (K : VPost) (h : c45 x0 x1 w K) : Calls Tryz.prog 45 #[x0, x1] w (retK K) :=
 calls_of_WP (c45_eq x0 x1 w K) mixedG Tryz.func45 (by kernel_rfl) Tryz.ntmps45 (by kernel_rfl) (by kernel_rfl) h
def c50 (x0 x1 : Value) (w : World) (K : VPost) : Prop :=
 lenW Tryz.prog (some false) #[9] 3 #[x1] w fun t7_0 w1 =>
 fnW Tryz.prog 45 #[x0, t7_0] w1 fun t8_2 w3 =>
 insW Tryz.prog (Builtin.append_ #[31, 9] 31 #[t8_2, x1]) w3 fun t10_4 w5 =>
 K t10_4 w5
theorem c50_eq (x0 x1 : Value) (w : World) (K : VPost) : c50 x0 x1 w K = WP true Tryz.prog 11 [] (bodyOf Tryz.f50) (argF [x0, x1]) w [.tmp 4] K := by kernel_rfl
theorem c50_calls (x0 x1 : Value) (w : World) (K : VPost) (h : c50 x0 x1 w K) : Calls Tryz.prog 50 #[x0, x1] w (retK K) :=
 calls_of_WP (c50_eq x0 x1 w K) mixedG Tryz.func50 (by kernel_rfl) Tryz.ntmps50 (by kernel_rfl) (by kernel_rfl) h
def c51 (x0 x1 : Value) (w : World) (K : VPost) : Prop :=
 boxW 25 x1 w fun t3_0 w1 =>
 offW (some 0) t3_0 w1 fun t12_2 w3 =>
 loadW (some (false, 1)) t12_2 w3 fun t13_4 w5 =>
 convN Tryz.prog 3 5 t13_4 w5 fun t14_6 w7 =>
 insW Tryz.prog (Instr.buildSlice 31 1 #[(0, t14_6)]) w7 fun t15_8 w9 =>
 insW Tryz.prog (Builtin.append_ #[31, 31] 31 #[x0, t15_8]) w9 fun t16_10 w11 =>
 bindX (endW Tryz.prog [.tmp 4] K) fun K12 =>
 bindX (seqX (fun f14 w15 =>
 bindX (seqX (fun f17 w18 =>
 bindX (seqX (fun f20 w21 =>
 K (f20 0) w21) K12) fun K19 =>
 offW (some 4) (f17 3) w18 fun t72_22 w23 =>
 loadW (some (false, 1)) t72_22 w23 fun t73_24 w25 =>
 lenW Tryz.prog (some true) #[23] 3 #[t73_24] w25 fun t74_26 w27 =>
 bindX (blkX 5 K19) fun K28 =>
 loopW (fun f29 w30 K31 =>
 binN Tryz.prog .lss 3 false (f29 75) (f29 74) w30 fun t76_32 w33 =>
 condW t76_32 (
 idxW (some (none, 5)) (f29 73) (f29 75) w33 fun t77_34 w35 =>
 loadW (some (true, 5)) t77_34 w35 fun t78_36 w37 =>
 allocW (zeroO Tryz.prog 25) 25 w37 fun t10_38 w39 =>
 storeW (some (true, 5)) t10_38 t78_36 w39 fun w40 =>
 loadW (some (true, 5)) t10_38 w40 fun t80_41 w42 =>
 fnW Tryz.prog 51 #[(f29 0), t80_41] w42 fun t81_43 w44 =>
 binN Tryz.prog .add 3 true (f29 75) (.int .i64 1) w44 fun t82_45 w46 =>
 K31 .normal (pf 84 (pf 84 (pf 84 (pf 84 (pf 84 (pf 84 (pf 84 (pf 84 (pf 84 (pf 84 f29 76 t76_32) 77 t77_34) 78 t78_36) 10 t10_38) 79 (f29 0)) 80 t80_41) 81 t81_43) 0 t81_43) 82 t82_45) 75 t82_45) w46) (
 K31 (.exit 5) (pf 84 f29 76 t76_32) w33)) (pf 84 (pf 84 (pf 84 (pf 84 f17 72 t72_22) 73 t73_24) 74 t74_26) 75 (.int .i64 0)) w27 K28) K12) fun K16 =>
 offW (some 3) (f14 3) w15 fun t46_47 w48 =>
 loadW (some (false, 1)) t46_47 w48 fun t47_49 w50 =>
 lenW Tryz.prog (some true) #[22] 3 #[t47_49] w50 fun t48_51 w52 =>
 bindX (blkX 1 K16) fun K53 =>
 loopW (fun f54 w55 K56 =>
 binN Tryz.prog .lss 3 false (f54 49) (f54 48) w55 fun t50_57 w58 =>
 condW t50_57 (
 bindX (seqX (fun f60 w61 =>
 binN Tryz.prog .add 3 true (f60 49) (.int .i64 1) w61 fun t71_62 w63 =>
 K56 .normal (pf 84 (pf 84 f60 71 t71_62) 49 t71_62) w63) K56) fun K59 =>
 bindX (blkX 2 K59) fun K64 =>
 idxW (some (none, 5)) (f54 47) (f54 49) w58 fun t51_65 w66 =>
 loadW (some (true, 5)) t51_65 w66 fun t52_67 w68 =>
 allocW (zeroO Tryz.prog 95) 95 w68 fun t6_69 w70 =>
 storeW (some (true, 5)) t6_69 t52_67 w70 fun w71 =>
 offW (some 0) t6_69 w71 fun t54_72 w73 =>
 loadW (some (false, 1)) t54_72 w73 fun t55_74 w75 =>
 convN Tryz.prog 3 5 t55_74 w75 fun t56_76 w77 =>
 insW Tryz.prog (Instr.buildSlice 31 1 #[(0, t56_76)]) w77 fun t57_78 w79 =>
 insW Tryz.prog (Builtin.append_ #[31, 31] 31 #[(f54 0), t57_78]) w79 fun t58_80 w81 =>
 offW (some 1) t6_69 w81 fun t59_82 w83 =>
 loadW (some (true, 4)) t59_82 w83 fun t60_84 w85 =>
 bindX (blkX 3 K64) fun K86 =>
 loopW (fun f87 w88 K89 =>
 binN Tryz.prog .lss 3 true (f87 61) (.int .i64 4) w88 fun t62_90 w91 =>
 condW t62_90 (
 ixvW (.arr 4 false 1) (f87 60) (f87 61) w91 fun t63_92 w93 =>
 binN Tryz.prog .add 3 true t63_92 (.int .i64 1) w93 fun t66_94 w95 =>
 convN Tryz.prog 3 5 t66_94 w95 fun t67_96 w97 =>
 insW Tryz.prog (Instr.buildSlice 31 1 #[(0, t67_96)]) w97 fun t68_98 w99 =>
 insW Tryz.prog (Builtin.append_ #[31, 31] 31 #[(f87 0), t68_98]) w99 fun t69_100 w101 =>
 binN Tryz.prog .add 3 true (f87 61) (.int .i64 1) w101 fun t70_102 w103 =>
 K89 .normal (pf 84 (pf 84 (pf 84 (pf 84 (pf 84 (pf 84 (pf 84 (pf 84 (pf 84 (pf 84 (pf 84 (pf 84 f87 62 t62_90) 63 t63_92) 8 t63_92) 64 (f87 0)) 65 t63_92) 66 t66_94) 67 t67_96) 68 t68_98) 69 t69_100) 0 t69_100) 70 t70_102) 61 t70_102) w103) (
 K89 (.exit 3) (pf 84 f87 62 t62_90) w91)) (pf 84 (pf 84 (pf 84 (pf 84 (pf 84 (pf 84 (pf 84 (pf 84 (pf 84 (pf 84 (pf 84 (pf 84 (pf 84 (pf 84 f54 50 t50_57) 51 t51_65) 52 t52_67) 6 t6_69) 53 (f54 0)) 54 t54_72) 55 t55_74) 56 t56_76) 57 t57_78) 58 t58_80) 0 t58_80) 59 t59_82) 60 t60_84) 61 (.int .i64 0)) w85 K86) (
 K56 (.exit 1) (pf 84 f54 50 t50_57) w58)) (pf 84 (pf 84 (pf 84 (pf 84 f14 46 t46_47) 47 t47_49) 48 t48_51) 49 (.int .i64 0)) w52 K53) K12) fun K13 =>
 offW (some 0) t3_0 w11 fun t17_104 w105 =>
 loadW (some (false, 1)) t17_104 w105 fun t18_106 w107 =>
 bindX (blkX 0 K13) fun _ =>
 binN Tryz.prog .eql 3 true t18_106 (.int .i64 1) w107 fun t20_109 w110 =>
 condW t20_109 (
 offW (some 1) t3_0 w110 fun t22_111 w112 =>
 loadW (some (false, 1)) t22_111 w112 fun t23_113 w114 =>
 fnW Tryz.prog 45 #[t16_10, t23_113] w114 fun t24_115 w116 =>
 K13 .normal (pf 84 (pf 84 (pf 84 (pf 84 (pf 84 (pf 84 (pf 84 (pf 84 (pf 84 (pf 84 (pf 84 (pf 84 (pf 84 (pf 84 (pf 84 (pf 84 (pf 84 (pf 84 (argF [x0, x1]) 3 t3_0) 4 (.slice none 0 0)) 11 x0) 12 t12_2) 13 t13_4) 14 t14_6) 15 t15_8) 16 t16_10) 0 t16_10) 17 t17_104) 18 t18_106) 20 t20_109) 19 t20_109) 21 t16_10) 22 t22_111) 23 t23_113) 24 t24_115) 0 t24_115) w116) (
 binN Tryz.prog .eql 3 true t18_106 (.int .i64 9) w110 fun t26_117 w118 =>
 condW t26_117 (
 offW (some 1) t3_0 w118.drew fun t28_119 w120 =>
 loadW (some (false, 1)) t28_119 w120 fun t29_121 w122 =>
 offW (some 2) t3_0 w122 fun t31_123 w124 =>
 loadW (some (false, 1)) t31_123 w124 fun t32_125 w126 =>
 fnW Tryz.prog 45 #[t16_10, t29_121] w126 fun t30_127 w128 =>
 (loadW (some (false, 1)) t31_123 w128 fun t32_129 w130 => t32_129 = t32_125 ∧ w130 = w128) ∧
 fnW Tryz.prog 50 #[t30_127, t32_125] w128 fun t33_131 w132 =>
 K13 .normal (pf 84 (pf 84 (pf 84 (pf 84 (pf 84 (pf 84 (pf 84 (pf 84 (pf 84 (pf 84 (pf 84 (pf 84 (pf 84 (pf 84 (pf 84 (pf 84 (pf 84 (pf 84 (pf 84 (pf 84 (pf 84 (pf 84 (pf 84 (argF [x0, x1]) 3 t3_0) 4 (.slice none 0 0)) 11 x0) 12 t12_2) 13 t13_4) 14 t14_6) 15 t15_8) 16 t16_10) 0 t16_10) 17 t17_104) 18 t18_106) 20 t20_109) 19 t20_109) 26 t26_117) 25 t26_117) 27 t16_10) 28 t28_119) 29 t29_121) 31 t31_123) 32 t32_125) 30 t30_127) 33 t33_131) 0 t33_131) w132) (
 binN Tryz.prog .eql 3 true t18_106 (.int .i64 4) w118 fun t35_133 w134 =>
 condW t35_133 (
 offW (some 2) t3_0 w134.drew fun t37_135 w136 =>
 loadW (some (false, 1)) t37_135 w136 fun t38_137 w138 =>
 offW (some 3) t3_0 w138 fun t40_139 w140 =>
 loadW (some (false, 1)) t40_139 w140 fun t41_141 w142 =>
 lenW Tryz.prog (some true) #[22] 3 #[t41_141] w142 fun t42_143 w144 =>
 convN Tryz.prog 3 5 t42_143 w144 fun t43_145 w146 =>
 bindV (fun (t39_148 : Value) (t44_149 : Value) (f150 : Fr) (w151 : World) =>
 insW Tryz.prog (Builtin.append_ #[31, 31] 31 #[t39_148, t44_149]) w151 fun t45_152 w153 =>
 K13 .normal (pf 84 (pf 84 f150 45 t45_152) 0 t45_152) w153) fun J147 =>
 (fnW Tryz.prog 50 #[t16_10, t38_137] w146 fun t39_154 w155 =>
 (loadW (some (false, 1)) t40_139 w155 fun t41_156 w157 => t41_156 = t41_141 ∧ w157 = w155) ∧
 insW Tryz.prog (Instr.buildSlice 31 1 #[(0, t43_145)]) w155 fun t44_158 w159 =>
 (loadW (some (false, 1)) t37_135 w159 fun t38_160 w161 => t38_160 = t38_137 ∧ w161 = w159) ∧
 J147 t39_154 t44_158 (pf 84 (pf 84 (pf 84 (pf 84 (pf 84 (pf 84 (pf 84 (pf 84 (pf 84 (pf 84 (pf 84 (pf 84 (pf 84 (pf 84 (pf 84 (pf 84 (pf 84 (pf 84 (pf 84 (pf 84 (pf 84 (pf 84 (pf 84 (pf 84 (pf 84 (pf 84 (argF [x0, x1]) 3 t3_0) 4 (.slice none 0 0)) 11 x0) 12 t12_2) 13 t13_4) 14 t14_6) 15 t15_8) 16 t16_10) 0 t16_10) 17 t17_104) 18 t18_106) 20 t20_109) 19 t20_109) 26 t26_117) 25 t26_117) 35 t35_133) 34 t35_133) 36 t16_10) 37 t37_135) 38 t38_137) 40 t40_139) 41 t41_141) 42 t42_143) 43 t43_145) 39 t39_154) 44 t44_158) w159) ∧
 (insW Tryz.prog (Instr.buildSlice 31 1 #[(0, t43_145)]) w146 fun t44_162 w163 =>
 (loadW (some (false, 1)) t37_135 w163 fun t38_164 w165 => t38_164 = t38_137 ∧ w165 = w163) ∧
 fnW Tryz.prog 50 #[t16_10, t38_137] w163 fun t39_166 w167 =>
 (loadW (some (false, 1)) t40_139 w167 fun t41_168 w169 => t41_168 = t41_141 ∧ w169 = w167) ∧
 J147 t39_166 t44_162 (pf 84 (pf 84 (pf 84 (pf 84 (pf 84 (pf 84 (pf 84 (pf 84 (pf 84 (pf 84 (pf 84 (pf 84 (pf 84 (pf 84 (pf 84 (pf 84 (pf 84 (pf 84 (pf 84 (pf 84 (pf 84 (pf 84 (pf 84 (pf 84 (pf 84 (pf 84 (argF [x0, x1]) 3 t3_0) 4 (.slice none 0 0)) 11 x0) 12 t12_2) 13 t13_4) 14 t14_6) 15 t15_8) 16 t16_10) 0 t16_10) 17 t17_104) 18 t18_106) 20 t20_109) 19 t20_109) 26 t26_117) 25 t26_117) 35 t35_133) 34 t35_133) 36 t16_10) 37 t37_135) 38 t38_137) 40 t40_139) 41 t41_141) 42 t42_143) 43 t43_145) 44 t44_162) 39 t39_166) w167)) (
 K13 .normal (pf 84 (pf 84 (pf 84 (pf 84 (pf 84 (pf 84 (pf 84 (pf 84 (pf 84 (pf 84 (pf 84 (pf 84 (pf 84 (pf 84 (pf 84 (pf 84 (pf 84 (argF [x0, x1]) 3 t3_0) 4 (.slice none 0 0)) 11 x0) 12 t12_2) 13 t13_4) 14 t14_6) 15 t15_8) 16 t16_10) 0 t16_10) 17 t17_104) 18 t18_106) 20 t20_109) 19 t20_109) 26 t26_117) 25 t26_117) 35 t35_133) 34 t35_133) w134)))
theorem c51_eq (x0 x1 : Value) (w : World) (K : VPost) : c51 x0 x1 w K = WP true Tryz.prog 84 [(6, 200, [0, 0, 2, 5, 0, 16, 40, 127], [0, 0, 2, 7, 0, 16, 63, 127]), (8, 1800, [0, 0, 2, 5, 0, 16, 32, 64, 128, 264, 1023], [0, 0, 2, 7, 0, 16, 48, 112, 240, 511, 1023])] (bodyOf Tryz.f51) (argF [x0, x1]) w [.tmp 4] K := by kernel_rfl
theorem c51_calls (x0 x1 : Value) (w : World) (K : VPost) (h : c51 x0 x1 w K) : Calls Tryz.prog 51 #[x0, x1] w (retK K) :=
 calls_of_WP (c51_eq x0 x1 w K) mixedG Tryz.func51 (by kernel_rfl) Tryz.ntmps51 (by kernel_rfl) (by kernel_rfl) h
def c52 (x0 : Value) (w : World) (K : VPost) : Prop :=
 binN Tryz.prog .eql 3 true x0 (.int .i64 2) w fun t4_0 w1 =>
 gstep t4_0 false w1 (fun K => K x0 w1) fun t6_2 w3 =>
 gstep t4_0 false w3 (fun K => binN Tryz.prog .eql 3 true t6_2 (.int .i64 3) w3 K) fun t7_4 w5 =>
 pickW t4_0 (.bool true) t7_4 w5 fun t8_6 w7 =>
 K t8_6 w7
theorem c52_eq (x0 : Value) (w : World) (K : VPost) : c52 x0 w K = WP true Tryz.prog 9 [] (bodyOf Tryz.f52) (argF [x0]) w [.tmp 2] K := by kernel_rfl
theorem c52_calls (x0 : Value) (w : World) (K : VPost) (h : c52 x0 w K) : Calls Tryz.prog 52 #[x0] w (retK K) :=
 calls_of_WP (c52_eq x0 w K) mixedG Tryz.func52 (by kernel_rfl) Tryz.ntmps52 (by kernel_rfl) (by kernel_rfl) h
def c77 (x0 : Value) (w : World) (K : VPost) : Prop :=
 boxW 25 x0 w fun t1_0 w1 =>
 loadW (some (true, 5)) t1_0 w1 fun t3_2 w3 =>
 insW Tryz.prog (Instr.build 25 #[]) w3 fun t4_4 w5 =>
 fnW Tryz.prog 80 #[t3_2, t4_4] w5 fun t5_6 w7 =>
 K t5_6 w7
theorem c77_eq (x0 : Value) (w : World) (K : VPost) : c77 x0 w K = WP true Tryz.prog 6 [] (bodyOf Tryz.f77) (argF [x0]) w [.tmp 2] K := by kernel_rfl
theorem c77_calls (x0 : Value) (w : World) (K : VPost) (h : c77 x0 w K) : Calls Tryz.prog 77 #[x0] w (retK K) :=
 calls_of_WP (c77_eq x0 w K) mixedG Tryz.func77 (by kernel_rfl) Tryz.ntmps77 (by kernel_rfl) (by kernel_rfl) h
def c46 (x0 : Value) (w : World) (K : VPost) : Prop :=
 boxW 28 x0 w fun t1_0 w1 =>
 insW Tryz.prog (Instr.makeFunc (.func 73) #[] #[t1_0]) w1 fun t5_2 w3 =>
 allocW (zeroO Tryz.prog 123) 123 w3 fun t3_4 w5 =>
 storeW (some (false, 1)) t3_4 t5_2 w5 fun w6 =>
 insW Tryz.prog (Instr.makeFunc (.func 75) #[] #[t3_4]) w6 fun t6_7 w8 =>
 offW (some 0) t1_0 w8 fun t8_9 w10 =>
 loadW (some (false, 1)) t8_9 w10 fun t9_11 w12 =>
 binN Tryz.prog .lss 3 true t9_11 (.int .i64 1) w12 fun t10_13 w14 =>
 gstep t10_13 false w14 (fun K => offW (some 0) t1_0 w14 K) fun t12_15 w16 =>
 gstep t10_13 false w16 (fun K => loadW (some (false, 1)) t12_15 w16 K) fun t13_17 w18 =>
 gstep t10_13 false w18 (fun K => binN Tryz.prog .gtr 3 true t13_17 (.int .i64 4) w18 K) fun t14_19 w20 =>
 pickW t10_13 (.bool true) t14_19 w20 fun t15_21 w22 =>
 gstep t15_21 false w22 (fun K => offW (some 2) t1_0 w22 K) fun t17_23 w24 =>
 gstep t15_21 false w24 (fun K => loadW (some (false, 1)) t17_23 w24 K) fun t18_25 w26 =>
 gstep t15_21 false w26 (fun K => fnW Tryz.prog 76 #[t18_25] w26 K) fun t19_27 w28 =>
 gstep t15_21 false w28 (fun K => unN Tryz.prog .not t19_27 w28 K) fun t20_29 w30 =>
 pickW t15_21 (.bool true) t20_29 w30 fun t21_31 w32 =>
 gstep t21_31 false w32 (fun K => loadW (some (false, 1)) t3_4 w32 K) fun t23_33 w34 =>
 gstep t21_31 false w34 (fun K => offW (some 3) t1_0 w34 K) fun t24_35 w36 =>
 gstep t21_31 false w36 (fun K => loadW (some (true, 5)) t24_35 w36 K) fun t25_37 w38 =>
 gstep t21_31 false w38 (fun K => dynW Tryz.prog t23_33 #[t25_37] w38 K) fun t26_39 w40 =>
 gstep t21_31 false w40 (fun K => unN Tryz.prog .not t26_39 w40 K) fun t27_41 w42 =>
 pickW t21_31 (.bool true) t27_41 w42 fun t28_43 w44 =>
 condW t28_43 (
 K (.bool false) w44) (
 offW (some 0) t1_0 w44 fun t30_45 w46 =>
 loadW (some (false, 1)) t30_45 w46 fun t31_47 w48 =>
 fnW Tryz.prog 52 #[t31_47] w48 fun t32_49 w50 =>
 gstep t32_49 true w50 (fun K => loadW (some (false, 1)) t3_4 w50 K) fun t34_51 w52 =>
 gstep t32_49 true w52 (fun K => offW (some 8) t1_0 w52 K) fun t35_53 w54 =>
 gstep t32_49 true w54 (fun K => loadW (some (true, 5)) t35_53 w54 K) fun t36_55 w56 =>
 gstep t32_49 true w56 (fun K => dynW Tryz.prog t34_51 #[t36_55] w56 K) fun t37_57 w58 =>
 gstep t32_49 true w58 (fun K => unN Tryz.prog .not t37_57 w58 K) fun t38_59 w60 =>
 pickW t32_49 t38_59 (.bool false) w60 fun t39_61 w62 =>
 gstep t39_61 false w62 (fun K => offW (some 0) t1_0 w62 K) fun t41_63 w64 =>
 gstep t39_61 false w64 (fun K => loadW (some (false, 1)) t41_63 w64 K) fun t42_65 w66 =>
 gstep t39_61 false w66 (fun K => fnW Tryz.prog 52 #[t42_65] w66 K) fun t43_67 w68 =>
 gstep t39_61 false w68 (fun K => unN Tryz.prog .not t43_67 w68 K) fun t44_69 w70 =>
 gstep t39_61 false w70 (fun K => K t44_69 w70) fun t45_71 w72 =>
 gstep t45_71 true w72 (fun K => offW (some 8) t1_0 w72 K) fun t46_73 w74 =>
 gstep t45_71 true w74 (fun K => loadW (some (true, 5)) t46_73 w74 K) fun t47_75 w76 =>
 gstep t45_71 true w76 (fun K => fnW Tryz.prog 77 #[t47_75] w76 K) fun t48_77 w78 =>
 gstep t45_71 true w78 (fun K => unN Tryz.prog .not t48_77 w78 K) fun t49_79 w80 =>
 gstep t39_61 false w80 (fun K => pickW t45_71 t49_79 (.bool false) w80 K) fun t50_81 w82 =>
 pickW t39_61 (.bool true) t50_81 w82 fun t51_83 w84 =>
 condW t51_83 (
 K (.bool false) w84) (
 offW (some 0) t1_0 w84 fun t53_85 w86 =>
 loadW (some (false, 1)) t53_85 w86 fun t54_87 w88 =>
 binN Tryz.prog .neq 3 true t54_87 (.int .i64 4) w88 fun t55_89 w90 =>
 condW t55_89 (
 offW (some 13) t1_0 w90 fun t56_91 w92 =>
 loadW (some (false, 1)) t56_91 w92 fun t57_93 w94 =>
 binN Tryz.prog .eql 3 true t57_93 (.int .i64 0) w94 fun t58_95 w96 =>
 gstep t58_95 true w96 (fun K => offW (some 14) t1_0 w96 K) fun t60_97 w98 =>
 gstep t58_95 true w98 (fun K => loadW (some (false, 1)) t60_97 w98 K) fun t61_99 w100 =>
 gstep t58_95 true w100 (fun K => lenW Tryz.prog (some true) #[26] 3 #[t61_99] w100 K) fun t62_101 w102 =>
 gstep t58_95 true w102 (fun K => binN Tryz.prog .eql 3 true t62_101 (.int .i64 0) w102 K) fun t63_103 w104 =>
 pickW t58_95 t63_103 (.bool false) w104 fun t64_105 w106 =>
 K t64_105 w106) (
 offW (some 13) t1_0 w90 fun t65_107 w108 =>
 loadW (some (false, 1)) t65_107 w108 fun t66_109 w110 =>
 binN Tryz.prog .geq 3 true t66_109 (.int .i64 0) w110 fun t67_111 w112 =>
 gstep t67_111 true w112 (fun K => offW (some 13) t1_0 w112 K) fun t69_113 w114 =>
 gstep t67_111 true w114 (fun K => loadW (some (false, 1)) t69_113 w114 K) fun t70_115 w116 =>
 gstep t67_111 true w116 (fun K => binN Tryz.prog .leq 3 true t70_115 (.int .i64 16) w116 K) fun t71_117 w118 =>
 pickW t67_111 t71_117 (.bool false) w118 fun t72_119 w120 =>
 gstep t72_119 true w120 (fun K => offW (some 14) t1_0 w120 K) fun t74_121 w122 =>
 gstep t72_119 true w122 (fun K => loadW (some (false, 1)) t74_121 w122 K) fun t75_123 w124 =>
 gstep t72_119 true w124 (fun K => lenW Tryz.prog (some true) #[26] 3 #[t75_123] w124 K) fun t76_125 w126 =>
 gstep t72_119 true w126 (fun K => binN Tryz.prog .leq 3 true t76_125 (.int .i64 8) w126 K) fun t77_127 w128 =>
 pickW t72_119 t77_127 (.bool false) w128 fun t78_129 w130 =>
 gstep t78_129 true w130 (fun K => offW (some 14) t1_0 w130 K) fun t80_131 w132 =>
 gstep t78_129 true w132 (fun K => loadW (some (false, 1)) t80_131 w132 K) fun t81_133 w134 =>
 gstep t78_129 true w134 (fun K => K t6_7 w134) fun t82_135 w136 =>
 gstep t78_129 true w136 (fun K => fnW Tryz.prog 78 #[t81_133, t82_135] w136 K) fun t83_137 w138 =>
 gstep t78_129 true w138 (fun K => unN Tryz.prog .not t83_137 w138 K) fun t84_139 w140 =>
 pickW t78_129 t84_139 (.bool false) w140 fun t85_141 w142 =>
 K t85_141 w142)))
theorem c46_eq (x0 : Value) (w : World) (K : VPost) : c46 x0 w K = WP true Tryz.prog 86 [] (bodyOf Tryz.f46) (argF [x0]) w [.tmp 2] K := by kernel_rfl
theorem c46_calls (x0 : Value) (w : World) (K : VPost) (h : c46 x0 w K) : Calls Tryz.prog 46 #[x0] w (retK K) :=
 calls_of_WP (c46_eq x0 w K) mixedG Tryz.func46 (by kernel_rfl) Tryz.ntmps46 (by kernel_rfl) (by kernel_rfl) h
def c73 (x0 x1 : Value) (w : World) (K : VPost) : Prop :=
 boxW 25 x0 w fun t2_0 w1 =>
 loadW (some (true, 5)) t2_0 w1 fun t4_2 w3 =>
 offW (some 1) x1 w3 fun t5_4 w5 =>
 loadW (some (false, 1)) t5_4 w5 fun t6_6 w7 =>
 fnW Tryz.prog 74 #[t4_2, t6_6, (.int .i64 0)] w7 fun t7_8 w9 =>
 K t7_8 w9
theorem c73_eq (x0 x1 : Value) (w : World) (K : VPost) : c73 x0 x1 w K = WP true Tryz.prog 8 [] (bodyOf Tryz.f73) (argF [x0, x1]) w [.tmp 3] K := by kernel_rfl
theorem c73_calls (x0 x1 : Value) (w : World) (K : VPost) (h : c73 x0 x1 w K) : Calls Tryz.prog 73 #[x0, x1] w (retK K) :=
 calls_of_WP (c73_eq x0 x1 w K) mixedG Tryz.func73 (by kernel_rfl) Tryz.ntmps73 (by kernel_rfl) (by kernel_rfl) h
def c75 (x0 x1 : Value) (w : World) (K : VPost) : Prop :=
 boxW 73 x0 w fun t2_0 w1 =>
 offW (some 0) t2_0 w1 fun t4_2 w3 =>
 loadW (some (false, 1)) t4_2 w3 fun t5_4 w5 =>
 fnW Tryz.prog 76 #[t5_4] w5 fun t6_6 w7 =>
 unN Tryz.prog .not t6_6 w7 fun t7_8 w9 =>
 gstep t7_8 false w9 (fun K => loadW (some (false, 1)) x1 w9 K) fun t9_10 w11 =>
 gstep t7_8 false w11 (fun K => offW (some 1) t2_0 w11 K) fun t10_12 w13 =>
 gstep t7_8 false w13 (fun K => loadW (some (true, 5)) t10_12 w13 K) fun t11_14 w15 =>
 gstep t7_8 false w15 (fun K => dynW Tryz.prog t9_10 #[t11_14] w15 K) fun t12_16 w17 =>
 gstep t7_8 false w17 (fun K => unN Tryz.prog .not t12_16 w17 K) fun t13_18 w19 =>
 pickW t7_8 (.bool true) t13_18 w19 fun t14_20 w21 =>
 K t14_20 w21
theorem c75_eq (x0 x1 : Value) (w : World) (K : VPost) : c75 x0 x1 w K = WP true Tryz.prog 15 [] (bodyOf Tryz.f75) (argF [x0, x1]) w [.tmp 3] K := by kernel_rfl
theorem c75_calls (x0 x1 : Value) (w : World) (K : VPost) (h : c75 x0 x1 w K) : Calls Tryz.prog 75 #[x0, x1] w (retK K) :=
 calls_of_WP (c75_eq x0 x1 w K) mixedG Tryz.func75 (by kernel_rfl) Tryz.ntmps75 (by kernel_rfl) (by kernel_rfl) h
def c25 (x0 : Value) (w : World) (K : VPost) : Prop :=
 boxW 28 x0 w fun t1_0 w1 =>
 loadW (some (true, 15)) t1_0 w1 fun t7_2 w3 =>
 fnW Tryz.prog 46 #[t7_2] w3 fun t8_4 w5 =>
 unN Tryz.prog .not t8_4 w5 fun t9_6 w7 =>
 condW t9_6 (
 K (.tuple #[(.slice none 0 0), (.bool false)]) w7) (
 offW (some 0) t1_0 w7 fun t10_8 w9 =>
 loadW (some (false, 1)) t10_8 w9 fun t11_10 w11 =>
 convN Tryz.prog 3 5 t11_10 w11 fun t12_12 w13 =>
 insW Tryz.prog (Instr.buildSlice 31 1 #[(0, t12_12)]) w13 fun t13_14 w15 =>
 offW (some 2) t1_0 w15 fun t14_16 w17 =>
 loadW (some (false, 1)) t14_16 w17 fun t15_18 w19 =>
 fnW Tryz.prog 50 #[t13_14, t15_18] w19 fun t16_20 w21 =>
 offW (some 1) t1_0 w21.drew fun t18_22 w23 =>
 loadW (some (false, 1)) t18_22 w23 fun t19_24 w25 =>
 convN Tryz.prog 3 5 t19_24 w25 fun t20_26 w27 =>
 offW (some 3) t1_0 w27 fun t23_28 w29 =>
 loadW (some (true, 5)) t23_28 w29 fun t24_30 w31 =>
 insW Tryz.prog (Instr.buildSlice 31 1 #[(0, t20_26)]) w31 fun t21_32 w33 =>
 (loadW (some (true, 5)) t23_28 w33 fun t24_34 w35 => t24_34 = t24_30 ∧ w35 = w33) ∧
 insW Tryz.prog (Builtin.append_ #[31, 31] 31 #[t16_20, t21_32]) w33 fun t22_36 w37 =>
 (loadW (some (true, 5)) t23_28 w37 fun t24_38 w39 => t24_38 = t24_30 ∧ w39 = w37) ∧
 fnW Tryz.prog 51 #[t22_36, t24_30] w37 fun t25_40 w41 =>
 bindX (endW Tryz.prog [.tmp 2, .tmp 3] K) fun K42 =>
 bindX (seqX (fun f44 w45 =>
 K (.tuple #[(f44 4), (.bool true)]) w45) K42) fun K43 =>
 bindX (blkX 0 K43) fun K46 =>
 offW (some 0) t1_0 w41 fun t27_47 w48 =>
 loadW (some (false, 1)) t27_47 w48 fun t28_49 w50 =>
 fnW Tryz.prog 52 #[t28_49] w50 fun t29_51 w52 =>
 condW t29_51 (
 offW (some 8) t1_0 w52 fun t31_53 w54 =>
 loadW (some (true, 5)) t31_53 w54 fun t32_55 w56 =>
 fnW Tryz.prog 51 #[t25_40, t32_55] w56 fun t33_57 w58 =>
 K43 .normal (pf 64 (pf 64 (pf 64 (pf 64 (pf 64 (pf 64 (pf 64 (pf 64 (pf 64 (pf 64 (pf 64 (pf 64 (pf 64 (pf 64 (pf 64 (pf 64 (pf 64 (pf 64 (pf 64 (pf 64 (pf 64 (pf 64 (pf 64 (pf 64 (pf 64 (pf 64 (pf 64 (pf 64 (pf 64 (pf 64 (pf 64 (pf 64 (pf 64 (argF [x0]) 1 t1_0) 2 (.slice none 0 0)) 3 (.bool false)) 7 t7_2) 8 t8_4) 9 t9_6) 10 t10_8) 11 t11_10) 12 t12_12) 13 t13_14) 14 t14_16) 15 t15_18) 16 t16_20) 4 t16_20) 17 t16_20) 18 t18_22) 19 t19_24) 20 t20_26) 23 t23_28) 24 t24_30) 21 t21_32) 22 t22_36) 25 t25_40) 4 t25_40) 27 t27_47) 28 t28_49) 29 t29_51) 26 t29_51) 30 t25_40) 31 t31_53) 32 t32_55) 33 t33_57) 4 t33_57) w58) (
 offW (some 0) t1_0 w52 fun t35_59 w60 =>
 loadW (some (false, 1)) t35_59 w60 fun t36_61 w62 =>
 binN Tryz.prog .eql 3 true t36_61 (.int .i64 4) w62 fun t37_63 w64 =>
 condW t37_63 (
 offW (some 13) t1_0 w64 fun t39_65 w66 =>
 loadW (some (false, 1)) t39_65 w66 fun t40_67 w68 =>
 convN Tryz.prog 3 5 t40_67 w68 fun t41_69 w70 =>
 offW (some 14) t1_0 w70 fun t42_71 w72 =>
 loadW (some (false, 1)) t42_71 w72 fun t43_73 w74 =>
 lenW Tryz.prog (some true) #[26] 3 #[t43_73] w74 fun t44_75 w76 =>
 convN Tryz.prog 3 5 t44_75 w76 fun t45_77 w78 =>
 insW Tryz.prog (Instr.buildSlice 31 2 #[(0, t41_69), (1, t45_77)]) w78 fun t46_79 w80 =>
 insW Tryz.prog (Builtin.append_ #[31, 31] 31 #[t25_40, t46_79]) w80 fun t47_81 w82 =>
 offW (some 14) t1_0 w82 fun t48_83 w84 =>
 loadW (some (false, 1)) t48_83 w84 fun t49_85 w86 =>
 lenW Tryz.prog (some true) #[26] 3 #[t49_85] w86 fun t50_87 w88 =>
 bindX (blkX 1 K46) fun K89 =>
 loopW (fun f90 w91 K92 =>
 binN Tryz.prog .lss 3 false (f90 51) (f90 50) w91 fun t52_93 w94 =>
 condW t52_93 (
 idxW (some (none, 6)) (f90 49) (f90 51) w94 fun t53_95 w96 =>
 loadW (some (true, 6)) t53_95 w96 fun t54_97 w98 =>
 allocW (zeroO Tryz.prog 73) 73 w98 fun t6_99 w100 =>
 storeW (some (true, 6)) t6_99 t54_97 w100 fun w101 =>
 offW (some 0) t6_99 w101.drew fun t56_102 w103 =>
 loadW (some (false, 1)) t56_102 w103 fun t57_104 w105 =>
 offW (some 1) t6_99 w105 fun t59_106 w107 =>
 loadW (some (true, 5)) t59_106 w107 fun t60_108 w109 =>
 fnW Tryz.prog 50 #[(f90 4), t57_104] w109 fun t58_110 w111 =>
 (loadW (some (true, 5)) t59_106 w111 fun t60_112 w113 => t60_112 = t60_108 ∧ w113 = w111) ∧
 fnW Tryz.prog 51 #[t58_110, t60_108] w111 fun t61_114 w115 =>
 binN Tryz.prog .add 3 true (f90 51) (.int .i64 1) w115 fun t62_116 w117 =>
 K92 .normal (pf 64 (pf 64 (pf 64 (pf 64 (pf 64 (pf 64 (pf 64 (pf 64 (pf 64 (pf 64 (pf 64 (pf 64 (pf 64 (pf 64 f90 52 t52_93) 53 t53_95) 54 t54_97) 6 t6_99) 55 (f90 4)) 56 t56_102) 57 t57_104) 59 t59_106) 60 t60_108) 58 t58_110) 61 t61_114) 4 t61_114) 62 t62_116) 51 t62_116) w117) (
 K92 (.exit 1) (pf 64 f90 52 t52_93) w94)) (pf 64 (pf 64 (pf 64 (pf 64 (pf 64 (pf 64 (pf 64 (pf 64 (pf 64 (pf 64 (pf 64 (pf 64 (pf 64 (pf 64 (pf 64 (pf 64 (pf 64 (pf 64 (pf 64 (pf 64 (pf 64 (pf 64 (pf 64 (pf 64 (pf 64 (pf 64 (pf 64 (pf 64 (pf 64 (pf 64 (pf 64 (pf 64 (pf 64 (pf 64 (pf 64 (pf 64 (pf 64 (pf 64 (pf 64 (pf 64 (pf 64 (pf 64 (pf 64 (pf 64 (pf 64 (pf 64 (pf 64 (argF [x0]) 1 t1_0) 2 (.slice none 0 0)) 3 (.bool false)) 7 t7_2) 8 t8_4) 9 t9_6) 10 t10_8) 11 t11_10) 12 t12_12) 13 t13_14) 14 t14_16) 15 t15_18) 16 t16_20) 4 t16_20) 17 t16_20) 18 t18_22) 19 t19_24) 20 t20_26) 23 t23_28) 24 t24_30) 21 t21_32) 22 t22_36) 25 t25_40) 4 t25_40) 27 t27_47) 28 t28_49) 29 t29_51) 26 t29_51) 35 t35_59) 36 t36_61) 37 t37_63) 34 t37_63) 38 t25_40) 39 t39_65) 40 t40_67) 41 t41_69) 42 t42_71) 43 t43_73) 44 t44_75) 45 t45_77) 46 t46_79) 47 t47_81) 4 t47_81) 48 t48_83) 49 t49_85) 50 t50_87) 51 (.int .i64 0)) w88 K89) (
 K43 .normal (pf 64 (pf 64 (pf 64 (pf 64 (pf 64 (pf 64 (pf 64 (pf 64 (pf 64 (pf 64 (pf 64 (pf 64 (pf 64 (pf 64 (pf 64 (pf 64 (pf 64 (pf 64 (pf 64 (pf 64 (pf 64 (pf 64 (pf 64 (pf 64 (pf 64 (pf 64 (pf 64 (pf 64 (pf 64 (pf 64 (pf 64 (pf 64 (argF [x0]) 1 t1_0) 2 (.slice none 0 0)) 3 (.bool false)) 7 t7_2) 8 t8_4) 9 t9_6) 10 t10_8) 11 t11_10) 12 t12_12) 13 t13_14) 14 t14_16) 15 t15_18) 16 t16_20) 4 t16_20) 17 t16_20) 18 t18_22) 19 t19_24) 20 t20_26) 23 t23_28) 24 t24_30) 21 t21_32) 22 t22_36) 25 t25_40) 4 t25_40) 27 t27_47) 28 t28_49) 29 t29_51) 26 t29_51) 35 t35_59) 36 t36_61) 37 t37_63) 34 t37_63) w64)))
theorem c25_eq (x0 : Value) (w : World) (K : VPost) : c25 x0 w K = WP true Tryz.prog 64 [(4, 816, [0, 0, 2, 4, 8, 17, 0, 64, 160, 511], [0, 0, 2, 6, 14, 31, 0, 64, 255, 511]), (12, 200, [0, 0, 2, 5, 0, 16, 40, 127], [0, 0, 2, 7, 0, 16, 63, 127])] (bodyOf Tryz.f25) (argF [x0]) w [.tmp 2, .tmp 3] K := by kernel_rfl
theorem c25_calls (x0 : Value) (w : World) (K : VPost) (h : c25 x0 w K) : Calls Tryz.prog 25 #[x0] w (retK K) :=
 calls_of_WP (c25_eq x0 w K) mixedG Tryz.func25 (by kernel_rfl) Tryz.ntmps25 (by kernel_rfl) (by kernel_rfl) h
def c60 (x0 : Value) (w : World) (K : VPost) : Prop :=
 lenW Tryz.prog (some true) #[42] 3 #[x0] w fun t10_0 w1 =>
 binN Tryz.prog .gtr 3 true t10_0 (.int .i64 64) w1 fun t11_2 w3 =>
 condW t11_2 (
 K (.tuple #[(.slice none 0 0), (.bool false)]) w3) (
 lenW Tryz.prog (some true) #[42] 3 #[x0] w3 fun t13_4 w5 =>
 fnW Tryz.prog 45 #[(.slice none 0 0), t13_4] w5 fun t14_6 w7 =>
 bindX (endW Tryz.prog [.tmp 2, .tmp 3] K) fun K8 =>
 bindX (seqX (fun f10 w11 =>
 K (.tuple #[(f10 4), (.bool true)]) w11) K8) fun K9 =>
 lenW Tryz.prog (some true) #[42] 3 #[x0] w7 fun t16_12 w13 =>
 bindX (blkX 0 K9) fun K14 =>
 loopW (fun f15 w16 K17 =>
 binN Tryz.prog .lss 3 false (f15 17) (f15 16) w16 fun t18_18 w19 =>
 condW t18_18 (
 idxW (some (none, 15)) (f15 15) (f15 17) w19 fun t19_20 w21 =>
 loadW (some (true, 15)) t19_20 w21 fun t20_22 w23 =>
 allocW (zeroO Tryz.prog 28) 28 w23 fun t6_24 w25 =>
 storeW (some (true, 15)) t6_24 t20_22 w25 fun w26 =>
 loadW (some (true, 15)) t6_24 w26 fun t22_27 w28 =>
 fnW Tryz.prog 25 #[t22_27] w28 fun t23_29 w30 =>
 extrW t23_29 0 w30 fun t24_31 w32 =>
 extrW t23_29 1 w32 fun t25_33 w34 =>
 unN Tryz.prog .not t25_33 w34 fun t27_35 w36 =>
 condW t27_35 (
 K17 .ret (pf 33 (pf 33 (pf 33 (pf 33 (pf 33 (pf 33 (pf 33 (pf 33 (pf 33 (pf 33 (pf 33 (pf 33 (pf 33 (pf 33 (pf 33 f15 18 t18_18) 19 t19_20) 20 t20_22) 6 t6_24) 22 t22_27) 23 t23_29) 21 t23_29) 24 t24_31) 25 t25_33) 7 t24_31) 8 t25_33) 26 t25_33) 27 t27_35) 2 (.slice none 0 0)) 3 (.bool false)) w36) (
 insW Tryz.prog (Builtin.append_ #[31, 31] 31 #[(f15 4), t24_31]) w36 fun t30_37 w38 =>
 binN Tryz.prog .add 3 true (f15 17) (.int .i64 1) w38 fun t31_39 w40 =>
 K17 .normal (pf 33 (pf 33 (pf 33 (pf 33 (pf 33 (pf 33 (pf 33 (pf 33 (pf 33 (pf 33 (pf 33 (pf 33 (pf 33 (pf 33 (pf 33 (pf 33 (pf 33 (pf 33 (pf 33 f15 18 t18_18) 19 t19_20) 20 t20_22) 6 t6_24) 22 t22_27) 23 t23_29) 21 t23_29) 24 t24_31) 25 t25_33) 7 t24_31) 8 t25_33) 26 t25_33) 27 t27_35) 28 (f15 4)) 29 t24_31) 30 t30_37) 4 t30_37) 31 t31_39) 17 t31_39) w40)) (
 K17 (.exit 0) (pf 33 f15 18 t18_18) w19)) (pf 33 (pf 33 (pf 33 (pf 33 (pf 33 (pf 33 (pf 33 (pf 33 (pf 33 (pf 33 (pf 33 (pf 33 (argF [x0]) 2 (.slice none 0 0)) 3 (.bool false)) 9 x0) 10 t10_0) 11 t11_2) 12 x0) 13 t13_4) 14 t14_6) 4 t14_6) 15 x0) 16 t16_12) 17 (.int .i64 0)) w13 K14)
theorem c60_eq (x0 : Value) (w : World) (K : VPost) : c60 x0 w K = WP true Tryz.prog 33 [] (bodyOf Tryz.f60) (argF [x0]) w [.tmp 2, .tmp 3] K := by kernel_rfl
theorem c60_calls (x0 : Value) (w : World) (K : VPost) (h : c60 x0 w K) : Calls Tryz.prog 60 #[x0] w (retK K) :=
 calls_of_WP (c60_eq x0 w K) mixedG Tryz.func60 (by kernel_rfl) Tryz.ntmps60 (by kernel_rfl) (by kernel_rfl) h
def c78 (x0 x1 : Value) (w : World) (K : VPost) : Prop :=
 fnW Tryz.prog 115 #[x0, x1] w fun t7_0 w1 =>
 binN Tryz.prog .geq 3 true t7_0 (.int .i64 0) w1 fun t8_2 w3 =>
 K t8_2 w3
theorem c78_eq (x0 x1 : Value) (w : World) (K : VPost) : c78 x0 x1 w K = WP true Tryz.prog 9 [] (bodyOf Tryz.f78) (argF [x0, x1]) w [.tmp 4] K := by kernel_rfl
theorem c78_calls (x0 x1 : Value) (w : World) (K : VPost) (h : c78 x0 x1 w K) : Calls Tryz.prog 78 #[x0, x1] w (retK K) :=
 calls_of_WP (c78_eq x0 x1 w K) mixedG Tryz.func78 (by kernel_rfl) Tryz.ntmps78 (by kernel_rfl) (by kernel_rfl) h
def c115 (x0 x1 : Value) (w : World) (K : VPost) : Prop :=
 bindX (endW Tryz.prog [.tmp 4] K) fun K0 =>
 bindX (seqX (fun _ w3 =>
 K (.int .i64 (-1)) w3) K0) fun K1 =>
 lenW Tryz.prog (some true) #[26] 3 #[x0] w fun t7_4 w5 =>
 bindX (blkX 0 K1) fun K6 =>
 loopW (fun f7 w8 K9 =>
 binN Tryz.prog .lss 3 false (f7 8) (f7 7) w8 fun t9_10 w11 =>
 condW t9_10 (
 idxW (some (none, 6)) (f7 0) (f7 8) w11 fun t14_12 w13 =>
 loadW (some (true, 6)) t14_12 w13 fun t15_14 w15 =>
 dynW Tryz.prog (f7 1) #[t15_14] w15 fun t16_16 w17 =>
 condW t16_16 (
 K9 .ret (pf 19 (pf 19 (pf 19 (pf 19 (pf 19 (pf 19 (pf 19 (pf 19 (pf 19 (pf 19 (pf 19 f7 9 t9_10) 10 (f7 8)) 5 (f7 8)) 11 (f7 1)) 12 (f7 0)) 13 (f7 8)) 14 t14_12) 15 t15_14) 16 t16_16) 17 (f7 8)) 4 (f7 8)) w17) (
 binN Tryz.prog .add 3 true (f7 8) (.int .i64 1) w17 fun t18_18 w19 =>
 K9 .normal (pf 19 (pf 19 (pf 19 (pf 19 (pf 19 (pf 19 (pf 19 (pf 19 (pf 19 (pf 19 (pf 19 f7 9 t9_10) 10 (f7 8)) 5 (f7 8)) 11 (f7 1)) 12 (f7 0)) 13 (f7 8)) 14 t14_12) 15 t15_14) 16 t16_16) 18 t18_18) 8 t18_18) w19)) (
 K9 (.exit 0) (pf 19 f7 9 t9_10) w11)) (pf 19 (pf 19 (pf 19 (pf 19 (argF [x0, x1]) 4 (.int .i64 0)) 6 x0) 7 t7_4) 8 (.int .i64 0)) w5 K6
theorem c115_eq (x0 x1 : Value) (w : World) (K : VPost) : c115 x0 x1 w K = WP true Tryz.prog 19 [] (bodyOf Tryz.f115) (argF [x0, x1]) w [.tmp 4] K := by kernel_rfl
theorem c115_calls (x0 x1 : Value) (w : World) (K : VPost) (h : c115 x0 x1 w K) : Calls Tryz.prog 115 #[x0, x1] w (retK K) :=
 calls_of_WP (c115_eq x0 x1 w K) mixedG Tryz.func115 (by kernel_rfl) Tryz.ntmps115 (by kernel_rfl) (by kernel_rfl) h
def c32 (x0 x1 : Value) (w : World) (K : VPost) : Prop :=
 bindX (endW Tryz.prog [.tmp 4] K) fun K0 =>
 bindX (seqX (fun _ w3 =>
 K (.int .i64 (-1)) w3) K0) fun K1 =>
 lenW Tryz.prog (some true) #[42] 3 #[x0] w fun t7_4 w5 =>
 bindX (blkX 0 K1) fun K6 =>
 loopW (fun f7 w8 K9 =>
 binN Tryz.prog .lss 3 false (f7 8) (f7 7) w8 fun t9_10 w11 =>
 condW t9_10 (
 idxW (some (none, 15)) (f7 0) (f7 8) w11 fun t14_12 w13 =>
 loadW (some (true, 15)) t14_12 w13 fun t15_14 w15 =>
 dynW Tryz.prog (f7 1) #[t15_14] w15 fun t16_16 w17 =>
 condW t16_16 (
 K9 .ret (pf 19 (pf 19 (pf 19 (pf 19 (pf 19 (pf 19 (pf 19 (pf 19 (pf 19 (pf 19 (pf 19 f7 9 t9_10) 10 (f7 8)) 5 (f7 8)) 11 (f7 1)) 12 (f7 0)) 13 (f7 8)) 14 t14_12) 15 t15_14) 16 t16_16) 17 (f7 8)) 4 (f7 8)) w17) (
 binN Tryz.prog .add 3 true (f7 8) (.int .i64 1) w17 fun t18_18 w19 =>
 K9 .normal (pf 19 (pf 19 (pf 19 (pf 19 (pf 19 (pf 19 (pf 19 (pf 19 (pf 19 (pf 19 (pf 19 f7 9 t9_10) 10 (f7 8)) 5 (f7 8)) 11 (f7 1)) 12 (f7 0)) 13 (f7 8)) 14 t14_12) 15 t15_14) 16 t16_16) 18 t18_18) 8 t18_18) w19)) (
 K9 (.exit 0) (pf 19 f7 9 t9_10) w11)) (pf 19 (pf 19 (pf 19 (pf 19 (argF [x0, x1]) 4 (.int .i64 0)) 6 x0) 7 t7_4) 8 (.int .i64 0)) w5 K6
theorem c32_eq (x0 x1 : Value) (w : World) (K : VPost) : c32 x0 x1 w K = WP true Tryz.prog 19 [] (bodyOf Tryz.f32) (argF [x0, x1]) w [.tmp 4] K := by kernel_rfl
theorem c32_calls (x0 x1 : Value) (w : World) (K : VPost) (h : c32 x0 x1 w K) : Calls Tryz.prog 32 #[x0, x1] w (retK K) :=
 calls_of_WP (c32_eq x0 x1 w K) mixedG Tryz.func32 (by kernel_rfl) Tryz.ntmps32 (by kernel_rfl) (by kernel_rfl) h
def c64 (x0 x1 x2 : Value) (w : World) (K : VPost) : Prop :=
 lenW Tryz.prog (some true) #[42] 3 #[x0] w fun t12_0 w1 =>
 sliceW (.sl 15) x0 (some x1) (some x2) (some t12_0) w1 fun _ w3 =>
 binN Tryz.prog .eql 3 false x1 x2 w3 fun t16_4 w5 =>
 condW t16_4 (
 K x0 w5) (
 lenW Tryz.prog (some true) #[42] 3 #[x0] w5 fun t19_6 w7 =>
 sliceW (.sl 15) x0 none (some x1) none w7.drew fun t22_8 w9 =>
 sliceW (.sl 15) x0 (some x2) none none w9 fun t25_10 w11 =>
 insW Tryz.prog (Builtin.append_ #[42, 42] 42 #[t22_8, t25_10]) w11 fun t26_12 w13 =>
 lenW Tryz.prog (some true) #[42] 3 #[t26_12] w13 fun t29_14 w15 =>
 sliceW (.sl 15) t26_12 (some t29_14) (some t19_6) none w15 fun t31_16 w17 =>
 insW Tryz.prog (Builtin.clear_ #[42] 0 #[t31_16]) w17 fun _ w19 =>
 K t26_12 w19)
theorem c64_eq (x0 x1 x2 : Value) (w : World) (K : VPost) : c64 x0 x1 x2 w K = WP true Tryz.prog 33 [(5, 192, [0, 0, 3, 0, 0, 24, 36, 127], [0, 0, 3, 0, 0, 24, 63, 127])] (bodyOf Tryz.f64) (argF [x0, x1, x2]) w [.tmp 6] K := by kernel_rfl
theorem c64_calls (x0 x1 x2 : Value) (w : World) (K : VPost) (h : c64 x0 x1 x2 w K) : Calls Tryz.prog 64 #[x0, x1, x2] w (retK K) :=
 calls_of_WP (c64_eq x0 x1 x2 w K) mixedG Tryz.func64 (by kernel_rfl) Tryz.ntmps64 (by kernel_rfl) (by kernel_rfl) h
def c63 (x0 x1 x2 : Value) (w : World) (K : VPost) : Prop :=
 sliceW (.sl 15) x0 (some x1) none none w fun _ w1 =>
 lenW Tryz.prog (some true) #[42] 3 #[x2] w1 fun t14_2 w3 =>
 binN Tryz.prog .eql 3 true t14_2 (.int .i64 0) w3 fun t16_4 w5 =>
 condW t16_4 (
 K x0 w5) (
 lenW Tryz.prog (some true) #[42] 3 #[x0] w5 fun t19_6 w7 =>
 binN Tryz.prog .eql 3 false x1 t19_6 w7 fun t22_8 w9 =>
 condW t22_8 (
 insW Tryz.prog (Builtin.append_ #[42, 42] 42 #[x0, x2]) w9 fun t25_10 w11 =>
 K t25_10 w11) (
 binN Tryz.prog .add 3 false t19_6 t14_2 w9 fun t28_12 w13 =>
 insW Tryz.prog (Builtin.cap_ #[42] 3 #[x0]) w13 fun t30_14 w15 =>
 binN Tryz.prog .gtr 3 false t28_12 t30_14 w15 fun t31_16 w17 =>
 condW t31_16 (
 sliceW (.sl 15) x0 none (some x1) none w17 fun t34_18 w19 =>
 binN Tryz.prog .add 3 false t19_6 t14_2 w19 fun t37_20 w21 =>
 binN Tryz.prog .sub 3 false t37_20 x1 w21 fun t39_22 w23 =>
 insW Tryz.prog (Builtin.append_ #[42, 3] 42 #[t34_18, t39_22]) w23 fun t40_24 w25 =>
 sliceW (.sl 15) t40_24 (some x1) none none w25 fun t43_26 w27 =>
 insW Tryz.prog (Builtin.copy_ #[42, 42] 3 #[t43_26, x2]) w27 fun _ w29 =>
 binN Tryz.prog .add 3 false x1 t14_2 w29.drew fun t49_30 w31 =>
 sliceW (.sl 15) t40_24 (some t49_30) none none w31 fun t50_32 w33 =>
 sliceW (.sl 15) x0 (some x1) none none w33 fun t53_34 w35 =>
 insW Tryz.prog (Builtin.copy_ #[42, 42] 3 #[t50_32, t53_34]) w35 fun _ w37 =>
 K t40_24 w37) (
 binN Tryz.prog .add 3 false t19_6 t14_2 w17 fun t59_38 w39 =>
 sliceW (.sl 15) x0 none (some t59_38) none w39 fun t60_40 w41 =>
 binN Tryz.prog .add 3 false x1 t14_2 w41 fun t65_42 w43 =>
 sliceW (.sl 15) t60_40 (some t65_42) none none w43 fun t66_44 w45 =>
 fnW Tryz.prog 98 #[x2, t66_44] w45 fun t67_46 w47 =>
 unN Tryz.prog .not t67_46 w47 fun t68_48 w49 =>
 condW t68_48 (
 binN Tryz.prog .add 3 false x1 t14_2 w49.drew fun t72_50 w51 =>
 sliceW (.sl 15) t60_40 (some t72_50) none none w51 fun t73_52 w53 =>
 sliceW (.sl 15) t60_40 (some x1) none none w53 fun t76_54 w55 =>
 insW Tryz.prog (Builtin.copy_ #[42, 42] 3 #[t73_52, t76_54]) w55 fun _ w57 =>
 sliceW (.sl 15) t60_40 (some x1) none none w57 fun t80_58 w59 =>
 insW Tryz.prog (Builtin.copy_ #[42, 42] 3 #[t80_58, x2]) w59 fun _ w61 =>
 K t60_40 w61) (
 sliceW (.sl 15) t60_40 (some t19_6) none none w49 fun t86_62 w63 =>
 insW Tryz.prog (Builtin.copy_ #[42, 42] 3 #[t86_62, x2]) w63 fun _ w65 =>
 sliceW (.sl 15) t60_40 (some x1) none none w65 fun t91_66 w67 =>
 fnW Tryz.prog 99 #[t91_66, t14_2] w67 fun _ w69 =>
 K t60_40 w69))))
theorem c63_eq (x0 x1 x2 : Value) (w : World) (K : VPost) : c63 x0 x1 x2 w K = WP true Tryz.prog 95 [(11, 256, [0, 0, 0, 6, 9, 0, 0, 96, 144], [0, 0, 0, 6, 15, 0, 0, 96, 255]), (15, 256, [0, 0, 0, 6, 9, 0, 0, 96, 144], [0, 0, 0, 6, 15, 0, 0, 96, 255])] (bodyOf Tryz.f63) (argF [x0, x1, x2]) w [.tmp 6] K := by kernel_rfl
theorem c63_calls (x0 x1 x2 : Value) (w : World) (K : VPost) (h : c63 x0 x1 x2 w K) : Calls Tryz.prog 63 #[x0, x1, x2] w (retK K) :=
 calls_of_WP (c63_eq x0 x1 x2 w K) mixedG Tryz.func63 (by kernel_rfl) Tryz.ntmps63 (by kernel_rfl) (by kernel_rfl) h
-- 98 has no body/-- slices.rotateRight[imprimatur/api.Decl] -/
def c12 (x0 x1 : Value) (w : World) (K : VPost) : Prop :=
 boxW 9 x1 w fun t3_0 w1 =>
 insW Tryz.prog (Instr.makeFunc (.func 33) #[] #[t3_0]) w1 fun t6_2 w3 =>
 fnW Tryz.prog 32 #[x0, t6_2] w3 fun t7_4 w5 =>
 K t7_4 w5
theorem c12_eq (x0 x1 : Value) (w : World) (K : VPost) : c12 x0 x1 w K = WP true Tryz.prog 8 [] (bodyOf Tryz.f12) (argF [x0, x1]) w [.tmp 4] K := by kernel_rfl
theorem c12_calls (x0 x1 : Value) (w : World) (K : VPost) (h : c12 x0 x1 w K) : Calls Tryz.prog 12 #[x0, x1] w (retK K) :=
 calls_of_WP (c12_eq x0 x1 w K) mixedG Tryz.func12 (by kernel_rfl) Tryz.ntmps12 (by kernel_rfl) (by kernel_rfl) h
def c33 (x0 x1 : Value) (w : World) (K : VPost) : Prop :=
 boxW 28 x0 w fun t2_0 w1 =>
 offW (some 2) t2_0 w1 fun t4_2 w3 =>
 loadW (some (false, 1)) t4_2 w3 fun t5_4 w5 =>
 loadW (some (false, 1)) x1 w5 fun t6_6 w7 =>
 binW Tryz.prog .eql 9 false t5_4 t6_6 w7 fun t7_8 w9 =>
 K t7_8 w9
theorem c33_eq (x0 x1 : Value) (w : World) (K : VPost) : c33 x0 x1 w K = WP true Tryz.prog 8 [] (bodyOf Tryz.f33) (argF [x0, x1]) w [.tmp 3] K := by kernel_rfl
theorem c33_calls (x0 x1 : Value) (w : World) (K : VPost) (h : c33 x0 x1 w K) : Calls Tryz.prog 33 #[x0, x1] w (retK K) :=
 calls_of_WP (c33_eq x0 x1 w K) mixedG Tryz.func33 (by kernel_rfl) Tryz.ntmps33 (by kernel_rfl) (by kernel_rfl) h
def c24 (x0 : Value) (w : World) (K : VPost) : Prop :=
 binN Tryz.prog .eql 3 true x0 (.int .i64 1) w fun t4_0 w1 =>
 gstep t4_0 false w1 (fun K => K x0 w1) fun t6_2 w3 =>
 gstep t4_0 false w3 (fun K => binN Tryz.prog .eql 3 true t6_2 (.int .i64 3) w3 K) fun t7_4 w5 =>
 pickW t4_0 (.bool true) t7_4 w5 fun t8_6 w7 =>
 K t8_6 w7
theorem c24_eq (x0 : Value) (w : World) (K : VPost) : c24 x0 w K = WP true Tryz.prog 9 [] (bodyOf Tryz.f24) (argF [x0]) w [.tmp 2] K := by kernel_rfl
theorem c24_calls (x0 : Value) (w : World) (K : VPost) (h : c24 x0 w K) : Calls Tryz.prog 24 #[x0] w (retK K) :=
 calls_of_WP (c24_eq x0 w K) mixedG Tryz.func24 (by kernel_rfl) Tryz.ntmps24 (by kernel_rfl) (by kernel_rfl) h
def c47 (x0 : Value) (w : World) (K : VPost) : Prop :=
 boxW 28 x0 w fun t1_0 w1 =>
 offW (some 0) t1_0 w1 fun t4_2 w3 =>
 loadW (some (false, 1)) t4_2 w3 fun t5_4 w5 =>
 binN Tryz.prog .eql 3 true t5_4 (.int .i64 0) w5 fun t6_6 w7 =>
 gstep t6_6 true w7 (fun K => offW (some 1) t1_0 w7 K) fun t8_8 w9 =>
 gstep t6_6 true w9 (fun K => loadW (some (false, 1)) t8_8 w9 K) fun t9_10 w11 =>
 gstep t6_6 true w11 (fun K => binN Tryz.prog .eql 3 true t9_10 (.int .i64 0) w11 K) fun t10_12 w13 =>
 pickW t6_6 t10_12 (.bool false) w13 fun t11_14 w15 =>
 gstep t11_14 true w15 (fun K => offW (some 2) t1_0 w15 K) fun t13_16 w17 =>
 gstep t11_14 true w17 (fun K => loadW (some (false, 1)) t13_16 w17 K) fun t14_18 w19 =>
 gstep t11_14 true w19 (fun K => binW Tryz.prog .eql 9 true t14_18 (.string ⟨#[]⟩) w19 K) fun t15_20 w21 =>
 pickW t11_14 t15_20 (.bool false) w21 fun t16_22 w23 =>
 gstep t16_22 true w23 (fun K => offW (some 13) t1_0 w23 K) fun t18_24 w25 =>
 gstep t16_22 true w25 (fun K => loadW (some (false, 1)) t18_24 w25 K) fun t19_26 w27 =>
 gstep t16_22 true w27 (fun K => binN Tryz.prog .eql 3 true t19_26 (.int .i64 0) w27 K) fun t20_28 w29 =>
 pickW t16_22 t20_28 (.bool false) w29 fun t21_30 w31 =>
 gstep t21_30 true w31 (fun K => offW (some 14) t1_0 w31 K) fun t23_32 w33 =>
 gstep t21_30 true w33 (fun K => loadW (some (false, 1)) t23_32 w33 K) fun t24_34 w35 =>
 gstep t21_30 true w35 (fun K => lenW Tryz.prog (some true) #[26] 3 #[t24_34] w35 K) fun t25_36 w37 =>
 gstep t21_30 true w37 (fun K => binN Tryz.prog .eql 3 true t25_36 (.int .i64 0) w37 K) fun t26_38 w39 =>
 pickW t21_30 t26_38 (.bool false) w39 fun t27_40 w41 =>
 gstep t27_40 true w41 (fun K => K (.func (.func 79) #[] #[]) w41) fun t29_42 w43 =>
 gstep t27_40 true w43 (fun K => offW (some 3) t1_0 w43 K) fun t30_44 w45 =>
 gstep t27_40 true w45 (fun K => loadW (some (true, 5)) t30_44 w45 K) fun t31_46 w47 =>
 gstep t27_40 true w47 (fun K => dynW Tryz.prog t29_42 #[t31_46] w47 K) fun t32_48 w49 =>
 pickW t27_40 t32_48 (.bool false) w49 fun t33_50 w51 =>
 gstep t33_50 true w51 (fun K => K (.func (.func 79) #[] #[]) w51) fun t35_52 w53 =>
 gstep t33_50 true w53 (fun K => offW (some 8) t1_0 w53 K) fun t36_54 w55 =>
 gstep t33_50 true w55 (fun K => loadW (some (true, 5)) t36_54 w55 K) fun t37_56 w57 =>
 gstep t33_50 true w57 (fun K => dynW Tryz.prog t35_52 #[t37_56] w57 K) fun t38_58 w59 =>
 pickW t33_50 t38_58 (.bool false) w59 fun t39_60 w61 =>
 K t39_60 w61
theorem c47_eq (x0 : Value) (w : World) (K : VPost) : c47 x0 w K = WP true Tryz.prog 40 [] (bodyOf Tryz.f47) (argF [x0]) w [.tmp 2] K := by kernel_rfl
theorem c47_calls (x0 : Value) (w : World) (K : VPost) (h : c47 x0 w K) : Calls Tryz.prog 47 #[x0] w (retK K) :=
 calls_of_WP (c47_eq x0 w K) mixedG Tryz.func47 (by kernel_rfl) Tryz.ntmps47 (by kernel_rfl) (by kernel_rfl) h
def c79 (x0 : Value) (w : World) (K : VPost) : Prop :=
 boxW 25 x0 w fun t1_0 w1 =>
 loadW (some (true, 5)) t1_0 w1 fun t3_2 w3 =>
 insW Tryz.prog (Instr.build 25 #[]) w3 fun t4_4 w5 =>
 fnW Tryz.prog 80 #[t3_2, t4_4] w5 fun t5_6 w7 =>
 K t5_6 w7
theorem c79_eq (x0 : Value) (w : World) (K : VPost) : c79 x0 w K = WP true Tryz.prog 6 [] (bodyOf Tryz.f79) (argF [x0]) w [.tmp 2] K := by kernel_rfl
theorem c79_calls (x0 : Value) (w : World) (K : VPost) (h : c79 x0 w K) : Calls Tryz.prog 79 #[x0] w (retK K) :=
 calls_of_WP (c79_eq x0 w K) mixedG Tryz.func79 (by kernel_rfl) Tryz.ntmps79 (by kernel_rfl) (by kernel_rfl) h
def c21 (x0 : Value) (w : World) (K : VPost) : Prop :=
 boxW 30 x0 w fun t1_0 w1 =>
 offW (some 0) t1_0 w1 fun t4_2 w3 =>
 loadW (some (false, 1)) t4_2 w3 fun t5_4 w5 =>
 binN Tryz.prog .lss 3 true t5_4 (.int .i64 1) w5 fun t6_6 w7 =>
 gstep t6_6 false w7 (fun K => offW (some 0) t1_0 w7 K) fun t8_8 w9 =>
 gstep t6_6 false w9 (fun K => loadW (some (false, 1)) t8_8 w9 K) fun t9_10 w11 =>
 gstep t6_6 false w11 (fun K => binN Tryz.prog .gtr 3 true t9_10 (.int .i64 5) w11 K) fun t10_12 w13 =>
 pickW t6_6 (.bool true) t10_12 w13 fun t11_14 w15 =>
 condW t11_14 (
 K (.bool false) w15) (
 offW (some 0) t1_0 w15 fun t13_16 w17 =>
 loadW (some (false, 1)) t13_16 w17 fun t14_18 w19 =>
 fnW Tryz.prog 24 #[t14_18] w19 fun t15_20 w21 =>
 gstep t15_20 true w21 (fun K => offW (some 4) t1_0 w21 K) fun t17_22 w23 =>
 gstep t15_20 true w23 (fun K => loadW (some (true, 15)) t17_22 w23 K) fun t18_24 w25 =>
 gstep t15_20 true w25 (fun K => fnW Tryz.prog 46 #[t18_24] w25 K) fun t19_26 w27 =>
 gstep t15_20 true w27 (fun K => unN Tryz.prog .not t19_26 w27 K) fun t20_28 w29 =>
 pickW t15_20 t20_28 (.bool false) w29 fun t21_30 w31 =>
 gstep t21_30 false w31 (fun K => offW (some 0) t1_0 w31 K) fun t23_32 w33 =>
 gstep t21_30 false w33 (fun K => loadW (some (false, 1)) t23_32 w33 K) fun t24_34 w35 =>
 gstep t21_30 false w35 (fun K => fnW Tryz.prog 24 #[t24_34] w35 K) fun t25_36 w37 =>
 gstep t21_30 false w37 (fun K => unN Tryz.prog .not t25_36 w37 K) fun t26_38 w39 =>
 gstep t21_30 false w39 (fun K => K t26_38 w39) fun t27_40 w41 =>
 gstep t27_40 true w41 (fun K => offW (some 4) t1_0 w41 K) fun t28_42 w43 =>
 gstep t27_40 true w43 (fun K => loadW (some (true, 15)) t28_42 w43 K) fun t29_44 w45 =>
 gstep t27_40 true w45 (fun K => fnW Tryz.prog 47 #[t29_44] w45 K) fun t30_46 w47 =>
 gstep t27_40 true w47 (fun K => unN Tryz.prog .not t30_46 w47 K) fun t31_48 w49 =>
 gstep t21_30 false w49 (fun K => pickW t27_40 t31_48 (.bool false) w49 K) fun t32_50 w51 =>
 pickW t21_30 (.bool true) t32_50 w51 fun t33_52 w53 =>
 condW t33_52 (
 K (.bool false) w53) (
 offW (some 0) t1_0 w53 fun t35_54 w55 =>
 loadW (some (false, 1)) t35_54 w55 fun t36_56 w57 =>
 binN Tryz.prog .neq 3 true t36_56 (.int .i64 1) w57 fun t37_58 w59 =>
 gstep t37_58 true w59 (fun K => offW (some 0) t1_0 w59 K) fun t39_60 w61 =>
 gstep t37_58 true w61 (fun K => loadW (some (false, 1)) t39_60 w61 K) fun t40_62 w63 =>
 gstep t37_58 true w63 (fun K => binN Tryz.prog .neq 3 true t40_62 (.int .i64 5) w63 K) fun t41_64 w65 =>
 pickW t37_58 t41_64 (.bool false) w65 fun t42_66 w67 =>
 gstep t42_66 true w67 (fun K => offW (some 1) t1_0 w67 K) fun t44_68 w69 =>
 gstep t42_66 true w69 (fun K => loadW (some (false, 1)) t44_68 w69 K) fun t45_70 w71 =>
 gstep t42_66 true w71 (fun K => binN Tryz.prog .neq 3 true t45_70 (.int .i64 0) w71 K) fun t46_72 w73 =>
 pickW t42_66 t46_72 (.bool false) w73 fun t47_74 w75 =>
 condW t47_74 (
 K (.bool false) w75) (
 offW (some 0) t1_0 w75 fun t48_76 w77 =>
 loadW (some (false, 1)) t48_76 w77 fun t49_78 w79 =>
 binN Tryz.prog .neq 3 true t49_78 (.int .i64 1) w79 fun t50_80 w81 =>
 gstep t50_80 false w81 (fun K => offW (some 2) t1_0 w81 K) fun t52_82 w83 =>
 gstep t50_80 false w83 (fun K => loadW (some (false, 1)) t52_82 w83 K) fun t53_84 w85 =>
 gstep t50_80 false w85 (fun K => binW Tryz.prog .eql 9 true t53_84 (.string ⟨#[]⟩) w85 K) fun t54_86 w87 =>
 pickW t50_80 (.bool true) t54_86 w87 fun t55_88 w89 =>
 gstep t55_88 true w89 (fun K => offW (some 0) t1_0 w89 K) fun t57_90 w91 =>
 gstep t55_88 true w91 (fun K => loadW (some (false, 1)) t57_90 w91 K) fun t58_92 w93 =>
 gstep t55_88 true w93 (fun K => binN Tryz.prog .eql 3 true t58_92 (.int .i64 4) w93 K) fun t59_94 w95 =>
 gstep t55_88 true w95 (fun K => K t59_94 w95) fun t60_96 w97 =>
 gstep t60_96 false w97 (fun K => offW (some 3) t1_0 w97 K) fun t61_98 w99 =>
 gstep t60_96 false w99 (fun K => loadW (some (false, 1)) t61_98 w99 K) fun t62_100 w101 =>
 gstep t60_96 false w101 (fun K => binW Tryz.prog .eql 9 true t62_100 (.string ⟨#[]⟩) w101 K) fun t63_102 w103 =>
 gstep t55_88 true w103 (fun K => pickW t60_96 (.bool true) t63_102 w103 K) fun t64_104 w105 =>
 pickW t55_88 t64_104 (.bool false) w105 fun t65_106 w107 =>
 K t65_106 w107)))
theorem c21_eq (x0 : Value) (w : World) (K : VPost) : c21 x0 w K = WP true Tryz.prog 66 [] (bodyOf Tryz.f21) (argF [x0]) w [.tmp 2] K := by kernel_rfl
theorem c21_calls (x0 : Value) (w : World) (K : VPost) (h : c21 x0 w K) : Calls Tryz.prog 21 #[x0] w (retK K) :=
 calls_of_WP (c21_eq x0 w K) mixedG Tryz.func21 (by kernel_rfl) Tryz.ntmps21 (by kernel_rfl) (by kernel_rfl) h
def c61 (x0 : Value) (w : World) (K : VPost) : Prop :=
 boxW 28 x0 w fun t1_0 w1 =>
 allocW (zeroO Tryz.prog 28) 28 w1 fun t2_2 w3 =>
 offW (some 3) t1_0 w3.drew fun t6_4 w5 =>
 loadW (some (true, 5)) t6_4 w5 fun t7_6 w7 =>
 offW (some 8) t1_0 w7 fun t9_8 w9 =>
 loadW (some (true, 5)) t9_8 w9 fun t10_10 w11 =>
 fnW Tryz.prog 88 #[t7_6] w11 fun t8_12 w13 =>
 (loadW (some (true, 5)) t9_8 w13 fun t10_14 w15 => t10_14 = t10_10 ∧ w15 = w13) ∧
 offW (some 3) t1_0 w13 fun t12_16 w17 =>
 fnW Tryz.prog 88 #[t10_10] w17 fun t11_18 w19 =>
 storeW (some (true, 5)) t12_16 t8_12 w19 fun w20 =>
 offW (some 8) t1_0 w20 fun t13_21 w22 =>
 storeW (some (true, 5)) t13_21 t11_18 w22 fun w23 =>
 offW (some 14) t1_0 w23 fun t14_24 w25 =>
 loadW (some (false, 1)) t14_24 w25 fun t15_26 w27 =>
 offW (some 14) t1_0 w27 fun t16_28 w29 =>
 storeW (some (false, 1)) t16_28 (.slice none 0 0) w29 fun w30 =>
 bindX (endW Tryz.prog [.cell 2 28] K) fun K31 =>
 bindX (seqX (fun f33 w34 =>
 loadW (some (true, 15)) (f33 1) w34 fun t35_35 w36 =>
 storeW (some (true, 15)) (f33 2) t35_35 w36 fun w37 =>
 loadW (some (true, 15)) (f33 2) w37 fun r38 _ =>
 K r38 w37) K31) fun K32 =>
 lenW Tryz.prog (some true) #[26] 3 #[t15_26] w30 fun t18_40 w41 =>
 bindX (blkX 0 K32) fun K42 =>
 loopW (fun f43 w44 K45 =>
 binN Tryz.prog .lss 3 false (f43 19) (f43 18) w44 fun t20_46 w47 =>
 condW t20_46 (
 idxW (some (none, 6)) (f43 17) (f43 19) w47 fun t21_48 w49 =>
 loadW (some (true, 6)) t21_48 w49 fun t22_50 w51 =>
 allocW (zeroO Tryz.prog 73) 73 w51 fun t5_52 w53 =>
 storeW (some (true, 6)) t5_52 t22_50 w53 fun w54 =>
 offW (some 14) (f43 1) w54.drew fun t23_55 w56 =>
 loadW (some (false, 1)) t23_55 w56 fun t24_57 w58 =>
 offW (some 0) t5_52 w58 fun t25_59 w60 =>
 loadW (some (false, 1)) t25_59 w60 fun t26_61 w62 =>
 offW (some 1) t5_52 w62 fun t27_63 w64 =>
 loadW (some (true, 5)) t27_63 w64 fun t28_65 w66 =>
 fnW Tryz.prog 88 #[t28_65] w66 fun t29_67 w68 =>
 (loadW (some (false, 1)) t23_55 w68 fun t24_69 w70 => t24_69 = t24_57 ∧ w70 = w68) ∧
 (loadW (some (false, 1)) t25_59 w68 fun t26_71 w72 => t26_71 = t26_61 ∧ w72 = w68) ∧
 insW Tryz.prog (Instr.build 73 #[(0, t26_61), (1, t29_67)]) w68 fun t30_73 w74 =>
 insW Tryz.prog (Instr.buildSlice 26 1 #[(0, t30_73)]) w74 fun t31_75 w76 =>
 (loadW (some (false, 1)) t23_55 w76 fun t24_77 w78 => t24_77 = t24_57 ∧ w78 = w76) ∧
 insW Tryz.prog (Builtin.append_ #[26, 26] 26 #[t24_57, t31_75]) w76 fun t32_79 w80 =>
 offW (some 14) (f43 1) w80 fun t33_81 w82 =>
 storeW (some (false, 1)) t33_81 t32_79 w82 fun w83 =>
 binN Tryz.prog .add 3 true (f43 19) (.int .i64 1) w83 fun t34_84 w85 =>
 K45 .normal (pf 36 (pf 36 (pf 36 (pf 36 (pf 36 (pf 36 (pf 36 (pf 36 (pf 36 (pf 36 (pf 36 (pf 36 (pf 36 (pf 36 (pf 36 (pf 36 (pf 36 f43 20 t20_46) 21 t21_48) 22 t22_50) 5 t5_52) 23 t23_55) 24 t24_57) 25 t25_59) 26 t26_61) 27 t27_63) 28 t28_65) 29 t29_67) 30 t30_73) 31 t31_75) 32 t32_79) 33 t33_81) 34 t34_84) 19 t34_84) w85) (
 K45 (.exit 0) (pf 36 f43 20 t20_46) w47)) (pf 36 (pf 36 (pf 36 (pf 36 (pf 36 (pf 36 (pf 36 (pf 36 (pf 36 (pf 36 (pf 36 (pf 36 (pf 36 (pf 36 (pf 36 (pf 36 (pf 36 (argF [x0]) 1 t1_0) 2 t2_2) 6 t6_4) 7 t7_6) 9 t9_8) 10 t10_10) 8 t8_12) 12 t12_16) 11 t11_18) 13 t13_21) 14 t14_24) 15 t15_26) 3 t15_26) 16 t16_28) 17 t15_26) 18 t18_40) 19 (.int .i64 0)) w41 K42
theorem c61_eq (x0 : Value) (w : World) (K : VPost) : c61 x0 w K = WP true Tryz.prog 36 [(1, 676, [0, 1, 2, 0, 8, 20, 31, 127, 255, 511], [0, 1, 3, 0, 8, 31, 31, 127, 255, 511]), (7, 2880, [0, 1, 0, 4, 0, 16, 32, 72, 128, 322, 1023, 2047], [0, 1, 0, 4, 0, 16, 48, 124, 252, 511, 1023, 2047])] (bodyOf Tryz.f61) (argF [x0]) w [.cell 2 28] K := by kernel_rfl
theorem c61_calls (x0 : Value) (w : World) (K : VPost) (h : c61 x0 w K) : Calls Tryz.prog 61 #[x0] w (retK K) :=
 calls_of_WP (c61_eq x0 w K) mixedG Tryz.func61 (by kernel_rfl) Tryz.ntmps61 (by kernel_rfl) (by kernel_rfl) h
def c35 (x0 : Value) (w : World) (K : VPost) : Prop :=
 bindX (endW Tryz.prog [.tmp 2] K) fun K0 =>
 bindX (seqX (fun f2 w3 =>
 K (f2 3) w3) K0) fun K1 =>
 lenW Tryz.prog (some true) #[42] 3 #[x0] w fun t7_4 w5 =>
 bindX (blkX 0 K1) fun K6 =>
 loopW (fun f7 w8 K9 =>
 binN Tryz.prog .lss 3 false (f7 8) (f7 7) w8 fun t9_10 w11 =>
 condW t9_10 (
 idxW (some (none, 15)) (f7 6) (f7 8) w11 fun t10_12 w13 =>
 loadW (some (true, 15)) t10_12 w13 fun t11_14 w15 =>
 allocW (zeroO Tryz.prog 28) 28 w15 fun t5_16 w17 =>
 storeW (some (true, 15)) t5_16 t11_14 w17 fun w18 =>
 loadW (some (true, 15)) t5_16 w18 fun t13_19 w20 =>
 fnW Tryz.prog 61 #[t13_19] w20 fun t14_21 w22 =>
 insW Tryz.prog (Instr.buildSlice 42 1 #[(0, t14_21)]) w22 fun t15_23 w24 =>
 insW Tryz.prog (Builtin.append_ #[42, 42] 42 #[(f7 3), t15_23]) w24 fun t16_25 w26 =>
 binN Tryz.prog .add 3 true (f7 8) (.int .i64 1) w26 fun t17_27 w28 =>
 K9 .normal (pf 19 (pf 19 (pf 19 (pf 19 (pf 19 (pf 19 (pf 19 (pf 19 (pf 19 (pf 19 (pf 19 (pf 19 f7 9 t9_10) 10 t10_12) 11 t11_14) 5 t5_16) 12 (f7 3)) 13 t13_19) 14 t14_21) 15 t15_23) 16 t16_25) 3 t16_25) 17 t17_27) 8 t17_27) w28) (
 K9 (.exit 0) (pf 19 f7 9 t9_10) w11)) (pf 19 (pf 19 (pf 19 (pf 19 (pf 19 (argF [x0]) 2 (.slice none 0 0)) 3 (.slice none 0 0)) 6 x0) 7 t7_4) 8 (.int .i64 0)) w5 K6
theorem c35_eq (x0 : Value) (w : World) (K : VPost) : c35 x0 w K = WP true Tryz.prog 19 [] (bodyOf Tryz.f35) (argF [x0]) w [.tmp 2] K := by kernel_rfl
theorem c35_calls (x0 : Value) (w : World) (K : VPost) (h : c35 x0 w K) : Calls Tryz.prog 35 #[x0] w (retK K) :=
 calls_of_WP (c35_eq x0 w K) mixedG Tryz.func35 (by kernel_rfl) Tryz.ntmps35 (by kernel_rfl) (by kernel_rfl) h
def c34 (x0 : Value) (w : World) (K : VPost) : Prop :=
 fnW Tryz.prog 60 #[x0] w fun t7_0 w1 =>
 extrW t7_0 0 w1 fun _ w3 =>
 extrW t7_0 1 w3 fun t9_4 w5 =>
 K t9_4 w5
theorem c34_eq (x0 : Value) (w : World) (K : VPost) : c34 x0 w K = WP true Tryz.prog 11 [] (bodyOf Tryz.f34) (argF [x0]) w [.tmp 2] K := by kernel_rfl
theorem c34_calls (x0 : Value) (w : World) (K : VPost) (h : c34 x0 w K) : Calls Tryz.prog 34 #[x0] w (retK K) :=
 calls_of_WP (c34_eq x0 w K) mixedG Tryz.func34 (by kernel_rfl) Tryz.ntmps34 (by kernel_rfl) (by kernel_rfl) h
def c36 (x0 x1 : Value) (w : World) (K : VPost) : Prop :=
 boxW 30 x1 w fun t3_0 w1 =>
 offW (some 0) t3_0 w1 fun t10_2 w3 =>
 loadW (some (false, 1)) t10_2 w3 fun t11_4 w5 =>
 binN Tryz.prog .eql 3 true t11_4 (.int .i64 4) w5 fun t12_6 w7 =>
 condW t12_6 (
 loadW (some (true, 19)) t3_0 w7 fun t14_8 w9 =>
 fnW Tryz.prog 62 #[x0, t14_8] w9 fun t15_10 w11 =>
 K (.tuple #[x0, t15_10]) w11) (
 offW (some 2) t3_0 w7 fun t19_12 w13 =>
 loadW (some (false, 1)) t19_12 w13 fun t20_14 w15 =>
 fnW Tryz.prog 12 #[x0, t20_14] w15 fun t21_16 w17 =>
 lenW Tryz.prog (some true) #[42] 3 #[x0] w17 fun t23_18 w19 =>
 bindX (endW Tryz.prog [.tmp 4, .tmp 5] K) fun K20 =>
 bindX (seqX (fun f22 w23 =>
 offW (some 0) (f22 3) w23 fun t30_24 w25 =>
 loadW (some (false, 1)) t30_24 w25 fun t31_26 w27 =>
 binN Tryz.prog .neq 3 true t31_26 (.int .i64 1) w27 fun t32_28 w29 =>
 gstep t32_28 true w29 (fun K => K (f22 7) w29) fun t34_30 w31 =>
 gstep t32_28 true w31 (fun K => binN Tryz.prog .lss 3 true t34_30 (.int .i64 0) w31 K) fun t35_32 w33 =>
 pickW t32_28 t35_32 (.bool false) w33 fun t36_34 w35 =>
 condW t36_34 (
 K (.tuple #[(f22 0), (.int .i64 12)]) w35) (
 offW (some 1) (f22 3) w35 fun t39_36 w37 =>
 loadW (some (false, 1)) t39_36 w37 fun t40_38 w39 =>
 binN Tryz.prog .lss 3 true t40_38 (.int .i64 0) w39 fun t41_40 w41 =>
 gstep t41_40 false w41 (fun K => offW (some 1) (f22 3) w41 K) fun t43_42 w43 =>
 gstep t41_40 false w43 (fun K => loadW (some (false, 1)) t43_42 w43 K) fun t44_44 w45 =>
 gstep t41_40 false w45 (fun K => K (f22 8) w45) fun t45_46 w47 =>
 gstep t41_40 false w47 (fun K => binN Tryz.prog .gtr 3 false t44_44 t45_46 w47 K) fun t46_48 w49 =>
 pickW t41_40 (.bool true) t46_48 w49 fun t47_50 w51 =>
 condW t47_50 (
 K (.tuple #[(f22 0), (.int .i64 11)]) w51) (
 offW (some 0) (f22 3) w51 fun t50_52 w53 =>
 loadW (some (false, 1)) t50_52 w53 fun t51_54 w55 =>
 binN Tryz.prog .eql 3 true t51_54 (.int .i64 1) w55 fun t52_56 w57 =>
 gstep t52_56 true w57 (fun K => K (f22 0) w57) fun t54_58 w59 =>
 gstep t52_56 true w59 (fun K => lenW Tryz.prog (some true) #[42] 3 #[t54_58] w59 K) fun t55_60 w61 =>
 gstep t52_56 true w61 (fun K => binN Tryz.prog .geq 3 true t55_60 (.int .i64 64) w61 K) fun t56_62 w63 =>
 pickW t52_56 t56_62 (.bool false) w63 fun t57_64 w65 =>
 condW t57_64 (
 K (.tuple #[(f22 0), (.int .i64 14)]) w65) (
 bindX (seqX (fun f67 w68 =>
 K (.tuple #[(f67 0), (.int .i64 0)]) w68) K20) fun K66 =>
 offW (some 0) (f22 3) w65 fun t59_69 w70 =>
 loadW (some (false, 1)) t59_69 w70 fun t60_71 w72 =>
 bindX (blkX 1 K66) fun _ =>
 binN Tryz.prog .eql 3 true t60_71 (.int .i64 1) w72 fun t62_74 w75 =>
 condW t62_74 (
 offW (some 1) (f22 3) w75.drew fun t64_76 w77 =>
 loadW (some (false, 1)) t64_76 w77 fun t65_78 w79 =>
 offW (some 4) (f22 3) w79 fun t66_80 w81 =>
 loadW (some (true, 15)) t66_80 w81 fun t67_82 w83 =>
 fnW Tryz.prog 61 #[t67_82] w83 fun t68_84 w85 =>
 (loadW (some (false, 1)) t64_76 w85 fun t65_86 w87 => t65_86 = t65_78 ∧ w87 = w85) ∧
 insW Tryz.prog (Instr.buildSlice 42 1 #[(0, t68_84)]) w85 fun t69_88 w89 =>
 (loadW (some (false, 1)) t64_76 w89 fun t65_90 w91 => t65_90 = t65_78 ∧ w91 = w89) ∧
 fnW Tryz.prog 63 #[(f22 0), t65_78, t69_88] w89 fun t70_92 w93 =>
 K66 .normal (pf 103 (pf 103 (pf 103 (pf 103 (pf 103 (pf 103 (pf 103 (pf 103 (pf 103 (pf 103 (pf 103 (pf 103 (pf 103 (pf 103 (pf 103 (pf 103 (pf 103 (pf 103 (pf 103 (pf 103 (pf 103 (pf 103 (pf 103 (pf 103 (pf 103 (pf 103 (pf 103 (pf 103 (pf 103 (pf 103 (pf 103 (pf 103 (pf 103 (pf 103 (pf 103 (pf 103 (pf 103 (pf 103 (pf 103 (pf 103 f22 30 t30_24) 31 t31_26) 32 t32_28) 33 t32_28) 34 t34_30) 35 t35_32) 36 t36_34) 29 t36_34) 39 t39_36) 40 t40_38) 41 t41_40) 42 t41_40) 43 t43_42) 44 t44_44) 45 t45_46) 46 t46_48) 47 t47_50) 38 t47_50) 50 t50_52) 51 t51_54) 52 t52_56) 53 t52_56) 54 t54_58) 55 t55_60) 56 t56_62) 57 t57_64) 49 t57_64) 59 t59_69) 60 t60_71) 62 t62_74) 61 t62_74) 63 (f22 0)) 64 t64_76) 65 t65_78) 66 t66_80) 67 t67_82) 68 t68_84) 69 t69_88) 70 t70_92) 0 t70_92) w93) (
 binN Tryz.prog .eql 3 true t60_71 (.int .i64 2) w75 fun t72_94 w95 =>
 condW t72_94 (
 binN Tryz.prog .add 3 true (f22 7) (.int .i64 1) w95 fun t76_96 w97 =>
 fnW Tryz.prog 64 #[(f22 0), (f22 7), t76_96] w97 fun t77_98 w99 =>
 K66 .normal (pf 103 (pf 103 (pf 103 (pf 103 (pf 103 (pf 103 (pf 103 (pf 103 (pf 103 (pf 103 (pf 103 (pf 103 (pf 103 (pf 103 (pf 103 (pf 103 (pf 103 (pf 103 (pf 103 (pf 103 (pf 103 (pf 103 (pf 103 (pf 103 (pf 103 (pf 103 (pf 103 (pf 103 (pf 103 (pf 103 (pf 103 (pf 103 (pf 103 (pf 103 (pf 103 (pf 103 (pf 103 (pf 103 (pf 103 f22 30 t30_24) 31 t31_26) 32 t32_28) 33 t32_28) 34 t34_30) 35 t35_32) 36 t36_34) 29 t36_34) 39 t39_36) 40 t40_38) 41 t41_40) 42 t41_40) 43 t43_42) 44 t44_44) 45 t45_46) 46 t46_48) 47 t47_50) 38 t47_50) 50 t50_52) 51 t51_54) 52 t52_56) 53 t52_56) 54 t54_58) 55 t55_60) 56 t56_62) 57 t57_64) 49 t57_64) 59 t59_69) 60 t60_71) 62 t62_74) 61 t62_74) 72 t72_94) 71 t72_94) 73 (f22 0)) 74 (f22 7)) 75 (f22 7)) 76 t76_96) 77 t77_98) 0 t77_98) w99) (
 binN Tryz.prog .eql 3 true t60_71 (.int .i64 3) w95 fun t79_100 w101 =>
 condW t79_100 (
 offW (some 4) (f22 3) w101 fun t82_102 w103 =>
 loadW (some (true, 15)) t82_102 w103 fun t83_104 w105 =>
 fnW Tryz.prog 61 #[t83_104] w105 fun t84_106 w107 =>
 idxW (some (none, 15)) (f22 0) (f22 7) w107 fun t85_108 w109 =>
 storeW (some (true, 15)) t85_108 t84_106 w109 fun w110 =>
 K66 .normal (pf 103 (pf 103 (pf 103 (pf 103 (pf 103 (pf 103 (pf 103 (pf 103 (pf 103 (pf 103 (pf 103 (pf 103 (pf 103 (pf 103 (pf 103 (pf 103 (pf 103 (pf 103 (pf 103 (pf 103 (pf 103 (pf 103 (pf 103 (pf 103 (pf 103 (pf 103 (pf 103 (pf 103 (pf 103 (pf 103 (pf 103 (pf 103 (pf 103 (pf 103 (pf 103 (pf 103 (pf 103 (pf 103 (pf 103 (pf 103 (pf 103 f22 30 t30_24) 31 t31_26) 32 t32_28) 33 t32_28) 34 t34_30) 35 t35_32) 36 t36_34) 29 t36_34) 39 t39_36) 40 t40_38) 41 t41_40) 42 t41_40) 43 t43_42) 44 t44_44) 45 t45_46) 46 t46_48) 47 t47_50) 38 t47_50) 50 t50_52) 51 t51_54) 52 t52_56) 53 t52_56) 54 t54_58) 55 t55_60) 56 t56_62) 57 t57_64) 49 t57_64) 59 t59_69) 60 t60_71) 62 t62_74) 61 t62_74) 72 t72_94) 71 t72_94) 79 t79_100) 78 t79_100) 80 (f22 0)) 81 (f22 7)) 82 t82_102) 83 t83_104) 84 t84_106) 85 t85_108) w110) (
 binN Tryz.prog .eql 3 true t60_71 (.int .i64 5) w101 fun t87_111 w112 =>
 condW t87_111 (
 idxW (some (none, 15)) (f22 0) (f22 7) w112 fun t90_113 w114 =>
 loadW (some (true, 15)) t90_113 w114 fun t91_115 w116 =>
 allocW (zeroO Tryz.prog 28) 28 w116 fun t9_117 w118 =>
 storeW (some (true, 15)) t9_117 t91_115 w118 fun w119 =>
 binN Tryz.prog .add 3 true (f22 7) (.int .i64 1) w119.drew fun t95_120 w121 =>
 offW (some 1) (f22 3) w121 fun t97_122 w123 =>
 loadW (some (false, 1)) t97_122 w123 fun t98_124 w125 =>
 loadW (some (true, 15)) t9_117 w125 fun t99_126 w127 =>
 bindV (fun (t96_129 : Value) (t100_130 : Value) (f131 : Fr) (w132 : World) =>
 fnW Tryz.prog 63 #[t96_129, t98_124, t100_130] w132 fun t101_133 w134 =>
 K66 .normal (pf 103 (pf 103 f131 101 t101_133) 0 t101_133) w134) fun J128 =>
 (fnW Tryz.prog 64 #[(f22 0), (f22 7), t95_120] w127 fun t96_135 w136 =>
 (loadW (some (false, 1)) t97_122 w136 fun t98_137 w138 => t98_137 = t98_124 ∧ w138 = w136) ∧
 (loadW (some (true, 15)) t9_117 w136 fun t99_139 w140 => t99_139 = t99_126 ∧ w140 = w136) ∧
 insW Tryz.prog (Instr.buildSlice 42 1 #[(0, t99_126)]) w136 fun t100_141 w142 =>
 (loadW (some (false, 1)) t97_122 w142 fun t98_143 w144 => t98_143 = t98_124 ∧ w144 = w142) ∧
 J128 t96_135 t100_141 (pf 103 (pf 103 (pf 103 (pf 103 (pf 103 (pf 103 (pf 103 (pf 103 (pf 103 (pf 103 (pf 103 (pf 103 (pf 103 (pf 103 (pf 103 (pf 103 (pf 103 (pf 103 (pf 103 (pf 103 (pf 103 (pf 103 (pf 103 (pf 103 (pf 103 (pf 103 (pf 103 (pf 103 (pf 103 (pf 103 (pf 103 (pf 103 (pf 103 (pf 103 (pf 103 (pf 103 (pf 103 (pf 103 (pf 103 (pf 103 (pf 103 (pf 103 (pf 103 (pf 103 (pf 103 (pf 103 (pf 103 (pf 103 (pf 103 (pf 103 (pf 103 f22 30 t30_24) 31 t31_26) 32 t32_28) 33 t32_28) 34 t34_30) 35 t35_32) 36 t36_34) 29 t36_34) 39 t39_36) 40 t40_38) 41 t41_40) 42 t41_40) 43 t43_42) 44 t44_44) 45 t45_46) 46 t46_48) 47 t47_50) 38 t47_50) 50 t50_52) 51 t51_54) 52 t52_56) 53 t52_56) 54 t54_58) 55 t55_60) 56 t56_62) 57 t57_64) 49 t57_64) 59 t59_69) 60 t60_71) 62 t62_74) 61 t62_74) 72 t72_94) 71 t72_94) 79 t79_100) 78 t79_100) 87 t87_111) 86 t87_111) 88 (f22 0)) 89 (f22 7)) 90 t90_113) 91 t91_115) 9 t9_117) 92 (f22 0)) 93 (f22 7)) 94 (f22 7)) 95 t95_120) 97 t97_122) 98 t98_124) 99 t99_126) 96 t96_135) 100 t100_141) w142) ∧
 (insW Tryz.prog (Instr.buildSlice 42 1 #[(0, t99_126)]) w127 fun t100_145 w146 =>
 (loadW (some (false, 1)) t97_122 w146 fun t98_147 w148 => t98_147 = t98_124 ∧ w148 = w146) ∧
 fnW Tryz.prog 64 #[(f22 0), (f22 7), t95_120] w146 fun t96_149 w150 =>
 (loadW (some (false, 1)) t97_122 w150 fun t98_151 w152 => t98_151 = t98_124 ∧ w152 = w150) ∧
 (loadW (some (true, 15)) t9_117 w150 fun t99_153 w154 => t99_153 = t99_126 ∧ w154 = w150) ∧
 J128 t96_149 t100_145 (pf 103 (pf 103 (pf 103 (pf 103 (pf 103 (pf 103 (pf 103 (pf 103 (pf 103 (pf 103 (pf 103 (pf 103 (pf 103 (pf 103 (pf 103 (pf 103 (pf 103 (pf 103 (pf 103 (pf 103 (pf 103 (pf 103 (pf 103 (pf 103 (pf 103 (pf 103 (pf 103 (pf 103 (pf 103 (pf 103 (pf 103 (pf 103 (pf 103 (pf 103 (pf 103 (pf 103 (pf 103 (pf 103 (pf 103 (pf 103 (pf 103 (pf 103 (pf 103 (pf 103 (pf 103 (pf 103 (pf 103 (pf 103 (pf 103 (pf 103 (pf 103 f22 30 t30_24) 31 t31_26) 32 t32_28) 33 t32_28) 34 t34_30) 35 t35_32) 36 t36_34) 29 t36_34) 39 t39_36) 40 t40_38) 41 t41_40) 42 t41_40) 43 t43_42) 44 t44_44) 45 t45_46) 46 t46_48) 47 t47_50) 38 t47_50) 50 t50_52) 51 t51_54) 52 t52_56) 53 t52_56) 54 t54_58) 55 t55_60) 56 t56_62) 57 t57_64) 49 t57_64) 59 t59_69) 60 t60_71) 62 t62_74) 61 t62_74) 72 t72_94) 71 t72_94) 79 t79_100) 78 t79_100) 87 t87_111) 86 t87_111) 88 (f22 0)) 89 (f22 7)) 90 t90_113) 91 t91_115) 9 t9_117) 92 (f22 0)) 93 (f22 7)) 94 (f22 7)) 95 t95_120) 97 t97_122) 98 t98_124) 99 t99_126) 100 t100_145) 96 t96_149) w150)) (
 K66 .normal (pf 103 (pf 103 (pf 103 (pf 103 (pf 103 (pf 103 (pf 103 (pf 103 (pf 103 (pf 103 (pf 103 (pf 103 (pf 103 (pf 103 (pf 103 (pf 103 (pf 103 (pf 103 (pf 103 (pf 103 (pf 103 (pf 103 (pf 103 (pf 103 (pf 103 (pf 103 (pf 103 (pf 103 (pf 103 (pf 103 (pf 103 (pf 103 (pf 103 (pf 103 (pf 103 (pf 103 (pf 103 f22 30 t30_24) 31 t31_26) 32 t32_28) 33 t32_28) 34 t34_30) 35 t35_32) 36 t36_34) 29 t36_34) 39 t39_36) 40 t40_38) 41 t41_40) 42 t41_40) 43 t43_42) 44 t44_44) 45 t45_46) 46 t46_48) 47 t47_50) 38 t47_50) 50 t50_52) 51 t51_54) 52 t52_56) 53 t52_56) 54 t54_58) 55 t55_60) 56 t56_62) 57 t57_64) 49 t57_64) 59 t59_69) 60 t60_71) 62 t62_74) 61 t62_74) 72 t72_94) 71 t72_94) 79 t79_100) 78 t79_100) 87 t87_111) 86 t87_111) w112)))))))) K20) fun K21 =>
 offW (some 0) t3_0 w19 fun t24_155 w156 =>
 loadW (some (false, 1)) t24_155 w156 fun t25_157 w158 =>
 binN Tryz.prog .eql 3 true t25_157 (.int .i64 5) w158 fun t26_159 w160 =>
 condW t26_159 (
 binN Tryz.prog .sub 3 true t23_18 (.int .i64 1) w160 fun t28_161 w162 =>
 K21 .normal (pf 103 (pf 103 (pf 103 (pf 103 (pf 103 (pf 103 (pf 103 (pf 103 (pf 103 (pf 103 (pf 103 (pf 103 (pf 103 (pf 103 (pf 103 (pf 103 (pf 103 (pf 103 (pf 103 (pf 103 (argF [x0, x1]) 3 t3_0) 4 (.slice none 0 0)) 5 (.int .i64 0)) 10 t10_2) 11 t11_4) 12 t12_6) 18 x0) 19 t19_12) 20 t20_14) 21 t21_16) 22 x0) 23 t23_18) 7 t21_16) 8 t23_18) 24 t24_155) 25 t25_157) 26 t26_159) 27 t23_18) 28 t28_161) 8 t28_161) w162) (
 K21 .normal (pf 103 (pf 103 (pf 103 (pf 103 (pf 103 (pf 103 (pf 103 (pf 103 (pf 103 (pf 103 (pf 103 (pf 103 (pf 103 (pf 103 (pf 103 (pf 103 (pf 103 (argF [x0, x1]) 3 t3_0) 4 (.slice none 0 0)) 5 (.int .i64 0)) 10 t10_2) 11 t11_4) 12 t12_6) 18 x0) 19 t19_12) 20 t20_14) 21 t21_16) 22 x0) 23 t23_18) 7 t21_16) 8 t23_18) 24 t24_155) 25 t25_157) 26 t26_159) w160))
theorem c36_eq (x0 x1 : Value) (w : World) (K : VPost) : c36 x0 x1 w K = WP true Tryz.prog 103 [(15, 480, [0, 0, 2, 0, 8, 16, 32, 101, 255], [0, 0, 2, 0, 8, 24, 56, 127, 255]), (22, 1808, [0, 0, 0, 4, 11, 0, 32, 0, 128, 336, 1023], [0, 0, 0, 4, 15, 0, 32, 0, 128, 511, 1023])] (bodyOf Tryz.f36) (argF [x0, x1]) w [.tmp 4, .tmp 5] K := by kernel_rfl
theorem c36_calls (x0 x1 : Value) (w : World) (K : VPost) (h : c36 x0 x1 w K) : Calls Tryz.prog 36 #[x0, x1] w (retK K) :=
 calls_of_WP (c36_eq x0 x1 w K) mixedG Tryz.func36 (by kernel_rfl) Tryz.ntmps36 (by kernel_rfl) (by kernel_rfl) h
def c13 (x0 x1 : Value) (w : World) (K : VPost) : Prop :=
 boxW 30 x1 w fun t3_0 w1 =>
 fnW Tryz.prog 34 #[x0] w1 fun t8_2 w3 =>
 unN Tryz.prog .not t8_2 w3 fun t9_4 w5 =>
 condW t9_4 (
 K (.tuple #[(.slice none 0 0), (.int .i64 10)]) w5) (
 fnW Tryz.prog 35 #[x0] w5 fun t11_6 w7 =>
 loadW (some (true, 19)) t3_0 w7 fun t12_8 w9 =>
 fnW Tryz.prog 21 #[t12_8] w9 fun t13_10 w11 =>
 unN Tryz.prog .not t13_10 w11 fun t14_12 w13 =>
 condW t14_12 (
 K (.tuple #[t11_6, (.int .i64 10)]) w13) (
 loadW (some (true, 19)) t3_0 w13 fun t17_14 w15 =>
 fnW Tryz.prog 36 #[t11_6, t17_14] w15 fun t18_16 w17 =>
 extrW t18_16 0 w17 fun t19_18 w19 =>
 extrW t18_16 1 w19 fun t20_20 w21 =>
 K (.tuple #[t19_18, t20_20]) w21))
theorem c13_eq (x0 x1 : Value) (w : World) (K : VPost) : c13 x0 x1 w K = WP true Tryz.prog 21 [] (bodyOf Tryz.f13) (argF [x0, x1]) w [.tmp 4, .tmp 5] K := by kernel_rfl
theorem c13_calls (x0 x1 : Value) (w : World) (K : VPost) (h : c13 x0 x1 w K) : Calls Tryz.prog 13 #[x0, x1] w (retK K) :=
 calls_of_WP (c13_eq x0 x1 w K) mixedG Tryz.func13 (by kernel_rfl) Tryz.ntmps13 (by kernel_rfl) (by kernel_rfl) h
end Go.Proofs.YtcihccmkionliaaGreatDoor
