/- The clean forms of some of the program's functions, written by a program of ours; each is the model's own by the kernel's reckoning. -/
import Derived.Test.YtedebapgmfnflaaGB
import Derived.KernelRfl
namespace Go.Proofs.Ytedebapgmfnflaa
open Go
set_option maxRecDepth 100000

/-- math/bits.Len -/
def c110 (x0 : Value) (w : World) (K : VPost) : Prop :=
  condW (.bool false) (
  convN Try.prog 54 69 x0 w fun t4_0 w1 =>
  fnW Try.prog 122 #[t4_0] w1 fun t5_2 w3 =>
  K t5_2 w3) (
  fnW Try.prog 123 #[x0] w fun t7_4 w5 =>
  K t7_4 w5)
theorem c110_eq (x0 : Value) (w : World) (K : VPost) : c110 x0 w K = WP true Try.prog 8 [] (bodyOf Try.f110) (argF [x0]) w [.tmp 2] K := by kernel_rfl
theorem c110_calls (x0 : Value) (w : World) (K : VPost) (h : c110 x0 w K) : Calls Try.prog 110 #[x0] w (retK K) :=
  calls_of_WP (c110_eq x0 w K) mixedG Try.func110 (by kernel_rfl) Try.ntmps110 (by kernel_rfl) (by kernel_rfl) h

/-- math/bits.Len64 -/
def c123 (x0 : Value) (w : World) (K : VPost) : Prop :=
  bindX (endW Try.prog [.tmp 2] K) fun K0 =>
  bindX (seqX (fun f2 w3 =>
  bindX (seqX (fun f5 w6 =>
  bindX (seqX (fun f8 w9 =>
  convN Try.prog 136 5 (f8 0) w9 fun t21_10 w11 =>
  ixvW .str (.string ⟨#[0, 1, 2, 2, 3, 3, 3, 3, 4, 4, 4, 4, 4, 4, 4, 4, 5, 5, 5, 5, 5, 5, 5, 5, 5, 5, 5, 5, 5, 5, 5, 5, 6, 6, 6, 6, 6, 6, 6, 6, 6, 6, 6, 6, 6, 6, 6, 6, 6, 6, 6, 6, 6, 6, 6, 6, 6, 6, 6, 6, 6, 6, 6, 6, 7, 7, 7, 7, 7, 7, 7, 7, 7, 7, 7, 7, 7, 7, 7, 7, 7, 7, 7, 7, 7, 7, 7, 7, 7, 7, 7, 7, 7, 7, 7, 7, 7, 7, 7, 7, 7, 7, 7, 7, 7, 7, 7, 7, 7, 7, 7, 7, 7, 7, 7, 7, 7, 7, 7, 7, 7, 7, 7, 7, 7, 7, 7, 7, 8, 8, 8, 8, 8, 8, 8, 8, 8, 8, 8, 8, 8, 8, 8, 8, 8, 8, 8, 8, 8, 8, 8, 8, 8, 8, 8, 8, 8, 8, 8, 8, 8, 8, 8, 8, 8, 8, 8, 8, 8, 8, 8, 8, 8, 8, 8, 8, 8, 8, 8, 8, 8, 8, 8, 8, 8, 8, 8, 8, 8, 8, 8, 8, 8, 8, 8, 8, 8, 8, 8, 8, 8, 8, 8, 8, 8, 8, 8, 8, 8, 8, 8, 8, 8, 8, 8, 8, 8, 8, 8, 8, 8, 8, 8, 8, 8, 8, 8, 8, 8, 8, 8, 8, 8, 8, 8, 8, 8, 8, 8, 8, 8, 8, 8, 8, 8, 8, 8, 8, 8, 8, 8, 8, 8, 8, 8, 8]⟩) t21_10 w11 fun t22_12 w13 =>
  convN Try.prog 5 3 t22_12 w13 fun t23_14 w15 =>
  binN Try.prog .add 3 false (f8 2) t23_14 w15 fun t24_16 w17 =>
  K t24_16 w17) K0) fun K7 =>
  binN Try.prog .geq 136 true (f5 0) (.int .u64 256) w6 fun t14_18 w19 =>
  condW t14_18 (
  binN Try.prog .shr 136 true (f5 0) (.int .u64 8) w19 fun t16_20 w21 =>
  binN Try.prog .add 3 true (f5 2) (.int .i64 8) w21 fun t18_22 w23 =>
  K7 .normal (pf 25 (pf 25 (pf 25 (pf 25 (pf 25 (pf 25 (pf 25 (pf 25 f5 13 (f5 0)) 14 t14_18) 15 (f5 0)) 16 t16_20) 0 t16_20) 17 (f5 2)) 18 t18_22) 2 t18_22) w23) (
  K7 .normal (pf 25 (pf 25 f5 13 (f5 0)) 14 t14_18) w19)) K0) fun K4 =>
  binN Try.prog .geq 136 true (f2 0) (.int .u64 65536) w3 fun t8_24 w25 =>
  condW t8_24 (
  binN Try.prog .shr 136 true (f2 0) (.int .u64 16) w25 fun t10_26 w27 =>
  binN Try.prog .add 3 true (f2 2) (.int .i64 16) w27 fun t12_28 w29 =>
  K4 .normal (pf 25 (pf 25 (pf 25 (pf 25 (pf 25 (pf 25 (pf 25 (pf 25 f2 7 (f2 0)) 8 t8_24) 9 (f2 0)) 10 t10_26) 0 t10_26) 11 (f2 2)) 12 t12_28) 2 t12_28) w29) (
  K4 .normal (pf 25 (pf 25 f2 7 (f2 0)) 8 t8_24) w25)) K0) fun K1 =>
  binN Try.prog .geq 136 true x0 (.int .u64 4294967296) w fun t4_30 w31 =>
  condW t4_30 (
  binN Try.prog .shr 136 true x0 (.int .u64 32) w31 fun t6_32 w33 =>
  K1 .normal (pf 25 (pf 25 (pf 25 (pf 25 (pf 25 (pf 25 (pf 25 (argF [x0]) 2 (.int .i64 0)) 3 x0) 4 t4_30) 5 x0) 6 t6_32) 0 t6_32) 2 (.int .i64 32)) w33) (
  K1 .normal (pf 25 (pf 25 (pf 25 (argF [x0]) 2 (.int .i64 0)) 3 x0) 4 t4_30) w31)
theorem c123_eq (x0 : Value) (w : World) (K : VPost) : c123 x0 w K = WP true Try.prog 25 [] (bodyOf Try.f123) (argF [x0]) w [.tmp 2] K := by kernel_rfl
theorem c123_calls (x0 : Value) (w : World) (K : VPost) (h : c123 x0 w K) : Calls Try.prog 123 #[x0] w (retK K) :=
  calls_of_WP (c123_eq x0 w K) mixedG Try.func123 (by kernel_rfl) Try.ntmps123 (by kernel_rfl) (by kernel_rfl) h

/-- slices.pdqsortCmpFunc[imprimatur/api.Digest] -/
def c109 (x0 x1 x2 x3 x4 : Value) (w : World) (K : VPost) : Prop :=
  bindX (endW Try.prog [] K) fun K0 =>
  bindX (blkX 0 K0) fun K1 =>
  loopW (fun f2 w3 K4 =>
  bindX (blkX 1 K4) fun K5 =>
  binN Try.prog .sub 3 false (f2 2) (f2 1) w3 fun t23_6 w7 =>
  binN Try.prog .leq 3 true t23_6 (.int .i64 12) w7 fun t25_8 w9 =>
  condW t25_8 (
  fnW Try.prog 114 #[(f2 0), (f2 1), (f2 2), (f2 4)] w9 fun t30_10 w11 =>
  K4 .ret (pf 148 (pf 148 (pf 148 (pf 148 (pf 148 (pf 148 (pf 148 (pf 148 (pf 148 (pf 148 (pf 148 f2 21 (f2 2)) 22 (f2 1)) 23 t23_6) 12 t23_6) 24 t23_6) 25 t25_8) 26 (f2 0)) 27 (f2 1)) 28 (f2 2)) 29 (f2 4)) 30 t30_10) w11) (
  binN Try.prog .eql 3 true (f2 3) (.int .i64 0) w9 fun t32_12 w13 =>
  condW t32_12 (
  fnW Try.prog 115 #[(f2 0), (f2 1), (f2 2), (f2 4)] w13 fun t37_14 w15 =>
  K4 .ret (pf 148 (pf 148 (pf 148 (pf 148 (pf 148 (pf 148 (pf 148 (pf 148 (pf 148 (pf 148 (pf 148 (pf 148 (pf 148 f2 21 (f2 2)) 22 (f2 1)) 23 t23_6) 12 t23_6) 24 t23_6) 25 t25_8) 31 (f2 3)) 32 t32_12) 33 (f2 0)) 34 (f2 1)) 35 (f2 2)) 36 (f2 4)) 37 t37_14) w15) (
  bindX (seqX (fun f17 w18 =>
  fnW Try.prog 117 #[(f17 0), (f17 1), (f17 2), (f17 4)] w18 fun t52_19 w20 =>
  extrW t52_19 0 w20 fun t53_21 w22 =>
  extrW t52_19 1 w22 fun t54_23 w24 =>
  bindX (seqX (fun f26 w27 =>
  bindX (seqX (fun f29 w30 =>
  binN Try.prog .gtr 3 true (f29 1) (.int .i64 0) w30.drew fun t82_31 w32 =>
  gstep t82_31 true w32 (fun K => K (f29 4) w32) fun t84_33 w34 =>
  gstep t82_31 true w34 (fun K => K (f29 0) w34) fun t85_35 w36 =>
  gstep t82_31 true w36 (fun K => K (f29 1) w36) fun t86_37 w38 =>
  gstep t82_31 true w38 (fun K => binN Try.prog .sub 3 true t86_37 (.int .i64 1) w38 K) fun t87_39 w40 =>
  gstep t82_31 true w40 (fun K => idxW (some (none, 32)) t85_35 t87_39 w40 K) fun t88_41 w42 =>
  gstep t82_31 true w42 (fun K => loadW (some (true, 32)) t88_41 w42 K) fun t89_43 w44 =>
  gstep t82_31 true w44 (fun K => K (f29 0) w44) fun t90_45 w46 =>
  gstep t82_31 true w46 (fun K => K (f29 13) w46) fun t91_47 w48 =>
  gstep t82_31 true w48 (fun K => idxW (some (none, 32)) t90_45 t91_47 w48 K) fun t92_49 w50 =>
  gstep t82_31 true w50 (fun K => loadW (some (true, 32)) t92_49 w50 K) fun t93_51 w52 =>
  gstep t82_31 true w52 (fun K => dynW Try.prog t84_33 #[t89_43, t93_51] w52 K) fun t94_53 w54 =>
  gstep t82_31 true w54 (fun K => binN Try.prog .lss 3 true t94_53 (.int .i64 0) w54 K) fun t95_55 w56 =>
  gstep t82_31 true w56 (fun K => unN Try.prog .not t95_55 w56 K) fun t96_57 w58 =>
  pickW t82_31 t96_57 (.bool false) w58 fun t97_59 w60 =>
  condW t97_59 (
  fnW Try.prog 120 #[(f29 0), (f29 1), (f29 2), (f29 13), (f29 4)] w60 fun t103_61 w62 =>
  K4 .normal (pf 148 (pf 148 (pf 148 (pf 148 (pf 148 (pf 148 (pf 148 (pf 148 (pf 148 (pf 148 (pf 148 (pf 148 (pf 148 (pf 148 (pf 148 (pf 148 (pf 148 (pf 148 (pf 148 (pf 148 (pf 148 (pf 148 (pf 148 (pf 148 (pf 148 (pf 148 f29 81 (f29 1)) 82 t82_31) 83 t82_31) 84 t84_33) 85 t85_35) 86 t86_37) 87 t87_39) 88 t88_41) 89 t89_43) 90 t90_45) 91 t91_47) 92 t92_49) 93 t93_51) 94 t94_53) 95 t95_55) 96 t96_57) 97 t97_59) 98 (f29 0)) 99 (f29 1)) 100 (f29 2)) 101 (f29 13)) 102 (f29 4)) 103 t103_61) 15 t103_61) 104 t103_61) 1 t103_61) w62) (
  fnW Try.prog 121 #[(f29 0), (f29 1), (f29 2), (f29 13), (f29 4)] w60 fun t111_63 w64 =>
  extrW t111_63 0 w64 fun t112_65 w66 =>
  extrW t111_63 1 w66 fun t113_67 w68 =>
  binN Try.prog .sub 3 false t112_65 (f29 1) w68 fun t117_69 w70 =>
  binN Try.prog .sub 3 false (f29 2) t112_65 w70 fun t120_71 w72 =>
  binN Try.prog .quo 3 true (f29 12) (.int .i64 8) w72 fun t122_73 w74 =>
  binN Try.prog .lss 3 false t117_69 t120_71 w74 fun t125_75 w76 =>
  condW t125_75 (
  binN Try.prog .geq 3 false t117_69 t122_73 w76 fun t128_77 w78 =>
  fnW Try.prog 109 #[(f29 0), (f29 1), t112_65, (f29 3), (f29 4)] w78 fun t134_79 w80 =>
  binN Try.prog .add 3 true t112_65 (.int .i64 1) w80 fun t136_81 w82 =>
  K4 .normal (pf 148 (pf 148 (pf 148 (pf 148 (pf 148 (pf 148 (pf 148 (pf 148 (pf 148 (pf 148 (pf 148 (pf 148 (pf 148 (pf 148 (pf 148 (pf 148 (pf 148 (pf 148 (pf 148 (pf 148 (pf 148 (pf 148 (pf 148 (pf 148 (pf 148 (pf 148 (pf 148 (pf 148 (pf 148 (pf 148 (pf 148 (pf 148 (pf 148 (pf 148 (pf 148 (pf 148 (pf 148 (pf 148 (pf 148 (pf 148 (pf 148 (pf 148 (pf 148 (pf 148 (pf 148 (pf 148 (pf 148 (pf 148 (pf 148 (pf 148 (pf 148 (pf 148 (pf 148 (pf 148 (pf 148 (pf 148 (pf 148 f29 81 (f29 1)) 82 t82_31) 83 t82_31) 84 t84_33) 85 t85_35) 86 t86_37) 87 t87_39) 88 t88_41) 89 t89_43) 90 t90_45) 91 t91_47) 92 t92_49) 93 t93_51) 94 t94_53) 95 t95_55) 96 t96_57) 97 t97_59) 106 (f29 0)) 107 (f29 1)) 108 (f29 2)) 109 (f29 13)) 110 (f29 4)) 111 t111_63) 105 t111_63) 112 t112_65) 113 t113_67) 16 t112_65) 17 t113_67) 114 t113_67) 11 t113_67) 115 t112_65) 116 (f29 1)) 117 t117_69) 118 (f29 2)) 119 t112_65) 120 t120_71) 18 t117_69) 19 t120_71) 121 (f29 12)) 122 t122_73) 20 t122_73) 123 t117_69) 124 t120_71) 125 t125_75) 126 t117_69) 127 t122_73) 128 t128_77) 10 t128_77) 129 (f29 0)) 130 (f29 1)) 131 t112_65) 132 (f29 3)) 133 (f29 4)) 134 t134_79) 135 t112_65) 136 t136_81) 1 t136_81) w82) (
  binN Try.prog .geq 3 false t120_71 t122_73 w76 fun t139_83 w84 =>
  binN Try.prog .add 3 true t112_65 (.int .i64 1) w84 fun t142_85 w86 =>
  fnW Try.prog 109 #[(f29 0), t142_85, (f29 2), (f29 3), (f29 4)] w86 fun t146_87 w88 =>
  K4 .normal (pf 148 (pf 148 (pf 148 (pf 148 (pf 148 (pf 148 (pf 148 (pf 148 (pf 148 (pf 148 (pf 148 (pf 148 (pf 148 (pf 148 (pf 148 (pf 148 (pf 148 (pf 148 (pf 148 (pf 148 (pf 148 (pf 148 (pf 148 (pf 148 (pf 148 (pf 148 (pf 148 (pf 148 (pf 148 (pf 148 (pf 148 (pf 148 (pf 148 (pf 148 (pf 148 (pf 148 (pf 148 (pf 148 (pf 148 (pf 148 (pf 148 (pf 148 (pf 148 (pf 148 (pf 148 (pf 148 (pf 148 (pf 148 (pf 148 (pf 148 (pf 148 (pf 148 (pf 148 (pf 148 (pf 148 (pf 148 (pf 148 f29 81 (f29 1)) 82 t82_31) 83 t82_31) 84 t84_33) 85 t85_35) 86 t86_37) 87 t87_39) 88 t88_41) 89 t89_43) 90 t90_45) 91 t91_47) 92 t92_49) 93 t93_51) 94 t94_53) 95 t95_55) 96 t96_57) 97 t97_59) 106 (f29 0)) 107 (f29 1)) 108 (f29 2)) 109 (f29 13)) 110 (f29 4)) 111 t111_63) 105 t111_63) 112 t112_65) 113 t113_67) 16 t112_65) 17 t113_67) 114 t113_67) 11 t113_67) 115 t112_65) 116 (f29 1)) 117 t117_69) 118 (f29 2)) 119 t112_65) 120 t120_71) 18 t117_69) 19 t120_71) 121 (f29 12)) 122 t122_73) 20 t122_73) 123 t117_69) 124 t120_71) 125 t125_75) 137 t120_71) 138 t122_73) 139 t139_83) 10 t139_83) 140 (f29 0)) 141 t112_65) 142 t142_85) 143 (f29 2)) 144 (f29 3)) 145 (f29 4)) 146 t146_87) 147 t112_65) 2 t112_65) w88))) K5) fun K28 =>
  gstep (f26 10) true w27 (fun K => K (f26 11) w27) fun t70_89 w90 =>
  pickW (f26 10) t70_89 (.bool false) w90 fun t71_91 w92 =>
  gstep t71_91 true w92 (fun K => K (f26 14) w92) fun t73_93 w94 =>
  gstep t71_91 true w94 (fun K => binN Try.prog .eql 150 true t73_93 (.int .i64 1) w94 K) fun t74_95 w96 =>
  pickW t71_91 t74_95 (.bool false) w96 fun t75_97 w98 =>
  condW t75_97 (
  fnW Try.prog 119 #[(f26 0), (f26 1), (f26 2), (f26 4)] w98 fun t80_99 w100 =>
  condW t80_99 (
  K4 .ret (pf 148 (pf 148 (pf 148 (pf 148 (pf 148 (pf 148 (pf 148 (pf 148 (pf 148 (pf 148 (pf 148 (pf 148 (pf 148 f26 68 (f26 10)) 69 (f26 10)) 70 t70_89) 71 t71_91) 72 t71_91) 73 t73_93) 74 t74_95) 75 t75_97) 76 (f26 0)) 77 (f26 1)) 78 (f26 2)) 79 (f26 4)) 80 t80_99) w100) (
  K28 .normal (pf 148 (pf 148 (pf 148 (pf 148 (pf 148 (pf 148 (pf 148 (pf 148 (pf 148 (pf 148 (pf 148 (pf 148 (pf 148 f26 68 (f26 10)) 69 (f26 10)) 70 t70_89) 71 t71_91) 72 t71_91) 73 t73_93) 74 t74_95) 75 t75_97) 76 (f26 0)) 77 (f26 1)) 78 (f26 2)) 79 (f26 4)) 80 t80_99) w100)) (
  K28 .normal (pf 148 (pf 148 (pf 148 (pf 148 (pf 148 (pf 148 (pf 148 (pf 148 f26 68 (f26 10)) 69 (f26 10)) 70 t70_89) 71 t71_91) 72 t71_91) 73 t73_93) 74 t74_95) 75 t75_97) w98)) K5) fun K25 =>
  binN Try.prog .eql 150 true t54_23 (.int .i64 2) w24 fun t56_101 w102 =>
  condW t56_101 (
  fnW Try.prog 118 #[(f17 0), (f17 1), (f17 2), (f17 4)] w102 fun t61_103 w104 =>
  binN Try.prog .sub 3 true (f17 2) (.int .i64 1) w104 fun t63_105 w106 =>
  binN Try.prog .sub 3 false t53_21 (f17 1) w106 fun t66_107 w108 =>
  binN Try.prog .sub 3 false t63_105 t66_107 w108 fun t67_109 w110 =>
  K25 .normal (pf 148 (pf 148 (pf 148 (pf 148 (pf 148 (pf 148 (pf 148 (pf 148 (pf 148 (pf 148 (pf 148 (pf 148 (pf 148 (pf 148 (pf 148 (pf 148 (pf 148 (pf 148 (pf 148 (pf 148 (pf 148 (pf 148 (pf 148 (pf 148 (pf 148 f17 48 (f17 0)) 49 (f17 1)) 50 (f17 2)) 51 (f17 4)) 52 t52_19) 47 t52_19) 53 t53_21) 54 t54_23) 13 t53_21) 14 t54_23) 55 t54_23) 56 t56_101) 57 (f17 0)) 58 (f17 1)) 59 (f17 2)) 60 (f17 4)) 61 t61_103) 62 (f17 2)) 63 t63_105) 64 t53_21) 65 (f17 1)) 66 t66_107) 67 t67_109) 13 t67_109) 14 (.int .i64 1)) w110) (
  K25 .normal (pf 148 (pf 148 (pf 148 (pf 148 (pf 148 (pf 148 (pf 148 (pf 148 (pf 148 (pf 148 (pf 148 (pf 148 f17 48 (f17 0)) 49 (f17 1)) 50 (f17 2)) 51 (f17 4)) 52 t52_19) 47 t52_19) 53 t53_21) 54 t54_23) 13 t53_21) 14 t54_23) 55 t54_23) 56 t56_101) w102)) K5) fun K16 =>
  unN Try.prog .not (f2 10) w13 fun t39_111 w112 =>
  condW t39_111 (
  fnW Try.prog 116 #[(f2 0), (f2 1), (f2 2), (f2 4)] w112 fun t44_113 w114 =>
  binN Try.prog .sub 3 true (f2 3) (.int .i64 1) w114 fun t46_115 w116 =>
  K16 .normal (pf 148 (pf 148 (pf 148 (pf 148 (pf 148 (pf 148 (pf 148 (pf 148 (pf 148 (pf 148 (pf 148 (pf 148 (pf 148 (pf 148 (pf 148 (pf 148 (pf 148 (pf 148 f2 21 (f2 2)) 22 (f2 1)) 23 t23_6) 12 t23_6) 24 t23_6) 25 t25_8) 31 (f2 3)) 32 t32_12) 38 (f2 10)) 39 t39_111) 40 (f2 0)) 41 (f2 1)) 42 (f2 2)) 43 (f2 4)) 44 t44_113) 45 (f2 3)) 46 t46_115) 3 t46_115) w116) (
  K16 .normal (pf 148 (pf 148 (pf 148 (pf 148 (pf 148 (pf 148 (pf 148 (pf 148 (pf 148 (pf 148 f2 21 (f2 2)) 22 (f2 1)) 23 t23_6) 12 t23_6) 24 t23_6) 25 t25_8) 31 (f2 3)) 32 t32_12) 38 (f2 10)) 39 t39_111) w112)))) (pf 148 (pf 148 (argF [x0, x1, x2, x3, x4]) 10 (.bool true)) 11 (.bool true)) w K1
theorem c109_eq (x0 x1 x2 x3 x4 : Value) (w : World) (K : VPost) : c109 x0 x1 x2 x3 x4 w K = WP true Try.prog 148 [(17, 8192, [0, 1, 2, 4, 4, 4, 36, 84, 132, 4, 4, 1540, 2052, 4364, 8196, 16388, 32772], [0, 1, 3, 7, 7, 7, 39, 119, 247, 7, 7, 1543, 3591, 8191, 16383, 32767, 65535])] (bodyOf Try.f109) (argF [x0, x1, x2, x3, x4]) w [] K := by kernel_rfl
theorem c109_calls (x0 x1 x2 x3 x4 : Value) (w : World) (K : VPost) (h : c109 x0 x1 x2 x3 x4 w K) : Calls Try.prog 109 #[x0, x1, x2, x3, x4] w (retK K) :=
  calls_of_WP (c109_eq x0 x1 x2 x3 x4 w K) mixedG Try.func109 (by kernel_rfl) Try.ntmps109 (by kernel_rfl) (by kernel_rfl) h

/-- slices.heapSortCmpFunc[imprimatur/api.Digest] -/
def c115 (x0 x1 x2 x3 : Value) (w : World) (K : VPost) : Prop :=
  binN Try.prog .sub 3 false x2 x1 w fun t16_0 w1 =>
  bindX (endW Try.prog [] K) fun K2 =>
  bindX (seqX (fun f4 w5 =>
  binN Try.prog .sub 3 true (f4 10) (.int .i64 1) w5 fun t31_6 w7 =>
  bindX (blkX 2 K2) fun K8 =>
  loopW (fun f9 w10 K11 =>
  binN Try.prog .geq 3 true (f9 12) (.int .i64 0) w10 fun t33_12 w13 =>
  condW t33_12 (
  binN Try.prog .add 3 false (f9 8) (f9 12) w13.drew fun t41_14 w15 =>
  binN Try.prog .add 3 false (f9 8) (f9 12) w15 fun t45_16 w17 =>
  idxW (some (none, 32)) (f9 0) t45_16 w17 fun t46_18 w19 =>
  loadW (some (true, 32)) t46_18 w19 fun t47_20 w21 =>
  idxW (some (none, 32)) (f9 0) (f9 8) w21 fun t50_22 w23 =>
  loadW (some (true, 32)) t50_22 w23 fun t51_24 w25 =>
  idxW (some (none, 32)) (f9 0) (f9 8) w25 fun t52_26 w27 =>
  storeW (some (true, 32)) t52_26 t47_20 w27 fun w28 =>
  idxW (some (none, 32)) (f9 0) t41_14 w28 fun t53_29 w30 =>
  storeW (some (true, 32)) t53_29 t51_24 w30 fun w31 =>
  fnW Try.prog 125 #[(f9 0), (f9 9), (f9 12), (f9 8), (f9 3)] w31 fun t59_32 w33 =>
  binN Try.prog .sub 3 true (f9 12) (.int .i64 1) w33 fun t35_34 w35 =>
  K11 .normal (pf 60 (pf 60 (pf 60 (pf 60 (pf 60 (pf 60 (pf 60 (pf 60 (pf 60 (pf 60 (pf 60 (pf 60 (pf 60 (pf 60 (pf 60 (pf 60 (pf 60 (pf 60 (pf 60 (pf 60 (pf 60 (pf 60 (pf 60 (pf 60 (pf 60 (pf 60 (pf 60 (pf 60 (pf 60 f9 32 (f9 12)) 33 t33_12) 36 (f9 0)) 37 (f9 8)) 38 (f9 0)) 39 (f9 8)) 40 (f9 12)) 41 t41_14) 42 (f9 0)) 43 (f9 8)) 44 (f9 12)) 45 t45_16) 46 t46_18) 47 t47_20) 48 (f9 0)) 49 (f9 8)) 50 t50_22) 51 t51_24) 52 t52_26) 53 t53_29) 54 (f9 0)) 55 (f9 9)) 56 (f9 12)) 57 (f9 8)) 58 (f9 3)) 59 t59_32) 34 (f9 12)) 35 t35_34) 12 t35_34) w35) (
  K11 (.exit 2) (pf 60 (pf 60 f9 32 (f9 12)) 33 t33_12) w13)) (pf 60 (pf 60 (pf 60 f4 30 (f4 10)) 31 t31_6) 12 t31_6) w7 K8) K2) fun K3 =>
  binN Try.prog .sub 3 true t16_0 (.int .i64 1) w1 fun t18_36 w37 =>
  binN Try.prog .quo 3 true t18_36 (.int .i64 2) w37 fun t19_38 w39 =>
  bindX (blkX 0 K3) fun K40 =>
  loopW (fun f41 w42 K43 =>
  binN Try.prog .geq 3 true (f41 11) (.int .i64 0) w42 fun t21_44 w45 =>
  condW t21_44 (
  fnW Try.prog 125 #[(f41 0), (f41 11), (f41 10), (f41 8), (f41 3)] w45 fun t29_46 w47 =>
  binN Try.prog .sub 3 true (f41 11) (.int .i64 1) w47 fun t23_48 w49 =>
  K43 .normal (pf 60 (pf 60 (pf 60 (pf 60 (pf 60 (pf 60 (pf 60 (pf 60 (pf 60 (pf 60 (pf 60 f41 20 (f41 11)) 21 t21_44) 24 (f41 0)) 25 (f41 11)) 26 (f41 10)) 27 (f41 8)) 28 (f41 3)) 29 t29_46) 22 (f41 11)) 23 t23_48) 11 t23_48) w49) (
  K43 (.exit 0) (pf 60 (pf 60 f41 20 (f41 11)) 21 t21_44) w45)) (pf 60 (pf 60 (pf 60 (pf 60 (pf 60 (pf 60 (pf 60 (pf 60 (pf 60 (pf 60 (pf 60 (argF [x0, x1, x2, x3]) 13 x1) 8 x1) 9 (.int .i64 0)) 14 x2) 15 x1) 16 t16_0) 10 t16_0) 17 t16_0) 18 t18_36) 19 t19_38) 11 t19_38) w39 K40
theorem c115_eq (x0 x1 x2 x3 : Value) (w : World) (K : VPost) : c115 x0 x1 x2 x3 w K = WP true Try.prog 60 [(10, 655360, [0, 0, 0, 0, 0, 24, 0, 0, 0, 384, 576, 1024, 0, 0, 12288, 16384, 36803, 102339, 262143, 524287], [0, 0, 0, 0, 0, 24, 0, 0, 0, 384, 960, 1984, 0, 0, 12288, 28672, 65475, 131011, 262143, 524287])] (bodyOf Try.f115) (argF [x0, x1, x2, x3]) w [] K := by kernel_rfl
theorem c115_calls (x0 x1 x2 x3 : Value) (w : World) (K : VPost) (h : c115 x0 x1 x2 x3 w K) : Calls Try.prog 115 #[x0, x1, x2, x3] w (retK K) :=
  calls_of_WP (c115_eq x0 x1 x2 x3 w K) mixedG Try.func115 (by kernel_rfl) Try.ntmps115 (by kernel_rfl) (by kernel_rfl) h

/-- slices.breakPatternsCmpFunc[imprimatur/api.Digest] -/
def c116 (x0 x1 x2 x3 : Value) (w : World) (K : VPost) : Prop :=
  binN Try.prog .sub 3 false x2 x1 w fun t15_0 w1 =>
  binN Try.prog .geq 3 true t15_0 (.int .i64 8) w1 fun t17_2 w3 =>
  condW t17_2 (
  convN Try.prog 3 160 t15_0 w3 fun t19_4 w5 =>
  allocW (zeroO Try.prog 160) 160 w5 fun t9_6 w7 =>
  storeW (some (false, 1)) t9_6 t19_4 w7 fun w8 =>
  fnW Try.prog 126 #[t15_0] w8 fun t21_9 w10 =>
  binN Try.prog .quo 3 true t15_0 (.int .i64 4) w10 fun t24_11 w12 =>
  binN Try.prog .mul 3 true t24_11 (.int .i64 2) w12 fun t25_13 w14 =>
  binN Try.prog .add 3 false x1 t25_13 w14 fun t26_15 w16 =>
  binN Try.prog .sub 3 true t26_15 (.int .i64 1) w16 fun t27_17 w18 =>
  bindX (endW Try.prog [] K) fun K19 =>
  bindX (blkX 0 K19) fun K20 =>
  loopW (fun f21 w22 K23 =>
  binN Try.prog .quo 3 true (f21 8) (.int .i64 4) w22 fun t31_24 w25 =>
  binN Try.prog .mul 3 true t31_24 (.int .i64 2) w25 fun t32_26 w27 =>
  binN Try.prog .add 3 false (f21 1) t32_26 w27 fun t33_28 w29 =>
  binN Try.prog .add 3 true t33_28 (.int .i64 1) w29 fun t34_30 w31 =>
  binN Try.prog .leq 3 false (f21 11) t34_30 w31 fun t35_32 w33 =>
  condW t35_32 (
  bindX (seqX (fun f35 w36 =>
  binN Try.prog .add 3 true (f35 11) (.int .i64 1) w36 fun t37_37 w38 =>
  K23 .normal (pf 67 (pf 67 (pf 67 f35 36 (f35 11)) 37 t37_37) 11 t37_37) w38) K23) fun K34 =>
  bindX (blkX 1 K34) fun K39 =>
  fnW Try.prog 127 #[(f21 9)] w33 fun t38_40 w41 =>
  binN Try.prog .sub 54 true (f21 10) (.int .u64 1) w41 fun t40_42 w43 =>
  binN Try.prog .and 54 false t38_40 t40_42 w43 fun t41_44 w45 =>
  convN Try.prog 54 3 t41_44 w45 fun t42_46 w47 =>
  bindX (seqX (fun f49 w50 =>
  binN Try.prog .add 3 false (f49 1) (f49 12) w50.drew fun t54_51 w52 =>
  binN Try.prog .add 3 false (f49 1) (f49 12) w52 fun t58_53 w54 =>
  idxW (some (none, 32)) (f49 0) t58_53 w54 fun t59_55 w56 =>
  loadW (some (true, 32)) t59_55 w56 fun t60_57 w58 =>
  idxW (some (none, 32)) (f49 0) (f49 11) w58 fun t63_59 w60 =>
  loadW (some (true, 32)) t63_59 w60 fun t64_61 w62 =>
  idxW (some (none, 32)) (f49 0) (f49 11) w62 fun t65_63 w64 =>
  storeW (some (true, 32)) t65_63 t60_57 w64 fun w65 =>
  idxW (some (none, 32)) (f49 0) t54_51 w65 fun t66_66 w67 =>
  storeW (some (true, 32)) t66_66 t64_61 w67 fun w68 =>
  K34 .normal (pf 67 (pf 67 (pf 67 (pf 67 (pf 67 (pf 67 (pf 67 (pf 67 (pf 67 (pf 67 (pf 67 (pf 67 (pf 67 (pf 67 (pf 67 (pf 67 (pf 67 (pf 67 f49 49 (f49 0)) 50 (f49 11)) 51 (f49 0)) 52 (f49 1)) 53 (f49 12)) 54 t54_51) 55 (f49 0)) 56 (f49 1)) 57 (f49 12)) 58 t58_53) 59 t59_55) 60 t60_57) 61 (f49 0)) 62 (f49 11)) 63 t63_59) 64 t64_61) 65 t65_63) 66 t66_66) w68) K39) fun K48 =>
  binN Try.prog .geq 3 false t42_46 (f21 8) w47 fun t45_69 w70 =>
  condW t45_69 (
  binN Try.prog .sub 3 false t42_46 (f21 8) w70 fun t48_71 w72 =>
  K48 .normal (pf 67 (pf 67 (pf 67 (pf 67 (pf 67 (pf 67 (pf 67 (pf 67 (pf 67 (pf 67 (pf 67 (pf 67 (pf 67 (pf 67 (pf 67 (pf 67 (pf 67 (pf 67 (pf 67 (pf 67 (pf 67 f21 28 (f21 11)) 29 (f21 1)) 30 (f21 8)) 31 t31_24) 32 t32_26) 33 t33_28) 34 t34_30) 35 t35_32) 38 t38_40) 39 (f21 10)) 40 t40_42) 41 t41_44) 42 t42_46) 12 t42_46) 43 t42_46) 44 (f21 8)) 45 t45_69) 46 t42_46) 47 (f21 8)) 48 t48_71) 12 t48_71) w72) (
  K48 .normal (pf 67 (pf 67 (pf 67 (pf 67 (pf 67 (pf 67 (pf 67 (pf 67 (pf 67 (pf 67 (pf 67 (pf 67 (pf 67 (pf 67 (pf 67 (pf 67 (pf 67 f21 28 (f21 11)) 29 (f21 1)) 30 (f21 8)) 31 t31_24) 32 t32_26) 33 t33_28) 34 t34_30) 35 t35_32) 38 t38_40) 39 (f21 10)) 40 t40_42) 41 t41_44) 42 t42_46) 12 t42_46) 43 t42_46) 44 (f21 8)) 45 t45_69) w70)) (
  K23 (.exit 0) (pf 67 (pf 67 (pf 67 (pf 67 (pf 67 (pf 67 (pf 67 (pf 67 f21 28 (f21 11)) 29 (f21 1)) 30 (f21 8)) 31 t31_24) 32 t32_26) 33 t33_28) 34 t34_30) 35 t35_32) w33)) (pf 67 (pf 67 (pf 67 (pf 67 (pf 67 (pf 67 (pf 67 (pf 67 (pf 67 (pf 67 (pf 67 (pf 67 (pf 67 (pf 67 (pf 67 (pf 67 (pf 67 (pf 67 (pf 67 (argF [x0, x1, x2, x3]) 13 x2) 14 x1) 15 t15_0) 8 t15_0) 16 t15_0) 17 t17_2) 18 t15_0) 19 t19_4) 9 t9_6) 20 t15_0) 21 t21_9) 10 t21_9) 22 x1) 23 t15_0) 24 t24_11) 25 t25_13) 26 t26_15) 27 t27_17) 11 t27_17) w18 K20) (
  K (.tuple #[]) w3)
theorem c116_eq (x0 x1 x2 x3 : Value) (w : World) (K : VPost) : c116 x0 x1 x2 x3 w K = WP true Try.prog 67 [(10, 655360, [0, 0, 0, 0, 0, 24, 0, 0, 0, 384, 576, 1024, 0, 0, 12288, 16384, 36803, 102339, 262143, 524287], [0, 0, 0, 0, 0, 24, 0, 0, 0, 384, 960, 1984, 0, 0, 12288, 28672, 65475, 131011, 262143, 524287])] (bodyOf Try.f116) (argF [x0, x1, x2, x3]) w [] K := by kernel_rfl
theorem c116_calls (x0 x1 x2 x3 : Value) (w : World) (K : VPost) (h : c116 x0 x1 x2 x3 w K) : Calls Try.prog 116 #[x0, x1, x2, x3] w (retK K) :=
  calls_of_WP (c116_eq x0 x1 x2 x3 w K) mixedG Try.func116 (by kernel_rfl) Try.ntmps116 (by kernel_rfl) (by kernel_rfl) h

/-- slices.choosePivotCmpFunc[imprimatur/api.Digest] -/
def c117 (x0 x1 x2 x3 : Value) (w : World) (K : VPost) : Prop :=
  binN Try.prog .sub 3 false x2 x1 w fun t17_0 w1 =>
  allocW (zeroO Try.prog 3) 3 w1 fun t11_2 w3 =>
  binN Try.prog .quo 3 true t17_0 (.int .i64 4) w3 fun t20_4 w5 =>
  binN Try.prog .mul 3 true t20_4 (.int .i64 1) w5 fun t21_6 w7 =>
  binN Try.prog .add 3 false x1 t21_6 w7 fun t22_8 w9 =>
  binN Try.prog .quo 3 true t17_0 (.int .i64 4) w9 fun t25_10 w11 =>
  binN Try.prog .mul 3 true t25_10 (.int .i64 2) w11 fun t26_12 w13 =>
  binN Try.prog .add 3 false x1 t26_12 w13 fun t27_14 w15 =>
  binN Try.prog .quo 3 true t17_0 (.int .i64 4) w15 fun t30_16 w17 =>
  binN Try.prog .mul 3 true t30_16 (.int .i64 3) w17 fun t31_18 w19 =>
  binN Try.prog .add 3 false x1 t31_18 w19 fun t32_20 w21 =>
  bindX (endW Try.prog [.tmp 8, .tmp 9] K) fun K22 =>
  bindX (seqX (fun f24 w25 =>
  loadW (some (false, 1)) (f24 11) w25 fun t55_26 w27 =>
  binN Try.prog .eql 3 true t55_26 (.int .i64 0) w27 fun t58_28 w29 =>
  condW t58_28 (
  K (.tuple #[(f24 13), (.int .i64 1)]) w29) (
  binN Try.prog .eql 3 true t55_26 (.int .i64 12) w29 fun t61_30 w31 =>
  condW t61_30 (
  K (.tuple #[(f24 13), (.int .i64 2)]) w31) (
  K (.tuple #[(f24 13), (.int .i64 0)]) w31))) K22) fun K23 =>
  binN Try.prog .geq 3 true t17_0 (.int .i64 8) w21 fun t34_32 w33 =>
  condW t34_32 (
  bindX (seqX (fun f35 w36 =>
  fnW Try.prog 129 #[(f35 0), (f35 12), (f35 13), (f35 14), (f35 11), (f35 3)] w36 fun t54_37 w38 =>
  K23 .normal (pf 63 (pf 63 (pf 63 (pf 63 (pf 63 (pf 63 (pf 63 f35 49 (f35 0)) 50 (f35 12)) 51 (f35 13)) 52 (f35 14)) 53 (f35 3)) 54 t54_37) 13 t54_37) w38) K23) fun K34 =>
  binN Try.prog .geq 3 true t17_0 (.int .i64 50) w33 fun t36_39 w40 =>
  condW t36_39 (
  fnW Try.prog 128 #[x0, t22_8, t11_2, x3] w40 fun t40_41 w42 =>
  fnW Try.prog 128 #[x0, t27_14, t11_2, x3] w42 fun t44_43 w44 =>
  fnW Try.prog 128 #[x0, t32_20, t11_2, x3] w44 fun t48_45 w46 =>
  K34 .normal (pf 63 (pf 63 (pf 63 (pf 63 (pf 63 (pf 63 (pf 63 (pf 63 (pf 63 (pf 63 (pf 63 (pf 63 (pf 63 (pf 63 (pf 63 (pf 63 (pf 63 (pf 63 (pf 63 (pf 63 (pf 63 (pf 63 (pf 63 (pf 63 (pf 63 (pf 63 (pf 63 (pf 63 (pf 63 (pf 63 (pf 63 (pf 63 (pf 63 (pf 63 (pf 63 (pf 63 (pf 63 (pf 63 (pf 63 (pf 63 (pf 63 (pf 63 (pf 63 (pf 63 (argF [x0, x1, x2, x3]) 8 (.int .i64 0)) 9 (.int .i64 0)) 15 x2) 16 x1) 17 t17_0) 10 t17_0) 11 t11_2) 18 x1) 19 t17_0) 20 t20_4) 21 t21_6) 22 t22_8) 12 t22_8) 23 x1) 24 t17_0) 25 t25_10) 26 t26_12) 27 t27_14) 13 t27_14) 28 x1) 29 t17_0) 30 t30_16) 31 t31_18) 32 t32_20) 14 t32_20) 33 t17_0) 34 t34_32) 35 t17_0) 36 t36_39) 37 x0) 38 t22_8) 39 x3) 40 t40_41) 12 t40_41) 41 x0) 42 t27_14) 43 x3) 44 t44_43) 13 t44_43) 45 x0) 46 t32_20) 47 x3) 48 t48_45) 14 t48_45) w46) (
  K34 .normal (pf 63 (pf 63 (pf 63 (pf 63 (pf 63 (pf 63 (pf 63 (pf 63 (pf 63 (pf 63 (pf 63 (pf 63 (pf 63 (pf 63 (pf 63 (pf 63 (pf 63 (pf 63 (pf 63 (pf 63 (pf 63 (pf 63 (pf 63 (pf 63 (pf 63 (pf 63 (pf 63 (pf 63 (pf 63 (argF [x0, x1, x2, x3]) 8 (.int .i64 0)) 9 (.int .i64 0)) 15 x2) 16 x1) 17 t17_0) 10 t17_0) 11 t11_2) 18 x1) 19 t17_0) 20 t20_4) 21 t21_6) 22 t22_8) 12 t22_8) 23 x1) 24 t17_0) 25 t25_10) 26 t26_12) 27 t27_14) 13 t27_14) 28 x1) 29 t17_0) 30 t30_16) 31 t31_18) 32 t32_20) 14 t32_20) 33 t17_0) 34 t34_32) 35 t17_0) 36 t36_39) w40)) (
  K23 .normal (pf 63 (pf 63 (pf 63 (pf 63 (pf 63 (pf 63 (pf 63 (pf 63 (pf 63 (pf 63 (pf 63 (pf 63 (pf 63 (pf 63 (pf 63 (pf 63 (pf 63 (pf 63 (pf 63 (pf 63 (pf 63 (pf 63 (pf 63 (pf 63 (pf 63 (pf 63 (pf 63 (argF [x0, x1, x2, x3]) 8 (.int .i64 0)) 9 (.int .i64 0)) 15 x2) 16 x1) 17 t17_0) 10 t17_0) 11 t11_2) 18 x1) 19 t17_0) 20 t20_4) 21 t21_6) 22 t22_8) 12 t22_8) 23 x1) 24 t17_0) 25 t25_10) 26 t26_12) 27 t27_14) 13 t27_14) 28 x1) 29 t17_0) 30 t30_16) 31 t31_18) 32 t32_20) 14 t32_20) 33 t17_0) 34 t34_32) w33)
theorem c117_eq (x0 x1 x2 x3 : Value) (w : World) (K : VPost) : c117 x0 x1 x2 x3 w K = WP true Try.prog 63 [] (bodyOf Try.f117) (argF [x0, x1, x2, x3]) w [.tmp 8, .tmp 9] K := by kernel_rfl
theorem c117_calls (x0 x1 x2 x3 : Value) (w : World) (K : VPost) (h : c117 x0 x1 x2 x3 w K) : Calls Try.prog 117 #[x0, x1, x2, x3] w (retK K) :=
  calls_of_WP (c117_eq x0 x1 x2 x3 w K) mixedG Try.func117 (by kernel_rfl) Try.ntmps117 (by kernel_rfl) (by kernel_rfl) h

/-- slices.reverseRangeCmpFunc[imprimatur/api.Digest] -/
def c118 (x0 x1 x2 x3 : Value) (w : World) (K : VPost) : Prop :=
  binN Try.prog .sub 3 true x2 (.int .i64 1) w fun t12_0 w1 =>
  bindX (endW Try.prog [] K) fun K2 =>
  bindX (blkX 0 K2) fun K3 =>
  loopW (fun f4 w5 K6 =>
  binN Try.prog .lss 3 false (f4 8) (f4 9) w5 fun t15_7 w8 =>
  condW t15_7 (
  idxW (some (none, 32)) (f4 0) (f4 9) w8.drew fun t22_9 w10 =>
  loadW (some (true, 32)) t22_9 w10 fun t23_11 w12 =>
  idxW (some (none, 32)) (f4 0) (f4 8) w12 fun t26_13 w14 =>
  loadW (some (true, 32)) t26_13 w14 fun t27_15 w16 =>
  idxW (some (none, 32)) (f4 0) (f4 8) w16 fun t28_17 w18 =>
  storeW (some (true, 32)) t28_17 t23_11 w18 fun w19 =>
  idxW (some (none, 32)) (f4 0) (f4 9) w19 fun t29_20 w21 =>
  storeW (some (true, 32)) t29_20 t27_15 w21 fun w22 =>
  binN Try.prog .add 3 true (f4 8) (.int .i64 1) w22 fun t31_23 w24 =>
  binN Try.prog .sub 3 true (f4 9) (.int .i64 1) w24 fun t33_25 w26 =>
  K6 .normal (pf 34 (pf 34 (pf 34 (pf 34 (pf 34 (pf 34 (pf 34 (pf 34 (pf 34 (pf 34 (pf 34 (pf 34 (pf 34 (pf 34 (pf 34 (pf 34 (pf 34 (pf 34 (pf 34 (pf 34 (pf 34 (pf 34 (pf 34 f4 13 (f4 8)) 14 (f4 9)) 15 t15_7) 16 (f4 0)) 17 (f4 8)) 18 (f4 0)) 19 (f4 9)) 20 (f4 0)) 21 (f4 9)) 22 t22_9) 23 t23_11) 24 (f4 0)) 25 (f4 8)) 26 t26_13) 27 t27_15) 28 t28_17) 29 t29_20) 30 (f4 8)) 31 t31_23) 8 t31_23) 32 (f4 9)) 33 t33_25) 9 t33_25) w26) (
  K6 (.exit 0) (pf 34 (pf 34 (pf 34 f4 13 (f4 8)) 14 (f4 9)) 15 t15_7) w8)) (pf 34 (pf 34 (pf 34 (pf 34 (pf 34 (argF [x0, x1, x2, x3]) 10 x1) 8 x1) 11 x2) 12 t12_0) 9 t12_0) w1 K3
theorem c118_eq (x0 x1 x2 x3 : Value) (w : World) (K : VPost) : c118 x0 x1 x2 x3 w K = WP true Try.prog 34 [(3, 40960, [0, 0, 0, 0, 0, 0, 48, 64, 0, 0, 768, 1024, 2291, 6387, 16383, 32767], [0, 0, 0, 0, 0, 0, 48, 112, 0, 0, 768, 1792, 4083, 8179, 16383, 32767])] (bodyOf Try.f118) (argF [x0, x1, x2, x3]) w [] K := by kernel_rfl
theorem c118_calls (x0 x1 x2 x3 : Value) (w : World) (K : VPost) (h : c118 x0 x1 x2 x3 w K) : Calls Try.prog 118 #[x0, x1, x2, x3] w (retK K) :=
  calls_of_WP (c118_eq x0 x1 x2 x3 w K) mixedG Try.func118 (by kernel_rfl) Try.ntmps118 (by kernel_rfl) (by kernel_rfl) h

/-- slices.partialInsertionSortCmpFunc[imprimatur/api.Digest] -/
def c119 (x0 x1 x2 x3 : Value) (w : World) (K : VPost) : Prop :=
  binN Try.prog .add 3 true x1 (.int .i64 1) w fun t14_0 w1 =>
  bindX (endW Try.prog [.tmp 8] K) fun K2 =>
  bindX (seqX (fun _ w5 =>
  K (.bool false) w5) K2) fun K3 =>
  bindX (blkX 0 K3) fun K6 =>
  loopW (fun f7 w8 K9 =>
  binN Try.prog .lss 3 true (f7 10) (.int .i64 5) w8 fun t16_10 w11 =>
  condW t16_10 (
  bindX (seqX (fun f13 w14 =>
  binN Try.prog .add 3 true (f13 10) (.int .i64 1) w14 fun t18_15 w16 =>
  K9 .normal (pf 141 (pf 141 (pf 141 f13 17 (f13 10)) 18 t18_15) 10 t18_15) w16) K9) fun K12 =>
  bindX (blkX 1 K12) fun K17 =>
  bindX (seqX (fun f19 w20 =>
  binN Try.prog .eql 3 false (f19 9) (f19 2) w20 fun t41_21 w22 =>
  condW t41_21 (
  K9 .ret (pf 141 (pf 141 (pf 141 (pf 141 f19 39 (f19 9)) 40 (f19 2)) 41 t41_21) 8 (.bool true)) w22) (
  binN Try.prog .sub 3 false (f19 2) (f19 1) w22 fun t44_23 w24 =>
  binN Try.prog .lss 3 true t44_23 (.int .i64 50) w24 fun t45_25 w26 =>
  condW t45_25 (
  K9 .ret (pf 141 (pf 141 (pf 141 (pf 141 (pf 141 (pf 141 (pf 141 (pf 141 f19 39 (f19 9)) 40 (f19 2)) 41 t41_21) 42 (f19 2)) 43 (f19 1)) 44 t44_23) 45 t45_25) 8 (.bool false)) w26) (
  binN Try.prog .sub 3 true (f19 9) (.int .i64 1) w26.drew fun t50_27 w28 =>
  binN Try.prog .sub 3 true (f19 9) (.int .i64 1) w28 fun t53_29 w30 =>
  idxW (some (none, 32)) (f19 0) t53_29 w30 fun t54_31 w32 =>
  loadW (some (true, 32)) t54_31 w32 fun t55_33 w34 =>
  idxW (some (none, 32)) (f19 0) (f19 9) w34 fun t58_35 w36 =>
  loadW (some (true, 32)) t58_35 w36 fun t59_37 w38 =>
  idxW (some (none, 32)) (f19 0) (f19 9) w38 fun t60_39 w40 =>
  storeW (some (true, 32)) t60_39 t55_33 w40 fun w41 =>
  idxW (some (none, 32)) (f19 0) t50_27 w41 fun t61_42 w43 =>
  storeW (some (true, 32)) t61_42 t59_37 w43 fun w44 =>
  bindX (seqX (fun f46 w47 =>
  binN Try.prog .sub 3 false (f46 2) (f46 9) w47 fun t103_48 w49 =>
  binN Try.prog .geq 3 true t103_48 (.int .i64 2) w49 fun t104_50 w51 =>
  condW t104_50 (
  binN Try.prog .add 3 true (f46 9) (.int .i64 1) w51 fun t106_52 w53 =>
  bindX (blkX 6 K17) fun K54 =>
  loopW (fun f55 w56 K57 =>
  binN Try.prog .lss 3 false (f55 12) (f55 2) w56 fun t109_58 w59 =>
  condW t109_58 (
  idxW (some (none, 32)) (f55 0) (f55 12) w59.drew fun t115_60 w61 =>
  loadW (some (true, 32)) t115_60 w61 fun t116_62 w63 =>
  binN Try.prog .sub 3 true (f55 12) (.int .i64 1) w63 fun t119_64 w65 =>
  idxW (some (none, 32)) (f55 0) t119_64 w65 fun t120_66 w67 =>
  loadW (some (true, 32)) t120_66 w67 fun t121_68 w69 =>
  dynW Try.prog (f55 3) #[t116_62, t121_68] w69 fun t122_70 w71 =>
  binN Try.prog .lss 3 true t122_70 (.int .i64 0) w71 fun t123_72 w73 =>
  unN Try.prog .not t123_72 w73 fun t124_74 w75 =>
  condW t124_74 (
  K57 (.exit 6) (pf 141 (pf 141 (pf 141 (pf 141 (pf 141 (pf 141 (pf 141 (pf 141 (pf 141 (pf 141 (pf 141 (pf 141 (pf 141 (pf 141 (pf 141 (pf 141 f55 107 (f55 12)) 108 (f55 2)) 109 t109_58) 112 (f55 3)) 113 (f55 0)) 114 (f55 12)) 115 t115_60) 116 t116_62) 117 (f55 0)) 118 (f55 12)) 119 t119_64) 120 t120_66) 121 t121_68) 122 t122_70) 123 t123_72) 124 t124_74) w75) (
  binN Try.prog .sub 3 true (f55 12) (.int .i64 1) w75.drew fun t129_76 w77 =>
  binN Try.prog .sub 3 true (f55 12) (.int .i64 1) w77 fun t132_78 w79 =>
  idxW (some (none, 32)) (f55 0) t132_78 w79 fun t133_80 w81 =>
  loadW (some (true, 32)) t133_80 w81 fun t134_82 w83 =>
  idxW (some (none, 32)) (f55 0) (f55 12) w83 fun t137_84 w85 =>
  loadW (some (true, 32)) t137_84 w85 fun t138_86 w87 =>
  idxW (some (none, 32)) (f55 0) (f55 12) w87 fun t139_88 w89 =>
  storeW (some (true, 32)) t139_88 t134_82 w89 fun w90 =>
  idxW (some (none, 32)) (f55 0) t129_76 w90 fun t140_91 w92 =>
  storeW (some (true, 32)) t140_91 t138_86 w92 fun w93 =>
  binN Try.prog .add 3 true (f55 12) (.int .i64 1) w93 fun t111_94 w95 =>
  K57 .normal (pf 141 (pf 141 (pf 141 (pf 141 (pf 141 (pf 141 (pf 141 (pf 141 (pf 141 (pf 141 (pf 141 (pf 141 (pf 141 (pf 141 (pf 141 (pf 141 (pf 141 (pf 141 (pf 141 (pf 141 (pf 141 (pf 141 (pf 141 (pf 141 (pf 141 (pf 141 (pf 141 (pf 141 (pf 141 (pf 141 (pf 141 (pf 141 (pf 141 (pf 141 (pf 141 f55 107 (f55 12)) 108 (f55 2)) 109 t109_58) 112 (f55 3)) 113 (f55 0)) 114 (f55 12)) 115 t115_60) 116 t116_62) 117 (f55 0)) 118 (f55 12)) 119 t119_64) 120 t120_66) 121 t121_68) 122 t122_70) 123 t123_72) 124 t124_74) 125 (f55 0)) 126 (f55 12)) 127 (f55 0)) 128 (f55 12)) 129 t129_76) 130 (f55 0)) 131 (f55 12)) 132 t132_78) 133 t133_80) 134 t134_82) 135 (f55 0)) 136 (f55 12)) 137 t137_84) 138 t138_86) 139 t139_88) 140 t140_91) 110 (f55 12)) 111 t111_94) 12 t111_94) w95)) (
  K57 (.exit 6) (pf 141 (pf 141 (pf 141 f55 107 (f55 12)) 108 (f55 2)) 109 t109_58) w59)) (pf 141 (pf 141 (pf 141 (pf 141 (pf 141 (pf 141 (pf 141 f46 101 (f46 2)) 102 (f46 9)) 103 t103_48) 104 t104_50) 105 (f46 9)) 106 t106_52) 12 t106_52) w53 K54) (
  K12 .normal (pf 141 (pf 141 (pf 141 (pf 141 f46 101 (f46 2)) 102 (f46 9)) 103 t103_48) 104 t104_50) w51)) K17) fun K45 =>
  binN Try.prog .sub 3 false (f19 9) (f19 1) w44 fun t64_96 w97 =>
  binN Try.prog .geq 3 true t64_96 (.int .i64 2) w97 fun t65_98 w99 =>
  condW t65_98 (
  binN Try.prog .sub 3 true (f19 9) (.int .i64 1) w99 fun t67_100 w101 =>
  bindX (blkX 4 K45) fun K102 =>
  loopW (fun f103 w104 K105 =>
  binN Try.prog .geq 3 true (f103 11) (.int .i64 1) w104 fun t69_106 w107 =>
  condW t69_106 (
  idxW (some (none, 32)) (f103 0) (f103 11) w107.drew fun t75_108 w109 =>
  loadW (some (true, 32)) t75_108 w109 fun t76_110 w111 =>
  binN Try.prog .sub 3 true (f103 11) (.int .i64 1) w111 fun t79_112 w113 =>
  idxW (some (none, 32)) (f103 0) t79_112 w113 fun t80_114 w115 =>
  loadW (some (true, 32)) t80_114 w115 fun t81_116 w117 =>
  dynW Try.prog (f103 3) #[t76_110, t81_116] w117 fun t82_118 w119 =>
  binN Try.prog .lss 3 true t82_118 (.int .i64 0) w119 fun t83_120 w121 =>
  unN Try.prog .not t83_120 w121 fun t84_122 w123 =>
  condW t84_122 (
  K105 (.exit 4) (pf 141 (pf 141 (pf 141 (pf 141 (pf 141 (pf 141 (pf 141 (pf 141 (pf 141 (pf 141 (pf 141 (pf 141 (pf 141 (pf 141 (pf 141 f103 68 (f103 11)) 69 t69_106) 72 (f103 3)) 73 (f103 0)) 74 (f103 11)) 75 t75_108) 76 t76_110) 77 (f103 0)) 78 (f103 11)) 79 t79_112) 80 t80_114) 81 t81_116) 82 t82_118) 83 t83_120) 84 t84_122) w123) (
  binN Try.prog .sub 3 true (f103 11) (.int .i64 1) w123.drew fun t89_124 w125 =>
  binN Try.prog .sub 3 true (f103 11) (.int .i64 1) w125 fun t92_126 w127 =>
  idxW (some (none, 32)) (f103 0) t92_126 w127 fun t93_128 w129 =>
  loadW (some (true, 32)) t93_128 w129 fun t94_130 w131 =>
  idxW (some (none, 32)) (f103 0) (f103 11) w131 fun t97_132 w133 =>
  loadW (some (true, 32)) t97_132 w133 fun t98_134 w135 =>
  idxW (some (none, 32)) (f103 0) (f103 11) w135 fun t99_136 w137 =>
  storeW (some (true, 32)) t99_136 t94_130 w137 fun w138 =>
  idxW (some (none, 32)) (f103 0) t89_124 w138 fun t100_139 w140 =>
  storeW (some (true, 32)) t100_139 t98_134 w140 fun w141 =>
  binN Try.prog .sub 3 true (f103 11) (.int .i64 1) w141 fun t71_142 w143 =>
  K105 .normal (pf 141 (pf 141 (pf 141 (pf 141 (pf 141 (pf 141 (pf 141 (pf 141 (pf 141 (pf 141 (pf 141 (pf 141 (pf 141 (pf 141 (pf 141 (pf 141 (pf 141 (pf 141 (pf 141 (pf 141 (pf 141 (pf 141 (pf 141 (pf 141 (pf 141 (pf 141 (pf 141 (pf 141 (pf 141 (pf 141 (pf 141 (pf 141 (pf 141 (pf 141 f103 68 (f103 11)) 69 t69_106) 72 (f103 3)) 73 (f103 0)) 74 (f103 11)) 75 t75_108) 76 t76_110) 77 (f103 0)) 78 (f103 11)) 79 t79_112) 80 t80_114) 81 t81_116) 82 t82_118) 83 t83_120) 84 t84_122) 85 (f103 0)) 86 (f103 11)) 87 (f103 0)) 88 (f103 11)) 89 t89_124) 90 (f103 0)) 91 (f103 11)) 92 t92_126) 93 t93_128) 94 t94_130) 95 (f103 0)) 96 (f103 11)) 97 t97_132) 98 t98_134) 99 t99_136) 100 t100_139) 70 (f103 11)) 71 t71_142) 11 t71_142) w143)) (
  K105 (.exit 4) (pf 141 (pf 141 f103 68 (f103 11)) 69 t69_106) w107)) (pf 141 (pf 141 (pf 141 (pf 141 (pf 141 (pf 141 (pf 141 (pf 141 (pf 141 (pf 141 (pf 141 (pf 141 (pf 141 (pf 141 (pf 141 (pf 141 (pf 141 (pf 141 (pf 141 (pf 141 (pf 141 (pf 141 (pf 141 (pf 141 (pf 141 (pf 141 (pf 141 (pf 141 (pf 141 (pf 141 f19 39 (f19 9)) 40 (f19 2)) 41 t41_21) 42 (f19 2)) 43 (f19 1)) 44 t44_23) 45 t45_25) 46 (f19 0)) 47 (f19 9)) 48 (f19 0)) 49 (f19 9)) 50 t50_27) 51 (f19 0)) 52 (f19 9)) 53 t53_29) 54 t54_31) 55 t55_33) 56 (f19 0)) 57 (f19 9)) 58 t58_35) 59 t59_37) 60 t60_39) 61 t61_42) 62 (f19 9)) 63 (f19 1)) 64 t64_96) 65 t65_98) 66 (f19 9)) 67 t67_100) 11 t67_100) w101 K102) (
  K45 .normal (pf 141 (pf 141 (pf 141 (pf 141 (pf 141 (pf 141 (pf 141 (pf 141 (pf 141 (pf 141 (pf 141 (pf 141 (pf 141 (pf 141 (pf 141 (pf 141 (pf 141 (pf 141 (pf 141 (pf 141 (pf 141 (pf 141 (pf 141 (pf 141 (pf 141 (pf 141 (pf 141 f19 39 (f19 9)) 40 (f19 2)) 41 t41_21) 42 (f19 2)) 43 (f19 1)) 44 t44_23) 45 t45_25) 46 (f19 0)) 47 (f19 9)) 48 (f19 0)) 49 (f19 9)) 50 t50_27) 51 (f19 0)) 52 (f19 9)) 53 t53_29) 54 t54_31) 55 t55_33) 56 (f19 0)) 57 (f19 9)) 58 t58_35) 59 t59_37) 60 t60_39) 61 t61_42) 62 (f19 9)) 63 (f19 1)) 64 t64_96) 65 t65_98) w99)))) K17) fun K18 =>
  bindX (blkX 2 K18) fun K144 =>
  loopW (fun f145 w146 K147 =>
  binN Try.prog .lss 3 false (f145 9) (f145 2) w146.drew fun t21_148 w149 =>
  gstep t21_148 true w149 (fun K => K (f145 3) w149) fun t23_150 w151 =>
  gstep t21_148 true w151 (fun K => K (f145 0) w151) fun t24_152 w153 =>
  gstep t21_148 true w153 (fun K => K (f145 9) w153) fun t25_154 w155 =>
  gstep t21_148 true w155 (fun K => idxW (some (none, 32)) t24_152 t25_154 w155 K) fun t26_156 w157 =>
  gstep t21_148 true w157 (fun K => loadW (some (true, 32)) t26_156 w157 K) fun t27_158 w159 =>
  gstep t21_148 true w159 (fun K => K (f145 0) w159) fun t28_160 w161 =>
  gstep t21_148 true w161 (fun K => K (f145 9) w161) fun t29_162 w163 =>
  gstep t21_148 true w163 (fun K => binN Try.prog .sub 3 true t29_162 (.int .i64 1) w163 K) fun t30_164 w165 =>
  gstep t21_148 true w165 (fun K => idxW (some (none, 32)) t28_160 t30_164 w165 K) fun t31_166 w167 =>
  gstep t21_148 true w167 (fun K => loadW (some (true, 32)) t31_166 w167 K) fun t32_168 w169 =>
  gstep t21_148 true w169 (fun K => dynW Try.prog t23_150 #[t27_158, t32_168] w169 K) fun t33_170 w171 =>
  gstep t21_148 true w171 (fun K => binN Try.prog .lss 3 true t33_170 (.int .i64 0) w171 K) fun t34_172 w173 =>
  gstep t21_148 true w173 (fun K => unN Try.prog .not t34_172 w173 K) fun t35_174 w175 =>
  pickW t21_148 t35_174 (.bool false) w175 fun t36_176 w177 =>
  condW t36_176 (
  binN Try.prog .add 3 true (f145 9) (.int .i64 1) w177 fun t38_178 w179 =>
  K147 .normal (pf 141 (pf 141 (pf 141 (pf 141 (pf 141 (pf 141 (pf 141 (pf 141 (pf 141 (pf 141 (pf 141 (pf 141 (pf 141 (pf 141 (pf 141 (pf 141 (pf 141 (pf 141 (pf 141 (pf 141 (pf 141 f145 19 (f145 9)) 20 (f145 2)) 21 t21_148) 22 t21_148) 23 t23_150) 24 t24_152) 25 t25_154) 26 t26_156) 27 t27_158) 28 t28_160) 29 t29_162) 30 t30_164) 31 t31_166) 32 t32_168) 33 t33_170) 34 t34_172) 35 t35_174) 36 t36_176) 37 (f145 9)) 38 t38_178) 9 t38_178) w179) (
  K147 (.exit 2) (pf 141 (pf 141 (pf 141 (pf 141 (pf 141 (pf 141 (pf 141 (pf 141 (pf 141 (pf 141 (pf 141 (pf 141 (pf 141 (pf 141 (pf 141 (pf 141 (pf 141 (pf 141 f145 19 (f145 9)) 20 (f145 2)) 21 t21_148) 22 t21_148) 23 t23_150) 24 t24_152) 25 t25_154) 26 t26_156) 27 t27_158) 28 t28_160) 29 t29_162) 30 t30_164) 31 t31_166) 32 t32_168) 33 t33_170) 34 t34_172) 35 t35_174) 36 t36_176) w177)) (pf 141 (pf 141 f7 15 (f7 10)) 16 t16_10) w11 K144) (
  K9 (.exit 0) (pf 141 (pf 141 f7 15 (f7 10)) 16 t16_10) w11)) (pf 141 (pf 141 (pf 141 (pf 141 (pf 141 (argF [x0, x1, x2, x3]) 8 (.bool false)) 13 x1) 14 t14_0) 9 t14_0) 10 (.int .i64 0)) w1 K6
theorem c119_eq (x0 x1 x2 x3 : Value) (w : World) (K : VPost) : c119 x0 x1 x2 x3 w K = WP true Try.prog 141 [(5, 16384, [0, 0, 3, 4, 8, 8, 8, 104, 136, 8, 8, 1032, 2568, 4104, 8472, 16392, 32776, 65544], [0, 0, 3, 7, 15, 15, 15, 111, 239, 15, 15, 1039, 3599, 7695, 16383, 32767, 65535, 131071]), (11, 163840, [0, 0, 0, 0, 8, 0, 0, 64, 160, 256, 0, 0, 3072, 4096, 9187, 25571, 65535, 131071], [0, 0, 0, 0, 8, 0, 0, 64, 224, 480, 0, 0, 3072, 7168, 16355, 32739, 65535, 131071]), (16, 1024, [0, 0, 0, 6, 8, 0, 0, 64, 160, 256, 529, 1024, 2048], [0, 0, 0, 6, 14, 0, 0, 64, 224, 480, 1023, 2047, 4095]), (17, 163840, [0, 0, 0, 0, 8, 0, 0, 64, 160, 256, 0, 0, 3072, 4096, 9187, 25571, 65535, 131071], [0, 0, 0, 0, 8, 0, 0, 64, 224, 480, 0, 0, 3072, 7168, 16355, 32739, 65535, 131071]), (22, 1024, [0, 0, 0, 6, 8, 0, 0, 64, 160, 256, 529, 1024, 2048], [0, 0, 0, 6, 14, 0, 0, 64, 224, 480, 1023, 2047, 4095]), (23, 163840, [0, 0, 0, 0, 8, 0, 0, 64, 160, 256, 0, 0, 3072, 4096, 9187, 25571, 65535, 131071], [0, 0, 0, 0, 8, 0, 0, 64, 224, 480, 0, 0, 3072, 7168, 16355, 32739, 65535, 131071])] (bodyOf Try.f119) (argF [x0, x1, x2, x3]) w [.tmp 8] K := by kernel_rfl
theorem c119_calls (x0 x1 x2 x3 : Value) (w : World) (K : VPost) (h : c119 x0 x1 x2 x3 w K) : Calls Try.prog 119 #[x0, x1, x2, x3] w (retK K) :=
  calls_of_WP (c119_eq x0 x1 x2 x3 w K) mixedG Try.func119 (by kernel_rfl) Try.ntmps119 (by kernel_rfl) (by kernel_rfl) h

/-- slices.partitionEqualCmpFunc[imprimatur/api.Digest] -/
def c120 (x0 x1 x2 x3 x4 : Value) (w : World) (K : VPost) : Prop :=
  idxW (some (none, 32)) x0 x3 w.drew fun t19_0 w1 =>
  loadW (some (true, 32)) t19_0 w1 fun t20_2 w3 =>
  idxW (some (none, 32)) x0 x1 w3 fun t23_4 w5 =>
  loadW (some (true, 32)) t23_4 w5 fun t24_6 w7 =>
  idxW (some (none, 32)) x0 x1 w7 fun t25_8 w9 =>
  storeW (some (true, 32)) t25_8 t20_2 w9 fun w10 =>
  idxW (some (none, 32)) x0 x3 w10 fun t26_11 w12 =>
  storeW (some (true, 32)) t26_11 t24_6 w12 fun w13 =>
  binN Try.prog .add 3 true x1 (.int .i64 1) w13 fun t28_14 w15 =>
  binN Try.prog .sub 3 true x2 (.int .i64 1) w15 fun t30_16 w17 =>
  bindX (endW Try.prog [.tmp 10] K) fun K18 =>
  bindX (seqX (fun f20 w21 =>
  K (f20 11) w21) K18) fun K19 =>
  bindX (blkX 0 K19) fun K22 =>
  loopW (fun f23 w24 K25 =>
  bindX (blkX 1 K25) fun K26 =>
  bindX (seqX (fun f28 w29 =>
  bindX (seqX (fun f31 w32 =>
  binN Try.prog .gtr 3 false (f31 11) (f31 12) w32 fun t70_33 w34 =>
  condW t70_33 (
  K25 (.exit 0) (pf 90 (pf 90 (pf 90 f31 68 (f31 11)) 69 (f31 12)) 70 t70_33) w34) (
  idxW (some (none, 32)) (f31 0) (f31 12) w34.drew fun t77_35 w36 =>
  loadW (some (true, 32)) t77_35 w36 fun t78_37 w38 =>
  idxW (some (none, 32)) (f31 0) (f31 11) w38 fun t81_39 w40 =>
  loadW (some (true, 32)) t81_39 w40 fun t82_41 w42 =>
  idxW (some (none, 32)) (f31 0) (f31 11) w42 fun t83_43 w44 =>
  storeW (some (true, 32)) t83_43 t78_37 w44 fun w45 =>
  idxW (some (none, 32)) (f31 0) (f31 12) w45 fun t84_46 w47 =>
  storeW (some (true, 32)) t84_46 t82_41 w47 fun w48 =>
  binN Try.prog .add 3 true (f31 11) (.int .i64 1) w48 fun t86_49 w50 =>
  binN Try.prog .sub 3 true (f31 12) (.int .i64 1) w50 fun t88_51 w52 =>
  K25 .normal (pf 90 (pf 90 (pf 90 (pf 90 (pf 90 (pf 90 (pf 90 (pf 90 (pf 90 (pf 90 (pf 90 (pf 90 (pf 90 (pf 90 (pf 90 (pf 90 (pf 90 (pf 90 (pf 90 (pf 90 (pf 90 (pf 90 (pf 90 f31 68 (f31 11)) 69 (f31 12)) 70 t70_33) 71 (f31 0)) 72 (f31 11)) 73 (f31 0)) 74 (f31 12)) 75 (f31 0)) 76 (f31 12)) 77 t77_35) 78 t78_37) 79 (f31 0)) 80 (f31 11)) 81 t81_39) 82 t82_41) 83 t83_43) 84 t84_46) 85 (f31 11)) 86 t86_49) 11 t86_49) 87 (f31 12)) 88 t88_51) 12 t88_51) w52)) K26) fun K30 =>
  bindX (blkX 4 K30) fun K53 =>
  loopW (fun f54 w55 K56 =>
  binN Try.prog .leq 3 false (f54 11) (f54 12) w55.drew fun t52_57 w58 =>
  gstep t52_57 true w58 (fun K => K (f54 4) w58) fun t54_59 w60 =>
  gstep t52_57 true w60 (fun K => K (f54 0) w60) fun t55_61 w62 =>
  gstep t52_57 true w62 (fun K => K (f54 1) w62) fun t56_63 w64 =>
  gstep t52_57 true w64 (fun K => idxW (some (none, 32)) t55_61 t56_63 w64 K) fun t57_65 w66 =>
  gstep t52_57 true w66 (fun K => loadW (some (true, 32)) t57_65 w66 K) fun t58_67 w68 =>
  gstep t52_57 true w68 (fun K => K (f54 0) w68) fun t59_69 w70 =>
  gstep t52_57 true w70 (fun K => K (f54 12) w70) fun t60_71 w72 =>
  gstep t52_57 true w72 (fun K => idxW (some (none, 32)) t59_69 t60_71 w72 K) fun t61_73 w74 =>
  gstep t52_57 true w74 (fun K => loadW (some (true, 32)) t61_73 w74 K) fun t62_75 w76 =>
  gstep t52_57 true w76 (fun K => dynW Try.prog t54_59 #[t58_67, t62_75] w76 K) fun t63_77 w78 =>
  gstep t52_57 true w78 (fun K => binN Try.prog .lss 3 true t63_77 (.int .i64 0) w78 K) fun t64_79 w80 =>
  pickW t52_57 t64_79 (.bool false) w80 fun t65_81 w82 =>
  condW t65_81 (
  binN Try.prog .sub 3 true (f54 12) (.int .i64 1) w82 fun t67_83 w84 =>
  K56 .normal (pf 90 (pf 90 (pf 90 (pf 90 (pf 90 (pf 90 (pf 90 (pf 90 (pf 90 (pf 90 (pf 90 (pf 90 (pf 90 (pf 90 (pf 90 (pf 90 (pf 90 (pf 90 (pf 90 f54 50 (f54 11)) 51 (f54 12)) 52 t52_57) 53 t52_57) 54 t54_59) 55 t55_61) 56 t56_63) 57 t57_65) 58 t58_67) 59 t59_69) 60 t60_71) 61 t61_73) 62 t62_75) 63 t63_77) 64 t64_79) 65 t65_81) 66 (f54 12)) 67 t67_83) 12 t67_83) w84) (
  K56 (.exit 4) (pf 90 (pf 90 (pf 90 (pf 90 (pf 90 (pf 90 (pf 90 (pf 90 (pf 90 (pf 90 (pf 90 (pf 90 (pf 90 (pf 90 (pf 90 (pf 90 f54 50 (f54 11)) 51 (f54 12)) 52 t52_57) 53 t52_57) 54 t54_59) 55 t55_61) 56 t56_63) 57 t57_65) 58 t58_67) 59 t59_69) 60 t60_71) 61 t61_73) 62 t62_75) 63 t63_77) 64 t64_79) 65 t65_81) w82)) f28 w29 K53) K26) fun K27 =>
  bindX (blkX 2 K27) fun K85 =>
  loopW (fun f86 w87 K88 =>
  binN Try.prog .leq 3 false (f86 11) (f86 12) w87.drew fun t33_89 w90 =>
  gstep t33_89 true w90 (fun K => K (f86 4) w90) fun t35_91 w92 =>
  gstep t33_89 true w92 (fun K => K (f86 0) w92) fun t36_93 w94 =>
  gstep t33_89 true w94 (fun K => K (f86 1) w94) fun t37_95 w96 =>
  gstep t33_89 true w96 (fun K => idxW (some (none, 32)) t36_93 t37_95 w96 K) fun t38_97 w98 =>
  gstep t33_89 true w98 (fun K => loadW (some (true, 32)) t38_97 w98 K) fun t39_99 w100 =>
  gstep t33_89 true w100 (fun K => K (f86 0) w100) fun t40_101 w102 =>
  gstep t33_89 true w102 (fun K => K (f86 11) w102) fun t41_103 w104 =>
  gstep t33_89 true w104 (fun K => idxW (some (none, 32)) t40_101 t41_103 w104 K) fun t42_105 w106 =>
  gstep t33_89 true w106 (fun K => loadW (some (true, 32)) t42_105 w106 K) fun t43_107 w108 =>
  gstep t33_89 true w108 (fun K => dynW Try.prog t35_91 #[t39_99, t43_107] w108 K) fun t44_109 w110 =>
  gstep t33_89 true w110 (fun K => binN Try.prog .lss 3 true t44_109 (.int .i64 0) w110 K) fun t45_111 w112 =>
  gstep t33_89 true w112 (fun K => unN Try.prog .not t45_111 w112 K) fun t46_113 w114 =>
  pickW t33_89 t46_113 (.bool false) w114 fun t47_115 w116 =>
  condW t47_115 (
  binN Try.prog .add 3 true (f86 11) (.int .i64 1) w116 fun t49_117 w118 =>
  K88 .normal (pf 90 (pf 90 (pf 90 (pf 90 (pf 90 (pf 90 (pf 90 (pf 90 (pf 90 (pf 90 (pf 90 (pf 90 (pf 90 (pf 90 (pf 90 (pf 90 (pf 90 (pf 90 (pf 90 (pf 90 f86 31 (f86 11)) 32 (f86 12)) 33 t33_89) 34 t33_89) 35 t35_91) 36 t36_93) 37 t37_95) 38 t38_97) 39 t39_99) 40 t40_101) 41 t41_103) 42 t42_105) 43 t43_107) 44 t44_109) 45 t45_111) 46 t46_113) 47 t47_115) 48 (f86 11)) 49 t49_117) 11 t49_117) w118) (
  K88 (.exit 2) (pf 90 (pf 90 (pf 90 (pf 90 (pf 90 (pf 90 (pf 90 (pf 90 (pf 90 (pf 90 (pf 90 (pf 90 (pf 90 (pf 90 (pf 90 (pf 90 (pf 90 f86 31 (f86 11)) 32 (f86 12)) 33 t33_89) 34 t33_89) 35 t35_91) 36 t36_93) 37 t37_95) 38 t38_97) 39 t39_99) 40 t40_101) 41 t41_103) 42 t42_105) 43 t43_107) 44 t44_109) 45 t45_111) 46 t46_113) 47 t47_115) w116)) f23 w24 K85) (pf 90 (pf 90 (pf 90 (pf 90 (pf 90 (pf 90 (pf 90 (pf 90 (pf 90 (pf 90 (pf 90 (pf 90 (pf 90 (pf 90 (pf 90 (pf 90 (pf 90 (pf 90 (pf 90 (pf 90 (pf 90 (argF [x0, x1, x2, x3, x4]) 10 (.int .i64 0)) 13 x0) 14 x1) 15 x0) 16 x3) 17 x0) 18 x3) 19 t19_0) 20 t20_2) 21 x0) 22 x1) 23 t23_4) 24 t24_6) 25 t25_8) 26 t26_11) 27 x1) 28 t28_14) 29 x2) 30 t30_16) 11 t28_14) 12 t30_16) w17 K22
theorem c120_eq (x0 x1 x2 x3 x4 : Value) (w : World) (K : VPost) : c120 x0 x1 x2 x3 x4 w K = WP true Try.prog 90 [(1, 40960, [0, 0, 0, 0, 0, 0, 48, 64, 0, 0, 768, 1024, 2291, 6387, 16383, 32767], [0, 0, 0, 0, 0, 0, 48, 112, 0, 0, 768, 1792, 4083, 8179, 16383, 32767]), (3, 8192, [0, 0, 3, 4, 8, 8, 8, 104, 136, 8, 8, 1544, 2056, 4376, 8200, 16392, 32776], [0, 0, 3, 7, 15, 15, 15, 111, 239, 15, 15, 1551, 3599, 8191, 16383, 32767, 65535]), (5, 8192, [0, 0, 3, 4, 8, 8, 8, 104, 136, 8, 8, 1544, 2056, 4376, 8200, 16392], [0, 0, 3, 7, 15, 15, 15, 111, 239, 15, 15, 1551, 3599, 8191, 16383, 32767]), (8, 40960, [0, 0, 0, 0, 0, 0, 48, 64, 0, 0, 768, 1024, 2291, 6387, 16383, 32767], [0, 0, 0, 0, 0, 0, 48, 112, 0, 0, 768, 1792, 4083, 8179, 16383, 32767])] (bodyOf Try.f120) (argF [x0, x1, x2, x3, x4]) w [.tmp 10] K := by kernel_rfl
theorem c120_calls (x0 x1 x2 x3 x4 : Value) (w : World) (K : VPost) (h : c120 x0 x1 x2 x3 x4 w K) : Calls Try.prog 120 #[x0, x1, x2, x3, x4] w (retK K) :=
  calls_of_WP (c120_eq x0 x1 x2 x3 x4 w K) mixedG Try.func120 (by kernel_rfl) Try.ntmps120 (by kernel_rfl) (by kernel_rfl) h

/-- slices.partitionCmpFunc[imprimatur/api.Digest] -/
def c121 (x0 x1 x2 x3 x4 : Value) (w : World) (K : VPost) : Prop :=
  idxW (some (none, 32)) x0 x3 w.drew fun t20_0 w1 =>
  loadW (some (true, 32)) t20_0 w1 fun t21_2 w3 =>
  idxW (some (none, 32)) x0 x1 w3 fun t24_4 w5 =>
  loadW (some (true, 32)) t24_4 w5 fun t25_6 w7 =>
  idxW (some (none, 32)) x0 x1 w7 fun t26_8 w9 =>
  storeW (some (true, 32)) t26_8 t21_2 w9 fun w10 =>
  idxW (some (none, 32)) x0 x3 w10 fun t27_11 w12 =>
  storeW (some (true, 32)) t27_11 t25_6 w12 fun w13 =>
  binN Try.prog .add 3 true x1 (.int .i64 1) w13 fun t29_14 w15 =>
  binN Try.prog .sub 3 true x2 (.int .i64 1) w15 fun t31_16 w17 =>
  bindX (endW Try.prog [.tmp 10, .tmp 11] K) fun K18 =>
  bindX (seqX (fun f20 w21 =>
  bindX (seqX (fun f23 w24 =>
  binN Try.prog .gtr 3 false (f23 12) (f23 13) w24 fun t71_25 w26 =>
  condW t71_25 (
  idxW (some (none, 32)) (f23 0) (f23 1) w26.drew fun t78_27 w28 =>
  loadW (some (true, 32)) t78_27 w28 fun t79_29 w30 =>
  idxW (some (none, 32)) (f23 0) (f23 13) w30 fun t82_31 w32 =>
  loadW (some (true, 32)) t82_31 w32 fun t83_33 w34 =>
  idxW (some (none, 32)) (f23 0) (f23 13) w34 fun t84_35 w36 =>
  storeW (some (true, 32)) t84_35 t79_29 w36 fun w37 =>
  idxW (some (none, 32)) (f23 0) (f23 1) w37 fun t85_38 w39 =>
  storeW (some (true, 32)) t85_38 t83_33 w39 fun w40 =>
  K (.tuple #[(f23 13), (.bool true)]) w40) (
  idxW (some (none, 32)) (f23 0) (f23 13) w26.drew fun t93_41 w42 =>
  loadW (some (true, 32)) t93_41 w42 fun t94_43 w44 =>
  idxW (some (none, 32)) (f23 0) (f23 12) w44 fun t97_45 w46 =>
  loadW (some (true, 32)) t97_45 w46 fun t98_47 w48 =>
  idxW (some (none, 32)) (f23 0) (f23 12) w48 fun t99_49 w50 =>
  storeW (some (true, 32)) t99_49 t94_43 w50 fun w51 =>
  idxW (some (none, 32)) (f23 0) (f23 13) w51 fun t100_52 w53 =>
  storeW (some (true, 32)) t100_52 t98_47 w53 fun w54 =>
  binN Try.prog .add 3 true (f23 12) (.int .i64 1) w54 fun t102_55 w56 =>
  binN Try.prog .sub 3 true (f23 13) (.int .i64 1) w56 fun t104_57 w58 =>
  bindX (seqX (fun f60 w61 =>
  idxW (some (none, 32)) (f60 0) (f60 1) w61.drew fun t169_62 w63 =>
  loadW (some (true, 32)) t169_62 w63 fun t170_64 w65 =>
  idxW (some (none, 32)) (f60 0) (f60 13) w65 fun t173_66 w67 =>
  loadW (some (true, 32)) t173_66 w67 fun t174_68 w69 =>
  idxW (some (none, 32)) (f60 0) (f60 13) w69 fun t175_70 w71 =>
  storeW (some (true, 32)) t175_70 t170_64 w71 fun w72 =>
  idxW (some (none, 32)) (f60 0) (f60 1) w72 fun t176_73 w74 =>
  storeW (some (true, 32)) t176_73 t174_68 w74 fun w75 =>
  K (.tuple #[(f60 13), (.bool false)]) w75) K18) fun K59 =>
  bindX (blkX 4 K59) fun K76 =>
  loopW (fun f77 w78 K79 =>
  bindX (blkX 5 K79) fun K80 =>
  bindX (seqX (fun f82 w83 =>
  bindX (seqX (fun f85 w86 =>
  binN Try.prog .gtr 3 false (f85 12) (f85 13) w86 fun t144_87 w88 =>
  condW t144_87 (
  K79 (.exit 4) (pf 178 (pf 178 (pf 178 f85 142 (f85 12)) 143 (f85 13)) 144 t144_87) w88) (
  idxW (some (none, 32)) (f85 0) (f85 13) w88.drew fun t151_89 w90 =>
  loadW (some (true, 32)) t151_89 w90 fun t152_91 w92 =>
  idxW (some (none, 32)) (f85 0) (f85 12) w92 fun t155_93 w94 =>
  loadW (some (true, 32)) t155_93 w94 fun t156_95 w96 =>
  idxW (some (none, 32)) (f85 0) (f85 12) w96 fun t157_97 w98 =>
  storeW (some (true, 32)) t157_97 t152_91 w98 fun w99 =>
  idxW (some (none, 32)) (f85 0) (f85 13) w99 fun t158_100 w101 =>
  storeW (some (true, 32)) t158_100 t156_95 w101 fun w102 =>
  binN Try.prog .add 3 true (f85 12) (.int .i64 1) w102 fun t160_103 w104 =>
  binN Try.prog .sub 3 true (f85 13) (.int .i64 1) w104 fun t162_105 w106 =>
  K79 .normal (pf 178 (pf 178 (pf 178 (pf 178 (pf 178 (pf 178 (pf 178 (pf 178 (pf 178 (pf 178 (pf 178 (pf 178 (pf 178 (pf 178 (pf 178 (pf 178 (pf 178 (pf 178 (pf 178 (pf 178 (pf 178 (pf 178 (pf 178 f85 142 (f85 12)) 143 (f85 13)) 144 t144_87) 145 (f85 0)) 146 (f85 12)) 147 (f85 0)) 148 (f85 13)) 149 (f85 0)) 150 (f85 13)) 151 t151_89) 152 t152_91) 153 (f85 0)) 154 (f85 12)) 155 t155_93) 156 t156_95) 157 t157_97) 158 t158_100) 159 (f85 12)) 160 t160_103) 12 t160_103) 161 (f85 13)) 162 t162_105) 13 t162_105) w106)) K80) fun K84 =>
  bindX (blkX 8 K84) fun K107 =>
  loopW (fun f108 w109 K110 =>
  binN Try.prog .leq 3 false (f108 12) (f108 13) w109.drew fun t125_111 w112 =>
  gstep t125_111 true w112 (fun K => K (f108 4) w112) fun t127_113 w114 =>
  gstep t125_111 true w114 (fun K => K (f108 0) w114) fun t128_115 w116 =>
  gstep t125_111 true w116 (fun K => K (f108 13) w116) fun t129_117 w118 =>
  gstep t125_111 true w118 (fun K => idxW (some (none, 32)) t128_115 t129_117 w118 K) fun t130_119 w120 =>
  gstep t125_111 true w120 (fun K => loadW (some (true, 32)) t130_119 w120 K) fun t131_121 w122 =>
  gstep t125_111 true w122 (fun K => K (f108 0) w122) fun t132_123 w124 =>
  gstep t125_111 true w124 (fun K => K (f108 1) w124) fun t133_125 w126 =>
  gstep t125_111 true w126 (fun K => idxW (some (none, 32)) t132_123 t133_125 w126 K) fun t134_127 w128 =>
  gstep t125_111 true w128 (fun K => loadW (some (true, 32)) t134_127 w128 K) fun t135_129 w130 =>
  gstep t125_111 true w130 (fun K => dynW Try.prog t127_113 #[t131_121, t135_129] w130 K) fun t136_131 w132 =>
  gstep t125_111 true w132 (fun K => binN Try.prog .lss 3 true t136_131 (.int .i64 0) w132 K) fun t137_133 w134 =>
  gstep t125_111 true w134 (fun K => unN Try.prog .not t137_133 w134 K) fun t138_135 w136 =>
  pickW t125_111 t138_135 (.bool false) w136 fun t139_137 w138 =>
  condW t139_137 (
  binN Try.prog .sub 3 true (f108 13) (.int .i64 1) w138 fun t141_139 w140 =>
  K110 .normal (pf 178 (pf 178 (pf 178 (pf 178 (pf 178 (pf 178 (pf 178 (pf 178 (pf 178 (pf 178 (pf 178 (pf 178 (pf 178 (pf 178 (pf 178 (pf 178 (pf 178 (pf 178 (pf 178 (pf 178 f108 123 (f108 12)) 124 (f108 13)) 125 t125_111) 126 t125_111) 127 t127_113) 128 t128_115) 129 t129_117) 130 t130_119) 131 t131_121) 132 t132_123) 133 t133_125) 134 t134_127) 135 t135_129) 136 t136_131) 137 t137_133) 138 t138_135) 139 t139_137) 140 (f108 13)) 141 t141_139) 13 t141_139) w140) (
  K110 (.exit 8) (pf 178 (pf 178 (pf 178 (pf 178 (pf 178 (pf 178 (pf 178 (pf 178 (pf 178 (pf 178 (pf 178 (pf 178 (pf 178 (pf 178 (pf 178 (pf 178 (pf 178 f108 123 (f108 12)) 124 (f108 13)) 125 t125_111) 126 t125_111) 127 t127_113) 128 t128_115) 129 t129_117) 130 t130_119) 131 t131_121) 132 t132_123) 133 t133_125) 134 t134_127) 135 t135_129) 136 t136_131) 137 t137_133) 138 t138_135) 139 t139_137) w138)) f82 w83 K107) K80) fun K81 =>
  bindX (blkX 6 K81) fun K141 =>
  loopW (fun f142 w143 K144 =>
  binN Try.prog .leq 3 false (f142 12) (f142 13) w143.drew fun t107_145 w146 =>
  gstep t107_145 true w146 (fun K => K (f142 4) w146) fun t109_147 w148 =>
  gstep t107_145 true w148 (fun K => K (f142 0) w148) fun t110_149 w150 =>
  gstep t107_145 true w150 (fun K => K (f142 12) w150) fun t111_151 w152 =>
  gstep t107_145 true w152 (fun K => idxW (some (none, 32)) t110_149 t111_151 w152 K) fun t112_153 w154 =>
  gstep t107_145 true w154 (fun K => loadW (some (true, 32)) t112_153 w154 K) fun t113_155 w156 =>
  gstep t107_145 true w156 (fun K => K (f142 0) w156) fun t114_157 w158 =>
  gstep t107_145 true w158 (fun K => K (f142 1) w158) fun t115_159 w160 =>
  gstep t107_145 true w160 (fun K => idxW (some (none, 32)) t114_157 t115_159 w160 K) fun t116_161 w162 =>
  gstep t107_145 true w162 (fun K => loadW (some (true, 32)) t116_161 w162 K) fun t117_163 w164 =>
  gstep t107_145 true w164 (fun K => dynW Try.prog t109_147 #[t113_155, t117_163] w164 K) fun t118_165 w166 =>
  gstep t107_145 true w166 (fun K => binN Try.prog .lss 3 true t118_165 (.int .i64 0) w166 K) fun t119_167 w168 =>
  pickW t107_145 t119_167 (.bool false) w168 fun t120_169 w170 =>
  condW t120_169 (
  binN Try.prog .add 3 true (f142 12) (.int .i64 1) w170 fun t122_171 w172 =>
  K144 .normal (pf 178 (pf 178 (pf 178 (pf 178 (pf 178 (pf 178 (pf 178 (pf 178 (pf 178 (pf 178 (pf 178 (pf 178 (pf 178 (pf 178 (pf 178 (pf 178 (pf 178 (pf 178 (pf 178 f142 105 (f142 12)) 106 (f142 13)) 107 t107_145) 108 t107_145) 109 t109_147) 110 t110_149) 111 t111_151) 112 t112_153) 113 t113_155) 114 t114_157) 115 t115_159) 116 t116_161) 117 t117_163) 118 t118_165) 119 t119_167) 120 t120_169) 121 (f142 12)) 122 t122_171) 12 t122_171) w172) (
  K144 (.exit 6) (pf 178 (pf 178 (pf 178 (pf 178 (pf 178 (pf 178 (pf 178 (pf 178 (pf 178 (pf 178 (pf 178 (pf 178 (pf 178 (pf 178 (pf 178 (pf 178 f142 105 (f142 12)) 106 (f142 13)) 107 t107_145) 108 t107_145) 109 t109_147) 110 t110_149) 111 t111_151) 112 t112_153) 113 t113_155) 114 t114_157) 115 t115_159) 116 t116_161) 117 t117_163) 118 t118_165) 119 t119_167) 120 t120_169) w170)) f77 w78 K141) (pf 178 (pf 178 (pf 178 (pf 178 (pf 178 (pf 178 (pf 178 (pf 178 (pf 178 (pf 178 (pf 178 (pf 178 (pf 178 (pf 178 (pf 178 (pf 178 (pf 178 (pf 178 (pf 178 (pf 178 (pf 178 (pf 178 (pf 178 f23 69 (f23 12)) 70 (f23 13)) 71 t71_25) 87 (f23 0)) 88 (f23 12)) 89 (f23 0)) 90 (f23 13)) 91 (f23 0)) 92 (f23 13)) 93 t93_41) 94 t94_43) 95 (f23 0)) 96 (f23 12)) 97 t97_45) 98 t98_47) 99 t99_49) 100 t100_52) 101 (f23 12)) 102 t102_55) 12 t102_55) 103 (f23 13)) 104 t104_57) 13 t104_57) w58 K76)) K18) fun K22 =>
  bindX (blkX 2 K22) fun K173 =>
  loopW (fun f174 w175 K176 =>
  binN Try.prog .leq 3 false (f174 12) (f174 13) w175.drew fun t52_177 w178 =>
  gstep t52_177 true w178 (fun K => K (f174 4) w178) fun t54_179 w180 =>
  gstep t52_177 true w180 (fun K => K (f174 0) w180) fun t55_181 w182 =>
  gstep t52_177 true w182 (fun K => K (f174 13) w182) fun t56_183 w184 =>
  gstep t52_177 true w184 (fun K => idxW (some (none, 32)) t55_181 t56_183 w184 K) fun t57_185 w186 =>
  gstep t52_177 true w186 (fun K => loadW (some (true, 32)) t57_185 w186 K) fun t58_187 w188 =>
  gstep t52_177 true w188 (fun K => K (f174 0) w188) fun t59_189 w190 =>
  gstep t52_177 true w190 (fun K => K (f174 1) w190) fun t60_191 w192 =>
  gstep t52_177 true w192 (fun K => idxW (some (none, 32)) t59_189 t60_191 w192 K) fun t61_193 w194 =>
  gstep t52_177 true w194 (fun K => loadW (some (true, 32)) t61_193 w194 K) fun t62_195 w196 =>
  gstep t52_177 true w196 (fun K => dynW Try.prog t54_179 #[t58_187, t62_195] w196 K) fun t63_197 w198 =>
  gstep t52_177 true w198 (fun K => binN Try.prog .lss 3 true t63_197 (.int .i64 0) w198 K) fun t64_199 w200 =>
  gstep t52_177 true w200 (fun K => unN Try.prog .not t64_199 w200 K) fun t65_201 w202 =>
  pickW t52_177 t65_201 (.bool false) w202 fun t66_203 w204 =>
  condW t66_203 (
  binN Try.prog .sub 3 true (f174 13) (.int .i64 1) w204 fun t68_205 w206 =>
  K176 .normal (pf 178 (pf 178 (pf 178 (pf 178 (pf 178 (pf 178 (pf 178 (pf 178 (pf 178 (pf 178 (pf 178 (pf 178 (pf 178 (pf 178 (pf 178 (pf 178 (pf 178 (pf 178 (pf 178 (pf 178 f174 50 (f174 12)) 51 (f174 13)) 52 t52_177) 53 t52_177) 54 t54_179) 55 t55_181) 56 t56_183) 57 t57_185) 58 t58_187) 59 t59_189) 60 t60_191) 61 t61_193) 62 t62_195) 63 t63_197) 64 t64_199) 65 t65_201) 66 t66_203) 67 (f174 13)) 68 t68_205) 13 t68_205) w206) (
  K176 (.exit 2) (pf 178 (pf 178 (pf 178 (pf 178 (pf 178 (pf 178 (pf 178 (pf 178 (pf 178 (pf 178 (pf 178 (pf 178 (pf 178 (pf 178 (pf 178 (pf 178 (pf 178 f174 50 (f174 12)) 51 (f174 13)) 52 t52_177) 53 t52_177) 54 t54_179) 55 t55_181) 56 t56_183) 57 t57_185) 58 t58_187) 59 t59_189) 60 t60_191) 61 t61_193) 62 t62_195) 63 t63_197) 64 t64_199) 65 t65_201) 66 t66_203) w204)) f20 w21 K173) K18) fun K19 =>
  bindX (blkX 0 K19) fun K207 =>
  loopW (fun f208 w209 K210 =>
  binN Try.prog .leq 3 false (f208 12) (f208 13) w209.drew fun t34_211 w212 =>
  gstep t34_211 true w212 (fun K => K (f208 4) w212) fun t36_213 w214 =>
  gstep t34_211 true w214 (fun K => K (f208 0) w214) fun t37_215 w216 =>
  gstep t34_211 true w216 (fun K => K (f208 12) w216) fun t38_217 w218 =>
  gstep t34_211 true w218 (fun K => idxW (some (none, 32)) t37_215 t38_217 w218 K) fun t39_219 w220 =>
  gstep t34_211 true w220 (fun K => loadW (some (true, 32)) t39_219 w220 K) fun t40_221 w222 =>
  gstep t34_211 true w222 (fun K => K (f208 0) w222) fun t41_223 w224 =>
  gstep t34_211 true w224 (fun K => K (f208 1) w224) fun t42_225 w226 =>
  gstep t34_211 true w226 (fun K => idxW (some (none, 32)) t41_223 t42_225 w226 K) fun t43_227 w228 =>
  gstep t34_211 true w228 (fun K => loadW (some (true, 32)) t43_227 w228 K) fun t44_229 w230 =>
  gstep t34_211 true w230 (fun K => dynW Try.prog t36_213 #[t40_221, t44_229] w230 K) fun t45_231 w232 =>
  gstep t34_211 true w232 (fun K => binN Try.prog .lss 3 true t45_231 (.int .i64 0) w232 K) fun t46_233 w234 =>
  pickW t34_211 t46_233 (.bool false) w234 fun t47_235 w236 =>
  condW t47_235 (
  binN Try.prog .add 3 true (f208 12) (.int .i64 1) w236 fun t49_237 w238 =>
  K210 .normal (pf 178 (pf 178 (pf 178 (pf 178 (pf 178 (pf 178 (pf 178 (pf 178 (pf 178 (pf 178 (pf 178 (pf 178 (pf 178 (pf 178 (pf 178 (pf 178 (pf 178 (pf 178 (pf 178 f208 32 (f208 12)) 33 (f208 13)) 34 t34_211) 35 t34_211) 36 t36_213) 37 t37_215) 38 t38_217) 39 t39_219) 40 t40_221) 41 t41_223) 42 t42_225) 43 t43_227) 44 t44_229) 45 t45_231) 46 t46_233) 47 t47_235) 48 (f208 12)) 49 t49_237) 12 t49_237) w238) (
  K210 (.exit 0) (pf 178 (pf 178 (pf 178 (pf 178 (pf 178 (pf 178 (pf 178 (pf 178 (pf 178 (pf 178 (pf 178 (pf 178 (pf 178 (pf 178 (pf 178 (pf 178 f208 32 (f208 12)) 33 (f208 13)) 34 t34_211) 35 t34_211) 36 t36_213) 37 t37_215) 38 t38_217) 39 t39_219) 40 t40_221) 41 t41_223) 42 t42_225) 43 t43_227) 44 t44_229) 45 t45_231) 46 t46_233) 47 t47_235) w236)) (pf 178 (pf 178 (pf 178 (pf 178 (pf 178 (pf 178 (pf 178 (pf 178 (pf 178 (pf 178 (pf 178 (pf 178 (pf 178 (pf 178 (pf 178 (pf 178 (pf 178 (pf 178 (pf 178 (pf 178 (pf 178 (pf 178 (argF [x0, x1, x2, x3, x4]) 10 (.int .i64 0)) 11 (.bool false)) 14 x0) 15 x1) 16 x0) 17 x3) 18 x0) 19 x3) 20 t20_0) 21 t21_2) 22 x0) 23 x1) 24 t24_4) 25 t25_6) 26 t26_8) 27 t27_11) 28 x1) 29 t29_14) 30 x2) 31 t31_16) 12 t29_14) 13 t31_16) w17 K207
theorem c121_eq (x0 x1 x2 x3 x4 : Value) (w : World) (K : VPost) : c121 x0 x1 x2 x3 x4 w K = WP true Try.prog 178 [(1, 40960, [0, 0, 0, 0, 0, 0, 48, 64, 0, 0, 768, 1024, 2291, 6387, 16383, 32767], [0, 0, 0, 0, 0, 0, 48, 112, 0, 0, 768, 1792, 4083, 8179, 16383, 32767]), (3, 8192, [0, 0, 3, 4, 8, 8, 8, 104, 136, 8, 8, 1544, 2056, 4376, 8200, 16392], [0, 0, 3, 7, 15, 15, 15, 111, 239, 15, 15, 1551, 3599, 8191, 16383, 32767]), (5, 8192, [0, 0, 3, 4, 8, 8, 8, 104, 136, 8, 8, 1544, 2056, 4376, 8200, 16392, 32776], [0, 0, 3, 7, 15, 15, 15, 111, 239, 15, 15, 1551, 3599, 8191, 16383, 32767, 65535]), (8, 40960, [0, 0, 0, 0, 0, 0, 48, 64, 0, 0, 768, 1024, 2291, 6387, 16383, 32767], [0, 0, 0, 0, 0, 0, 48, 112, 0, 0, 768, 1792, 4083, 8179, 16383, 32767]), (10, 40960, [0, 0, 0, 0, 0, 0, 48, 64, 0, 0, 768, 1024, 2291, 6387, 16383, 32767], [0, 0, 0, 0, 0, 0, 48, 112, 0, 0, 768, 1792, 4083, 8179, 16383, 32767]), (13, 8192, [0, 0, 3, 4, 8, 8, 8, 104, 136, 8, 8, 1544, 2056, 4376, 8200, 16392], [0, 0, 3, 7, 15, 15, 15, 111, 239, 15, 15, 1551, 3599, 8191, 16383, 32767]), (15, 8192, [0, 0, 3, 4, 8, 8, 8, 104, 136, 8, 8, 1544, 2056, 4376, 8200, 16392, 32776], [0, 0, 3, 7, 15, 15, 15, 111, 239, 15, 15, 1551, 3599, 8191, 16383, 32767, 65535]), (18, 40960, [0, 0, 0, 0, 0, 0, 48, 64, 0, 0, 768, 1024, 2291, 6387, 16383, 32767], [0, 0, 0, 0, 0, 0, 48, 112, 0, 0, 768, 1792, 4083, 8179, 16383, 32767]), (21, 40960, [0, 0, 0, 0, 0, 0, 48, 64, 0, 0, 768, 1024, 2291, 6387, 16383, 32767], [0, 0, 0, 0, 0, 0, 48, 112, 0, 0, 768, 1792, 4083, 8179, 16383, 32767])] (bodyOf Try.f121) (argF [x0, x1, x2, x3, x4]) w [.tmp 10, .tmp 11] K := by kernel_rfl
theorem c121_calls (x0 x1 x2 x3 x4 : Value) (w : World) (K : VPost) (h : c121 x0 x1 x2 x3 x4 w K) : Calls Try.prog 121 #[x0, x1, x2, x3, x4] w (retK K) :=
  calls_of_WP (c121_eq x0 x1 x2 x3 x4 w K) mixedG Try.func121 (by kernel_rfl) Try.ntmps121 (by kernel_rfl) (by kernel_rfl) h

/-- slices.siftDownCmpFunc[imprimatur/api.Digest] -/
def c125 (x0 x1 x2 x3 x4 : Value) (w : World) (K : VPost) : Prop :=
  bindX (endW Try.prog [] K) fun K0 =>
  bindX (blkX 0 K0) fun K1 =>
  loopW (fun f2 w3 K4 =>
  bindX (blkX 1 K4) fun K5 =>
  binN Try.prog .mul 3 true (.int .i64 2) (f2 10) w3 fun t14_6 w7 =>
  binN Try.prog .add 3 true t14_6 (.int .i64 1) w7 fun t15_8 w9 =>
  binN Try.prog .geq 3 false t15_8 (f2 2) w9 fun t18_10 w11 =>
  condW t18_10 (
  K4 (.exit 0) (pf 82 (pf 82 (pf 82 (pf 82 (pf 82 (pf 82 (pf 82 f2 13 (f2 10)) 14 t14_6) 15 t15_8) 11 t15_8) 16 t15_8) 17 (f2 2)) 18 t18_10) w11) (
  bindX (seqX (fun f13 w14 =>
  binN Try.prog .add 3 false (f13 3) (f13 10) w14.drew fun t47_15 w16 =>
  idxW (some (none, 32)) (f13 0) t47_15 w16 fun t48_17 w18 =>
  loadW (some (true, 32)) t48_17 w18 fun t49_19 w20 =>
  binN Try.prog .add 3 false (f13 3) (f13 11) w20 fun t53_21 w22 =>
  idxW (some (none, 32)) (f13 0) t53_21 w22 fun t54_23 w24 =>
  loadW (some (true, 32)) t54_23 w24 fun t55_25 w26 =>
  dynW Try.prog (f13 4) #[t49_19, t55_25] w26 fun t56_27 w28 =>
  binN Try.prog .lss 3 true t56_27 (.int .i64 0) w28 fun t57_29 w30 =>
  unN Try.prog .not t57_29 w30 fun t58_31 w32 =>
  condW t58_31 (
  K4 .ret (pf 82 (pf 82 (pf 82 (pf 82 (pf 82 (pf 82 (pf 82 (pf 82 (pf 82 (pf 82 (pf 82 (pf 82 (pf 82 (pf 82 (pf 82 (pf 82 f13 43 (f13 4)) 44 (f13 0)) 45 (f13 3)) 46 (f13 10)) 47 t47_15) 48 t48_17) 49 t49_19) 50 (f13 0)) 51 (f13 3)) 52 (f13 11)) 53 t53_21) 54 t54_23) 55 t55_25) 56 t56_27) 57 t57_29) 58 t58_31) w32) (
  binN Try.prog .add 3 false (f13 3) (f13 10) w32.drew fun t62_33 w34 =>
  binN Try.prog .add 3 false (f13 3) (f13 11) w34 fun t66_35 w36 =>
  binN Try.prog .add 3 false (f13 3) (f13 11) w36 fun t70_37 w38 =>
  idxW (some (none, 32)) (f13 0) t70_37 w38 fun t71_39 w40 =>
  loadW (some (true, 32)) t71_39 w40 fun t72_41 w42 =>
  binN Try.prog .add 3 false (f13 3) (f13 10) w42 fun t76_43 w44 =>
  idxW (some (none, 32)) (f13 0) t76_43 w44 fun t77_45 w46 =>
  loadW (some (true, 32)) t77_45 w46 fun t78_47 w48 =>
  idxW (some (none, 32)) (f13 0) t62_33 w48 fun t79_49 w50 =>
  storeW (some (true, 32)) t79_49 t72_41 w50 fun w51 =>
  idxW (some (none, 32)) (f13 0) t66_35 w51 fun t80_52 w53 =>
  storeW (some (true, 32)) t80_52 t78_47 w53 fun w54 =>
  K4 .normal (pf 82 (pf 82 (pf 82 (pf 82 (pf 82 (pf 82 (pf 82 (pf 82 (pf 82 (pf 82 (pf 82 (pf 82 (pf 82 (pf 82 (pf 82 (pf 82 (pf 82 (pf 82 (pf 82 (pf 82 (pf 82 (pf 82 (pf 82 (pf 82 (pf 82 (pf 82 (pf 82 (pf 82 (pf 82 (pf 82 (pf 82 (pf 82 (pf 82 (pf 82 (pf 82 (pf 82 (pf 82 (pf 82 (pf 82 (pf 82 f13 43 (f13 4)) 44 (f13 0)) 45 (f13 3)) 46 (f13 10)) 47 t47_15) 48 t48_17) 49 t49_19) 50 (f13 0)) 51 (f13 3)) 52 (f13 11)) 53 t53_21) 54 t54_23) 55 t55_25) 56 t56_27) 57 t57_29) 58 t58_31) 59 (f13 0)) 60 (f13 3)) 61 (f13 10)) 62 t62_33) 63 (f13 0)) 64 (f13 3)) 65 (f13 11)) 66 t66_35) 67 (f13 0)) 68 (f13 3)) 69 (f13 11)) 70 t70_37) 71 t71_39) 72 t72_41) 73 (f13 0)) 74 (f13 3)) 75 (f13 10)) 76 t76_43) 77 t77_45) 78 t78_47) 79 t79_49) 80 t80_52) 81 (f13 11)) 10 (f13 11)) w54)) K5) fun K12 =>
  binN Try.prog .add 3 true t15_8 (.int .i64 1) w11.drew fun t20_55 w56 =>
  binN Try.prog .lss 3 false t20_55 (f2 2) w56 fun t22_57 w58 =>
  gstep t22_57 true w58 (fun K => K (f2 4) w58) fun t24_59 w60 =>
  gstep t22_57 true w60 (fun K => K (f2 0) w60) fun t25_61 w62 =>
  gstep t22_57 true w62 (fun K => K (f2 3) w62) fun t26_63 w64 =>
  gstep t22_57 true w64 (fun K => K t15_8 w64) fun t27_65 w66 =>
  gstep t22_57 true w66 (fun K => binN Try.prog .add 3 false t26_63 t27_65 w66 K) fun t28_67 w68 =>
  gstep t22_57 true w68 (fun K => idxW (some (none, 32)) t25_61 t28_67 w68 K) fun t29_69 w70 =>
  gstep t22_57 true w70 (fun K => loadW (some (true, 32)) t29_69 w70 K) fun t30_71 w72 =>
  gstep t22_57 true w72 (fun K => K (f2 0) w72) fun t31_73 w74 =>
  gstep t22_57 true w74 (fun K => K (f2 3) w74) fun t32_75 w76 =>
  gstep t22_57 true w76 (fun K => K t15_8 w76) fun t33_77 w78 =>
  gstep t22_57 true w78 (fun K => binN Try.prog .add 3 false t32_75 t33_77 w78 K) fun t34_79 w80 =>
  gstep t22_57 true w80 (fun K => binN Try.prog .add 3 true t34_79 (.int .i64 1) w80 K) fun t35_81 w82 =>
  gstep t22_57 true w82 (fun K => idxW (some (none, 32)) t31_73 t35_81 w82 K) fun t36_83 w84 =>
  gstep t22_57 true w84 (fun K => loadW (some (true, 32)) t36_83 w84 K) fun t37_85 w86 =>
  gstep t22_57 true w86 (fun K => dynW Try.prog t24_59 #[t30_71, t37_85] w86 K) fun t38_87 w88 =>
  gstep t22_57 true w88 (fun K => binN Try.prog .lss 3 true t38_87 (.int .i64 0) w88 K) fun t39_89 w90 =>
  pickW t22_57 t39_89 (.bool false) w90 fun t40_91 w92 =>
  condW t40_91 (
  binN Try.prog .add 3 true t15_8 (.int .i64 1) w92 fun t42_93 w94 =>
  K12 .normal (pf 82 (pf 82 (pf 82 (pf 82 (pf 82 (pf 82 (pf 82 (pf 82 (pf 82 (pf 82 (pf 82 (pf 82 (pf 82 (pf 82 (pf 82 (pf 82 (pf 82 (pf 82 (pf 82 (pf 82 (pf 82 (pf 82 (pf 82 (pf 82 (pf 82 (pf 82 (pf 82 (pf 82 (pf 82 (pf 82 (pf 82 (pf 82 f2 13 (f2 10)) 14 t14_6) 15 t15_8) 11 t15_8) 16 t15_8) 17 (f2 2)) 18 t18_10) 19 t15_8) 20 t20_55) 21 (f2 2)) 22 t22_57) 23 t22_57) 24 t24_59) 25 t25_61) 26 t26_63) 27 t27_65) 28 t28_67) 29 t29_69) 30 t30_71) 31 t31_73) 32 t32_75) 33 t33_77) 34 t34_79) 35 t35_81) 36 t36_83) 37 t37_85) 38 t38_87) 39 t39_89) 40 t40_91) 41 t15_8) 42 t42_93) 11 t42_93) w94) (
  K12 .normal (pf 82 (pf 82 (pf 82 (pf 82 (pf 82 (pf 82 (pf 82 (pf 82 (pf 82 (pf 82 (pf 82 (pf 82 (pf 82 (pf 82 (pf 82 (pf 82 (pf 82 (pf 82 (pf 82 (pf 82 (pf 82 (pf 82 (pf 82 (pf 82 (pf 82 (pf 82 (pf 82 (pf 82 (pf 82 f2 13 (f2 10)) 14 t14_6) 15 t15_8) 11 t15_8) 16 t15_8) 17 (f2 2)) 18 t18_10) 19 t15_8) 20 t20_55) 21 (f2 2)) 22 t22_57) 23 t22_57) 24 t24_59) 25 t25_61) 26 t26_63) 27 t27_65) 28 t28_67) 29 t29_69) 30 t30_71) 31 t31_73) 32 t32_75) 33 t33_77) 34 t34_79) 35 t35_81) 36 t36_83) 37 t37_85) 38 t38_87) 39 t39_89) 40 t40_91) w92))) (pf 82 (pf 82 (argF [x0, x1, x2, x3, x4]) 12 x1) 10 x1) w K1
theorem c125_eq (x0 x1 x2 x3 x4 : Value) (w : World) (K : VPost) : c125 x0 x1 x2 x3 x4 w K = WP true Try.prog 82 [(3, 524288, [0, 1, 0, 6, 8, 16, 16, 16, 16, 400, 592, 1040, 16, 16, 16, 24592, 32784, 69648, 131088, 264240, 524304, 1048592], [0, 1, 0, 7, 15, 31, 31, 31, 31, 415, 991, 2015, 31, 31, 31, 24607, 57375, 127007, 258079, 524287, 1048575, 2097151]), (5, 8192, [0, 0, 0, 0, 12, 18, 32, 0, 0, 0, 768, 1152, 2048, 4161, 8192, 16384], [0, 0, 0, 0, 12, 30, 62, 0, 0, 0, 768, 1920, 3968, 8191, 16383, 32767]), (6, 10485760, [0, 0, 0, 6, 0, 0, 0, 96, 0, 0, 0, 1536, 2304, 4096, 0, 0, 0, 98304, 147456, 262144, 540431, 1589007, 4194303, 8388607], [0, 0, 0, 6, 0, 0, 0, 96, 0, 0, 0, 1536, 3840, 7936, 0, 0, 0, 98304, 245760, 507904, 1048335, 2096911, 4194303, 8388607])] (bodyOf Try.f125) (argF [x0, x1, x2, x3, x4]) w [] K := by kernel_rfl
theorem c125_calls (x0 x1 x2 x3 x4 : Value) (w : World) (K : VPost) (h : c125 x0 x1 x2 x3 x4 w K) : Calls Try.prog 125 #[x0, x1, x2, x3, x4] w (retK K) :=
  calls_of_WP (c125_eq x0 x1 x2 x3 x4 w K) mixedG Try.func125 (by kernel_rfl) Try.ntmps125 (by kernel_rfl) (by kernel_rfl) h

/-- slices.nextPowerOfTwo -/
def c126 (x0 : Value) (w : World) (K : VPost) : Prop :=
  convN Try.prog 3 54 x0 w fun t4_0 w1 =>
  fnW Try.prog 110 #[t4_0] w1 fun t5_2 w3 =>
  binN Try.prog .shl 54 true (.int .u64 1) t5_2 w3 fun t6_4 w5 =>
  K t6_4 w5
theorem c126_eq (x0 : Value) (w : World) (K : VPost) : c126 x0 w K = WP true Try.prog 7 [] (bodyOf Try.f126) (argF [x0]) w [.tmp 2] K := by kernel_rfl
theorem c126_calls (x0 : Value) (w : World) (K : VPost) (h : c126 x0 w K) : Calls Try.prog 126 #[x0] w (retK K) :=
  calls_of_WP (c126_eq x0 w K) mixedG Try.func126 (by kernel_rfl) Try.ntmps126 (by kernel_rfl) (by kernel_rfl) h

/-- (*slices.xorshift).Next -/
def c127 (x0 : Value) (w : World) (K : VPost) : Prop :=
  nilW x0 w.drew fun t4_0 w1 =>
  loadW (some (false, 1)) t4_0 w1 fun t5_2 w3 =>
  nilW x0 w3 fun t7_4 w5 =>
  loadW (some (false, 1)) t7_4 w5 fun t8_6 w7 =>
  binN Try.prog .shl 160 true t8_6 (.int .u64 13) w7 fun t9_8 w9 =>
  binN Try.prog .xor 160 false t5_2 t9_8 w9 fun t10_10 w11 =>
  nilW x0 w11 fun t11_12 w13 =>
  storeW (some (false, 1)) t11_12 t10_10 w13 fun w14 =>
  nilW x0 w14.drew fun t13_15 w16 =>
  loadW (some (false, 1)) t13_15 w16 fun t14_17 w18 =>
  nilW x0 w18 fun t16_19 w20 =>
  loadW (some (false, 1)) t16_19 w20 fun t17_21 w22 =>
  binN Try.prog .shr 160 true t17_21 (.int .u64 7) w22 fun t18_23 w24 =>
  binN Try.prog .xor 160 false t14_17 t18_23 w24 fun t19_25 w26 =>
  nilW x0 w26 fun t20_27 w28 =>
  storeW (some (false, 1)) t20_27 t19_25 w28 fun w29 =>
  nilW x0 w29.drew fun t22_30 w31 =>
  loadW (some (false, 1)) t22_30 w31 fun t23_32 w33 =>
  nilW x0 w33 fun t25_34 w35 =>
  loadW (some (false, 1)) t25_34 w35 fun t26_36 w37 =>
  binN Try.prog .shl 160 true t26_36 (.int .u64 17) w37 fun t27_38 w39 =>
  binN Try.prog .xor 160 false t23_32 t27_38 w39 fun t28_40 w41 =>
  nilW x0 w41 fun t29_42 w43 =>
  storeW (some (false, 1)) t29_42 t28_40 w43 fun w44 =>
  nilW x0 w44 fun t31_45 w46 =>
  loadW (some (false, 1)) t31_45 w46 fun t32_47 w48 =>
  K t32_47 w48
theorem c127_eq (x0 : Value) (w : World) (K : VPost) : c127 x0 w K = WP true Try.prog 33 [(1, 512, [0, 1, 2, 0, 8, 16, 32, 68, 255, 511], [0, 1, 3, 0, 8, 24, 56, 127, 255, 511]), (2, 512, [0, 1, 2, 0, 8, 16, 32, 68, 255, 511], [0, 1, 3, 0, 8, 24, 56, 127, 255, 511]), (3, 512, [0, 1, 2, 0, 8, 16, 32, 68, 255, 511], [0, 1, 3, 0, 8, 24, 56, 127, 255, 511])] (bodyOf Try.f127) (argF [x0]) w [.tmp 2] K := by kernel_rfl
theorem c127_calls (x0 : Value) (w : World) (K : VPost) (h : c127 x0 w K) : Calls Try.prog 127 #[x0] w (retK K) :=
  calls_of_WP (c127_eq x0 w K) mixedG Try.func127 (by kernel_rfl) Try.ntmps127 (by kernel_rfl) (by kernel_rfl) h

/-- slices.medianAdjacentCmpFunc[imprimatur/api.Digest] -/
def c128 (x0 x1 x2 x3 : Value) (w : World) (K : VPost) : Prop :=
  binN Try.prog .sub 3 true x1 (.int .i64 1) w fun t11_0 w1 =>
  binN Try.prog .add 3 true x1 (.int .i64 1) w1 fun t14_2 w3 =>
  fnW Try.prog 129 #[x0, t11_0, x1, t14_2, x2, x3] w3 fun t17_4 w5 =>
  K t17_4 w5
theorem c128_eq (x0 x1 x2 x3 : Value) (w : World) (K : VPost) : c128 x0 x1 x2 x3 w K = WP true Try.prog 18 [] (bodyOf Try.f128) (argF [x0, x1, x2, x3]) w [.tmp 8] K := by kernel_rfl
theorem c128_calls (x0 x1 x2 x3 : Value) (w : World) (K : VPost) (h : c128 x0 x1 x2 x3 w K) : Calls Try.prog 128 #[x0, x1, x2, x3] w (retK K) :=
  calls_of_WP (c128_eq x0 x1 x2 x3 w K) mixedG Try.func128 (by kernel_rfl) Try.ntmps128 (by kernel_rfl) (by kernel_rfl) h

/-- slices.medianCmpFunc[imprimatur/api.Digest] -/
def c129 (x0 x1 x2 x3 x4 x5 : Value) (w : World) (K : VPost) : Prop :=
  fnW Try.prog 130 #[x0, x1, x2, x4, x5] w fun t19_0 w1 =>
  extrW t19_0 0 w1 fun t20_2 w3 =>
  extrW t19_0 1 w3 fun t21_4 w5 =>
  fnW Try.prog 130 #[x0, t21_4, x3, x4, x5] w5 fun t28_6 w7 =>
  extrW t28_6 0 w7 fun t29_8 w9 =>
  extrW t28_6 1 w9 fun _ w11 =>
  fnW Try.prog 130 #[x0, t20_2, t29_8, x4, x5] w11 fun t37_12 w13 =>
  extrW t37_12 0 w13 fun _ w15 =>
  extrW t37_12 1 w15 fun t39_16 w17 =>
  K t39_16 w17
theorem c129_eq (x0 x1 x2 x3 x4 x5 : Value) (w : World) (K : VPost) : c129 x0 x1 x2 x3 x4 x5 w K = WP true Try.prog 41 [] (bodyOf Try.f129) (argF [x0, x1, x2, x3, x4, x5]) w [.tmp 12] K := by kernel_rfl
theorem c129_calls (x0 x1 x2 x3 x4 x5 : Value) (w : World) (K : VPost) (h : c129 x0 x1 x2 x3 x4 x5 w K) : Calls Try.prog 129 #[x0, x1, x2, x3, x4, x5] w (retK K) :=
  calls_of_WP (c129_eq x0 x1 x2 x3 x4 x5 w K) mixedG Try.func129 (by kernel_rfl) Try.ntmps129 (by kernel_rfl) (by kernel_rfl) h

/-- slices.order2CmpFunc[imprimatur/api.Digest] -/
def c130 (x0 x1 x2 x3 x4 : Value) (w : World) (K : VPost) : Prop :=
  idxW (some (none, 32)) x0 x2 w.drew fun t15_0 w1 =>
  loadW (some (true, 32)) t15_0 w1 fun t16_2 w3 =>
  idxW (some (none, 32)) x0 x1 w3 fun t19_4 w5 =>
  loadW (some (true, 32)) t19_4 w5 fun t20_6 w7 =>
  dynW Try.prog x4 #[t16_2, t20_6] w7 fun t21_8 w9 =>
  binN Try.prog .lss 3 true t21_8 (.int .i64 0) w9 fun t22_10 w11 =>
  condW t22_10 (
  nilW x3 w11 fun t24_12 w13 =>
  loadW (some (false, 1)) t24_12 w13 fun t25_14 w15 =>
  binN Try.prog .add 3 true t25_14 (.int .i64 1) w15 fun t26_16 w17 =>
  nilW x3 w17 fun t27_18 w19 =>
  storeW (some (false, 1)) t27_18 t26_16 w19 fun w20 =>
  K (.tuple #[x2, x1]) w20) (
  K (.tuple #[x1, x2]) w11)
theorem c130_eq (x0 x1 x2 x3 x4 : Value) (w : World) (K : VPost) : c130 x0 x1 x2 x3 x4 w K = WP true Try.prog 32 [(1, 512, [0, 0, 0, 6, 8, 0, 0, 96, 128, 273, 512], [0, 0, 0, 6, 14, 0, 0, 96, 224, 511, 1023])] (bodyOf Try.f130) (argF [x0, x1, x2, x3, x4]) w [.tmp 10, .tmp 11] K := by kernel_rfl
theorem c130_calls (x0 x1 x2 x3 x4 : Value) (w : World) (K : VPost) (h : c130 x0 x1 x2 x3 x4 w K) : Calls Try.prog 130 #[x0, x1, x2, x3, x4] w (retK K) :=
  calls_of_WP (c130_eq x0 x1 x2 x3 x4 w K) mixedG Try.func130 (by kernel_rfl) Try.ntmps130 (by kernel_rfl) (by kernel_rfl) h

end Go.Proofs.Ytedebapgmfnflaa
