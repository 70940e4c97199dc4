/- The clean forms of some of the program's functions, written by a program of ours; each is the model's own by the kernel's reckoning. -/
import Derived.Test.YtedebapgmfnflaaGB
import Derived.KernelRfl
namespace Go.Proofs.Ytedebapgmfnflaa
open Go
set_option maxRecDepth 100000

/-- imprimatur/imprimaturlaw02.alive -/
def c53 (w : World) (K : VPost) : Prop :=
  insW Try.prog (Instr.build 62 #[(0, (.int .u8 1)), (1, (.int .u8 255))]) w fun t9_0 w1 =>
  allocW (zeroO Try.prog 62) 62 w1 fun t1_2 w3 =>
  storeW (some (true, 32)) t1_2 t9_0 w3 fun w4 =>
  loadW (some (true, 32)) t1_2 w4 fun t11_5 w6 =>
  fnW Try.prog 56 #[t11_5] w6 fun t12_7 w8 =>
  fnW Try.prog 54 #[t12_7] w8 fun t13_9 w10 =>
  extrW t13_9 0 w10 fun t14_11 w12 =>
  extrW t13_9 1 w12 fun t15_13 w14 =>
  allocW (zeroO Try.prog 62) 62 w14 fun t2_15 w16 =>
  storeW (some (true, 32)) t2_15 t14_11 w16 fun w17 =>
  insW Try.prog (Instr.buildSlice 34 2 #[(0, (.int .u8 97)), (1, (.int .u8 98))]) w17 fun t16_18 w19 =>
  insW Try.prog (Instr.buildSlice 56 1 #[(0, t16_18)]) w19 fun t17_20 w21 =>
  fnW Try.prog 66 #[t17_20] w21 fun t18_22 w23 =>
  fnW Try.prog 67 #[t18_22] w23 fun t21_24 w25 =>
  extrW t21_24 0 w25 fun t22_26 w27 =>
  extrW t21_24 1 w27 fun t23_28 w29 =>
  insW Try.prog (Instr.build 62 #[(0, (.int .u8 1))]) w29 fun t24_30 w31 =>
  allocW (zeroO Try.prog 62) 62 w31 fun t7_32 w33 =>
  storeW (some (true, 32)) t7_32 t24_30 w33 fun w34 =>
  insW Try.prog (Instr.build 62 #[(0, (.int .u8 2))]) w34 fun t25_35 w36 =>
  allocW (zeroO Try.prog 62) 62 w36 fun t8_37 w38 =>
  storeW (some (true, 32)) t8_37 t25_35 w38 fun w39 =>
  gstep t15_13 true w39.drew (fun K => K t23_28 w39.drew) fun t28_40 w41 =>
  pickW t15_13 t28_40 (.bool false) w41 fun t29_42 w43 =>
  gstep t29_42 true w43 (fun K => loadW (some (true, 32)) t2_15 w43 K) fun t31_44 w45 =>
  gstep t29_42 true w45 (fun K => loadW (some (true, 32)) t1_2 w45 K) fun t32_46 w47 =>
  gstep t29_42 true w47 (fun K => binW Try.prog .eql 62 false t31_44 t32_46 w47 K) fun t33_48 w49 =>
  w49 = w47 ∧
  pickW t29_42 t33_48 (.bool false) w49 fun t34_50 w51 =>
  gstep t34_50 true w51 (fun K => K t22_26 w51) fun t36_52 w53 =>
  gstep t34_50 true w53 (fun K => lenW Try.prog (some true) #[56] 3 #[t36_52] w53 K) fun t37_54 w55 =>
  gstep t34_50 true w55 (fun K => binN Try.prog .eql 3 true t37_54 (.int .i64 1) w55 K) fun t38_56 w57 =>
  pickW t34_50 t38_56 (.bool false) w57 fun t39_58 w59 =>
  gstep t39_58 true w59 (fun K => K t18_22 w59) fun t41_60 w61 =>
  gstep t39_58 true w61 (fun K => insW Try.prog (Instr.buildSlice 34 10 #[(0, (.int .u8 1)), (1, (.int .u8 0)), (2, (.int .u8 0)), (3, (.int .u8 0)), (4, (.int .u8 2)), (5, (.int .u8 0)), (6, (.int .u8 0)), (7, (.int .u8 0)), (8, (.int .u8 97)), (9, (.int .u8 98))]) w61 K) fun t42_62 w63 =>
  gstep t39_58 true w63 (fun K => fnW Try.prog 30 #[t41_60, t42_62] w63 K) fun t43_64 w65 =>
  pickW t39_58 t43_64 (.bool false) w65 fun t44_66 w67 =>
  gstep t44_66 true w67 (fun K => loadW (some (true, 32)) t7_32 w67 K) fun t46_68 w69 =>
  gstep t44_66 true w69 (fun K => loadW (some (true, 32)) t8_37 w69 K) fun t47_70 w71 =>
  gstep t44_66 true w71 (fun K => fnW Try.prog 59 #[t46_68, t47_70] w71 K) fun t48_72 w73 =>
  gstep t44_66 true w73 (fun K => binN Try.prog .eql 3 true t48_72 (.int .i64 (-1)) w73 K) fun t49_74 w75 =>
  pickW t44_66 t49_74 (.bool false) w75 fun t50_76 w77 =>
  gstep t50_76 true w77 (fun K => loadW (some (true, 32)) t7_32 w77 K) fun t52_78 w79 =>
  gstep t50_76 true w79 (fun K => loadW (some (true, 32)) t8_37 w79 K) fun t53_80 w81 =>
  gstep t50_76 true w81 (fun K => loadW (some (true, 32)) t8_37 w81 K) fun t56_82 w83 =>
  gstep t50_76 true w83 (fun K => loadW (some (true, 32)) t7_32 w83 K) fun t57_84 w85 =>
  gstep t50_76 true w85 (fun K => loadW (some (true, 32)) t8_37 w85 K) fun t58_86 w87 =>
  bindV (fun (t54_89 : Value) (t55_90 : Value) (t59_91 : Value) (w93 : World) =>
  gstep t50_76 true w93 (fun K => fnW Try.prog 64 #[(.int .u8 1), t59_91] w93 K) fun t60_94 w95 =>
  gstep t50_76 true w95 (fun K => binW Try.prog .eql 62 false t55_90 t60_94 w95 K) fun t61_96 w97 =>
  w97 = w95 ∧
  pickW t50_76 t61_96 (.bool false) w97 fun t62_98 w99 =>
  gstep t62_98 true w99 (fun K => loadW (some (true, 32)) t7_32 w99 K) fun t64_100 w101 =>
  gstep t62_98 true w101 (fun K => loadW (some (true, 32)) t8_37 w101 K) fun t67_102 w103 =>
  bindV (fun (t65_105 : Value) (t66_106 : Value) (t68_107 : Value) (w109 : World) =>
  gstep t62_98 true w109 (fun K => fnW Try.prog 64 #[(.int .u8 1), t68_107] w109 K) fun t69_110 w111 =>
  gstep t62_98 true w111 (fun K => binW Try.prog .neq 62 false t66_106 t69_110 w111 K) fun t70_112 w113 =>
  w113 = w111 ∧
  pickW t62_98 t70_112 (.bool false) w113 fun t71_114 w115 =>
  gstep t71_114 true w115 (fun K => loadW (some (true, 32)) t1_2 w115 K) fun t73_116 w117 =>
  gstep t71_114 true w117 (fun K => fnW Try.prog 58 #[t73_116] w117 K) fun t74_118 w119 =>
  gstep t71_114 true w119 (fun K => binW Try.prog .eql 9 true t74_118 (.string ⟨#[48, 49, 102, 102, 48, 48, 48, 48]⟩) w119 K) fun t75_120 w121 =>
  w121 = w119 ∧
  pickW t71_114 t75_120 (.bool false) w121 fun t76_122 w123 =>
  gstep t76_122 true w123 (fun K => loadW (some (true, 32)) t8_37 w123 K) fun t78_124 w125 =>
  gstep t76_122 true w125 (fun K => loadW (some (true, 32)) t7_32 w125 K) fun t79_126 w127 =>
  gstep t76_122 true w127 (fun K => loadW (some (true, 32)) t8_37 w127 K) fun t80_128 w129 =>
  gstep t76_122 true w129 (fun K => insW Try.prog (Instr.buildSlice 75 3 #[(0, t78_124), (1, t79_126), (2, t80_128)]) w129 K) fun t81_130 w131 =>
  gstep t76_122 true w131 (fun K => fnW Try.prog 62 #[t81_130] w131 K) fun t82_132 w133 =>
  gstep t76_122 true w133 (fun K => lenW Try.prog (some true) #[75] 3 #[t82_132] w133 K) fun t83_134 w135 =>
  gstep t76_122 true w135 (fun K => binN Try.prog .eql 3 true t83_134 (.int .i64 2) w135 K) fun t84_136 w137 =>
  pickW t76_122 t84_136 (.bool false) w137 fun t85_138 w139 =>
  bindV (fun (t87_141 : Value) (t88_142 : Value) (t89_143 : Value) (t90_144 : Value) (w146 : World) =>
  gstep t85_138 true w146 (fun K => fnW Try.prog 70 #[(.int .u8 3), t90_144] w146 K) fun t91_147 w148 =>
  gstep t85_138 true w148 (fun K => binW Try.prog .eql 62 false t88_142 t91_147 w148 K) fun t92_149 w150 =>
  w150 = w148 ∧
  pickW t85_138 t92_149 (.bool false) w150 fun t93_151 w152 =>
  bindV (fun (t95_154 : Value) (t96_155 : Value) (w157 : World) =>
  gstep t93_151 true w157 (fun K => fnW Try.prog 46 #[t96_155] w157 K) fun t97_158 w159 =>
  gstep t93_151 true w159 (fun K => binW Try.prog .eql 62 false t95_154 t97_158 w159 K) fun t98_160 w161 =>
  w161 = w159 ∧
  pickW t93_151 t98_160 (.bool false) w161 fun t99_162 w163 =>
  K t99_162 w163) fun J153 =>
  (gstep t93_151 true w152 (fun K => fnW Try.prog 70 #[(.int .u8 3), (.slice none 0 0)] w152 K) fun t95_164 w165 =>
  gstep t93_151 true w165 (fun K => insW Try.prog (Instr.buildSlice 34 5 #[(0, (.int .u8 3)), (1, (.int .u8 0)), (2, (.int .u8 0)), (3, (.int .u8 0)), (4, (.int .u8 0))]) w165 K) fun t96_166 w167 =>
  J153 t95_164 t96_166 w167) ∧
  (gstep t93_151 true w152 (fun K => insW Try.prog (Instr.buildSlice 34 5 #[(0, (.int .u8 3)), (1, (.int .u8 0)), (2, (.int .u8 0)), (3, (.int .u8 0)), (4, (.int .u8 0))]) w152 K) fun t96_168 w169 =>
  gstep t93_151 true w169 (fun K => fnW Try.prog 70 #[(.int .u8 3), (.slice none 0 0)] w169 K) fun t95_170 w171 =>
  J153 t95_170 t96_168 w171)) fun J140 =>
  (gstep t85_138 true w139 (fun K => insW Try.prog (Instr.buildSlice 88 1 #[(0, (.string ⟨#[97, 98]⟩))]) w139 K) fun t87_172 w173 =>
  (gstep t85_138 true w173 (fun K => fnW Try.prog 72 #[(.int .u8 3), t87_172] w173 K) fun t88_174 w175 =>
  gstep t85_138 true w175 (fun K => insW Try.prog (Instr.buildSlice 34 2 #[(0, (.int .u8 97)), (1, (.int .u8 98))]) w175 K) fun t89_176 w177 =>
  gstep t85_138 true w177 (fun K => insW Try.prog (Instr.buildSlice 56 1 #[(0, t89_176)]) w177 K) fun t90_178 w179 =>
  J140 t87_172 t88_174 t89_176 t90_178 w179) ∧
  (gstep t85_138 true w173 (fun K => insW Try.prog (Instr.buildSlice 34 2 #[(0, (.int .u8 97)), (1, (.int .u8 98))]) w173 K) fun t89_180 w181 =>
  (gstep t85_138 true w181 (fun K => fnW Try.prog 72 #[(.int .u8 3), t87_172] w181 K) fun t88_182 w183 =>
  gstep t85_138 true w183 (fun K => insW Try.prog (Instr.buildSlice 56 1 #[(0, t89_180)]) w183 K) fun t90_184 w185 =>
  J140 t87_172 t88_182 t89_180 t90_184 w185) ∧
  (gstep t85_138 true w181 (fun K => insW Try.prog (Instr.buildSlice 56 1 #[(0, t89_180)]) w181 K) fun t90_186 w187 =>
  gstep t85_138 true w187 (fun K => fnW Try.prog 72 #[(.int .u8 3), t87_172] w187 K) fun t88_188 w189 =>
  J140 t87_172 t88_188 t89_180 t90_186 w189))) ∧
  (gstep t85_138 true w139 (fun K => insW Try.prog (Instr.buildSlice 34 2 #[(0, (.int .u8 97)), (1, (.int .u8 98))]) w139 K) fun t89_190 w191 =>
  (gstep t85_138 true w191 (fun K => insW Try.prog (Instr.buildSlice 88 1 #[(0, (.string ⟨#[97, 98]⟩))]) w191 K) fun t87_192 w193 =>
  (gstep t85_138 true w193 (fun K => fnW Try.prog 72 #[(.int .u8 3), t87_192] w193 K) fun t88_194 w195 =>
  gstep t85_138 true w195 (fun K => insW Try.prog (Instr.buildSlice 56 1 #[(0, t89_190)]) w195 K) fun t90_196 w197 =>
  J140 t87_192 t88_194 t89_190 t90_196 w197) ∧
  (gstep t85_138 true w193 (fun K => insW Try.prog (Instr.buildSlice 56 1 #[(0, t89_190)]) w193 K) fun t90_198 w199 =>
  gstep t85_138 true w199 (fun K => fnW Try.prog 72 #[(.int .u8 3), t87_192] w199 K) fun t88_200 w201 =>
  J140 t87_192 t88_200 t89_190 t90_198 w201)) ∧
  (gstep t85_138 true w191 (fun K => insW Try.prog (Instr.buildSlice 56 1 #[(0, t89_190)]) w191 K) fun t90_202 w203 =>
  gstep t85_138 true w203 (fun K => insW Try.prog (Instr.buildSlice 88 1 #[(0, (.string ⟨#[97, 98]⟩))]) w203 K) fun t87_204 w205 =>
  gstep t85_138 true w205 (fun K => fnW Try.prog 72 #[(.int .u8 3), t87_204] w205 K) fun t88_206 w207 =>
  J140 t87_204 t88_206 t89_190 t90_202 w207))) fun J104 =>
  (gstep t62_98 true w103 (fun K => insW Try.prog (Instr.buildSlice 75 1 #[(0, t64_100)]) w103 K) fun t65_208 w209 =>
  (gstep t62_98 true w209 (fun K => loadW (some (true, 32)) t8_37 w209 K) fun t67_210 w211 => t67_210 = t67_102 ∧ w211 = w209) ∧
  (gstep t62_98 true w209 (fun K => fnW Try.prog 64 #[(.int .u8 1), t65_208] w209 K) fun t66_212 w213 =>
  (gstep t62_98 true w213 (fun K => loadW (some (true, 32)) t8_37 w213 K) fun t67_214 w215 => t67_214 = t67_102 ∧ w215 = w213) ∧
  gstep t62_98 true w213 (fun K => insW Try.prog (Instr.buildSlice 75 1 #[(0, t67_102)]) w213 K) fun t68_216 w217 =>
  (gstep t62_98 true w217 (fun K => loadW (some (true, 32)) t7_32 w217 K) fun t64_218 w219 => t64_218 = t64_100 ∧ w219 = w217) ∧
  J104 t65_208 t66_212 t68_216 w217) ∧
  (gstep t62_98 true w209 (fun K => insW Try.prog (Instr.buildSlice 75 1 #[(0, t67_102)]) w209 K) fun t68_220 w221 =>
  (gstep t62_98 true w221 (fun K => loadW (some (true, 32)) t7_32 w221 K) fun t64_222 w223 => t64_222 = t64_100 ∧ w223 = w221) ∧
  gstep t62_98 true w221 (fun K => fnW Try.prog 64 #[(.int .u8 1), t65_208] w221 K) fun t66_224 w225 =>
  (gstep t62_98 true w225 (fun K => loadW (some (true, 32)) t8_37 w225 K) fun t67_226 w227 => t67_226 = t67_102 ∧ w227 = w225) ∧
  J104 t65_208 t66_224 t68_220 w225)) ∧
  (gstep t62_98 true w103 (fun K => insW Try.prog (Instr.buildSlice 75 1 #[(0, t67_102)]) w103 K) fun t68_228 w229 =>
  (gstep t62_98 true w229 (fun K => loadW (some (true, 32)) t7_32 w229 K) fun t64_230 w231 => t64_230 = t64_100 ∧ w231 = w229) ∧
  gstep t62_98 true w229 (fun K => insW Try.prog (Instr.buildSlice 75 1 #[(0, t64_100)]) w229 K) fun t65_232 w233 =>
  (gstep t62_98 true w233 (fun K => loadW (some (true, 32)) t8_37 w233 K) fun t67_234 w235 => t67_234 = t67_102 ∧ w235 = w233) ∧
  gstep t62_98 true w233 (fun K => fnW Try.prog 64 #[(.int .u8 1), t65_232] w233 K) fun t66_236 w237 =>
  (gstep t62_98 true w237 (fun K => loadW (some (true, 32)) t8_37 w237 K) fun t67_238 w239 => t67_238 = t67_102 ∧ w239 = w237) ∧
  J104 t65_232 t66_236 t68_228 w237)) fun J88 =>
  (gstep t50_76 true w87 (fun K => insW Try.prog (Instr.buildSlice 75 2 #[(0, t52_78), (1, t53_80)]) w87 K) fun t54_240 w241 =>
  (gstep t50_76 true w241 (fun K => loadW (some (true, 32)) t8_37 w241 K) fun t56_242 w243 => t56_242 = t56_82 ∧ w243 = w241) ∧
  (gstep t50_76 true w241 (fun K => loadW (some (true, 32)) t7_32 w241 K) fun t57_244 w245 => t57_244 = t57_84 ∧ w245 = w241) ∧
  (gstep t50_76 true w241 (fun K => loadW (some (true, 32)) t8_37 w241 K) fun t58_246 w247 => t58_246 = t58_86 ∧ w247 = w241) ∧
  (gstep t50_76 true w241 (fun K => fnW Try.prog 64 #[(.int .u8 1), t54_240] w241 K) fun t55_248 w249 =>
  (gstep t50_76 true w249 (fun K => loadW (some (true, 32)) t8_37 w249 K) fun t56_250 w251 => t56_250 = t56_82 ∧ w251 = w249) ∧
  (gstep t50_76 true w249 (fun K => loadW (some (true, 32)) t7_32 w249 K) fun t57_252 w253 => t57_252 = t57_84 ∧ w253 = w249) ∧
  (gstep t50_76 true w249 (fun K => loadW (some (true, 32)) t8_37 w249 K) fun t58_254 w255 => t58_254 = t58_86 ∧ w255 = w249) ∧
  gstep t50_76 true w249 (fun K => insW Try.prog (Instr.buildSlice 75 3 #[(0, t56_82), (1, t57_84), (2, t58_86)]) w249 K) fun t59_256 w257 =>
  (gstep t50_76 true w257 (fun K => loadW (some (true, 32)) t7_32 w257 K) fun t52_258 w259 => t52_258 = t52_78 ∧ w259 = w257) ∧
  (gstep t50_76 true w257 (fun K => loadW (some (true, 32)) t8_37 w257 K) fun t53_260 w261 => t53_260 = t53_80 ∧ w261 = w257) ∧
  J88 t54_240 t55_248 t59_256 w257) ∧
  (gstep t50_76 true w241 (fun K => insW Try.prog (Instr.buildSlice 75 3 #[(0, t56_82), (1, t57_84), (2, t58_86)]) w241 K) fun t59_262 w263 =>
  (gstep t50_76 true w263 (fun K => loadW (some (true, 32)) t7_32 w263 K) fun t52_264 w265 => t52_264 = t52_78 ∧ w265 = w263) ∧
  (gstep t50_76 true w263 (fun K => loadW (some (true, 32)) t8_37 w263 K) fun t53_266 w267 => t53_266 = t53_80 ∧ w267 = w263) ∧
  gstep t50_76 true w263 (fun K => fnW Try.prog 64 #[(.int .u8 1), t54_240] w263 K) fun t55_268 w269 =>
  (gstep t50_76 true w269 (fun K => loadW (some (true, 32)) t8_37 w269 K) fun t56_270 w271 => t56_270 = t56_82 ∧ w271 = w269) ∧
  (gstep t50_76 true w269 (fun K => loadW (some (true, 32)) t7_32 w269 K) fun t57_272 w273 => t57_272 = t57_84 ∧ w273 = w269) ∧
  (gstep t50_76 true w269 (fun K => loadW (some (true, 32)) t8_37 w269 K) fun t58_274 w275 => t58_274 = t58_86 ∧ w275 = w269) ∧
  J88 t54_240 t55_268 t59_262 w269)) ∧
  (gstep t50_76 true w87 (fun K => insW Try.prog (Instr.buildSlice 75 3 #[(0, t56_82), (1, t57_84), (2, t58_86)]) w87 K) fun t59_276 w277 =>
  (gstep t50_76 true w277 (fun K => loadW (some (true, 32)) t7_32 w277 K) fun t52_278 w279 => t52_278 = t52_78 ∧ w279 = w277) ∧
  (gstep t50_76 true w277 (fun K => loadW (some (true, 32)) t8_37 w277 K) fun t53_280 w281 => t53_280 = t53_80 ∧ w281 = w277) ∧
  gstep t50_76 true w277 (fun K => insW Try.prog (Instr.buildSlice 75 2 #[(0, t52_78), (1, t53_80)]) w277 K) fun t54_282 w283 =>
  (gstep t50_76 true w283 (fun K => loadW (some (true, 32)) t8_37 w283 K) fun t56_284 w285 => t56_284 = t56_82 ∧ w285 = w283) ∧
  (gstep t50_76 true w283 (fun K => loadW (some (true, 32)) t7_32 w283 K) fun t57_286 w287 => t57_286 = t57_84 ∧ w287 = w283) ∧
  (gstep t50_76 true w283 (fun K => loadW (some (true, 32)) t8_37 w283 K) fun t58_288 w289 => t58_288 = t58_86 ∧ w289 = w283) ∧
  gstep t50_76 true w283 (fun K => fnW Try.prog 64 #[(.int .u8 1), t54_282] w283 K) fun t55_290 w291 =>
  (gstep t50_76 true w291 (fun K => loadW (some (true, 32)) t8_37 w291 K) fun t56_292 w293 => t56_292 = t56_82 ∧ w293 = w291) ∧
  (gstep t50_76 true w291 (fun K => loadW (some (true, 32)) t7_32 w291 K) fun t57_294 w295 => t57_294 = t57_84 ∧ w295 = w291) ∧
  (gstep t50_76 true w291 (fun K => loadW (some (true, 32)) t8_37 w291 K) fun t58_296 w297 => t58_296 = t58_86 ∧ w297 = w291) ∧
  J88 t54_282 t55_290 t59_276 w291)
theorem c53_eq (w : World) (K : VPost) : c53  w K = WP true Try.prog 100 [(7, 4203660188532584153088, [0, 1, 2, 6, 10, 16, 16, 112, 144, 272, 512, 1536, 2560, 4608, 8704, 16384, 16384, 114688, 147456, 393216, 524288, 524288, 3670016, 4718592, 8912896, 20971520, 33554432, 33554432, 234881024, 301989888, 33554432, 33554432, 33554432, 7549747200, 9160359936, 17750294528, 34393292800, 85899345920, 137438953472, 412316860416, 687194767360, 137438953472, 2336462209024, 5634997092352, 10033043603456, 17729624997888, 43980465111040, 70368744177664, 211106232532992, 351843720888320, 633318697598976, 1407374883553280, 2251799813685248, 2251799813685248, 2251799813685248, 33776997205278720, 38280596832649216, 74309393851613184, 146366987889541120, 290482175965396992, 648518346341351424, 1152921504606846976, 3458764513820540928, 1152921504606846976, 10376293541461622784, 24211351596743786496, 42658095670453338112, 74939897799445053440, 184467440737095516160, 295147905179352825856, 295147905179352825856, 2066035336255469780992, 3246626956972881084416, 5017514388048998039552, 18889465931478580854783], [0, 1, 3, 7, 15, 31, 31, 127, 255, 511, 1023, 2047, 4095, 8191, 16383, 32767, 32767, 131071, 262143, 524287, 1048575, 1048575, 4194303, 8388607, 16777215, 33554431, 67108863, 67108863, 268435455, 536870911, 67108863, 67108863, 67108863, 7583301631, 17179869183, 34359738367, 68719476735, 137438953471, 274877906943, 549755813887, 1099511627775, 274877906943, 2473901162495, 8796093022207, 17592186044415, 35184372088831, 70368744177663, 140737488355327, 281474976710655, 562949953421311, 1125899906842623, 2251799813685247, 4503599627370495, 4503599627370495, 4503599627370495, 36028797018963967, 72057594037927935, 144115188075855871, 288230376151711743, 576460752303423487, 1152921504606846975, 2305843009213693951, 4611686018427387903, 2305843009213693951, 11529215046068469759, 36893488147419103231, 73786976294838206463, 147573952589676412927, 295147905179352825855, 590295810358705651711, 590295810358705651711, 2361183241434822606847, 4722366482869645213695, 9444732965739290427391, 18889465931478580854783])] (bodyOf Try.f53) (argF []) w [.tmp 0] K := by kernel_rfl
theorem c53_calls (w : World) (K : VPost) (h : c53  w K) : Calls Try.prog 53 #[] w (retK K) :=
  calls_of_WP (c53_eq  w K) mixedG Try.func53 (by kernel_rfl) Try.ntmps53 (by kernel_rfl) (by kernel_rfl) h

/-- imprimatur/imprimaturlaw02.sameAll -/
def c61 (x0 x1 : Value) (w : World) (K : VPost) : Prop :=
  lenW Try.prog (some true) #[75] 3 #[x0] w fun t7_0 w1 =>
  lenW Try.prog (some true) #[75] 3 #[x1] w1 fun t9_2 w3 =>
  binN Try.prog .neq 3 false t7_0 t9_2 w3 fun t10_4 w5 =>
  condW t10_4 (
  K (.bool false) w5) (
  bindX (endW Try.prog [.tmp 4] K) fun K6 =>
  bindX (seqX (fun _ w9 =>
  K (.bool true) w9) K6) fun K7 =>
  bindX (blkX 0 K7) fun K10 =>
  loopW (fun f11 w12 K13 =>
  lenW Try.prog (some true) #[75] 3 #[(f11 0)] w12 fun t13_14 w15 =>
  binN Try.prog .lss 3 false (f11 5) t13_14 w15 fun t14_16 w17 =>
  condW t14_16 (
  idxW (some (none, 32)) (f11 0) (f11 5) w17.drew fun t19_18 w19 =>
  loadW (some (true, 32)) t19_18 w19 fun t20_20 w21 =>
  idxW (some (none, 32)) (f11 1) (f11 5) w21 fun t23_22 w23 =>
  loadW (some (true, 32)) t23_22 w23 fun t24_24 w25 =>
  binW Try.prog .neq 62 false t20_20 t24_24 w25 fun t25_26 w27 =>
  w27 = w25 ∧
  condW t25_26 (
  K13 .ret (pf 26 (pf 26 (pf 26 (pf 26 (pf 26 (pf 26 (pf 26 (pf 26 (pf 26 (pf 26 (pf 26 (pf 26 (pf 26 (pf 26 f11 11 (f11 5)) 12 (f11 0)) 13 t13_14) 14 t14_16) 17 (f11 0)) 18 (f11 5)) 19 t19_18) 20 t20_20) 21 (f11 1)) 22 (f11 5)) 23 t23_22) 24 t24_24) 25 t25_26) 4 (.bool false)) w27) (
  binN Try.prog .add 3 true (f11 5) (.int .i64 1) w27 fun t16_28 w29 =>
  K13 .normal (pf 26 (pf 26 (pf 26 (pf 26 (pf 26 (pf 26 (pf 26 (pf 26 (pf 26 (pf 26 (pf 26 (pf 26 (pf 26 (pf 26 (pf 26 (pf 26 f11 11 (f11 5)) 12 (f11 0)) 13 t13_14) 14 t14_16) 17 (f11 0)) 18 (f11 5)) 19 t19_18) 20 t20_20) 21 (f11 1)) 22 (f11 5)) 23 t23_22) 24 t24_24) 25 t25_26) 15 (f11 5)) 16 t16_28) 5 t16_28) w29)) (
  K13 (.exit 0) (pf 26 (pf 26 (pf 26 (pf 26 f11 11 (f11 5)) 12 (f11 0)) 13 t13_14) 14 t14_16) w17)) (pf 26 (pf 26 (pf 26 (pf 26 (pf 26 (pf 26 (pf 26 (argF [x0, x1]) 4 (.bool false)) 6 x0) 7 t7_0) 8 x1) 9 t9_2) 10 t10_4) 5 (.int .i64 0)) w5 K10)
theorem c61_eq (x0 x1 : Value) (w : World) (K : VPost) : c61 x0 x1 w K = WP true Try.prog 26 [(6, 0, [0, 0, 3, 4, 0, 0, 48, 64, 136], [0, 0, 3, 7, 0, 0, 48, 112, 255])] (bodyOf Try.f61) (argF [x0, x1]) w [.tmp 4] K := by kernel_rfl
theorem c61_calls (x0 x1 : Value) (w : World) (K : VPost) (h : c61 x0 x1 w K) : Calls Try.prog 61 #[x0, x1] w (retK K) :=
  calls_of_WP (c61_eq x0 x1 w K) mixedG Try.func61 (by kernel_rfl) Try.ntmps61 (by kernel_rfl) (by kernel_rfl) h

/-- imprimatur/imprimaturlaw02.same -/
def c68 (x0 x1 : Value) (w : World) (K : VPost) : Prop :=
  lenW Try.prog (some true) #[56] 3 #[x0] w fun t7_0 w1 =>
  lenW Try.prog (some true) #[56] 3 #[x1] w1 fun t9_2 w3 =>
  binN Try.prog .neq 3 false t7_0 t9_2 w3 fun t10_4 w5 =>
  condW t10_4 (
  K (.bool false) w5) (
  bindX (endW Try.prog [.tmp 4] K) fun K6 =>
  bindX (seqX (fun _ w9 =>
  K (.bool true) w9) K6) fun K7 =>
  bindX (blkX 0 K7) fun K10 =>
  loopW (fun f11 w12 K13 =>
  lenW Try.prog (some true) #[56] 3 #[(f11 0)] w12 fun t13_14 w15 =>
  binN Try.prog .lss 3 false (f11 5) t13_14 w15 fun t14_16 w17 =>
  condW t14_16 (
  idxW (some (none, 1)) (f11 0) (f11 5) w17.drew fun t19_18 w19 =>
  loadW (some (false, 1)) t19_18 w19 fun t20_20 w21 =>
  idxW (some (none, 1)) (f11 1) (f11 5) w21 fun t23_22 w23 =>
  loadW (some (false, 1)) t23_22 w23 fun t24_24 w25 =>
  fnW Try.prog 30 #[t20_20, t24_24] w25 fun t25_26 w27 =>
  unN Try.prog .not t25_26 w27 fun t26_28 w29 =>
  condW t26_28 (
  K13 .ret (pf 27 (pf 27 (pf 27 (pf 27 (pf 27 (pf 27 (pf 27 (pf 27 (pf 27 (pf 27 (pf 27 (pf 27 (pf 27 (pf 27 (pf 27 f11 11 (f11 5)) 12 (f11 0)) 13 t13_14) 14 t14_16) 17 (f11 0)) 18 (f11 5)) 19 t19_18) 20 t20_20) 21 (f11 1)) 22 (f11 5)) 23 t23_22) 24 t24_24) 25 t25_26) 26 t26_28) 4 (.bool false)) w29) (
  binN Try.prog .add 3 true (f11 5) (.int .i64 1) w29 fun t16_30 w31 =>
  K13 .normal (pf 27 (pf 27 (pf 27 (pf 27 (pf 27 (pf 27 (pf 27 (pf 27 (pf 27 (pf 27 (pf 27 (pf 27 (pf 27 (pf 27 (pf 27 (pf 27 (pf 27 f11 11 (f11 5)) 12 (f11 0)) 13 t13_14) 14 t14_16) 17 (f11 0)) 18 (f11 5)) 19 t19_18) 20 t20_20) 21 (f11 1)) 22 (f11 5)) 23 t23_22) 24 t24_24) 25 t25_26) 26 t26_28) 15 (f11 5)) 16 t16_30) 5 t16_30) w31)) (
  K13 (.exit 0) (pf 27 (pf 27 (pf 27 (pf 27 f11 11 (f11 5)) 12 (f11 0)) 13 t13_14) 14 t14_16) w17)) (pf 27 (pf 27 (pf 27 (pf 27 (pf 27 (pf 27 (pf 27 (argF [x0, x1]) 4 (.bool false)) 6 x0) 7 t7_0) 8 x1) 9 t9_2) 10 t10_4) 5 (.int .i64 0)) w5 K10)
theorem c68_eq (x0 x1 : Value) (w : World) (K : VPost) : c68 x0 x1 w K = WP true Try.prog 27 [(6, 256, [0, 0, 3, 4, 0, 0, 48, 64, 136, 256], [0, 0, 3, 7, 0, 0, 48, 112, 255, 511])] (bodyOf Try.f68) (argF [x0, x1]) w [.tmp 4] K := by kernel_rfl
theorem c68_calls (x0 x1 : Value) (w : World) (K : VPost) (h : c68 x0 x1 w K) : Calls Try.prog 68 #[x0, x1] w (retK K) :=
  calls_of_WP (c68_eq x0 x1 w K) mixedG Try.func68 (by kernel_rfl) Try.ntmps68 (by kernel_rfl) (by kernel_rfl) h

/-- imprimatur/imprimaturlaw02.TagAnswers -/
def c13 (x0 x1 x2 x3 x4 : Value) (w : World) (K : VPost) : Prop :=
  boxW 62 x2 w fun t7_0 w1 =>
  boxW 62 x3 w1 fun t8_2 w3 =>
  fnW Try.prog 53 #[] w3 fun t16_4 w5 =>
  unN Try.prog .not t16_4 w5 fun t17_6 w7 =>
  condW t17_6 (
  K (.bool false) w7) (
  lenW Try.prog (some true) #[75] 3 #[x0] w7 fun t19_8 w9 =>
  binN Try.prog .gtr 3 true t19_8 (.int .i64 20) w9 fun t20_10 w11 =>
  gstep t20_10 false w11 (fun K => K x4 w11) fun t22_12 w13 =>
  gstep t20_10 false w13 (fun K => lenW Try.prog (some false) #[9] 3 #[t22_12] w13 K) fun t23_14 w15 =>
  gstep t20_10 false w15 (fun K => binN Try.prog .gtr 3 true t23_14 (.int .i64 500) w15 K) fun t24_16 w17 =>
  pickW t20_10 (.bool true) t24_16 w17 fun t25_18 w19 =>
  condW t25_18 (
  K (.bool true) w19) (
  insW Try.prog (Instr.buildSlice 75 0 #[]) w19 fun t26_20 w21 =>
  insW Try.prog (Builtin.append_ #[75, 75] 75 #[t26_20, x0]) w21 fun t28_22 w23 =>
  fnW Try.prog 54 #[x4] w23 fun t31_24 w25 =>
  extrW t31_24 0 w25 fun t32_26 w27 =>
  extrW t31_24 1 w27 fun t33_28 w29 =>
  allocW (zeroO Try.prog 62) 62 w29 fun t12_30 w31 =>
  storeW (some (true, 32)) t12_30 t32_26 w31 fun w32 =>
  fnW Try.prog 55 #[x4] w32 fun t36_33 w34 =>
  extrW t36_33 0 w34 fun t37_35 w36 =>
  extrW t36_33 1 w36 fun t38_37 w38 =>
  allocW (zeroO Try.prog 62) 62 w38 fun t14_39 w40 =>
  storeW (some (true, 32)) t14_39 t37_35 w40 fun w41 =>
  loadW (some (true, 32)) t12_30 w41.drew fun t39_42 w43 =>
  loadW (some (true, 32)) t14_39 w43 fun t40_44 w45 =>
  binW Try.prog .eql 62 false t39_42 t40_44 w45 fun t41_46 w47 =>
  w47 = w45 ∧
  gstep t41_46 true w47 (fun K => K t33_28 w47) fun t43_48 w49 =>
  gstep t41_46 true w49 (fun K => K t38_37 w49) fun t44_50 w51 =>
  gstep t41_46 true w51 (fun K => binW Try.prog .eql 4 false t43_48 t44_50 w51 K) fun t45_52 w53 =>
  w53 = w51 ∧
  pickW t41_46 t45_52 (.bool false) w53 fun t46_54 w55 =>
  gstep t46_54 true w55 (fun K => loadW (some (true, 32)) t7_0 w55 K) fun t48_56 w57 =>
  gstep t46_54 true w57 (fun K => loadW (some (true, 32)) t7_0 w57 K) fun t50_58 w59 =>
  gstep t46_54 true w59 (fun K => fnW Try.prog 56 #[t48_56] w59 K) fun t49_60 w61 =>
  (gstep t46_54 true w61 (fun K => loadW (some (true, 32)) t7_0 w61 K) fun t50_62 w63 => t50_62 = t50_58 ∧ w63 = w61) ∧
  gstep t46_54 true w61 (fun K => fnW Try.prog 57 #[t50_58] w61 K) fun t51_64 w65 =>
  gstep t46_54 true w65 (fun K => binW Try.prog .eql 9 false t49_60 t51_64 w65 K) fun t52_66 w67 =>
  w67 = w65 ∧
  pickW t46_54 t52_66 (.bool false) w67 fun t53_68 w69 =>
  gstep t53_68 true w69 (fun K => loadW (some (true, 32)) t7_0 w69 K) fun t55_70 w71 =>
  gstep t53_68 true w71 (fun K => loadW (some (true, 32)) t7_0 w71 K) fun t57_72 w73 =>
  gstep t53_68 true w73 (fun K => fnW Try.prog 58 #[t55_70] w73 K) fun t56_74 w75 =>
  (gstep t53_68 true w75 (fun K => loadW (some (true, 32)) t7_0 w75 K) fun t57_76 w77 => t57_76 = t57_72 ∧ w77 = w75) ∧
  gstep t53_68 true w75 (fun K => fnW Try.prog 57 #[t57_72] w75 K) fun t58_78 w79 =>
  gstep t53_68 true w79 (fun K => sliceW .str t58_78 none (some (.int .i64 8)) none w79 K) fun t59_80 w81 =>
  gstep t53_68 true w81 (fun K => binW Try.prog .eql 9 false t56_74 t59_80 w81 K) fun t60_82 w83 =>
  w83 = w81 ∧
  pickW t53_68 t60_82 (.bool false) w83 fun t61_84 w85 =>
  gstep t61_84 true w85 (fun K => loadW (some (true, 32)) t7_0 w85 K) fun t63_86 w87 =>
  gstep t61_84 true w87 (fun K => loadW (some (true, 32)) t8_2 w87 K) fun t64_88 w89 =>
  gstep t61_84 true w89 (fun K => loadW (some (true, 32)) t7_0 w89 K) fun t66_90 w91 =>
  gstep t61_84 true w91 (fun K => loadW (some (true, 32)) t8_2 w91 K) fun t67_92 w93 =>
  gstep t61_84 true w93 (fun K => fnW Try.prog 59 #[t63_86, t64_88] w93 K) fun t65_94 w95 =>
  (gstep t61_84 true w95 (fun K => loadW (some (true, 32)) t7_0 w95 K) fun t66_96 w97 => t66_96 = t66_90 ∧ w97 = w95) ∧
  (gstep t61_84 true w95 (fun K => loadW (some (true, 32)) t8_2 w95 K) fun t67_98 w99 => t67_98 = t67_92 ∧ w99 = w95) ∧
  gstep t61_84 true w95 (fun K => fnW Try.prog 60 #[t66_90, t67_92] w95 K) fun t68_100 w101 =>
  gstep t61_84 true w101 (fun K => binN Try.prog .eql 3 false t65_94 t68_100 w101 K) fun t69_102 w103 =>
  pickW t61_84 t69_102 (.bool false) w103 fun t70_104 w105 =>
  gstep t70_104 true w105 (fun K => K t28_22 w105) fun t72_106 w107 =>
  gstep t70_104 true w107 (fun K => K x0 w107) fun t74_108 w109 =>
  gstep t70_104 true w109 (fun K => fnW Try.prog 62 #[t72_106] w109 K) fun t73_110 w111 =>
  gstep t70_104 true w111 (fun K => fnW Try.prog 63 #[t74_108] w111 K) fun t75_112 w113 =>
  gstep t70_104 true w113 (fun K => fnW Try.prog 61 #[t73_110, t75_112] w113 K) fun t76_114 w115 =>
  pickW t70_104 t76_114 (.bool false) w115 fun t77_116 w117 =>
  gstep t77_116 true w117 (fun K => K x1 w117) fun t79_118 w119 =>
  gstep t77_116 true w119 (fun K => K t28_22 w119) fun t80_120 w121 =>
  gstep t77_116 true w121 (fun K => K x1 w121) fun t82_122 w123 =>
  gstep t77_116 true w123 (fun K => K x0 w123) fun t83_124 w125 =>
  gstep t77_116 true w125 (fun K => fnW Try.prog 64 #[t79_118, t80_120] w125 K) fun t81_126 w127 =>
  gstep t77_116 true w127 (fun K => fnW Try.prog 65 #[t82_122, t83_124] w127 K) fun t84_128 w129 =>
  gstep t77_116 true w129 (fun K => binW Try.prog .eql 62 false t81_126 t84_128 w129 K) fun t85_130 w131 =>
  w131 = w129 ∧
  pickW t77_116 t85_130 (.bool false) w131 fun t86_132 w133 =>
  gstep t86_132 true w133 (fun K => K t28_22 w133) fun t88_134 w135 =>
  gstep t86_132 true w135 (fun K => K x0 w135) fun t89_136 w137 =>
  gstep t86_132 true w137 (fun K => fnW Try.prog 61 #[t88_134, t89_136] w137 K) fun t90_138 w139 =>
  pickW t86_132 t90_138 (.bool false) w139 fun t91_140 w141 =>
  K t91_140 w141))
theorem c13_eq (x0 x1 x2 x3 x4 : Value) (w : World) (K : VPost) : c13 x0 x1 x2 x3 x4 w K = WP true Try.prog 92 [(8, 2291606175224832, [0, 0, 3, 4, 8, 8, 56, 72, 136, 256, 768, 256, 3328, 5376, 8448, 20480, 32768, 98304, 32768, 425984, 557056, 1212416, 2129920, 4718592, 8388608, 8388608, 58720256, 8388608, 8388608, 478150656, 612368384, 1082130432, 2684354560, 4294967296, 12884901888, 4294967296, 55834574848, 90194313216, 141733920768, 412316860416, 549755813888, 549755813888, 3848290697216, 549755813888, 549755813888, 31336081391616, 40132174413824, 70918499991552, 175921860444160, 281474976710656, 281474976710656, 1970324836974592, 2533274790395904, 9007199254740991], [0, 0, 3, 7, 15, 15, 63, 127, 255, 511, 1023, 511, 4095, 8191, 16383, 32767, 65535, 131071, 65535, 524287, 1048575, 2097151, 4194303, 8388607, 16777215, 16777215, 67108863, 16777215, 16777215, 536870911, 1073741823, 2147483647, 4294967295, 8589934591, 17179869183, 8589934591, 68719476735, 137438953471, 274877906943, 549755813887, 1099511627775, 1099511627775, 4398046511103, 1099511627775, 1099511627775, 35184372088831, 70368744177663, 140737488355327, 281474976710655, 562949953421311, 562949953421311, 2251799813685247, 4503599627370495, 9007199254740991])] (bodyOf Try.f13) (argF [x0, x1, x2, x3, x4]) w [.tmp 10] K := by kernel_rfl
theorem c13_calls (x0 x1 x2 x3 x4 : Value) (w : World) (K : VPost) (h : c13 x0 x1 x2 x3 x4 w K) : Calls Try.prog 13 #[x0, x1, x2, x3, x4] w (retK K) :=
  calls_of_WP (c13_eq x0 x1 x2 x3 x4 w K) mixedG Try.func13 (by kernel_rfl) Try.ntmps13 (by kernel_rfl) (by kernel_rfl) h

/-- imprimatur/imprimaturlaw02.TagFrames -/
def c14 (x0 x1 : Value) (w : World) (K : VPost) : Prop :=
  fnW Try.prog 53 #[] w fun t10_0 w1 =>
  unN Try.prog .not t10_0 w1 fun t11_2 w3 =>
  condW t11_2 (
  K (.bool false) w3) (
  fnW Try.prog 41 #[x0, (.int .i64 1500)] w3 fun t13_4 w5 =>
  binN Try.prog .gtr 3 true t13_4 (.int .i64 1500) w5 fun t14_6 w7 =>
  condW t14_6 (
  K (.bool true) w7) (
  fnW Try.prog 66 #[x0] w7 fun t16_8 w9 =>
  fnW Try.prog 67 #[t16_8] w9 fun t19_10 w11 =>
  extrW t19_10 0 w11 fun t20_12 w13 =>
  extrW t19_10 1 w13 fun t21_14 w15 =>
  insW Try.prog (Instr.buildSlice 88 0 #[]) w15 fun t22_16 w17 =>
  bindX (endW Try.prog [.tmp 4] K) fun K18 =>
  bindX (seqX (fun f20 w21 =>
  gstep (f20 7) true w21 (fun K => K (f20 6) w21) fun t39_22 w23 =>
  gstep (f20 7) true w23 (fun K => K (f20 0) w23) fun t40_24 w25 =>
  gstep (f20 7) true w25 (fun K => fnW Try.prog 68 #[t39_22, t40_24] w25 K) fun t41_26 w27 =>
  pickW (f20 7) t41_26 (.bool false) w27 fun t42_28 w29 =>
  gstep t42_28 true w29 (fun K => K (f20 5) w29) fun t44_30 w31 =>
  gstep t42_28 true w31 (fun K => K (f20 0) w31) fun t45_32 w33 =>
  gstep t42_28 true w33 (fun K => fnW Try.prog 69 #[t45_32] w33 K) fun t46_34 w35 =>
  gstep t42_28 true w35 (fun K => fnW Try.prog 30 #[t44_30, t46_34] w35 K) fun t47_36 w37 =>
  pickW t42_28 t47_36 (.bool false) w37 fun t48_38 w39 =>
  gstep t48_38 true w39 (fun K => K (f20 1) w39) fun t50_40 w41 =>
  gstep t48_38 true w41 (fun K => K (f20 0) w41) fun t51_42 w43 =>
  gstep t48_38 true w43 (fun K => fnW Try.prog 70 #[t50_40, t51_42] w43 K) fun t52_44 w45 =>
  gstep t48_38 true w45 (fun K => K (f20 1) w45) fun t53_46 w47 =>
  gstep t48_38 true w47 (fun K => K (f20 0) w47) fun t54_48 w49 =>
  gstep t48_38 true w49 (fun K => fnW Try.prog 71 #[t53_46, t54_48] w49 K) fun t55_50 w51 =>
  gstep t48_38 true w51 (fun K => binW Try.prog .eql 62 false t52_44 t55_50 w51 K) fun t56_52 w53 =>
  pickW t48_38 t56_52 (.bool false) w53 fun t57_54 w55 =>
  gstep t57_54 true w55 (fun K => K (f20 1) w55) fun t59_56 w57 =>
  gstep t57_54 true w57 (fun K => K (f20 8) w57) fun t60_58 w59 =>
  gstep t57_54 true w59 (fun K => fnW Try.prog 72 #[t59_56, t60_58] w59 K) fun t61_60 w61 =>
  gstep t57_54 true w61 (fun K => K (f20 1) w61) fun t62_62 w63 =>
  gstep t57_54 true w63 (fun K => K (f20 0) w63) fun t63_64 w65 =>
  gstep t57_54 true w65 (fun K => fnW Try.prog 70 #[t62_62, t63_64] w65 K) fun t64_66 w67 =>
  gstep t57_54 true w67 (fun K => binW Try.prog .eql 62 false t61_60 t64_66 w67 K) fun t65_68 w69 =>
  pickW t57_54 t65_68 (.bool false) w69 fun t66_70 w71 =>
  K t66_70 w71) K18) fun K19 =>
  bindX (blkX 0 K19) fun K72 =>
  loopW (fun f73 w74 K75 =>
  lenW Try.prog (some true) #[56] 3 #[(f73 0)] w74 fun t25_76 w77 =>
  binN Try.prog .lss 3 false (f73 9) t25_76 w77 fun t26_78 w79 =>
  condW t26_78 (
  idxW (some (none, 1)) (f73 0) (f73 9) w79 fun t32_80 w81 =>
  loadW (some (false, 1)) t32_80 w81 fun t33_82 w83 =>
  insW Try.prog (convert 34 9 t33_82) w83 fun t34_84 w85 =>
  insW Try.prog (Instr.buildSlice 88 1 #[(0, t34_84)]) w85 fun t35_86 w87 =>
  insW Try.prog (Builtin.append_ #[88, 88] 88 #[(f73 8), t35_86]) w87 fun t36_88 w89 =>
  binN Try.prog .add 3 true (f73 9) (.int .i64 1) w89 fun t28_90 w91 =>
  K75 .normal (pf 67 (pf 67 (pf 67 (pf 67 (pf 67 (pf 67 (pf 67 (pf 67 (pf 67 (pf 67 (pf 67 (pf 67 (pf 67 (pf 67 (pf 67 (pf 67 f73 23 (f73 9)) 24 (f73 0)) 25 t25_76) 26 t26_78) 29 (f73 8)) 30 (f73 0)) 31 (f73 9)) 32 t32_80) 33 t33_82) 34 t34_84) 35 t35_86) 36 t36_88) 8 t36_88) 27 (f73 9)) 28 t28_90) 9 t28_90) w91) (
  K75 (.exit 0) (pf 67 (pf 67 (pf 67 (pf 67 f73 23 (f73 9)) 24 (f73 0)) 25 t25_76) 26 t26_78) w79)) (pf 67 (pf 67 (pf 67 (pf 67 (pf 67 (pf 67 (pf 67 (pf 67 (pf 67 (pf 67 (pf 67 (pf 67 (pf 67 (pf 67 (pf 67 (pf 67 (pf 67 (pf 67 (pf 67 (argF [x0, x1]) 4 (.bool false)) 10 t10_0) 11 t11_2) 12 x0) 13 t13_4) 14 t14_6) 15 x0) 16 t16_8) 5 t16_8) 18 t16_8) 19 t19_10) 17 t19_10) 20 t20_12) 21 t21_14) 6 t20_12) 7 t21_14) 22 t22_16) 8 t22_16) 9 (.int .i64 0)) w17 K72))
theorem c14_eq (x0 x1 : Value) (w : World) (K : VPost) : c14 x0 x1 w K = WP true Try.prog 67 [] (bodyOf Try.f14) (argF [x0, x1]) w [.tmp 4] K := by kernel_rfl
theorem c14_calls (x0 x1 : Value) (w : World) (K : VPost) (h : c14 x0 x1 w K) : Calls Try.prog 14 #[x0, x1] w (retK K) :=
  calls_of_WP (c14_eq x0 x1 w K) mixedG Try.func14 (by kernel_rfl) Try.ntmps14 (by kernel_rfl) (by kernel_rfl) h

/-- imprimatur/imprimaturlaw02.TagUnframes -/
def c15 (x0 : Value) (w : World) (K : VPost) : Prop :=
  fnW Try.prog 53 #[] w fun t8_0 w1 =>
  unN Try.prog .not t8_0 w1 fun t9_2 w3 =>
  condW t9_2 (
  K (.bool false) w3) (
  lenW Try.prog (some true) #[34] 3 #[x0] w3 fun t11_4 w5 =>
  binN Try.prog .gtr 3 true t11_4 (.int .i64 2000) w5 fun t12_6 w7 =>
  condW t12_6 (
  K (.bool true) w7) (
  fnW Try.prog 27 #[x0] w7 fun t14_8 w9 =>
  fnW Try.prog 67 #[t14_8] w9 fun t17_10 w11 =>
  extrW t17_10 0 w11 fun t18_12 w13 =>
  extrW t17_10 1 w13 fun t19_14 w15 =>
  fnW Try.prog 73 #[x0] w15 fun t22_16 w17 =>
  extrW t22_16 0 w17 fun t23_18 w19 =>
  extrW t22_16 1 w19 fun t24_20 w21 =>
  binW Try.prog .neq 4 false t19_14 t24_20 w21 fun t27_22 w23 =>
  gstep t27_22 false w23 (fun K => K t18_12 w23) fun t29_24 w25 =>
  gstep t27_22 false w25 (fun K => K t23_18 w25) fun t30_26 w27 =>
  gstep t27_22 false w27 (fun K => fnW Try.prog 68 #[t29_24, t30_26] w27 K) fun t31_28 w29 =>
  gstep t27_22 false w29 (fun K => unN Try.prog .not t31_28 w29 K) fun t32_30 w31 =>
  pickW t27_22 (.bool true) t32_30 w31 fun t33_32 w33 =>
  gstep t33_32 false w33 (fun K => K t14_8 w33) fun t35_34 w35 =>
  gstep t33_32 false w35 (fun K => K x0 w35) fun t36_36 w37 =>
  gstep t33_32 false w37 (fun K => fnW Try.prog 30 #[t35_34, t36_36] w37 K) fun t37_38 w39 =>
  gstep t33_32 false w39 (fun K => unN Try.prog .not t37_38 w39 K) fun t38_40 w41 =>
  pickW t33_32 (.bool true) t38_40 w41 fun t39_42 w43 =>
  condW t39_42 (
  K (.bool false) w43) (
  unN Try.prog .not t19_14 w43 fun t41_44 w45 =>
  gstep t41_44 true w45 (fun K => K t18_12 w45) fun t43_46 w47 =>
  gstep t41_44 true w47 (fun K => lenW Try.prog (some true) #[56] 3 #[t43_46] w47 K) fun t44_48 w49 =>
  gstep t41_44 true w49 (fun K => binN Try.prog .eql 3 true t44_48 (.int .i64 0) w49 K) fun t45_50 w51 =>
  pickW t41_44 t45_50 (.bool false) w51 fun t46_52 w53 =>
  gstep t46_52 false w53 (fun K => K t19_14 w53) fun t48_54 w55 =>
  gstep t46_52 false w55 (fun K => K t48_54 w55) fun t49_56 w57 =>
  gstep t49_56 true w57 (fun K => K t18_12 w57) fun t50_58 w59 =>
  gstep t49_56 true w59 (fun K => fnW Try.prog 66 #[t50_58] w59 K) fun t51_60 w61 =>
  gstep t49_56 true w61 (fun K => K x0 w61) fun t52_62 w63 =>
  gstep t49_56 true w63 (fun K => fnW Try.prog 30 #[t51_60, t52_62] w63 K) fun t53_64 w65 =>
  gstep t46_52 false w65 (fun K => pickW t49_56 t53_64 (.bool false) w65 K) fun t54_66 w67 =>
  pickW t46_52 (.bool true) t54_66 w67 fun t55_68 w69 =>
  K t55_68 w69)))
theorem c15_eq (x0 : Value) (w : World) (K : VPost) : c15 x0 w K = WP true Try.prog 56 [] (bodyOf Try.f15) (argF [x0]) w [.tmp 2] K := by kernel_rfl
theorem c15_calls (x0 : Value) (w : World) (K : VPost) (h : c15 x0 w K) : Calls Try.prog 15 #[x0] w (retK K) :=
  calls_of_WP (c15_eq x0 w K) mixedG Try.func15 (by kernel_rfl) Try.ntmps15 (by kernel_rfl) (by kernel_rfl) h

/-- imprimatur/imprimaturlaw02.TagHex -/
def c16 (x0 x1 : Value) (w : World) (K : VPost) : Prop :=
  boxW 62 x0 w fun t2_0 w1 =>
  boxW 62 x1 w1 fun t3_2 w3 =>
  fnW Try.prog 53 #[] w3 fun t10_4 w5 =>
  unN Try.prog .not t10_4 w5 fun t11_6 w7 =>
  condW t11_6 (
  K (.bool false) w7) (
  loadW (some (true, 32)) t2_0 w7 fun t12_8 w9 =>
  fnW Try.prog 56 #[t12_8] w9 fun t13_10 w11 =>
  loadW (some (true, 32)) t3_2 w11 fun t14_12 w13 =>
  fnW Try.prog 56 #[t14_12] w13 fun t15_14 w15 =>
  fnW Try.prog 54 #[t13_10] w15 fun t18_16 w17 =>
  extrW t18_16 0 w17 fun t19_18 w19 =>
  extrW t18_16 1 w19 fun t20_20 w21 =>
  allocW (zeroO Try.prog 62) 62 w21 fun t7_22 w23 =>
  storeW (some (true, 32)) t7_22 t19_18 w23 fun w24 =>
  bindX (endW Try.prog [.tmp 4] K) fun K25 =>
  bindX (seqX (fun f27 w28 =>
  bindX (seqX (fun f30 w31 =>
  gstep (f30 8) true w31 (fun K => loadW (some (true, 32)) (f30 7) w31 K) fun t29_32 w33 =>
  gstep (f30 8) true w33 (fun K => loadW (some (true, 32)) (f30 2) w33 K) fun t30_34 w35 =>
  gstep (f30 8) true w35 (fun K => binW Try.prog .eql 62 false t29_32 t30_34 w35 K) fun t31_36 w37 =>
  pickW (f30 8) t31_36 (.bool false) w37 fun t32_38 w39 =>
  gstep t32_38 true w39 (fun K => loadW (some (true, 32)) (f30 2) w39 K) fun t34_40 w41 =>
  gstep t32_38 true w41 (fun K => loadW (some (true, 32)) (f30 3) w41 K) fun t35_42 w43 =>
  gstep t32_38 true w43 (fun K => fnW Try.prog 59 #[t34_40, t35_42] w43 K) fun t36_44 w45 =>
  gstep t32_38 true w45 (fun K => K (f30 9) w45) fun t37_46 w47 =>
  gstep t32_38 true w47 (fun K => binN Try.prog .eql 3 false t36_44 t37_46 w47 K) fun t38_48 w49 =>
  pickW t32_38 t38_48 (.bool false) w49 fun t39_50 w51 =>
  gstep t39_50 true w51 (fun K => loadW (some (true, 32)) (f30 3) w51 K) fun t41_52 w53 =>
  gstep t39_50 true w53 (fun K => loadW (some (true, 32)) (f30 2) w53 K) fun t42_54 w55 =>
  gstep t39_50 true w55 (fun K => fnW Try.prog 59 #[t41_52, t42_54] w55 K) fun t43_56 w57 =>
  gstep t39_50 true w57 (fun K => K (f30 9) w57) fun t44_58 w59 =>
  gstep t39_50 true w59 (fun K => unN Try.prog .neg t44_58 w59 K) fun t45_60 w61 =>
  gstep t39_50 true w61 (fun K => binN Try.prog .eql 3 false t43_56 t45_60 w61 K) fun t46_62 w63 =>
  pickW t39_50 t46_62 (.bool false) w63 fun t47_64 w65 =>
  gstep t47_64 true w65 (fun K => loadW (some (true, 32)) (f30 2) w65 K) fun t49_66 w67 =>
  gstep t47_64 true w67 (fun K => loadW (some (true, 32)) (f30 3) w67 K) fun t50_68 w69 =>
  gstep t47_64 true w69 (fun K => binW Try.prog .eql 62 false t49_66 t50_68 w69 K) fun t51_70 w71 =>
  gstep t47_64 true w71 (fun K => K (f30 5) w71) fun t52_72 w73 =>
  gstep t47_64 true w73 (fun K => K (f30 6) w73) fun t53_74 w75 =>
  gstep t47_64 true w75 (fun K => binW Try.prog .eql 9 false t52_72 t53_74 w75 K) fun t54_76 w77 =>
  gstep t47_64 true w77 (fun K => binW Try.prog .eql 4 false t51_70 t54_76 w77 K) fun t55_78 w79 =>
  pickW t47_64 t55_78 (.bool false) w79 fun t56_80 w81 =>
  K t56_80 w81) K25) fun K29 =>
  binW Try.prog .gtr 9 false (f27 5) (f27 6) w28 fun t26_82 w83 =>
  condW t26_82 (
  K29 .normal (pf 57 (pf 57 (pf 57 (pf 57 f27 24 (f27 5)) 25 (f27 6)) 26 t26_82) 9 (.int .i64 1)) w83) (
  K29 .normal (pf 57 (pf 57 (pf 57 f27 24 (f27 5)) 25 (f27 6)) 26 t26_82) w83)) K25) fun K26 =>
  binW Try.prog .lss 9 false t13_10 t15_14 w24 fun t23_84 w85 =>
  condW t23_84 (
  K26 .normal (pf 57 (pf 57 (pf 57 (pf 57 (pf 57 (pf 57 (pf 57 (pf 57 (pf 57 (pf 57 (pf 57 (pf 57 (pf 57 (pf 57 (pf 57 (pf 57 (pf 57 (pf 57 (pf 57 (pf 57 (pf 57 (pf 57 (pf 57 (argF [x0, x1]) 2 t2_0) 3 t3_2) 4 (.bool false)) 10 t10_4) 11 t11_6) 12 t12_8) 13 t13_10) 5 t13_10) 14 t14_12) 15 t15_14) 6 t15_14) 17 t13_10) 18 t18_16) 16 t18_16) 19 t19_18) 20 t20_20) 7 t7_22) 8 t20_20) 9 (.int .i64 0)) 21 t13_10) 22 t15_14) 23 t23_84) 9 (.int .i64 (-1))) w85) (
  K26 .normal (pf 57 (pf 57 (pf 57 (pf 57 (pf 57 (pf 57 (pf 57 (pf 57 (pf 57 (pf 57 (pf 57 (pf 57 (pf 57 (pf 57 (pf 57 (pf 57 (pf 57 (pf 57 (pf 57 (pf 57 (pf 57 (pf 57 (argF [x0, x1]) 2 t2_0) 3 t3_2) 4 (.bool false)) 10 t10_4) 11 t11_6) 12 t12_8) 13 t13_10) 5 t13_10) 14 t14_12) 15 t15_14) 6 t15_14) 17 t13_10) 18 t18_16) 16 t18_16) 19 t19_18) 20 t20_20) 7 t7_22) 8 t20_20) 9 (.int .i64 0)) 21 t13_10) 22 t15_14) 23 t23_84) w85))
theorem c16_eq (x0 x1 : Value) (w : World) (K : VPost) : c16 x0 x1 w K = WP true Try.prog 57 [] (bodyOf Try.f16) (argF [x0, x1]) w [.tmp 4] K := by kernel_rfl
theorem c16_calls (x0 x1 : Value) (w : World) (K : VPost) (h : c16 x0 x1 w K) : Calls Try.prog 16 #[x0, x1] w (retK K) :=
  calls_of_WP (c16_eq x0 x1 w K) mixedG Try.func16 (by kernel_rfl) Try.ntmps16 (by kernel_rfl) (by kernel_rfl) h

/-- imprimatur/imprimaturlaw02.TagSets -/
def c17 (x0 x1 x2 : Value) (w : World) (K : VPost) : Prop :=
  fnW Try.prog 53 #[] w fun t11_0 w1 =>
  unN Try.prog .not t11_0 w1 fun t12_2 w3 =>
  condW t12_2 (
  K (.bool false) w3) (
  lenW Try.prog (some true) #[75] 3 #[x0] w3 fun t14_4 w5 =>
  binN Try.prog .gtr 3 true t14_4 (.int .i64 20) w5 fun t15_6 w7 =>
  condW t15_6 (
  K (.bool true) w7) (
  insW Try.prog (Instr.buildSlice 75 0 #[]) w7 fun t16_8 w9 =>
  bindX (endW Try.prog [.tmp 6] K) fun K10 =>
  bindX (seqX (fun f12 w13 =>
  bindX (seqX (fun f15 w16 =>
  fnW Try.prog 62 #[(f15 0)] w16 fun t46_17 w18 =>
  bindX (seqX (fun f20 w21 =>
  fnW Try.prog 64 #[(f20 1), (f20 0)] w21 fun t66_22 w23 =>
  fnW Try.prog 64 #[(f20 1), (f20 7)] w23 fun t69_24 w25 =>
  binW Try.prog .eql 62 false t66_22 t69_24 w25 fun t70_26 w27 =>
  gstep t70_26 true w27 (fun K => K (f20 7) w27) fun t72_28 w29 =>
  gstep t70_26 true w29 (fun K => fnW Try.prog 62 #[t72_28] w29 K) fun t73_30 w31 =>
  gstep t70_26 true w31 (fun K => K (f20 9) w31) fun t74_32 w33 =>
  gstep t70_26 true w33 (fun K => fnW Try.prog 61 #[t73_30, t74_32] w33 K) fun t75_34 w35 =>
  pickW t70_26 t75_34 (.bool false) w35 fun t76_36 w37 =>
  K t76_36 w37) K10) fun K19 =>
  bindX (blkX 2 K19) fun K38 =>
  loopW (fun f39 w40 K41 =>
  lenW Try.prog (some true) #[75] 3 #[(f39 9)] w40 fun t49_42 w43 =>
  binN Try.prog .lss 3 false (f39 10) t49_42 w43 fun t50_44 w45 =>
  condW t50_44 (
  binN Try.prog .sub 3 true (f39 10) (.int .i64 1) w45.drew fun t55_46 w47 =>
  idxW (some (none, 32)) (f39 9) t55_46 w47 fun t56_48 w49 =>
  loadW (some (true, 32)) t56_48 w49 fun t57_50 w51 =>
  idxW (some (none, 32)) (f39 9) (f39 10) w51 fun t60_52 w53 =>
  loadW (some (true, 32)) t60_52 w53 fun t61_54 w55 =>
  fnW Try.prog 59 #[t57_50, t61_54] w55 fun t62_56 w57 =>
  binN Try.prog .neq 3 true t62_56 (.int .i64 (-1)) w57 fun t63_58 w59 =>
  condW t63_58 (
  K41 .ret (pf 77 (pf 77 (pf 77 (pf 77 (pf 77 (pf 77 (pf 77 (pf 77 (pf 77 (pf 77 (pf 77 (pf 77 (pf 77 (pf 77 (pf 77 (pf 77 f39 47 (f39 10)) 48 (f39 9)) 49 t49_42) 50 t50_44) 53 (f39 9)) 54 (f39 10)) 55 t55_46) 56 t56_48) 57 t57_50) 58 (f39 9)) 59 (f39 10)) 60 t60_52) 61 t61_54) 62 t62_56) 63 t63_58) 6 (.bool false)) w59) (
  binN Try.prog .add 3 true (f39 10) (.int .i64 1) w59 fun t52_60 w61 =>
  K41 .normal (pf 77 (pf 77 (pf 77 (pf 77 (pf 77 (pf 77 (pf 77 (pf 77 (pf 77 (pf 77 (pf 77 (pf 77 (pf 77 (pf 77 (pf 77 (pf 77 (pf 77 (pf 77 f39 47 (f39 10)) 48 (f39 9)) 49 t49_42) 50 t50_44) 53 (f39 9)) 54 (f39 10)) 55 t55_46) 56 t56_48) 57 t57_50) 58 (f39 9)) 59 (f39 10)) 60 t60_52) 61 t61_54) 62 t62_56) 63 t63_58) 51 (f39 10)) 52 t52_60) 10 t52_60) w61)) (
  K41 (.exit 2) (pf 77 (pf 77 (pf 77 (pf 77 f39 47 (f39 10)) 48 (f39 9)) 49 t49_42) 50 t50_44) w45)) (pf 77 (pf 77 (pf 77 (pf 77 f15 45 (f15 0)) 46 t46_17) 9 t46_17) 10 (.int .i64 1)) w18 K38) K10) fun K14 =>
  lenW Try.prog (some true) #[75] 3 #[(f12 0)] w13 fun t32_62 w63 =>
  binN Try.prog .gtr 3 true t32_62 (.int .i64 0) w63 fun t33_64 w65 =>
  condW t33_64 (
  binN Try.prog .and 3 true (f12 2) (.int .i64 1023) w65 fun t37_66 w67 =>
  lenW Try.prog (some true) #[75] 3 #[(f12 0)] w67 fun t39_68 w69 =>
  binN Try.prog .rem 3 false t37_66 t39_68 w69 fun t40_70 w71 =>
  idxW (some (none, 32)) (f12 0) t40_70 w71 fun t41_72 w73 =>
  loadW (some (true, 32)) t41_72 w73 fun t42_74 w75 =>
  insW Try.prog (Instr.buildSlice 75 1 #[(0, t42_74)]) w75 fun t43_76 w77 =>
  insW Try.prog (Builtin.append_ #[75, 75] 75 #[(f12 7), t43_76]) w77 fun t44_78 w79 =>
  K14 .normal (pf 77 (pf 77 (pf 77 (pf 77 (pf 77 (pf 77 (pf 77 (pf 77 (pf 77 (pf 77 (pf 77 (pf 77 (pf 77 (pf 77 (pf 77 f12 31 (f12 0)) 32 t32_62) 33 t33_64) 34 (f12 7)) 35 (f12 0)) 36 (f12 2)) 37 t37_66) 38 (f12 0)) 39 t39_68) 40 t40_70) 41 t41_72) 42 t42_74) 43 t43_76) 44 t44_78) 7 t44_78) w79) (
  K14 .normal (pf 77 (pf 77 (pf 77 f12 31 (f12 0)) 32 t32_62) 33 t33_64) w65)) K10) fun K11 =>
  lenW Try.prog (some true) #[75] 3 #[x0] w9 fun t18_80 w81 =>
  binN Try.prog .sub 3 true t18_80 (.int .i64 1) w81 fun t19_82 w83 =>
  bindX (blkX 0 K11) fun K84 =>
  loopW (fun f85 w86 K87 =>
  binN Try.prog .geq 3 true (f85 8) (.int .i64 0) w86 fun t21_88 w89 =>
  condW t21_88 (
  idxW (some (none, 32)) (f85 0) (f85 8) w89 fun t27_90 w91 =>
  loadW (some (true, 32)) t27_90 w91 fun t28_92 w93 =>
  insW Try.prog (Instr.buildSlice 75 1 #[(0, t28_92)]) w93 fun t29_94 w95 =>
  insW Try.prog (Builtin.append_ #[75, 75] 75 #[(f85 7), t29_94]) w95 fun t30_96 w97 =>
  binN Try.prog .sub 3 true (f85 8) (.int .i64 1) w97 fun t23_98 w99 =>
  K87 .normal (pf 77 (pf 77 (pf 77 (pf 77 (pf 77 (pf 77 (pf 77 (pf 77 (pf 77 (pf 77 (pf 77 (pf 77 (pf 77 f85 20 (f85 8)) 21 t21_88) 24 (f85 7)) 25 (f85 0)) 26 (f85 8)) 27 t27_90) 28 t28_92) 29 t29_94) 30 t30_96) 7 t30_96) 22 (f85 8)) 23 t23_98) 8 t23_98) w99) (
  K87 (.exit 0) (pf 77 (pf 77 f85 20 (f85 8)) 21 t21_88) w89)) (pf 77 (pf 77 (pf 77 (pf 77 (pf 77 (pf 77 (pf 77 (pf 77 (pf 77 (pf 77 (pf 77 (pf 77 (argF [x0, x1, x2]) 6 (.bool false)) 11 t11_0) 12 t12_2) 13 x0) 14 t14_4) 15 t15_6) 16 t16_8) 7 t16_8) 17 x0) 18 t18_80) 19 t19_82) 8 t19_82) w83 K84))
theorem c17_eq (x0 x1 x2 : Value) (w : World) (K : VPost) : c17 x0 x1 x2 w K = WP true Try.prog 77 [(16, 512, [0, 0, 2, 5, 8, 0, 0, 96, 128, 272, 512], [0, 0, 2, 7, 15, 0, 0, 96, 224, 511, 1023])] (bodyOf Try.f17) (argF [x0, x1, x2]) w [.tmp 6] K := by kernel_rfl
theorem c17_calls (x0 x1 x2 : Value) (w : World) (K : VPost) (h : c17 x0 x1 x2 w K) : Calls Try.prog 17 #[x0, x1, x2] w (retK K) :=
  calls_of_WP (c17_eq x0 x1 x2 w K) mixedG Try.func17 (by kernel_rfl) Try.ntmps17 (by kernel_rfl) (by kernel_rfl) h

/-- imprimatur/imprimaturlaw02.TagNodes -/
def c18 (x0 x1 x2 : Value) (w : World) (K : VPost) : Prop :=
  fnW Try.prog 53 #[] w fun t10_0 w1 =>
  unN Try.prog .not t10_0 w1 fun t11_2 w3 =>
  condW t11_2 (
  K (.bool false) w3) (
  fnW Try.prog 41 #[x0, (.int .i64 1500)] w3 fun t13_4 w5 =>
  binN Try.prog .gtr 3 true t13_4 (.int .i64 1500) w5 fun t14_6 w7 =>
  gstep t14_6 false w7 (fun K => K x1 w7) fun t16_8 w9 =>
  gstep t14_6 false w9 (fun K => fnW Try.prog 41 #[t16_8, (.int .i64 1500)] w9 K) fun t17_10 w11 =>
  gstep t14_6 false w11 (fun K => binN Try.prog .gtr 3 true t17_10 (.int .i64 1500) w11 K) fun t18_12 w13 =>
  pickW t14_6 (.bool true) t18_12 w13 fun t19_14 w15 =>
  condW t19_14 (
  K (.bool true) w15) (
  fnW Try.prog 66 #[x0] w15 fun t21_16 w17 =>
  fnW Try.prog 66 #[x1] w17 fun t23_18 w19 =>
  fnW Try.prog 42 #[] w19 fun t24_20 w21 =>
  binW Try.prog .eql 58 true t24_20 (.pointer none) w21 fun t26_22 w23 =>
  condW t26_22 (
  K (.bool false) w23) (
  insW Try.prog (Instr.buildSlice 34 1 #[(0, x2)]) w23 fun t29_24 w25 =>
  insW Try.prog (Instr.buildSlice 56 1 #[(0, t29_24)]) w25 fun t30_26 w27 =>
  fnW Try.prog 43 #[t24_20, t30_26] w27 fun _ w29 =>
  insW Try.prog (Instr.buildSlice 56 1 #[(0, t21_16)]) w29 fun t34_30 w31 =>
  fnW Try.prog 43 #[t24_20, t34_30] w31 fun _ w33 =>
  fnW Try.prog 70 #[x2, x0] w33 fun t38_34 w35 =>
  fnW Try.prog 45 #[t24_20] w35 fun t40_36 w37 =>
  binW Try.prog .eql 62 false t38_34 t40_36 w37 fun t41_38 w39 =>
  gstep t41_38 true w39 (fun K => K t21_16 w39) fun t43_40 w41 =>
  gstep t41_38 true w41 (fun K => K t23_18 w41) fun t44_42 w43 =>
  gstep t41_38 true w43 (fun K => fnW Try.prog 30 #[t43_40, t44_42] w43 K) fun t45_44 w45 =>
  gstep t41_38 true w45 (fun K => K x0 w45) fun t46_46 w47 =>
  gstep t41_38 true w47 (fun K => K x1 w47) fun t47_48 w49 =>
  gstep t41_38 true w49 (fun K => fnW Try.prog 68 #[t46_46, t47_48] w49 K) fun t48_50 w51 =>
  gstep t41_38 true w51 (fun K => binW Try.prog .eql 4 false t45_44 t48_50 w51 K) fun t49_52 w53 =>
  pickW t41_38 t49_52 (.bool false) w53 fun t50_54 w55 =>
  K t50_54 w55)))
theorem c18_eq (x0 x1 x2 : Value) (w : World) (K : VPost) : c18 x0 x1 x2 w K = WP true Try.prog 51 [] (bodyOf Try.f18) (argF [x0, x1, x2]) w [.tmp 6] K := by kernel_rfl
theorem c18_calls (x0 x1 x2 : Value) (w : World) (K : VPost) (h : c18 x0 x1 x2 w K) : Calls Try.prog 18 #[x0, x1, x2] w (retK K) :=
  calls_of_WP (c18_eq x0 x1 x2 w K) mixedG Try.func18 (by kernel_rfl) Try.ntmps18 (by kernel_rfl) (by kernel_rfl) h

/-- imprimatur/imprimaturref00.Rows -/
def c41 (x0 x1 : Value) (w : World) (K : VPost) : Prop :=
  lenW Try.prog (some true) #[56] 3 #[x0] w fun t8_0 w1 =>
  binN Try.prog .gtr 3 false t8_0 x1 w1 fun t10_2 w3 =>
  condW t10_2 (
  binN Try.prog .add 3 true x1 (.int .i64 1) w3 fun t12_4 w5 =>
  K t12_4 w5) (
  bindX (endW Try.prog [.tmp 4] K) fun K6 =>
  bindX (seqX (fun f8 w9 =>
  K (f8 5) w9) K6) fun K7 =>
  bindX (blkX 0 K7) fun K10 =>
  loopW (fun f11 w12 K13 =>
  lenW Try.prog (some true) #[56] 3 #[(f11 0)] w12 fun t15_14 w15 =>
  binN Try.prog .lss 3 false (f11 6) t15_14 w15 fun t16_16 w17 =>
  gstep t16_16 true w17 (fun K => K (f11 5) w17) fun t18_18 w19 =>
  gstep t16_16 true w19 (fun K => K (f11 1) w19) fun t19_20 w21 =>
  gstep t16_16 true w21 (fun K => binN Try.prog .leq 3 false t18_18 t19_20 w21 K) fun t20_22 w23 =>
  pickW t16_16 t20_22 (.bool false) w23 fun t21_24 w25 =>
  condW t21_24 (
  idxW (some (none, 1)) (f11 0) (f11 6) w25 fun t27_26 w27 =>
  loadW (some (false, 1)) t27_26 w27 fun t28_28 w29 =>
  lenW Try.prog (some true) #[34] 3 #[t28_28] w29 fun t29_30 w31 =>
  binN Try.prog .add 3 true (.int .i64 1) t29_30 w31 fun t30_32 w33 =>
  binN Try.prog .add 3 false (f11 5) t30_32 w33 fun t31_34 w35 =>
  binN Try.prog .add 3 true (f11 6) (.int .i64 1) w35 fun t23_36 w37 =>
  K13 .normal (pf 33 (pf 33 (pf 33 (pf 33 (pf 33 (pf 33 (pf 33 (pf 33 (pf 33 (pf 33 (pf 33 (pf 33 (pf 33 (pf 33 (pf 33 (pf 33 (pf 33 (pf 33 (pf 33 (pf 33 (pf 33 f11 13 (f11 6)) 14 (f11 0)) 15 t15_14) 16 t16_16) 17 t16_16) 18 t18_18) 19 t19_20) 20 t20_22) 21 t21_24) 24 (f11 5)) 25 (f11 0)) 26 (f11 6)) 27 t27_26) 28 t28_28) 29 t29_30) 30 t30_32) 31 t31_34) 5 t31_34) 22 (f11 6)) 23 t23_36) 6 t23_36) w37) (
  K13 (.exit 0) (pf 33 (pf 33 (pf 33 (pf 33 (pf 33 (pf 33 (pf 33 (pf 33 (pf 33 f11 13 (f11 6)) 14 (f11 0)) 15 t15_14) 16 t16_16) 17 t16_16) 18 t18_18) 19 t19_20) 20 t20_22) 21 t21_24) w25)) (pf 33 (pf 33 (pf 33 (pf 33 (pf 33 (pf 33 (pf 33 (argF [x0, x1]) 4 (.int .i64 0)) 7 x0) 8 t8_0) 9 x1) 10 t10_2) 5 (.int .i64 0)) 6 (.int .i64 0)) w3 K10)
theorem c41_eq (x0 x1 : Value) (w : World) (K : VPost) : c41 x0 x1 w K = WP true Try.prog 33 [] (bodyOf Try.f41) (argF [x0, x1]) w [.tmp 4] K := by kernel_rfl
theorem c41_calls (x0 x1 : Value) (w : World) (K : VPost) (h : c41 x0 x1 w K) : Calls Try.prog 41 #[x0, x1] w (retK K) :=
  calls_of_WP (c41_eq x0 x1 w K) mixedG Try.func41 (by kernel_rfl) Try.ntmps41 (by kernel_rfl) (by kernel_rfl) h

end Go.Proofs.Ytedebapgmfnflaa
