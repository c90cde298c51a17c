/- Texts laid one behind the other: GR, AB, AD, AE, AF, AG, EI, EL, EA, GB, EC, AS, GW, EN, GP, EG, EH, AH, NC, GX.
   No condition. -/
import Derived.KernelRfl
import Derived.Test.YtmmdcdjkmakgpaaQD5
set_option linter.unusedVariables false
set_option linter.unusedSimpArgs false
set_option linter.unusedVariables false
set_option linter.unusedSimpArgs false
namespace Go.Proofs.Ytmmdcdjkmakgpaa
namespace V
attribute [local irreducible] callPre callP bindP
@[irreducible] def ref11_Right_j2 (ro : Ro) (K : KV) : Env → T Obj → Nat → Prop := fun e h nx => ∃ h144, Sub h144 h ∧ K (Value.bool true) h144 (nx + 1)
@[irreducible] def ref11_Right_L1 (ro : Ro) : PT := fun e h nx Q => bindP (fwdP 258 (e 1)) fun t79_145 => bindP (load1 ro h t79_145) fun t80_146 => bindP (lenSl t80_146) fun t81_147 => bindP (intB .lss (e 5) t81_147) fun t82_148 => condP t82_148 (bindP (loadA ro h 259 (e 1)) fun t85_149 => bindP (fwdP 258 (e 1)) fun t86_150 => bindP (load1 ro h t86_150) fun t87_151 => bindP (ixSl 4 t87_151 (e 5)) fun t89_152 => bindP (loadA ro h 4 t89_152) fun t90_153 => callP Try.prog ro i_ref11_state [t85_149, t90_153] h (nx + 13) fun t91_154 h155 n156 => bindP (unV .not t91_154) fun t92_157 => condP t92_157 (Q .ret (puts e [(78, (e 5)), (79, t79_145), (80, t80_146), (81, t81_147), (82, t82_148), (85, t85_149), (86, t86_150), (87, t87_151), (88, (e 5)), (89, t89_152), (90, t90_153), (91, t91_154), (92, t92_157), (2, (Value.bool false))]) h155 (n156 + 1)) (bindP (intB .add (e 5) (Value.int IntKind.i64 1)) fun t84_158 => Q .normal (puts e [(78, (e 5)), (79, t79_145), (80, t80_146), (81, t81_147), (82, t82_148), (85, t85_149), (86, t86_150), (87, t87_151), (88, (e 5)), (89, t89_152), (90, t90_153), (91, t91_154), (92, t92_157), (83, (e 5)), (84, t84_158), (5, t84_158)]) h155 (n156 + 3))) (Q (.exit 2) (puts e [(78, (e 5)), (79, t79_145), (80, t80_146), (81, t81_147), (82, t82_148)]) h (nx + 5))
@[irreducible] def ref11_Right_j1 (ro : Ro) (K : KV) : Env → T Obj → Nat → Prop := fun e h nx => loopP (ref11_Right_L1 ro) (puts e [(5, (Value.int IntKind.i64 0))]) h (nx + 1) fun x162 e159 h160 n161 => exP x162 (ref11_Right_j2 ro K e159 h160 n161) (fun i163 => beqP (Nat.beq i163 2) (ref11_Right_j2 ro K e159 h160 n161) (False)) (∃ h164, Sub h164 h160 ∧ K (e159 2) h164 n161)
@[irreducible] def ref11_Right_L2 (ro : Ro) : PT := fun e h nx Q => bindP (fwdP 257 (e 1)) fun t47_165 => bindP (load1 ro h t47_165) fun t48_166 => bindP (lenSl t48_166) fun t49_167 => bindP (intB .lss (e 3) t49_167) fun t50_168 => condP t50_168 (bindP (fwdP 257 (e 1)) fun t53_169 => bindP (load1 ro h t53_169) fun t54_170 => bindP (ixSl 2 t54_170 (e 3)) fun t56_171 => bindP (loadA ro h 2 t56_171) fun t57_172 => bindP (zer Try.prog y_a2_int) fun z173 => newP h (nx + 10) (.cells z173.cells y_a2_int) fun h174 => bindP (storeN 2 h174 (ptr (nx + 10)) t57_172) fun h175 => bindP (ixArr 2 1 (ptr (nx + 10)) (Value.int IntKind.i64 0)) fun t58_176 => bindP (load1 ro h175 t58_176) fun t59_177 => bindP (intB .lss t59_177 (Value.int IntKind.i64 1)) fun t60_178 => ifP t60_178 false h175 (nx + 16) (fun k179 => bindP (ixArr 2 1 (ptr (nx + 10)) (Value.int IntKind.i64 0)) fun t62_183 => k179 t62_183 h175 (nx + 17)) fun t62_180 h181 n182 => ifP t60_178 false h181 n182 (fun k184 => bindP (load1 ro h181 t62_180) fun t63_188 => k184 t63_188 h181 (n182 + 1)) fun t63_185 h186 n187 => ifP t60_178 false h186 n187 (fun k189 => bindP (ixArr 2 1 (ptr (nx + 10)) (Value.int IntKind.i64 1)) fun t64_193 => k189 t64_193 h186 (n187 + 1)) fun t64_190 h191 n192 => ifP t60_178 false h191 n192 (fun k194 => bindP (load1 ro h191 t64_190) fun t65_198 => k194 t65_198 h191 (n192 + 1)) fun t65_195 h196 n197 => ifP t60_178 false h196 n197 (fun k199 => bindP (intB .gtr t63_185 t65_195) fun t66_203 => k199 t66_203 h196 (n197 + 1)) fun t66_200 h201 n202 => bindP (pickV t60_178 (Value.bool true) t66_200) fun t67_204 => ifP t67_204 false h201 (n202 + 2) (fun k205 => bindP (ixArr 2 1 (ptr (nx + 10)) (Value.int IntKind.i64 1)) fun t69_209 => k205 t69_209 h201 (n202 + 3)) fun t69_206 h207 n208 => ifP t67_204 false h207 n208 (fun k210 => bindP (load1 ro h207 t69_206) fun t70_214 => k210 t70_214 h207 (n208 + 1)) fun t70_211 h212 n213 => ifP t67_204 false h212 n213 (fun k215 => bindP (intB .lss t70_211 (Value.int IntKind.i64 2)) fun t71_219 => k215 t71_219 h212 (n213 + 1)) fun t71_216 h217 n218 => bindP (pickV t67_204 (Value.bool true) t71_216) fun t72_220 => ifP t72_220 false h217 (n218 + 2) (fun k221 => bindP (ixArr 2 1 (ptr (nx + 10)) (Value.int IntKind.i64 1)) fun t74_225 => k221 t74_225 h217 (n218 + 3)) fun t74_222 h223 n224 => ifP t72_220 false h223 n224 (fun k226 => bindP (load1 ro h223 t74_222) fun t75_230 => k226 t75_230 h223 (n224 + 1)) fun t75_227 h228 n229 => ifP t72_220 false h228 n229 (fun k231 => bindP (intB .gtr t75_227 (Value.int IntKind.i64 4096)) fun t76_235 => k231 t76_235 h228 (n229 + 1)) fun t76_232 h233 n234 => bindP (pickV t72_220 (Value.bool true) t76_232) fun t77_236 => condP t77_236 (Q .ret (puts e [(46, (e 3)), (47, t47_165), (48, t48_166), (49, t49_167), (50, t50_168), (53, t53_169), (54, t54_170), (55, (e 3)), (56, t56_171), (57, t57_172), (4, (ptr (nx + 10))), (58, t58_176), (59, t59_177), (60, t60_178), (61, t60_178), (62, t62_180), (63, t63_185), (64, t64_190), (65, t65_195), (66, t66_200), (67, t67_204), (68, t67_204), (69, t69_206), (70, t70_211), (71, t71_216), (72, t72_220), (73, t72_220), (74, t74_222), (75, t75_227), (76, t76_232), (77, t77_236), (2, (Value.bool false))]) h233 (n234 + 2)) (bindP (intB .add (e 3) (Value.int IntKind.i64 1)) fun t52_237 => Q .normal (puts e [(46, (e 3)), (47, t47_165), (48, t48_166), (49, t49_167), (50, t50_168), (53, t53_169), (54, t54_170), (55, (e 3)), (56, t56_171), (57, t57_172), (4, (ptr (nx + 10))), (58, t58_176), (59, t59_177), (60, t60_178), (61, t60_178), (62, t62_180), (63, t63_185), (64, t64_190), (65, t65_195), (66, t66_200), (67, t67_204), (68, t67_204), (69, t69_206), (70, t70_211), (71, t71_216), (72, t72_220), (73, t72_220), (74, t74_222), (75, t75_227), (76, t76_232), (77, t77_236), (51, (e 3)), (52, t52_237), (3, t52_237)]) h233 (n234 + 4))) (Q (.exit 0) (puts e [(46, (e 3)), (47, t47_165), (48, t48_166), (49, t49_167), (50, t50_168)]) h (nx + 5))
@[irreducible] def ref11_Right (ro : Ro) (v0 : Value) (h : T Obj) (nx : Nat) (K : KV) : Prop := newP h nx (.cells (Value.cells v0) y_api_Auto) fun h1 => bindP (fwdP 0 (ptr nx)) fun t6_2 => bindP (loadA ro h1 257 t6_2) fun t7_3 => callP Try.prog ro i_ref02_Right [t7_3] h1 (nx + 5) fun t8_4 h5 n6 => bindP (unV .not t8_4) fun t9_7 => ifP t9_7 false h5 (n6 + 2) (fun k8 => bindP (fwdP 257 (ptr nx)) fun t11_12 => k8 t11_12 h5 (n6 + 3)) fun t11_9 h10 n11 => ifP t9_7 false h10 n11 (fun k13 => bindP (load1 ro h10 t11_9) fun t12_17 => k13 t12_17 h10 (n11 + 1)) fun t12_14 h15 n16 => ifP t9_7 false h15 n16 (fun k18 => bindP (lenSl t12_14) fun t13_22 => k18 t13_22 h15 (n16 + 1)) fun t13_19 h20 n21 => ifP t9_7 false h20 n21 (fun k23 => bindP (intB .gtr t13_19 (Value.int IntKind.i64 512)) fun t14_27 => k23 t14_27 h20 (n21 + 1)) fun t14_24 h25 n26 => bindP (pickV t9_7 (Value.bool true) t14_24) fun t15_28 => ifP t15_28 false h25 (n26 + 2) (fun k29 => bindP (fwdP 258 (ptr nx)) fun t17_33 => k29 t17_33 h25 (n26 + 3)) fun t17_30 h31 n32 => ifP t15_28 false h31 n32 (fun k34 => bindP (load1 ro h31 t17_30) fun t18_38 => k34 t18_38 h31 (n32 + 1)) fun t18_35 h36 n37 => ifP t15_28 false h36 n37 (fun k39 => bindP (lenSl t18_35) fun t19_43 => k39 t19_43 h36 (n37 + 1)) fun t19_40 h41 n42 => ifP t15_28 false h41 n42 (fun k44 => bindP (intB .lss t19_40 (Value.int IntKind.i64 1)) fun t20_48 => k44 t20_48 h41 (n42 + 1)) fun t20_45 h46 n47 => bindP (pickV t15_28 (Value.bool true) t20_45) fun t21_49 => ifP t21_49 false h46 (n47 + 2) (fun k50 => bindP (fwdP 258 (ptr nx)) fun t23_54 => k50 t23_54 h46 (n47 + 3)) fun t23_51 h52 n53 => ifP t21_49 false h52 n53 (fun k55 => bindP (load1 ro h52 t23_51) fun t24_59 => k55 t24_59 h52 (n53 + 1)) fun t24_56 h57 n58 => ifP t21_49 false h57 n58 (fun k60 => bindP (lenSl t24_56) fun t25_64 => k60 t25_64 h57 (n58 + 1)) fun t25_61 h62 n63 => ifP t21_49 false h62 n63 (fun k65 => bindP (intB .gtr t25_61 (Value.int IntKind.i64 256)) fun t26_69 => k65 t26_69 h62 (n63 + 1)) fun t26_66 h67 n68 => bindP (pickV t21_49 (Value.bool true) t26_66) fun t27_70 => ifP t27_70 false h67 (n68 + 2) (fun k71 => bindP (fwdP 258 (ptr nx)) fun t29_75 => k71 t29_75 h67 (n68 + 3)) fun t29_72 h73 n74 => ifP t27_70 false h73 n74 (fun k76 => bindP (load1 ro h73 t29_72) fun t30_80 => k76 t30_80 h73 (n74 + 1)) fun t30_77 h78 n79 => ifP t27_70 false h78 n79 (fun k81 => bindP (ixSl 4 t30_77 (Value.int IntKind.i64 0)) fun t31_85 => k81 t31_85 h78 (n79 + 1)) fun t31_82 h83 n84 => ifP t27_70 false h83 n84 (fun k86 => bindP (fwdP 0 t31_82) fun t32_90 => k86 t32_90 h83 (n84 + 1)) fun t32_87 h88 n89 => ifP t27_70 false h88 n89 (fun k91 => bindP (load1 ro h88 t32_87) fun t33_95 => k91 t33_95 h88 (n89 + 1)) fun t33_92 h93 n94 => ifP t27_70 false h93 n94 (fun k96 => bindP (lenSl t33_92) fun t34_100 => k96 t34_100 h93 (n94 + 1)) fun t34_97 h98 n99 => ifP t27_70 false h98 n99 (fun k101 => bindP (intB .gtr t34_97 (Value.int IntKind.i64 0)) fun t35_105 => k101 t35_105 h98 (n99 + 1)) fun t35_102 h103 n104 => bindP (pickV t27_70 (Value.bool true) t35_102) fun t36_106 => ifP t36_106 false h103 (n104 + 2) (fun k107 => bindP (fwdP 258 (ptr nx)) fun t38_111 => k107 t38_111 h103 (n104 + 3)) fun t38_108 h109 n110 => ifP t36_106 false h109 n110 (fun k112 => bindP (load1 ro h109 t38_108) fun t39_116 => k112 t39_116 h109 (n110 + 1)) fun t39_113 h114 n115 => ifP t36_106 false h114 n115 (fun k117 => bindP (ixSl 4 t39_113 (Value.int IntKind.i64 0)) fun t40_121 => k117 t40_121 h114 (n115 + 1)) fun t40_118 h119 n120 => ifP t36_106 false h119 n120 (fun k122 => bindP (fwdP 1 t40_118) fun t41_126 => k122 t41_126 h119 (n120 + 1)) fun t41_123 h124 n125 => ifP t36_106 false h124 n125 (fun k127 => bindP (load1 ro h124 t41_123) fun t42_131 => k127 t42_131 h124 (n125 + 1)) fun t42_128 h129 n130 => ifP t36_106 false h129 n130 (fun k132 => bindP (lenSl t42_128) fun t43_136 => k132 t43_136 h129 (n130 + 1)) fun t43_133 h134 n135 => ifP t36_106 false h134 n135 (fun k137 => bindP (intB .gtr t43_133 (Value.int IntKind.i64 0)) fun t44_141 => k137 t44_141 h134 (n135 + 1)) fun t44_138 h139 n140 => bindP (pickV t36_106 (Value.bool true) t44_138) fun t45_142 => condP t45_142 (∃ h143, Sub h143 h139 ∧ K (Value.bool false) h143 (n140 + 2)) (loopP (ref11_Right_L2 ro) (puts (entE [v0]) [(1, (ptr nx)), (2, (Value.bool false)), (6, t6_2), (7, t7_3), (8, t8_4), (9, t9_7), (10, t9_7), (11, t11_9), (12, t12_14), (13, t13_19), (14, t14_24), (15, t15_28), (16, t15_28), (17, t17_30), (18, t18_35), (19, t19_40), (20, t20_45), (21, t21_49), (22, t21_49), (23, t23_51), (24, t24_56), (25, t25_61), (26, t26_66), (27, t27_70), (28, t27_70), (29, t29_72), (30, t30_77), (31, t31_82), (32, t32_87), (33, t33_92), (34, t34_97), (35, t35_102), (36, t36_106), (37, t36_106), (38, t38_108), (39, t39_113), (40, t40_118), (41, t41_123), (42, t42_128), (43, t43_133), (44, t44_138), (45, t45_142), (3, (Value.int IntKind.i64 0))]) h139 (n140 + 2) fun x241 e238 h239 n240 => exP x241 (ref11_Right_j1 ro K e238 h239 n240) (fun i242 => beqP (Nat.beq i242 0) (ref11_Right_j1 ro K e238 h239 n240) (False)) (∃ h243, Sub h243 h239 ∧ K (e238 2) h243 n240))
theorem ref11_Right_eq (ro : Ro) (v0 : Value) (h : T Obj) (nx : Nat) (K : KV) : callPre Try.prog ro (callP Try.prog ro) Try.f17 [v0] h nx K = ref11_Right ro v0 h nx K := by kernel_rfl
theorem ref11_Right_of {ro : Ro} {v0 : Value} {h : T Obj} {nx : Nat} {K : KV} (hw : ref11_Right ro v0 h nx K) : callP Try.prog ro i_ref11_Right [v0] h nx K := callP_by (P := Try.prog) (fn := Try.f17) (by kernel_rfl) (by kernel_rfl) (by kernel_rfl) (Eq.mpr (ref11_Right_eq ro v0 h nx K) hw)
@[irreducible] def ref09_Right_j1 (ro : Ro) (K : KV) : Env → T Obj → Nat → Prop := fun e h nx => ∃ h45, Sub h45 h ∧ K (Value.bool true) h45 (nx + 1)
@[irreducible] def ref09_Right_L1 (ro : Ro) : PT := fun e h nx Q => bindP (fwdP 1 (e 1)) fun t19_46 => bindP (load1 ro h t19_46) fun t20_47 => bindP (lenSl t20_47) fun t21_48 => bindP (intB .lss (e 3) t21_48) fun t22_49 => condP t22_49 (bindP (fwdP 1 (e 1)) fun t25_50 => bindP (load1 ro h t25_50) fun t26_51 => bindP (ixSl 9 t26_51 (e 3)) fun t28_52 => bindP (loadA ro h 9 t28_52) fun t29_53 => bindP (zer Try.prog y_api_Pos) fun z54 => newP h (nx + 10) (.cells z54.cells y_api_Pos) fun h55 => bindP (storeN 9 h55 (ptr (nx + 10)) t29_53) fun h56 => bindP (fwdP 0 (ptr (nx + 10))) fun t30_57 => bindP (loadA ro h56 4 t30_57) fun t31_58 => bindP (buildV Try.prog y_api_Set []) fun t32_59 => bindP (plainTy Try.prog 20 y_api_Set) fun ks60 => bindP (aggB ks60 .eql t31_58 t32_59) fun t33_61 => ifP t33_61 false h56 (nx + 17) (fun k62 => bindP (fwdP 4 (ptr (nx + 10))) fun t35_66 => k62 t35_66 h56 (nx + 18)) fun t35_63 h64 n65 => ifP t33_61 false h64 n65 (fun k67 => bindP (load1 ro h64 t35_63) fun t36_71 => k67 t36_71 h64 (n65 + 1)) fun t36_68 h69 n70 => ifP t33_61 false h69 n70 (fun k72 => bindP (intB .lss t36_68 (Value.int IntKind.i64 1)) fun t37_76 => k72 t37_76 h69 (n70 + 1)) fun t37_73 h74 n75 => bindP (pickV t33_61 (Value.bool true) t37_73) fun t38_77 => ifP t38_77 false h74 (n75 + 2) (fun k78 => bindP (fwdP 4 (ptr (nx + 10))) fun t40_82 => k78 t40_82 h74 (n75 + 3)) fun t40_79 h80 n81 => ifP t38_77 false h80 n81 (fun k83 => bindP (load1 ro h80 t40_79) fun t41_87 => k83 t41_87 h80 (n81 + 1)) fun t41_84 h85 n86 => ifP t38_77 false h85 n86 (fun k88 => bindP (fwdP 5 (ptr (nx + 10))) fun t42_92 => k88 t42_92 h85 (n86 + 1)) fun t42_89 h90 n91 => ifP t38_77 false h90 n91 (fun k93 => bindP (load1 ro h90 t42_89) fun t43_97 => k93 t43_97 h90 (n91 + 1)) fun t43_94 h95 n96 => ifP t38_77 false h95 n96 (fun k98 => bindP (intB .gtr t41_84 t43_94) fun t44_102 => k98 t44_102 h95 (n96 + 1)) fun t44_99 h100 n101 => bindP (pickV t38_77 (Value.bool true) t44_99) fun t45_103 => ifP t45_103 false h100 (n101 + 2) (fun k104 => bindP (fwdP 5 (ptr (nx + 10))) fun t47_108 => k104 t47_108 h100 (n101 + 3)) fun t47_105 h106 n107 => ifP t45_103 false h106 n107 (fun k109 => bindP (load1 ro h106 t47_105) fun t48_113 => k109 t48_113 h106 (n107 + 1)) fun t48_110 h111 n112 => ifP t45_103 false h111 n112 (fun k114 => bindP (intB .gtr t48_110 (Value.int IntKind.i64 4096)) fun t49_118 => k114 t49_118 h111 (n112 + 1)) fun t49_115 h116 n117 => bindP (pickV t45_103 (Value.bool true) t49_115) fun t50_119 => ifP t50_119 false h116 (n117 + 2) (fun k120 => bindP (fwdP 6 (ptr (nx + 10))) fun t52_124 => k120 t52_124 h116 (n117 + 3)) fun t52_121 h122 n123 => ifP t50_119 false h122 n123 (fun k125 => bindP (load1 ro h122 t52_121) fun t53_129 => k125 t53_129 h122 (n123 + 1)) fun t53_126 h127 n128 => ifP t50_119 false h127 n128 (fun k130 => bindP (intB .lss t53_126 (Value.int IntKind.i64 0)) fun t54_134 => k130 t54_134 h127 (n128 + 1)) fun t54_131 h132 n133 => bindP (pickV t50_119 (Value.bool true) t54_131) fun t55_135 => ifP t55_135 false h132 (n133 + 2) (fun k136 => bindP (fwdP 6 (ptr (nx + 10))) fun t57_140 => k136 t57_140 h132 (n133 + 3)) fun t57_137 h138 n139 => ifP t55_135 false h138 n139 (fun k141 => bindP (load1 ro h138 t57_137) fun t58_145 => k141 t58_145 h138 (n139 + 1)) fun t58_142 h143 n144 => ifP t55_135 false h143 n144 (fun k146 => bindP (intB .geq t58_142 (Value.int IntKind.i64 512)) fun t59_150 => k146 t59_150 h143 (n144 + 1)) fun t59_147 h148 n149 => bindP (pickV t55_135 (Value.bool true) t59_147) fun t60_151 => ifP t60_151 false h148 (n149 + 2) (fun k152 => bindP (fwdP 8 (ptr (nx + 10))) fun t62_156 => k152 t62_156 h148 (n149 + 3)) fun t62_153 h154 n155 => ifP t60_151 false h154 n155 (fun k157 => bindP (load1 ro h154 t62_153) fun t63_161 => k157 t63_161 h154 (n155 + 1)) fun t63_158 h159 n160 => ifP t60_151 false h159 n160 (fun k162 => bindP (fwdP 1 (e 1)) fun t64_166 => k162 t64_166 h159 (n160 + 1)) fun t64_163 h164 n165 => ifP t60_151 false h164 n165 (fun k167 => bindP (load1 ro h164 t64_163) fun t65_171 => k167 t65_171 h164 (n165 + 1)) fun t65_168 h169 n170 => ifP t60_151 false h169 n170 (fun k172 => bindP (lenSl t65_168) fun t66_176 => k172 t66_176 h169 (n170 + 1)) fun t66_173 h174 n175 => ifP t60_151 false h174 n175 (fun k177 => callP Try.prog ro i_ref09_rises [t63_158, t66_173] h174 (n175 + 1) fun t67_181 h182 n183 => k177 t67_181 h182 n183) fun t67_178 h179 n180 => ifP t60_151 false h179 n180 (fun k184 => bindP (unV .not t67_178) fun t68_188 => k184 t68_188 h179 (n180 + 1)) fun t68_185 h186 n187 => bindP (pickV t60_151 (Value.bool true) t68_185) fun t69_189 => condP t69_189 (Q .ret (puts e [(18, (e 3)), (19, t19_46), (20, t20_47), (21, t21_48), (22, t22_49), (25, t25_50), (26, t26_51), (27, (e 3)), (28, t28_52), (29, t29_53), (4, (ptr (nx + 10))), (30, t30_57), (31, t31_58), (32, t32_59), (33, t33_61), (34, t33_61), (35, t35_63), (36, t36_68), (37, t37_73), (38, t38_77), (39, t38_77), (40, t40_79), (41, t41_84), (42, t42_89), (43, t43_94), (44, t44_99), (45, t45_103), (46, t45_103), (47, t47_105), (48, t48_110), (49, t49_115), (50, t50_119), (51, t50_119), (52, t52_121), (53, t53_126), (54, t54_131), (55, t55_135), (56, t55_135), (57, t57_137), (58, t58_142), (59, t59_147), (60, t60_151), (61, t60_151), (62, t62_153), (63, t63_158), (64, t64_163), (65, t65_168), (66, t66_173), (67, t67_178), (68, t68_185), (69, t69_189), (2, (Value.bool false))]) h186 (n187 + 2)) (bindP (intB .add (e 3) (Value.int IntKind.i64 1)) fun t24_190 => Q .normal (puts e [(18, (e 3)), (19, t19_46), (20, t20_47), (21, t21_48), (22, t22_49), (25, t25_50), (26, t26_51), (27, (e 3)), (28, t28_52), (29, t29_53), (4, (ptr (nx + 10))), (30, t30_57), (31, t31_58), (32, t32_59), (33, t33_61), (34, t33_61), (35, t35_63), (36, t36_68), (37, t37_73), (38, t38_77), (39, t38_77), (40, t40_79), (41, t41_84), (42, t42_89), (43, t43_94), (44, t44_99), (45, t45_103), (46, t45_103), (47, t47_105), (48, t48_110), (49, t49_115), (50, t50_119), (51, t50_119), (52, t52_121), (53, t53_126), (54, t54_131), (55, t55_135), (56, t55_135), (57, t57_137), (58, t58_142), (59, t59_147), (60, t60_151), (61, t60_151), (62, t62_153), (63, t63_158), (64, t64_163), (65, t65_168), (66, t66_173), (67, t67_178), (68, t68_185), (69, t69_189), (23, (e 3)), (24, t24_190), (3, t24_190)]) h186 (n187 + 4))) (Q (.exit 0) (puts e [(18, (e 3)), (19, t19_46), (20, t20_47), (21, t21_48), (22, t22_49)]) h (nx + 5))
@[irreducible] def ref09_Right (ro : Ro) (v0 : Value) (h : T Obj) (nx : Nat) (K : KV) : Prop := newP h nx (.cells (Value.cells v0) y_api_Glush) fun h1 => bindP (fwdP 1 (ptr nx)) fun t5_2 => bindP (load1 ro h1 t5_2) fun t6_3 => bindP (lenSl t6_3) fun t7_4 => bindP (intB .gtr t7_4 (Value.int IntKind.i64 512)) fun t8_5 => ifP t8_5 false h1 (nx + 7) (fun k6 => bindP (fwdP 0 (ptr nx)) fun t10_10 => k6 t10_10 h1 (nx + 8)) fun t10_7 h8 n9 => ifP t8_5 false h8 n9 (fun k11 => bindP (load1 ro h8 t10_7) fun t11_15 => k11 t11_15 h8 (n9 + 1)) fun t11_12 h13 n14 => ifP t8_5 false h13 n14 (fun k16 => bindP (fwdP 1 (ptr nx)) fun t12_20 => k16 t12_20 h13 (n14 + 1)) fun t12_17 h18 n19 => ifP t8_5 false h18 n19 (fun k21 => bindP (load1 ro h18 t12_17) fun t13_25 => k21 t13_25 h18 (n19 + 1)) fun t13_22 h23 n24 => ifP t8_5 false h23 n24 (fun k26 => bindP (lenSl t13_22) fun t14_30 => k26 t14_30 h23 (n24 + 1)) fun t14_27 h28 n29 => ifP t8_5 false h28 n29 (fun k31 => callP Try.prog ro i_ref09_rises [t11_12, t14_27] h28 (n29 + 1) fun t15_35 h36 n37 => k31 t15_35 h36 n37) fun t15_32 h33 n34 => ifP t8_5 false h33 n34 (fun k38 => bindP (unV .not t15_32) fun t16_42 => k38 t16_42 h33 (n34 + 1)) fun t16_39 h40 n41 => bindP (pickV t8_5 (Value.bool true) t16_39) fun t17_43 => condP t17_43 (∃ h44, Sub h44 h40 ∧ K (Value.bool false) h44 (n41 + 2)) (loopP (ref09_Right_L1 ro) (puts (entE [v0]) [(1, (ptr nx)), (2, (Value.bool false)), (5, t5_2), (6, t6_3), (7, t7_4), (8, t8_5), (9, t8_5), (10, t10_7), (11, t11_12), (12, t12_17), (13, t13_22), (14, t14_27), (15, t15_32), (16, t16_39), (17, t17_43), (3, (Value.int IntKind.i64 0))]) h40 (n41 + 2) fun x194 e191 h192 n193 => exP x194 (ref09_Right_j1 ro K e191 h192 n193) (fun i195 => beqP (Nat.beq i195 0) (ref09_Right_j1 ro K e191 h192 n193) (False)) (∃ h196, Sub h196 h192 ∧ K (e191 2) h196 n193))
theorem ref09_Right_eq (ro : Ro) (v0 : Value) (h : T Obj) (nx : Nat) (K : KV) : callPre Try.prog ro (callP Try.prog ro) Try.f23 [v0] h nx K = ref09_Right ro v0 h nx K := by kernel_rfl
theorem ref09_Right_of {ro : Ro} {v0 : Value} {h : T Obj} {nx : Nat} {K : KV} (hw : ref09_Right ro v0 h nx K) : callP Try.prog ro i_ref09_Right [v0] h nx K := callP_by (P := Try.prog) (fn := Try.f23) (by kernel_rfl) (by kernel_rfl) (by kernel_rfl) (Eq.mpr (ref09_Right_eq ro v0 h nx K) hw)
@[irreducible] def ref11_state_j1 (ro : Ro) (K : KV) : Env → T Obj → Nat → Prop := fun e h nx => ∃ h122, Sub h122 h ∧ K (Value.bool true) h122 (nx + 1)
@[irreducible] def ref11_state_j2 (ro : Ro) (Q : KE) : Env → T Obj → Nat → Prop := fun e h nx => bindP (intB .add (e 6) (Value.int IntKind.i64 1)) fun t47_124 => Q .normal (puts e [(46, (e 6)), (47, t47_124), (6, t47_124)]) h (nx + 3)
@[irreducible] def ref11_state_L2 (ro : Ro) : PT := fun e h nx Q => bindP (fwdP 3 (e 3)) fun t75_210 => bindP (load1 ro h t75_210) fun t76_211 => bindP (ixSl 1 t76_211 (e 6)) fun t78_212 => bindP (load1 ro h t78_212) fun t79_213 => bindP (lenSl t79_213) fun t80_214 => bindP (intB .lss (e 7) t80_214) fun t81_215 => condP t81_215 (bindP (loadA ro h 259 (e 2)) fun t84_216 => bindP (loadA ro h 4 (e 3)) fun t85_217 => bindP (fwdP 3 (e 3)) fun t86_218 => bindP (load1 ro h t86_218) fun t87_219 => bindP (ixSl 1 t87_219 (e 6)) fun t89_220 => bindP (load1 ro h t89_220) fun t90_221 => bindP (ixSl 2 t90_221 (e 7)) fun t92_222 => bindP (loadA ro h 2 t92_222) fun t93_223 => callP Try.prog ro i_ref11_move [t84_216, t85_217, t93_223] h (nx + 20) fun t94_224 h225 n226 => bindP (unV .not t94_224) fun t95_227 => condP t95_227 (Q .ret (puts e [(74, (e 7)), (75, t75_210), (76, t76_211), (77, (e 6)), (78, t78_212), (79, t79_213), (80, t80_214), (81, t81_215), (84, t84_216), (85, t85_217), (86, t86_218), (87, t87_219), (88, (e 6)), (89, t89_220), (90, t90_221), (91, (e 7)), (92, t92_222), (93, t93_223), (94, t94_224), (95, t95_227), (4, (Value.bool false))]) h225 (n226 + 1)) (bindP (intB .add (e 7) (Value.int IntKind.i64 1)) fun t83_228 => Q .normal (puts e [(74, (e 7)), (75, t75_210), (76, t76_211), (77, (e 6)), (78, t78_212), (79, t79_213), (80, t80_214), (81, t81_215), (84, t84_216), (85, t85_217), (86, t86_218), (87, t87_219), (88, (e 6)), (89, t89_220), (90, t90_221), (91, (e 7)), (92, t92_222), (93, t93_223), (94, t94_224), (95, t95_227), (82, (e 7)), (83, t83_228), (7, t83_228)]) h225 (n226 + 3))) (Q (.exit 2) (puts e [(74, (e 7)), (75, t75_210), (76, t76_211), (77, (e 6)), (78, t78_212), (79, t79_213), (80, t80_214), (81, t81_215)]) h (nx + 8))
@[irreducible] def ref11_state_L1 (ro : Ro) : PT := fun e h nx Q => bindP (intB .lss (e 6) (e 5)) fun t45_123 => condP t45_123 (bindP (fwdP 2 (e 3)) fun t48_125 => bindP (load1 ro h t48_125) fun t49_126 => bindP (ixSl 1 t49_126 (e 6)) fun t51_127 => bindP (load1 ro h t51_127) fun t52_128 => bindP (intB .lss t52_128 (Value.int IntKind.i64 (-1))) fun t53_129 => ifP t53_129 false h (nx + 29) (fun k130 => bindP (fwdP 2 (e 3)) fun t55_134 => k130 t55_134 h (nx + 29)) fun t55_131 h132 n133 => ifP t53_129 false h132 n133 (fun k135 => bindP (load1 ro h132 t55_131) fun t56_139 => k135 t56_139 h132 n133) fun t56_136 h137 n138 => ifP t53_129 false h137 n138 (fun k140 => k140 (e 6) h137 n138) fun t57_141 h142 n143 => ifP t53_129 false h142 n143 (fun k144 => bindP (ixSl 1 t56_136 t57_141) fun t58_148 => k144 t58_148 h142 n143) fun t58_145 h146 n147 => ifP t53_129 false h146 n147 (fun k149 => bindP (load1 ro h146 t58_145) fun t59_153 => k149 t59_153 h146 n147) fun t59_150 h151 n152 => ifP t53_129 false h151 n152 (fun k154 => bindP (intB .geq t59_150 (Value.int IntKind.i64 512)) fun t60_158 => k154 t60_158 h151 n152) fun t60_155 h156 n157 => bindP (pickV t53_129 (Value.bool true) t60_155) fun t61_159 => ifP t61_159 false h156 n157 (fun k160 => bindP (fwdP 3 (e 3)) fun t63_164 => k160 t63_164 h156 n157) fun t63_161 h162 n163 => ifP t61_159 false h162 n163 (fun k165 => bindP (load1 ro h162 t63_161) fun t64_169 => k165 t64_169 h162 n163) fun t64_166 h167 n168 => ifP t61_159 false h167 n168 (fun k170 => k170 (e 6) h167 n168) fun t65_171 h172 n173 => ifP t61_159 false h172 n173 (fun k174 => bindP (ixSl 1 t64_166 t65_171) fun t66_178 => k174 t66_178 h172 n173) fun t66_175 h176 n177 => ifP t61_159 false h176 n177 (fun k179 => bindP (load1 ro h176 t66_175) fun t67_183 => k179 t67_183 h176 n177) fun t67_180 h181 n182 => ifP t61_159 false h181 n182 (fun k184 => bindP (lenSl t67_180) fun t68_188 => k184 t68_188 h181 n182) fun t68_185 h186 n187 => ifP t61_159 false h186 n187 (fun k189 => bindP (fwdP 0 (e 2)) fun t69_193 => k189 t69_193 h186 n187) fun t69_190 h191 n192 => ifP t61_159 false h191 n192 (fun k194 => bindP (fwdP 256 t69_190) fun t70_198 => k194 t70_198 h191 n192) fun t70_195 h196 n197 => ifP t61_159 false h196 n197 (fun k199 => bindP (load1 ro h196 t70_195) fun t71_203 => k199 t71_203 h196 n197) fun t71_200 h201 n202 => ifP t61_159 false h201 n202 (fun k204 => bindP (intB .neq t68_185 t71_200) fun t72_208 => k204 t72_208 h201 n202) fun t72_205 h206 n207 => bindP (pickV t61_159 (Value.bool true) t72_205) fun t73_209 => condP t73_209 (Q .ret (puts e [(43, (e 6)), (44, (e 5)), (45, t45_123), (48, t48_125), (49, t49_126), (50, (e 6)), (51, t51_127), (52, t52_128), (53, t53_129), (54, t53_129), (55, t55_131), (56, t56_136), (57, t57_141), (58, t58_145), (59, t59_150), (60, t60_155), (61, t61_159), (62, t61_159), (63, t63_161), (64, t64_166), (65, t65_171), (66, t66_175), (67, t67_180), (68, t68_185), (69, t69_190), (70, t70_195), (71, t71_200), (72, t72_205), (73, t73_209), (4, (Value.bool false))]) h206 (n207 + 1)) (loopP (ref11_state_L2 ro) (puts e [(43, (e 6)), (44, (e 5)), (45, t45_123), (48, t48_125), (49, t49_126), (50, (e 6)), (51, t51_127), (52, t52_128), (53, t53_129), (54, t53_129), (55, t55_131), (56, t56_136), (57, t57_141), (58, t58_145), (59, t59_150), (60, t60_155), (61, t61_159), (62, t61_159), (63, t63_161), (64, t64_166), (65, t65_171), (66, t66_175), (67, t67_180), (68, t68_185), (69, t69_190), (70, t70_195), (71, t71_200), (72, t72_205), (73, t73_209), (7, (Value.int IntKind.i64 0))]) h206 (n207 + 1) fun x232 e229 h230 n231 => exP x232 (ref11_state_j2 ro Q e229 h230 n231) (fun i233 => beqP (Nat.beq i233 2) (ref11_state_j2 ro Q e229 h230 n231) (beqP (Nat.beq i233 1) (ref11_state_j2 ro Q e229 h230 n231) (Q (.exit i233) e229 h230 n231))) (Q .ret e229 h230 n231))) (Q (.exit 0) (puts e [(43, (e 6)), (44, (e 5)), (45, t45_123)]) h (nx + 3))
@[irreducible] def ref11_state (ro : Ro) (v0 v1 : Value) (h : T Obj) (nx : Nat) (K : KV) : Prop := newP h nx (.cells (Value.cells v0) y_api_Auto) fun h1 => newP h1 (nx + 1) (.cells (Value.cells v1) y_api_State) fun h2 => bindP (fwdP 1 (ptr (nx + 1))) fun t8_3 => bindP (load1 ro h2 t8_3) fun t9_4 => bindP (lenSl t9_4) fun t10_5 => callP Try.prog ro i_ref11_Codes [t10_5] h2 (nx + 7) fun t11_6 h7 n8 => bindP (intB .eql t11_6 (Value.int IntKind.i64 0)) fun t13_9 => ifP t13_9 false h7 (n8 + 4) (fun k10 => bindP (fwdP 0 (ptr (nx + 1))) fun t15_14 => k10 t15_14 h7 (n8 + 5)) fun t15_11 h12 n13 => ifP t13_9 false h12 n13 (fun k15 => bindP (load1 ro h12 t15_11) fun t16_19 => k15 t16_19 h12 (n13 + 1)) fun t16_16 h17 n18 => ifP t13_9 false h17 n18 (fun k20 => callP Try.prog ro i_ref11_rises [t16_16, (Value.int IntKind.i64 512)] h17 (n18 + 1) fun t17_24 h25 n26 => k20 t17_24 h25 n26) fun t17_21 h22 n23 => ifP t13_9 false h22 n23 (fun k27 => bindP (unV .not t17_21) fun t18_31 => k27 t18_31 h22 (n23 + 1)) fun t18_28 h29 n30 => bindP (pickV t13_9 (Value.bool true) t18_28) fun t19_32 => ifP t19_32 false h29 (n30 + 2) (fun k33 => bindP (fwdP 1 (ptr (nx + 1))) fun t21_37 => k33 t21_37 h29 (n30 + 3)) fun t21_34 h35 n36 => ifP t19_32 false h35 n36 (fun k38 => bindP (load1 ro h35 t21_34) fun t22_42 => k38 t22_42 h35 (n36 + 1)) fun t22_39 h40 n41 => ifP t19_32 false h40 n41 (fun k43 => bindP (fwdP 257 (ptr nx)) fun t23_47 => k43 t23_47 h40 (n41 + 1)) fun t23_44 h45 n46 => ifP t19_32 false h45 n46 (fun k48 => bindP (load1 ro h45 t23_44) fun t24_52 => k48 t24_52 h45 (n46 + 1)) fun t24_49 h50 n51 => ifP t19_32 false h50 n51 (fun k53 => bindP (lenSl t24_49) fun t25_57 => k53 t25_57 h50 (n51 + 1)) fun t25_54 h55 n56 => ifP t19_32 false h55 n56 (fun k58 => callP Try.prog ro i_ref11_rises [t22_39, t25_54] h55 (n56 + 1) fun t26_62 h63 n64 => k58 t26_62 h63 n64) fun t26_59 h60 n61 => ifP t19_32 false h60 n61 (fun k65 => bindP (unV .not t26_59) fun t27_69 => k65 t27_69 h60 (n61 + 1)) fun t27_66 h67 n68 => bindP (pickV t19_32 (Value.bool true) t27_66) fun t28_70 => ifP t28_70 false h67 (n68 + 2) (fun k71 => bindP (fwdP 2 (ptr (nx + 1))) fun t30_75 => k71 t30_75 h67 (n68 + 3)) fun t30_72 h73 n74 => ifP t28_70 false h73 n74 (fun k76 => bindP (load1 ro h73 t30_72) fun t31_80 => k76 t31_80 h73 (n74 + 1)) fun t31_77 h78 n79 => ifP t28_70 false h78 n79 (fun k81 => bindP (lenSl t31_77) fun t32_85 => k81 t32_85 h78 (n79 + 1)) fun t32_82 h83 n84 => ifP t28_70 false h83 n84 (fun k86 => k86 t11_6 h83 (n84 + 1)) fun t33_87 h88 n89 => ifP t28_70 false h88 n89 (fun k90 => bindP (intB .neq t32_82 t33_87) fun t34_94 => k90 t34_94 h88 (n89 + 1)) fun t34_91 h92 n93 => bindP (pickV t28_70 (Value.bool true) t34_91) fun t35_95 => ifP t35_95 false h92 (n93 + 2) (fun k96 => bindP (fwdP 3 (ptr (nx + 1))) fun t37_100 => k96 t37_100 h92 (n93 + 3)) fun t37_97 h98 n99 => ifP t35_95 false h98 n99 (fun k101 => bindP (load1 ro h98 t37_97) fun t38_105 => k101 t38_105 h98 (n99 + 1)) fun t38_102 h103 n104 => ifP t35_95 false h103 n104 (fun k106 => bindP (lenSl t38_102) fun t39_110 => k106 t39_110 h103 (n104 + 1)) fun t39_107 h108 n109 => ifP t35_95 false h108 n109 (fun k111 => k111 t11_6 h108 (n109 + 1)) fun t40_112 h113 n114 => ifP t35_95 false h113 n114 (fun k115 => bindP (intB .neq t39_107 t40_112) fun t41_119 => k115 t41_119 h113 (n114 + 1)) fun t41_116 h117 n118 => bindP (pickV t35_95 (Value.bool true) t41_116) fun t42_120 => condP t42_120 (∃ h121, Sub h121 h117 ∧ K (Value.bool false) h121 (n118 + 2)) (loopP (ref11_state_L1 ro) (puts (entE [v0, v1]) [(2, (ptr nx)), (3, (ptr (nx + 1))), (4, (Value.bool false)), (8, t8_3), (9, t9_4), (10, t10_5), (11, t11_6), (5, t11_6), (12, t11_6), (13, t13_9), (14, t13_9), (15, t15_11), (16, t16_16), (17, t17_21), (18, t18_28), (19, t19_32), (20, t19_32), (21, t21_34), (22, t22_39), (23, t23_44), (24, t24_49), (25, t25_54), (26, t26_59), (27, t27_66), (28, t28_70), (29, t28_70), (30, t30_72), (31, t31_77), (32, t32_82), (33, t33_87), (34, t34_91), (35, t35_95), (36, t35_95), (37, t37_97), (38, t38_102), (39, t39_107), (40, t40_112), (41, t41_116), (42, t42_120), (6, (Value.int IntKind.i64 0))]) h117 (n118 + 2) fun x237 e234 h235 n236 => exP x237 (ref11_state_j1 ro K e234 h235 n236) (fun i238 => beqP (Nat.beq i238 0) (ref11_state_j1 ro K e234 h235 n236) (False)) (∃ h239, Sub h239 h235 ∧ K (e234 4) h239 n236))
theorem ref11_state_eq (ro : Ro) (v0 v1 : Value) (h : T Obj) (nx : Nat) (K : KV) : callPre Try.prog ro (callP Try.prog ro) Try.f35 [v0, v1] h nx K = ref11_state ro v0 v1 h nx K := by kernel_rfl
theorem ref11_state_of {ro : Ro} {v0 v1 : Value} {h : T Obj} {nx : Nat} {K : KV} (hw : ref11_state ro v0 v1 h nx K) : callP Try.prog ro i_ref11_state [v0, v1] h nx K := callP_by (P := Try.prog) (fn := Try.f35) (by kernel_rfl) (by kernel_rfl) (by kernel_rfl) (Eq.mpr (ref11_state_eq ro v0 v1 h nx K) hw)
@[irreducible] def ref09_rises_j1 (ro : Ro) (K : KV) : Env → T Obj → Nat → Prop := fun e h nx => ∃ h1, Sub h1 h ∧ K (Value.bool true) h1 (nx + 1)
@[irreducible] def ref09_rises_L1 (ro : Ro) : PT := fun e h nx Q => bindP (lenSl (e 0)) fun t8_2 => bindP (intB .lss (e 5) t8_2) fun t9_3 => condP t9_3 (bindP (ixSl 1 (e 0) (e 5)) fun t14_4 => bindP (load1 ro h t14_4) fun t15_5 => bindP (intB .lss t15_5 (Value.int IntKind.i64 0)) fun t16_6 => ifP t16_6 false h (nx + 33) (fun k7 => k7 (e 0) h (nx + 33)) fun t18_8 h9 n10 => ifP t16_6 false h9 n10 (fun k11 => k11 (e 5) h9 n10) fun t19_12 h13 n14 => ifP t16_6 false h13 n14 (fun k15 => bindP (ixSl 1 t18_8 t19_12) fun t20_19 => k15 t20_19 h13 n14) fun t20_16 h17 n18 => ifP t16_6 false h17 n18 (fun k20 => bindP (load1 ro h17 t20_16) fun t21_24 => k20 t21_24 h17 n18) fun t21_21 h22 n23 => ifP t16_6 false h22 n23 (fun k25 => k25 (e 1) h22 n23) fun t22_26 h27 n28 => ifP t16_6 false h27 n28 (fun k29 => bindP (intB .geq t21_21 t22_26) fun t23_33 => k29 t23_33 h27 n28) fun t23_30 h31 n32 => bindP (pickV t16_6 (Value.bool true) t23_30) fun t24_34 => ifP t24_34 false h31 n32 (fun k35 => k35 (e 5) h31 n32) fun t26_36 h37 n38 => ifP t24_34 false h37 n38 (fun k39 => bindP (intB .gtr t26_36 (Value.int IntKind.i64 0)) fun t27_43 => k39 t27_43 h37 n38) fun t27_40 h41 n42 => ifP t24_34 false h41 n42 (fun k44 => k44 t27_40 h41 n42) fun t28_45 h46 n47 => ifP t28_45 true h46 n47 (fun k48 => k48 (e 0) h46 n47) fun t29_49 h50 n51 => ifP t28_45 true h50 n51 (fun k52 => k52 (e 5) h50 n51) fun t30_53 h54 n55 => ifP t28_45 true h54 n55 (fun k56 => bindP (intB .sub t30_53 (Value.int IntKind.i64 1)) fun t31_60 => k56 t31_60 h54 n55) fun t31_57 h58 n59 => ifP t28_45 true h58 n59 (fun k61 => bindP (ixSl 1 t29_49 t31_57) fun t32_65 => k61 t32_65 h58 n59) fun t32_62 h63 n64 => ifP t28_45 true h63 n64 (fun k66 => bindP (load1 ro h63 t32_62) fun t33_70 => k66 t33_70 h63 n64) fun t33_67 h68 n69 => ifP t28_45 true h68 n69 (fun k71 => k71 (e 0) h68 n69) fun t34_72 h73 n74 => ifP t28_45 true h73 n74 (fun k75 => k75 (e 5) h73 n74) fun t35_76 h77 n78 => ifP t28_45 true h77 n78 (fun k79 => bindP (ixSl 1 t34_72 t35_76) fun t36_83 => k79 t36_83 h77 n78) fun t36_80 h81 n82 => ifP t28_45 true h81 n82 (fun k84 => bindP (load1 ro h81 t36_80) fun t37_88 => k84 t37_88 h81 n82) fun t37_85 h86 n87 => ifP t28_45 true h86 n87 (fun k89 => bindP (intB .geq t33_67 t37_85) fun t38_93 => k89 t38_93 h86 n87) fun t38_90 h91 n92 => ifP t24_34 false h91 n92 (fun k94 => bindP (pickV t28_45 t38_90 (Value.bool false)) fun t39_98 => k94 t39_98 h91 n92) fun t39_95 h96 n97 => bindP (pickV t24_34 (Value.bool true) t39_95) fun t40_99 => condP t40_99 (Q .ret (puts e [(6, (e 5)), (7, (e 0)), (8, t8_2), (9, t9_3), (12, (e 0)), (13, (e 5)), (14, t14_4), (15, t15_5), (16, t16_6), (17, t16_6), (18, t18_8), (19, t19_12), (20, t20_16), (21, t21_21), (22, t22_26), (23, t23_30), (24, t24_34), (25, t24_34), (26, t26_36), (27, t27_40), (28, t28_45), (29, t29_49), (30, t30_53), (31, t31_57), (32, t32_62), (33, t33_67), (34, t34_72), (35, t35_76), (36, t36_80), (37, t37_85), (38, t38_90), (39, t39_95), (40, t40_99), (4, (Value.bool false))]) h96 (n97 + 1)) (bindP (intB .add (e 5) (Value.int IntKind.i64 1)) fun t11_100 => Q .normal (puts e [(6, (e 5)), (7, (e 0)), (8, t8_2), (9, t9_3), (12, (e 0)), (13, (e 5)), (14, t14_4), (15, t15_5), (16, t16_6), (17, t16_6), (18, t18_8), (19, t19_12), (20, t20_16), (21, t21_21), (22, t22_26), (23, t23_30), (24, t24_34), (25, t24_34), (26, t26_36), (27, t27_40), (28, t28_45), (29, t29_49), (30, t30_53), (31, t31_57), (32, t32_62), (33, t33_67), (34, t34_72), (35, t35_76), (36, t36_80), (37, t37_85), (38, t38_90), (39, t39_95), (40, t40_99), (10, (e 5)), (11, t11_100), (5, t11_100)]) h96 (n97 + 3))) (Q (.exit 0) (puts e [(6, (e 5)), (7, (e 0)), (8, t8_2), (9, t9_3)]) h (nx + 4))
@[irreducible] def ref09_rises (ro : Ro) (v0 v1 : Value) (h : T Obj) (nx : Nat) (K : KV) : Prop := loopP (ref09_rises_L1 ro) (puts (entE [v0, v1]) [(4, (Value.bool false)), (5, (Value.int IntKind.i64 0))]) h (nx + 2) fun x104 e101 h102 n103 => exP x104 (ref09_rises_j1 ro K e101 h102 n103) (fun i105 => beqP (Nat.beq i105 0) (ref09_rises_j1 ro K e101 h102 n103) (False)) (∃ h106, Sub h106 h102 ∧ K (e101 4) h106 n103)
theorem ref09_rises_eq (ro : Ro) (v0 v1 : Value) (h : T Obj) (nx : Nat) (K : KV) : callPre Try.prog ro (callP Try.prog ro) Try.f45 [v0, v1] h nx K = ref09_rises ro v0 v1 h nx K := by kernel_rfl
theorem ref09_rises_of {ro : Ro} {v0 v1 : Value} {h : T Obj} {nx : Nat} {K : KV} (hw : ref09_rises ro v0 v1 h nx K) : callP Try.prog ro i_ref09_rises [v0, v1] h nx K := callP_by (P := Try.prog) (fn := Try.f45) (by kernel_rfl) (by kernel_rfl) (by kernel_rfl) (Eq.mpr (ref09_rises_eq ro v0 v1 h nx K) hw)
@[irreducible] def ref11_rises_j1 (ro : Ro) (K : KV) : Env → T Obj → Nat → Prop := fun e h nx => ∃ h1, Sub h1 h ∧ K (Value.bool true) h1 (nx + 1)
@[irreducible] def ref11_rises_L1 (ro : Ro) : PT := fun e h nx Q => bindP (lenSl (e 0)) fun t8_2 => bindP (intB .lss (e 5) t8_2) fun t9_3 => condP t9_3 (bindP (ixSl 1 (e 0) (e 5)) fun t14_4 => bindP (load1 ro h t14_4) fun t15_5 => bindP (intB .lss t15_5 (Value.int IntKind.i64 0)) fun t16_6 => ifP t16_6 false h (nx + 33) (fun k7 => k7 (e 0) h (nx + 33)) fun t18_8 h9 n10 => ifP t16_6 false h9 n10 (fun k11 => k11 (e 5) h9 n10) fun t19_12 h13 n14 => ifP t16_6 false h13 n14 (fun k15 => bindP (ixSl 1 t18_8 t19_12) fun t20_19 => k15 t20_19 h13 n14) fun t20_16 h17 n18 => ifP t16_6 false h17 n18 (fun k20 => bindP (load1 ro h17 t20_16) fun t21_24 => k20 t21_24 h17 n18) fun t21_21 h22 n23 => ifP t16_6 false h22 n23 (fun k25 => k25 (e 1) h22 n23) fun t22_26 h27 n28 => ifP t16_6 false h27 n28 (fun k29 => bindP (intB .geq t21_21 t22_26) fun t23_33 => k29 t23_33 h27 n28) fun t23_30 h31 n32 => bindP (pickV t16_6 (Value.bool true) t23_30) fun t24_34 => ifP t24_34 false h31 n32 (fun k35 => k35 (e 5) h31 n32) fun t26_36 h37 n38 => ifP t24_34 false h37 n38 (fun k39 => bindP (intB .gtr t26_36 (Value.int IntKind.i64 0)) fun t27_43 => k39 t27_43 h37 n38) fun t27_40 h41 n42 => ifP t24_34 false h41 n42 (fun k44 => k44 t27_40 h41 n42) fun t28_45 h46 n47 => ifP t28_45 true h46 n47 (fun k48 => k48 (e 0) h46 n47) fun t29_49 h50 n51 => ifP t28_45 true h50 n51 (fun k52 => k52 (e 5) h50 n51) fun t30_53 h54 n55 => ifP t28_45 true h54 n55 (fun k56 => bindP (intB .sub t30_53 (Value.int IntKind.i64 1)) fun t31_60 => k56 t31_60 h54 n55) fun t31_57 h58 n59 => ifP t28_45 true h58 n59 (fun k61 => bindP (ixSl 1 t29_49 t31_57) fun t32_65 => k61 t32_65 h58 n59) fun t32_62 h63 n64 => ifP t28_45 true h63 n64 (fun k66 => bindP (load1 ro h63 t32_62) fun t33_70 => k66 t33_70 h63 n64) fun t33_67 h68 n69 => ifP t28_45 true h68 n69 (fun k71 => k71 (e 0) h68 n69) fun t34_72 h73 n74 => ifP t28_45 true h73 n74 (fun k75 => k75 (e 5) h73 n74) fun t35_76 h77 n78 => ifP t28_45 true h77 n78 (fun k79 => bindP (ixSl 1 t34_72 t35_76) fun t36_83 => k79 t36_83 h77 n78) fun t36_80 h81 n82 => ifP t28_45 true h81 n82 (fun k84 => bindP (load1 ro h81 t36_80) fun t37_88 => k84 t37_88 h81 n82) fun t37_85 h86 n87 => ifP t28_45 true h86 n87 (fun k89 => bindP (intB .geq t33_67 t37_85) fun t38_93 => k89 t38_93 h86 n87) fun t38_90 h91 n92 => ifP t24_34 false h91 n92 (fun k94 => bindP (pickV t28_45 t38_90 (Value.bool false)) fun t39_98 => k94 t39_98 h91 n92) fun t39_95 h96 n97 => bindP (pickV t24_34 (Value.bool true) t39_95) fun t40_99 => condP t40_99 (Q .ret (puts e [(6, (e 5)), (7, (e 0)), (8, t8_2), (9, t9_3), (12, (e 0)), (13, (e 5)), (14, t14_4), (15, t15_5), (16, t16_6), (17, t16_6), (18, t18_8), (19, t19_12), (20, t20_16), (21, t21_21), (22, t22_26), (23, t23_30), (24, t24_34), (25, t24_34), (26, t26_36), (27, t27_40), (28, t28_45), (29, t29_49), (30, t30_53), (31, t31_57), (32, t32_62), (33, t33_67), (34, t34_72), (35, t35_76), (36, t36_80), (37, t37_85), (38, t38_90), (39, t39_95), (40, t40_99), (4, (Value.bool false))]) h96 (n97 + 1)) (bindP (intB .add (e 5) (Value.int IntKind.i64 1)) fun t11_100 => Q .normal (puts e [(6, (e 5)), (7, (e 0)), (8, t8_2), (9, t9_3), (12, (e 0)), (13, (e 5)), (14, t14_4), (15, t15_5), (16, t16_6), (17, t16_6), (18, t18_8), (19, t19_12), (20, t20_16), (21, t21_21), (22, t22_26), (23, t23_30), (24, t24_34), (25, t24_34), (26, t26_36), (27, t27_40), (28, t28_45), (29, t29_49), (30, t30_53), (31, t31_57), (32, t32_62), (33, t33_67), (34, t34_72), (35, t35_76), (36, t36_80), (37, t37_85), (38, t38_90), (39, t39_95), (40, t40_99), (10, (e 5)), (11, t11_100), (5, t11_100)]) h96 (n97 + 3))) (Q (.exit 0) (puts e [(6, (e 5)), (7, (e 0)), (8, t8_2), (9, t9_3)]) h (nx + 4))
@[irreducible] def ref11_rises (ro : Ro) (v0 v1 : Value) (h : T Obj) (nx : Nat) (K : KV) : Prop := loopP (ref11_rises_L1 ro) (puts (entE [v0, v1]) [(4, (Value.bool false)), (5, (Value.int IntKind.i64 0))]) h (nx + 2) fun x104 e101 h102 n103 => exP x104 (ref11_rises_j1 ro K e101 h102 n103) (fun i105 => beqP (Nat.beq i105 0) (ref11_rises_j1 ro K e101 h102 n103) (False)) (∃ h106, Sub h106 h102 ∧ K (e101 4) h106 n103)
theorem ref11_rises_eq (ro : Ro) (v0 v1 : Value) (h : T Obj) (nx : Nat) (K : KV) : callPre Try.prog ro (callP Try.prog ro) Try.f69 [v0, v1] h nx K = ref11_rises ro v0 v1 h nx K := by kernel_rfl
theorem ref11_rises_of {ro : Ro} {v0 v1 : Value} {h : T Obj} {nx : Nat} {K : KV} (hw : ref11_rises ro v0 v1 h nx K) : callP Try.prog ro i_ref11_rises [v0, v1] h nx K := callP_by (P := Try.prog) (fn := Try.f69) (by kernel_rfl) (by kernel_rfl) (by kernel_rfl) (Eq.mpr (ref11_rises_eq ro v0 v1 h nx K) hw)
@[irreducible] def ref11_move_j1 (ro : Ro) (K : KV) : Env → T Obj → Nat → Prop := fun e h nx => ∃ h108, Sub h108 h ∧ K (Value.bool true) h108 (nx + 1)
@[irreducible] def ref11_move_L1 (ro : Ro) : PT := fun e h nx Q => bindP (fwdP 1 (e 5)) fun t41_109 => bindP (load1 ro h t41_109) fun t42_110 => bindP (lenSl t42_110) fun t43_111 => bindP (intB .lss (e 7) t43_111) fun t44_112 => condP t44_112 (bindP (fwdP 1 (e 5)) fun t47_113 => bindP (load1 ro h t47_113) fun t48_114 => bindP (ixSl 1 t48_114 (e 7)) fun t50_115 => bindP (load1 ro h t50_115) fun t51_116 => bindP (intB .lss t51_116 (Value.int IntKind.u8 1)) fun t52_117 => ifP t52_117 false h (nx + 43) (fun k118 => bindP (fwdP 1 (e 5)) fun t54_122 => k118 t54_122 h (nx + 43)) fun t54_119 h120 n121 => ifP t52_117 false h120 n121 (fun k123 => bindP (load1 ro h120 t54_119) fun t55_127 => k123 t55_127 h120 n121) fun t55_124 h125 n126 => ifP t52_117 false h125 n126 (fun k128 => k128 (e 7) h125 n126) fun t56_129 h130 n131 => ifP t52_117 false h130 n131 (fun k132 => bindP (ixSl 1 t55_124 t56_129) fun t57_136 => k132 t57_136 h130 n131) fun t57_133 h134 n135 => ifP t52_117 false h134 n135 (fun k137 => bindP (load1 ro h134 t57_133) fun t58_141 => k137 t58_141 h134 n135) fun t58_138 h139 n140 => ifP t52_117 false h139 n140 (fun k142 => bindP (intB .gtr t58_138 (Value.int IntKind.u8 3)) fun t59_146 => k142 t59_146 h139 n140) fun t59_143 h144 n145 => bindP (pickV t52_117 (Value.bool true) t59_143) fun t60_147 => ifP t60_147 false h144 n145 (fun k148 => bindP (fwdP 1 (e 5)) fun t62_152 => k148 t62_152 h144 n145) fun t62_149 h150 n151 => ifP t60_147 false h150 n151 (fun k153 => bindP (load1 ro h150 t62_149) fun t63_157 => k153 t63_157 h150 n151) fun t63_154 h155 n156 => ifP t60_147 false h155 n156 (fun k158 => k158 (e 7) h155 n156) fun t64_159 h160 n161 => ifP t60_147 false h160 n161 (fun k162 => bindP (ixSl 1 t63_154 t64_159) fun t65_166 => k162 t65_166 h160 n161) fun t65_163 h164 n165 => ifP t60_147 false h164 n165 (fun k167 => bindP (load1 ro h164 t65_163) fun t66_171 => k167 t66_171 h164 n165) fun t66_168 h169 n170 => ifP t60_147 false h169 n170 (fun k172 => bindP (intB .neq t66_168 (Value.int IntKind.u8 3)) fun t67_176 => k172 t67_176 h169 n170) fun t67_173 h174 n175 => ifP t60_147 false h174 n175 (fun k177 => k177 t67_173 h174 n175) fun t68_178 h179 n180 => ifP t68_178 true h179 n180 (fun k181 => bindP (fwdP 1 (e 4)) fun t69_185 => k181 t69_185 h179 n180) fun t69_182 h183 n184 => ifP t68_178 true h183 n184 (fun k186 => bindP (load1 ro h183 t69_182) fun t70_190 => k186 t70_190 h183 n184) fun t70_187 h188 n189 => ifP t68_178 true h188 n189 (fun k191 => bindP (fwdP 258 (e 3)) fun t71_195 => k191 t71_195 h188 n189) fun t71_192 h193 n194 => ifP t68_178 true h193 n194 (fun k196 => bindP (load1 ro h193 t71_192) fun t72_200 => k196 t72_200 h193 n194) fun t72_197 h198 n199 => ifP t68_178 true h198 n199 (fun k201 => bindP (fwdP 0 (e 5)) fun t73_205 => k201 t73_205 h198 n199) fun t73_202 h203 n204 => ifP t68_178 true h203 n204 (fun k206 => bindP (load1 ro h203 t73_202) fun t74_210 => k206 t74_210 h203 n204) fun t74_207 h208 n209 => ifP t68_178 true h208 n209 (fun k211 => bindP (ixSl 4 t72_197 t74_207) fun t75_215 => k211 t75_215 h208 n209) fun t75_212 h213 n214 => ifP t68_178 true h213 n214 (fun k216 => bindP (fwdP 1 t75_212) fun t76_220 => k216 t76_220 h213 n214) fun t76_217 h218 n219 => ifP t68_178 true h218 n219 (fun k221 => bindP (load1 ro h218 t76_217) fun t77_225 => k221 t77_225 h218 n219) fun t77_222 h223 n224 => ifP t68_178 true h223 n224 (fun k226 => k226 (e 7) h223 n224) fun t78_227 h228 n229 => ifP t68_178 true h228 n229 (fun k230 => bindP (ixSl 1 t77_222 t78_227) fun t79_234 => k230 t79_234 h228 n229) fun t79_231 h232 n233 => ifP t68_178 true h232 n233 (fun k235 => bindP (load1 ro h232 t79_231) fun t80_239 => k235 t80_239 h232 n233) fun t80_236 h237 n238 => ifP t68_178 true h237 n238 (fun k240 => callP Try.prog ro i_ref11_in [t70_187, t80_236] h237 n238 fun t81_244 h245 n246 => k240 t81_244 h245 n246) fun t81_241 h242 n243 => ifP t68_178 true h242 n243 (fun k247 => bindP (unV .not t81_241) fun t82_251 => k247 t82_251 h242 n243) fun t82_248 h249 n250 => ifP t60_147 false h249 n250 (fun k252 => bindP (pickV t68_178 t82_248 (Value.bool false)) fun t83_256 => k252 t83_256 h249 n250) fun t83_253 h254 n255 => bindP (pickV t60_147 (Value.bool true) t83_253) fun t84_257 => condP t84_257 (Q .ret (puts e [(40, (e 7)), (41, t41_109), (42, t42_110), (43, t43_111), (44, t44_112), (47, t47_113), (48, t48_114), (49, (e 7)), (50, t50_115), (51, t51_116), (52, t52_117), (53, t52_117), (54, t54_119), (55, t55_124), (56, t56_129), (57, t57_133), (58, t58_138), (59, t59_143), (60, t60_147), (61, t60_147), (62, t62_149), (63, t63_154), (64, t64_159), (65, t65_163), (66, t66_168), (67, t67_173), (68, t68_178), (69, t69_182), (70, t70_187), (71, t71_192), (72, t72_197), (73, t73_202), (74, t74_207), (75, t75_212), (76, t76_217), (77, t77_222), (78, t78_227), (79, t79_231), (80, t80_236), (81, t81_241), (82, t82_248), (83, t83_253), (84, t84_257), (6, (Value.bool false))]) h254 (n255 + 1)) (bindP (intB .add (e 7) (Value.int IntKind.i64 1)) fun t46_258 => Q .normal (puts e [(40, (e 7)), (41, t41_109), (42, t42_110), (43, t43_111), (44, t44_112), (47, t47_113), (48, t48_114), (49, (e 7)), (50, t50_115), (51, t51_116), (52, t52_117), (53, t52_117), (54, t54_119), (55, t55_124), (56, t56_129), (57, t57_133), (58, t58_138), (59, t59_143), (60, t60_147), (61, t60_147), (62, t62_149), (63, t63_154), (64, t64_159), (65, t65_163), (66, t66_168), (67, t67_173), (68, t68_178), (69, t69_182), (70, t70_187), (71, t71_192), (72, t72_197), (73, t73_202), (74, t74_207), (75, t75_212), (76, t76_217), (77, t77_222), (78, t78_227), (79, t79_231), (80, t80_236), (81, t81_241), (82, t82_248), (83, t83_253), (84, t84_257), (45, (e 7)), (46, t46_258), (7, t46_258)]) h254 (n255 + 3))) (Q (.exit 0) (puts e [(40, (e 7)), (41, t41_109), (42, t42_110), (43, t43_111), (44, t44_112)]) h (nx + 5))
@[irreducible] def ref11_move (ro : Ro) (v0 v1 v2 : Value) (h : T Obj) (nx : Nat) (K : KV) : Prop := newP h nx (.cells (Value.cells v0) y_api_Auto) fun h1 => newP h1 (nx + 1) (.cells (Value.cells v1) y_api_State) fun h2 => newP h2 (nx + 2) (.cells (Value.cells v2) y_api_Move) fun h3 => bindP (fwdP 0 (ptr (nx + 2))) fun t8_4 => bindP (load1 ro h3 t8_4) fun t9_5 => bindP (intB .eql t9_5 (Value.int IntKind.i64 (-1))) fun t10_6 => condP t10_6 (bindP (fwdP 1 (ptr (nx + 2))) fun t11_7 => bindP (load1 ro h3 t11_7) fun t12_8 => bindP (lenSl t12_8) fun t13_9 => bindP (intB .eql t13_9 (Value.int IntKind.i64 0)) fun t14_10 => ∃ h11, Sub h11 h3 ∧ K t14_10 h11 (nx + 12)) (bindP (fwdP 0 (ptr (nx + 2))) fun t15_12 => bindP (load1 ro h3 t15_12) fun t16_13 => bindP (intB .lss t16_13 (Value.int IntKind.i64 1)) fun t17_14 => ifP t17_14 false h3 (nx + 32) (fun k15 => bindP (fwdP 0 (ptr (nx + 2))) fun t19_19 => k15 t19_19 h3 (nx + 32)) fun t19_16 h17 n18 => ifP t17_14 false h17 n18 (fun k20 => bindP (load1 ro h17 t19_16) fun t20_24 => k20 t20_24 h17 n18) fun t20_21 h22 n23 => ifP t17_14 false h22 n23 (fun k25 => bindP (fwdP 258 (ptr nx)) fun t21_29 => k25 t21_29 h22 n23) fun t21_26 h27 n28 => ifP t17_14 false h27 n28 (fun k30 => bindP (load1 ro h27 t21_26) fun t22_34 => k30 t22_34 h27 n28) fun t22_31 h32 n33 => ifP t17_14 false h32 n33 (fun k35 => bindP (lenSl t22_31) fun t23_39 => k35 t23_39 h32 n33) fun t23_36 h37 n38 => ifP t17_14 false h37 n38 (fun k40 => bindP (intB .geq t20_21 t23_36) fun t24_44 => k40 t24_44 h37 n38) fun t24_41 h42 n43 => bindP (pickV t17_14 (Value.bool true) t24_41) fun t25_45 => ifP t25_45 false h42 n43 (fun k46 => bindP (fwdP 1 (ptr (nx + 2))) fun t27_50 => k46 t27_50 h42 n43) fun t27_47 h48 n49 => ifP t25_45 false h48 n49 (fun k51 => bindP (load1 ro h48 t27_47) fun t28_55 => k51 t28_55 h48 n49) fun t28_52 h53 n54 => ifP t25_45 false h53 n54 (fun k56 => bindP (lenSl t28_52) fun t29_60 => k56 t29_60 h53 n54) fun t29_57 h58 n59 => ifP t25_45 false h58 n59 (fun k61 => bindP (fwdP 258 (ptr nx)) fun t30_65 => k61 t30_65 h58 n59) fun t30_62 h63 n64 => ifP t25_45 false h63 n64 (fun k66 => bindP (load1 ro h63 t30_62) fun t31_70 => k66 t31_70 h63 n64) fun t31_67 h68 n69 => ifP t25_45 false h68 n69 (fun k71 => bindP (fwdP 0 (ptr (nx + 2))) fun t32_75 => k71 t32_75 h68 n69) fun t32_72 h73 n74 => ifP t25_45 false h73 n74 (fun k76 => bindP (load1 ro h73 t32_72) fun t33_80 => k76 t33_80 h73 n74) fun t33_77 h78 n79 => ifP t25_45 false h78 n79 (fun k81 => bindP (ixSl 4 t31_67 t33_77) fun t34_85 => k81 t34_85 h78 n79) fun t34_82 h83 n84 => ifP t25_45 false h83 n84 (fun k86 => bindP (fwdP 1 t34_82) fun t35_90 => k86 t35_90 h83 n84) fun t35_87 h88 n89 => ifP t25_45 false h88 n89 (fun k91 => bindP (load1 ro h88 t35_87) fun t36_95 => k91 t36_95 h88 n89) fun t36_92 h93 n94 => ifP t25_45 false h93 n94 (fun k96 => bindP (lenSl t36_92) fun t37_100 => k96 t37_100 h93 n94) fun t37_97 h98 n99 => ifP t25_45 false h98 n99 (fun k101 => bindP (intB .neq t29_57 t37_97) fun t38_105 => k101 t38_105 h98 n99) fun t38_102 h103 n104 => bindP (pickV t25_45 (Value.bool true) t38_102) fun t39_106 => condP t39_106 (∃ h107, Sub h107 h103 ∧ K (Value.bool false) h107 (n104 + 1)) (loopP (ref11_move_L1 ro) (puts (entE [v0, v1, v2]) [(3, (ptr nx)), (4, (ptr (nx + 1))), (5, (ptr (nx + 2))), (6, (Value.bool false)), (8, t8_4), (9, t9_5), (10, t10_6), (15, t15_12), (16, t16_13), (17, t17_14), (18, t17_14), (19, t19_16), (20, t20_21), (21, t21_26), (22, t22_31), (23, t23_36), (24, t24_41), (25, t25_45), (26, t25_45), (27, t27_47), (28, t28_52), (29, t29_57), (30, t30_62), (31, t31_67), (32, t32_72), (33, t33_77), (34, t34_82), (35, t35_87), (36, t36_92), (37, t37_97), (38, t38_102), (39, t39_106), (7, (Value.int IntKind.i64 0))]) h103 (n104 + 1) fun x262 e259 h260 n261 => exP x262 (ref11_move_j1 ro K e259 h260 n261) (fun i263 => beqP (Nat.beq i263 0) (ref11_move_j1 ro K e259 h260 n261) (False)) (∃ h264, Sub h264 h260 ∧ K (e259 6) h264 n261)))
theorem ref11_move_eq (ro : Ro) (v0 v1 v2 : Value) (h : T Obj) (nx : Nat) (K : KV) : callPre Try.prog ro (callP Try.prog ro) Try.f70 [v0, v1, v2] h nx K = ref11_move ro v0 v1 v2 h nx K := by kernel_rfl
theorem ref11_move_of {ro : Ro} {v0 v1 v2 : Value} {h : T Obj} {nx : Nat} {K : KV} (hw : ref11_move ro v0 v1 v2 h nx K) : callP Try.prog ro i_ref11_move [v0, v1, v2] h nx K := callP_by (P := Try.prog) (fn := Try.f70) (by kernel_rfl) (by kernel_rfl) (by kernel_rfl) (Eq.mpr (ref11_move_eq ro v0 v1 v2 h nx K) hw)
@[irreducible] def ref11_in_j1 (ro : Ro) (K : KV) : Env → T Obj → Nat → Prop := fun e h nx => ∃ h1, Sub h1 h ∧ K (Value.bool false) h1 (nx + 1)
@[irreducible] def ref11_in_L1 (ro : Ro) : PT := fun e h nx Q => bindP (lenSl (e 0)) fun t8_2 => bindP (intB .lss (e 5) t8_2) fun t9_3 => condP t9_3 (bindP (ixSl 1 (e 0) (e 5)) fun t14_4 => bindP (load1 ro h t14_4) fun t15_5 => bindP (intB .eql t15_5 (e 1)) fun t17_6 => condP t17_6 (Q .ret (puts e [(6, (e 5)), (7, (e 0)), (8, t8_2), (9, t9_3), (12, (e 0)), (13, (e 5)), (14, t14_4), (15, t15_5), (16, (e 1)), (17, t17_6), (4, (Value.bool true))]) h (nx + 11)) (bindP (intB .add (e 5) (Value.int IntKind.i64 1)) fun t11_7 => Q .normal (puts e [(6, (e 5)), (7, (e 0)), (8, t8_2), (9, t9_3), (12, (e 0)), (13, (e 5)), (14, t14_4), (15, t15_5), (16, (e 1)), (17, t17_6), (10, (e 5)), (11, t11_7), (5, t11_7)]) h (nx + 13))) (Q (.exit 0) (puts e [(6, (e 5)), (7, (e 0)), (8, t8_2), (9, t9_3)]) h (nx + 4))
@[irreducible] def ref11_in (ro : Ro) (v0 v1 : Value) (h : T Obj) (nx : Nat) (K : KV) : Prop := loopP (ref11_in_L1 ro) (puts (entE [v0, v1]) [(4, (Value.bool false)), (5, (Value.int IntKind.i64 0))]) h (nx + 2) fun x11 e8 h9 n10 => exP x11 (ref11_in_j1 ro K e8 h9 n10) (fun i12 => beqP (Nat.beq i12 0) (ref11_in_j1 ro K e8 h9 n10) (False)) (∃ h13, Sub h13 h9 ∧ K (e8 4) h13 n10)
theorem ref11_in_eq (ro : Ro) (v0 v1 : Value) (h : T Obj) (nx : Nat) (K : KV) : callPre Try.prog ro (callP Try.prog ro) Try.f87 [v0, v1] h nx K = ref11_in ro v0 v1 h nx K := by kernel_rfl
theorem ref11_in_of {ro : Ro} {v0 v1 : Value} {h : T Obj} {nx : Nat} {K : KV} (hw : ref11_in ro v0 v1 h nx K) : callP Try.prog ro i_ref11_in [v0, v1] h nx K := callP_by (P := Try.prog) (fn := Try.f87) (by kernel_rfl) (by kernel_rfl) (by kernel_rfl) (Eq.mpr (ref11_in_eq ro v0 v1 h nx K) hw)
end V
end Go.Proofs.Ytmmdcdjkmakgpaa
set_option linter.unusedVariables false
set_option linter.unusedSimpArgs false
namespace Go.Proofs.Ytmmdcdjkmakgpaa
namespace V
attribute [local irreducible] bindP ifP condP newP optP exP beqP
set_option maxRecDepth 4000 in
theorem ref11_rises_c {ro : Ro} {v : Value} {l : List Int} {many : Int} (hm : many ≤ 1000000) {h : T Obj} {nx : Nat} {K : KV} (hv : ZI ro h v l) (hK : ∀ nx', nx ≤ nx' → K (.bool (rz (-1) many l)) h nx') : callP Try.prog ro i_ref11_rises [v, .int .i64 many] h nx K := by
  apply ref11_rises_of
  unfold ref11_rises
  generalize hR : rz (-1) many l = R at hK
  refine loopP_rule (fun j e h' nx' => ∃ (k : Nat) (last : Int), k + j = l.length ∧ nx ≤ nx' ∧ h' = h ∧ e 0 = v ∧ e 1 = .int .i64 many ∧ e 5 = .int .i64 k ∧ (k : Int) ≤ last + 1 ∧ last ≤ 1000000 ∧ (k = 0 → last = -1) ∧ (∀ q, q + 1 = k → l[q]? = some last) ∧ rz last many (l.drop k) = R) ?_ (n := l.length) ⟨0, -1, by omega, by omega, rfl, rfl, rfl, rfl, by omega, by omega, fun _ => rfl, fun q hq => by omega, hR⟩
  rintro j e h' nx' ⟨k, last, hj, hnx, rfl, e0, e1, e5, hk1, hk2, hk0, hkp, hr⟩ Q' hq hx
  unfold ref11_rises_L1
  rw [e0, e1, e5]
  refine bindP_mk hv.len ?_
  refine lss_s (fun hk => ?_) (fun hk => ?_)
  · have hk : k < l.length := by omega
    have hxk : l[k]? = some l[k] := List.getElem?_eq_getElem hk
    rw [drop_cons hk, rz_cons] at hr
    (repeat (first | refine bindP_mk (by simp (disch := first | omega | exact Int.natCast_nonneg _ | assumption) only [BB, B2, ↓reduceIte, Nat.reduceLeDiff, Nat.reduceAdd, CC] <;> rfl) ?_ | refine newP_mk ?_ | refine optP_mk ?_ | with_reducible first | refine condP_t ?_ | refine condP_f ?_ | refine ifP_tt' ?_ | refine ifP_ff' ?_ | refine ifP_tf' ?_ | refine ifP_ft' ?_ | refine ifP_u' ?_ | refine optP_mk0 ?_))
    refine bindP_mk (hv.ix _ hk) (bindP_mk (hv.load hk) ?_)
    generalize l[k] = x at hr hxk
    have hfin : ∀ (e' : Env) n, e' 4 = .bool false → (¬ last < x ∨ ¬ x < many) → nx ≤ n → Q' .ret e' h' n := fun e' n h4 hc hn => by
      refine hx _ _ _ _ (fun e => by cases e) (exP_r ?_)
      rw [h4]
      refine ⟨_, Sub.refl _, kb hK ?_ hn⟩
      rw [← hr]
      rcases hc with hc | hc
      · rw [decide_eq_false hc]; rfl
      · rw [decide_eq_false hc]; simp
    have hok : ∀ (e' : Env) n, e' 0 = v → e' 1 = .int .i64 many → e' 5 = .int .i64 ((k : Int) + 1) → last < x → x < many → nx ≤ n → Q' .normal e' h' n := fun e' n g0 g1 g5 hc1 hc2 hn => by
      refine hq (j - 1) _ _ _ _ (by omega) ⟨k + 1, x, by omega, hn, rfl, g0, g1, g5, by omega, by omega, fun h => by omega, fun q hq => ?_, ?_⟩ (Sub.refl _)
      · have : q = k := by omega
        subst this; exact hxk
      · rw [← hr, decide_eq_true hc1, decide_eq_true hc2]; rfl
    (first | refine lss_s (fun hb => ?_) (fun hb => ?_) | refine leq_s (fun hb => ?_) (fun hb => ?_) | refine gtr_s (fun hb => ?_) (fun hb => ?_) | refine geq_s (fun hb => ?_) (fun hb => ?_) | refine eql_s (fun hb => ?_) (fun hb => ?_) | refine neq_s (fun hb => ?_) (fun hb => ?_))
    · (repeat (first | refine bindP_mk (by simp (disch := first | omega | exact Int.natCast_nonneg _ | assumption) only [BB, B2, ↓reduceIte, Nat.reduceLeDiff, Nat.reduceAdd, CC] <;> rfl) ?_ | refine newP_mk ?_ | refine optP_mk ?_ | with_reducible first | refine condP_t ?_ | refine condP_f ?_ | refine ifP_tt' ?_ | refine ifP_ff' ?_ | refine ifP_tf' ?_ | refine ifP_ft' ?_ | refine ifP_u' ?_ | refine optP_mk0 ?_))
      exact hfin _ _ rfl (.inl (by omega)) (by omega)
    · (repeat (first | refine bindP_mk (by simp (disch := first | omega | exact Int.natCast_nonneg _ | assumption) only [BB, B2, ↓reduceIte, Nat.reduceLeDiff, Nat.reduceAdd, CC] <;> rfl) ?_ | refine newP_mk ?_ | refine optP_mk ?_ | with_reducible first | refine condP_t ?_ | refine condP_f ?_ | refine ifP_tt' ?_ | refine ifP_ff' ?_ | refine ifP_tf' ?_ | refine ifP_ft' ?_ | refine ifP_u' ?_ | refine optP_mk0 ?_))
      refine bindP_mk (hv.ix _ hk) ?_
      (repeat (first | refine bindP_mk (by simp (disch := first | omega | exact Int.natCast_nonneg _ | assumption) only [BB, B2, ↓reduceIte, Nat.reduceLeDiff, Nat.reduceAdd, CC] <;> rfl) ?_ | refine newP_mk ?_ | refine optP_mk ?_ | with_reducible first | refine condP_t ?_ | refine condP_f ?_ | refine ifP_tt' ?_ | refine ifP_ff' ?_ | refine ifP_tf' ?_ | refine ifP_ft' ?_ | refine ifP_u' ?_ | refine optP_mk0 ?_))
      refine bindP_mk (hv.load' hxk) ?_
      (repeat (first | refine bindP_mk (by simp (disch := first | omega | exact Int.natCast_nonneg _ | assumption) only [BB, B2, ↓reduceIte, Nat.reduceLeDiff, Nat.reduceAdd, CC] <;> rfl) ?_ | refine newP_mk ?_ | refine optP_mk ?_ | with_reducible first | refine condP_t ?_ | refine condP_f ?_ | refine ifP_tt' ?_ | refine ifP_ff' ?_ | refine ifP_tf' ?_ | refine ifP_ft' ?_ | refine ifP_u' ?_ | refine optP_mk0 ?_))
      (first | refine lss_s (fun hb => ?_) (fun hb => ?_) | refine leq_s (fun hb => ?_) (fun hb => ?_) | refine gtr_s (fun hb => ?_) (fun hb => ?_) | refine geq_s (fun hb => ?_) (fun hb => ?_) | refine eql_s (fun hb => ?_) (fun hb => ?_) | refine neq_s (fun hb => ?_) (fun hb => ?_))
      · (repeat (first | refine bindP_mk (by simp (disch := first | omega | exact Int.natCast_nonneg _ | assumption) only [BB, B2, ↓reduceIte, Nat.reduceLeDiff, Nat.reduceAdd, CC] <;> rfl) ?_ | refine newP_mk ?_ | refine optP_mk ?_ | with_reducible first | refine condP_t ?_ | refine condP_f ?_ | refine ifP_tt' ?_ | refine ifP_ff' ?_ | refine ifP_tf' ?_ | refine ifP_ft' ?_ | refine ifP_u' ?_ | refine optP_mk0 ?_))
        exact hfin _ _ rfl (.inr (by omega)) (by omega)
      · (repeat (first | refine bindP_mk (by simp (disch := first | omega | exact Int.natCast_nonneg _ | assumption) only [BB, B2, ↓reduceIte, Nat.reduceLeDiff, Nat.reduceAdd, CC] <;> rfl) ?_ | refine newP_mk ?_ | refine optP_mk ?_ | with_reducible first | refine condP_t ?_ | refine condP_f ?_ | refine ifP_tt' ?_ | refine ifP_ff' ?_ | refine ifP_tf' ?_ | refine ifP_ft' ?_ | refine ifP_u' ?_ | refine optP_mk0 ?_))
        (first | refine lss_s (fun hb => ?_) (fun hb => ?_) | refine leq_s (fun hb => ?_) (fun hb => ?_) | refine gtr_s (fun hb => ?_) (fun hb => ?_) | refine geq_s (fun hb => ?_) (fun hb => ?_) | refine eql_s (fun hb => ?_) (fun hb => ?_) | refine neq_s (fun hb => ?_) (fun hb => ?_))
        · have h2 := hkp (k - 1) (by omega)
          have h3 := (List.getElem?_eq_some_iff.1 h2).1
          have h4 : ((k : Int) - 1).toNat = k - 1 := by omega
          (repeat (first | refine bindP_mk (by simp (disch := first | omega | exact Int.natCast_nonneg _ | assumption) only [BB, B2, ↓reduceIte, Nat.reduceLeDiff, Nat.reduceAdd, CC] <;> rfl) ?_ | refine newP_mk ?_ | refine optP_mk ?_ | with_reducible first | refine condP_t ?_ | refine condP_f ?_ | refine ifP_tt' ?_ | refine ifP_ff' ?_ | refine ifP_tf' ?_ | refine ifP_ft' ?_ | refine ifP_u' ?_ | refine optP_mk0 ?_))
          refine bindP_mk (hv.ixI _ (by omega) (by omega)) ?_
          rw [h4]
          (repeat (first | refine bindP_mk (by simp (disch := first | omega | exact Int.natCast_nonneg _ | assumption) only [BB, B2, ↓reduceIte, Nat.reduceLeDiff, Nat.reduceAdd, CC] <;> rfl) ?_ | refine newP_mk ?_ | refine optP_mk ?_ | with_reducible first | refine condP_t ?_ | refine condP_f ?_ | refine ifP_tt' ?_ | refine ifP_ff' ?_ | refine ifP_tf' ?_ | refine ifP_ft' ?_ | refine ifP_u' ?_ | refine optP_mk0 ?_))
          refine bindP_mk (hv.load' h2) ?_
          (repeat (first | refine bindP_mk (by simp (disch := first | omega | exact Int.natCast_nonneg _ | assumption) only [BB, B2, ↓reduceIte, Nat.reduceLeDiff, Nat.reduceAdd, CC] <;> rfl) ?_ | refine newP_mk ?_ | refine optP_mk ?_ | with_reducible first | refine condP_t ?_ | refine condP_f ?_ | refine ifP_tt' ?_ | refine ifP_ff' ?_ | refine ifP_tf' ?_ | refine ifP_ft' ?_ | refine ifP_u' ?_ | refine optP_mk0 ?_))
          refine bindP_mk (hv.ix _ hk) ?_
          (repeat (first | refine bindP_mk (by simp (disch := first | omega | exact Int.natCast_nonneg _ | assumption) only [BB, B2, ↓reduceIte, Nat.reduceLeDiff, Nat.reduceAdd, CC] <;> rfl) ?_ | refine newP_mk ?_ | refine optP_mk ?_ | with_reducible first | refine condP_t ?_ | refine condP_f ?_ | refine ifP_tt' ?_ | refine ifP_ff' ?_ | refine ifP_tf' ?_ | refine ifP_ft' ?_ | refine ifP_u' ?_ | refine optP_mk0 ?_))
          refine bindP_mk (hv.load' hxk) ?_
          (repeat (first | refine bindP_mk (by simp (disch := first | omega | exact Int.natCast_nonneg _ | assumption) only [BB, B2, ↓reduceIte, Nat.reduceLeDiff, Nat.reduceAdd, CC] <;> rfl) ?_ | refine newP_mk ?_ | refine optP_mk ?_ | with_reducible first | refine condP_t ?_ | refine condP_f ?_ | refine ifP_tt' ?_ | refine ifP_ff' ?_ | refine ifP_tf' ?_ | refine ifP_ft' ?_ | refine ifP_u' ?_ | refine optP_mk0 ?_))
          (first | refine lss_s (fun hb => ?_) (fun hb => ?_) | refine leq_s (fun hb => ?_) (fun hb => ?_) | refine gtr_s (fun hb => ?_) (fun hb => ?_) | refine geq_s (fun hb => ?_) (fun hb => ?_) | refine eql_s (fun hb => ?_) (fun hb => ?_) | refine neq_s (fun hb => ?_) (fun hb => ?_))
          · (repeat (first | refine bindP_mk (by simp (disch := first | omega | exact Int.natCast_nonneg _ | assumption) only [BB, B2, ↓reduceIte, Nat.reduceLeDiff, Nat.reduceAdd, CC] <;> rfl) ?_ | refine newP_mk ?_ | refine optP_mk ?_ | with_reducible first | refine condP_t ?_ | refine condP_f ?_ | refine ifP_tt' ?_ | refine ifP_ff' ?_ | refine ifP_tf' ?_ | refine ifP_ft' ?_ | refine ifP_u' ?_ | refine optP_mk0 ?_))
            exact hfin _ _ rfl (.inl (by omega)) (by omega)
          · (repeat (first | refine bindP_mk (by simp (disch := first | omega | exact Int.natCast_nonneg _ | assumption) only [BB, B2, ↓reduceIte, Nat.reduceLeDiff, Nat.reduceAdd, CC] <;> rfl) ?_ | refine newP_mk ?_ | refine optP_mk ?_ | with_reducible first | refine condP_t ?_ | refine condP_f ?_ | refine ifP_tt' ?_ | refine ifP_ff' ?_ | refine ifP_tf' ?_ | refine ifP_ft' ?_ | refine ifP_u' ?_ | refine optP_mk0 ?_))
            exact hok _ _ e0 e1 rfl (by omega) (by omega) (by omega)
        · (repeat (first | refine bindP_mk (by simp (disch := first | omega | exact Int.natCast_nonneg _ | assumption) only [BB, B2, ↓reduceIte, Nat.reduceLeDiff, Nat.reduceAdd, CC] <;> rfl) ?_ | refine newP_mk ?_ | refine optP_mk ?_ | with_reducible first | refine condP_t ?_ | refine condP_f ?_ | refine ifP_tt' ?_ | refine ifP_ff' ?_ | refine ifP_tf' ?_ | refine ifP_ft' ?_ | refine ifP_u' ?_ | refine optP_mk0 ?_))
          exact hok _ _ e0 e1 rfl (by omega) (by omega) (by omega)
  · (repeat (first | refine bindP_mk (by simp (disch := first | omega | exact Int.natCast_nonneg _ | assumption) only [BB, B2, ↓reduceIte, Nat.reduceLeDiff, Nat.reduceAdd, CC] <;> rfl) ?_ | refine newP_mk ?_ | refine optP_mk ?_ | with_reducible first | refine condP_t ?_ | refine condP_f ?_ | refine ifP_tt' ?_ | refine ifP_ff' ?_ | refine ifP_tf' ?_ | refine ifP_ft' ?_ | refine ifP_u' ?_ | refine optP_mk0 ?_))
    refine hx _ _ _ _ (fun e => by cases e) (exP_e (beqP_t ?_))
    unfold ref11_rises_j1
    rw [drop_all (by omega)] at hr
    exact ⟨_, Sub.refl _, kb hK hr.symm (by omega)⟩
theorem ref11_in_c {ro : Ro} {v : Value} {l : List Int} {p : Int} (hlen : l.length ≤ 1000000) {h : T Obj} {nx : Nat} {K : KV} (hv : ZI ro h v l) (hK : ∀ nx', nx ≤ nx' → K (.bool (l.contains p)) h nx') : callP Try.prog ro i_ref11_in [v, .int .i64 p] h nx K := by
  apply ref11_in_of
  unfold ref11_in
  generalize hR : l.contains p = R at hK
  refine loopP_rule (fun j e h' nx' => ∃ (k : Nat), k + j = l.length ∧ nx ≤ nx' ∧ h' = h ∧ e 0 = v ∧ e 1 = .int .i64 p ∧ e 5 = .int .i64 k ∧ (l.drop k).contains p = R) ?_ (n := l.length) ⟨0, by omega, by omega, rfl, rfl, rfl, rfl, hR⟩
  rintro j e h' nx' ⟨k, hj, hnx, rfl, e0, e1, e5, hr⟩ Q' hq hx
  unfold ref11_in_L1
  rw [e0, e1, e5]
  refine bindP_mk hv.len ?_
  refine lss_s (fun hk => ?_) (fun hk => ?_)
  · have hk : k < l.length := by omega
    rw [drop_cons hk] at hr
    (repeat (first | refine bindP_mk (by simp (disch := first | omega | exact Int.natCast_nonneg _ | assumption) only [BB, B2, ↓reduceIte, Nat.reduceLeDiff, Nat.reduceAdd, CC] <;> rfl) ?_ | refine newP_mk ?_ | refine optP_mk ?_ | with_reducible first | refine condP_t ?_ | refine condP_f ?_ | refine ifP_tt' ?_ | refine ifP_ff' ?_ | refine ifP_tf' ?_ | refine ifP_ft' ?_ | refine ifP_u' ?_ | refine optP_mk0 ?_))
    refine bindP_mk (hv.ix _ hk) (bindP_mk (hv.load hk) ?_)
    generalize l[k] = x at hr
    refine eql_s (fun he => ?_) (fun he => ?_)
    · (repeat (first | refine bindP_mk (by simp (disch := first | omega | exact Int.natCast_nonneg _ | assumption) only [BB, B2, ↓reduceIte, Nat.reduceLeDiff, Nat.reduceAdd, CC] <;> rfl) ?_ | refine newP_mk ?_ | refine optP_mk ?_ | with_reducible first | refine condP_t ?_ | refine condP_f ?_ | refine ifP_tt' ?_ | refine ifP_ff' ?_ | refine ifP_tf' ?_ | refine ifP_ft' ?_ | refine ifP_u' ?_ | refine optP_mk0 ?_))
      refine hx _ _ _ _ (fun e => by cases e) (exP_r ?_)
      exact ⟨_, Sub.refl _, kb hK (by rw [← hr, he]; simp) (by omega)⟩
    · (repeat (first | refine bindP_mk (by simp (disch := first | omega | exact Int.natCast_nonneg _ | assumption) only [BB, B2, ↓reduceIte, Nat.reduceLeDiff, Nat.reduceAdd, CC] <;> rfl) ?_ | refine newP_mk ?_ | refine optP_mk ?_ | with_reducible first | refine condP_t ?_ | refine condP_f ?_ | refine ifP_tt' ?_ | refine ifP_ff' ?_ | refine ifP_tf' ?_ | refine ifP_ft' ?_ | refine ifP_u' ?_ | refine optP_mk0 ?_))
      refine hq (j - 1) _ _ _ _ (by omega) ⟨k + 1, by omega, by omega, rfl, e0, e1, rfl, ?_⟩ (Sub.refl _)
      rw [← hr, List.contains_cons, beq_eq_false_iff_ne.2 (Ne.symm he), Bool.false_or]
  · (repeat (first | refine bindP_mk (by simp (disch := first | omega | exact Int.natCast_nonneg _ | assumption) only [BB, B2, ↓reduceIte, Nat.reduceLeDiff, Nat.reduceAdd, CC] <;> rfl) ?_ | refine newP_mk ?_ | refine optP_mk ?_ | with_reducible first | refine condP_t ?_ | refine condP_f ?_ | refine ifP_tt' ?_ | refine ifP_ff' ?_ | refine ifP_tf' ?_ | refine ifP_ft' ?_ | refine ifP_u' ?_ | refine optP_mk0 ?_))
    refine hx _ _ _ _ (fun e => by cases e) (exP_e (beqP_t ?_))
    unfold ref11_in_j1
    rw [drop_all (by omega)] at hr
    exact ⟨_, Sub.refl _, kb hK hr.symm (by omega)⟩
end V
end Go.Proofs.Ytmmdcdjkmakgpaa
set_option linter.unusedVariables false
set_option linter.unusedSimpArgs false
namespace Go.Proofs.Ytmmdcdjkmakgpaa
namespace V
attribute [local irreducible] bindP ifP condP newP optP exP beqP
set_option maxRecDepth 8000 in
set_option maxHeartbeats 1000000 in
theorem ref11_move_c {ro : Ro} {c : List Nat} {n : Int} {cv sv lv rv uv nv ov : Value} {S : List StateD} {R : List Int} {m : MoveD} (hc : c.length = 256) (hSl : S.length ≤ 256) (hR : R.length ≤ 3) (hmo : m.ops.length ≤ maxB) {h : T Obj} {nx : Nat} {K : KV} (hf : Fr h nx)
    (hS : SlR ro h sv 4 (RState ro h) S) (hrv : ZI ro h rv R) (hov : SlR ro h ov 1 RU8 m.ops) (hK : ∀ nx', nx ≤ nx' → K (.bool (moveOk S R m)) h nx') : callP Try.prog ro i_ref11_move [.agg (autL c n cv sv).toArray, .agg #[lv, rv, uv, nv], .agg #[.int .i64 m.to, ov]] h nx K := by
  apply ref11_move_of
  unfold ref11_move
  refine param_mk hf (Nat.le_refl _) fun h1 hs1 hf1 g1 _ => ?_
  refine param_mk hf1 (Nat.le_refl _) fun h2 hs2 hf2 g2 _ => ?_
  refine param_mk hf2 (Nat.le_refl _) fun h3 hs3 hf3 g3 _ => ?_
  have g1 : h3.get nx = some (.cells (autL c n cv sv).toArray y_api_Auto) := hs3 _ _ (hs2 _ _ g1)
  have g2 : h3.get (nx + 1) = some (.cells #[lv, rv, uv, nv] y_api_State) := hs3 _ _ g2
  have g3 : h3.get (nx + 2) = some (.cells #[.int .i64 m.to, ov] y_api_Move) := g3
  have hs := (hs1.trans hs2).trans hs3
  have hS := hS.sub hs (RState.sub hs)
  have hrv := hrv.sub hs
  have hov := hov.sub hs fun _ _ h => h
  have hsg := autL_states (n := n) (cv := cv) (sv := sv) hc
  have hol := hov.len
  have hsl := hS.len
  have hmb : m.ops.length ≤ 9223372036854775807 := hmo
  have hno : ∀ n, moveOk S R m = false → nx ≤ n → ∃ h', Sub h' h3 ∧ K (.bool false) h' n := fun n e hn => ⟨h, hs, kb hK e hn⟩
  (repeat (first | refine bindP_mk (by simp (disch := first | omega | exact Int.natCast_nonneg _ | assumption) only [BB, B2, ↓reduceIte, Nat.reduceLeDiff, Nat.reduceAdd, CC, g3] <;> rfl) ?_ | refine newP_mk ?_ | refine optP_mk ?_ | with_reducible first | refine condP_t ?_ | refine condP_f ?_ | refine ifP_tt' ?_ | refine ifP_ff' ?_ | refine ifP_tf' ?_ | refine ifP_ft' ?_ | refine ifP_u' ?_ | refine optP_mk0 ?_))
  refine eql_s (fun ht => ?_) (fun ht => ?_)
  · (repeat (first | refine bindP_mk (by simp (disch := first | omega | exact Int.natCast_nonneg _ | assumption) only [BB, B2, ↓reduceIte, Nat.reduceLeDiff, Nat.reduceAdd, CC, g3, hol] <;> rfl) ?_ | refine newP_mk ?_ | refine optP_mk ?_ | with_reducible first | refine condP_t ?_ | refine condP_f ?_ | refine ifP_tt' ?_ | refine ifP_ff' ?_ | refine ifP_tf' ?_ | refine ifP_ft' ?_ | refine ifP_u' ?_ | refine optP_mk0 ?_))
    refine bindP_mk (intB_eql _ _ _) ?_
    refine ⟨h, hs, kb hK ?_ (by omega)⟩
    unfold moveOk
    rw [if_pos ht, decide_eq_decide]
    omega
  · unfold moveOk at hno hK
    rw [if_neg ht] at hno hK
    (repeat (first | refine bindP_mk (by simp (disch := first | omega | exact Int.natCast_nonneg _ | assumption) only [BB, B2, ↓reduceIte, Nat.reduceLeDiff, Nat.reduceAdd, CC, g3] <;> rfl) ?_ | refine newP_mk ?_ | refine optP_mk ?_ | with_reducible first | refine condP_t ?_ | refine condP_f ?_ | refine ifP_tt' ?_ | refine ifP_ff' ?_ | refine ifP_tf' ?_ | refine ifP_ft' ?_ | refine ifP_u' ?_ | refine optP_mk0 ?_))
    refine lss_s (fun h1 => ?_) (fun h1 => ?_)
    · (repeat (first | refine bindP_mk (by simp (disch := first | omega | exact Int.natCast_nonneg _ | assumption) only [BB, B2, ↓reduceIte, Nat.reduceLeDiff, Nat.reduceAdd, CC] <;> rfl) ?_ | refine newP_mk ?_ | refine optP_mk ?_ | with_reducible first | refine condP_t ?_ | refine condP_f ?_ | refine ifP_tt' ?_ | refine ifP_ff' ?_ | refine ifP_tf' ?_ | refine ifP_ft' ?_ | refine ifP_u' ?_ | refine optP_mk0 ?_))
      exact hno _ (by rw [decide_eq_false (by omega)]; rfl) (by omega)
    · rw [decide_eq_true h1, Bool.true_and] at hno hK
      (repeat (first | refine bindP_mk (by simp (disch := first | omega | exact Int.natCast_nonneg _ | assumption) only [BB, B2, ↓reduceIte, Nat.reduceLeDiff, Nat.reduceAdd, CC, g1, g3, hsg, hsl] <;> rfl) ?_ | refine newP_mk ?_ | refine optP_mk ?_ | with_reducible first | refine condP_t ?_ | refine condP_f ?_ | refine ifP_tt' ?_ | refine ifP_ff' ?_ | refine ifP_tf' ?_ | refine ifP_ft' ?_ | refine ifP_u' ?_ | refine optP_mk0 ?_))
      refine geq_s (fun h2 => ?_) (fun h2 => ?_)
      · (repeat (first | refine bindP_mk (by simp (disch := first | omega | exact Int.natCast_nonneg _ | assumption) only [BB, B2, ↓reduceIte, Nat.reduceLeDiff, Nat.reduceAdd, CC] <;> rfl) ?_ | refine newP_mk ?_ | refine optP_mk ?_ | with_reducible first | refine condP_t ?_ | refine condP_f ?_ | refine ifP_tt' ?_ | refine ifP_ff' ?_ | refine ifP_tf' ?_ | refine ifP_ft' ?_ | refine ifP_u' ?_ | refine optP_mk0 ?_))
        exact hno _ (by rw [decide_eq_false (by omega)]; rfl) (by omega)
      · rw [decide_eq_true h2, Bool.true_and] at hno hK
        have hti : m.to.toNat < S.length := by omega
        have hgd : S.getD m.to.toNat noS = S[m.to.toNat] := by rw [List.getD_eq_getElem?_getD, List.getElem?_eq_getElem hti]; rfl
        rw [hgd] at hno hK
        have hix := hS.ixI .i64 (i := m.to) (by omega) h2
        obtain ⟨x, ⟨lv', rv', uv', nv', rfl, y1, y2, y3, y4, y5⟩, hx2, hx3, hx4, hx5⟩ := hS.at hti
        have hx1 := hx5 1 rv' rfl
        have hrl := y2.len
        generalize S[m.to.toNat] = s at hno hK y1 y2 y3 y4 y5 hrl
        have y5 : s.r.length ≤ 9223372036854775807 := y5
        (repeat (first | refine bindP_mk (by simp (disch := first | omega | exact Int.natCast_nonneg _ | assumption) only [BB, B2, ↓reduceIte, Nat.reduceLeDiff, Nat.reduceAdd, CC, g1, g3, hsg, hol, hix, hx4, hx1, hrl] <;> rfl) ?_ | refine newP_mk ?_ | refine optP_mk ?_ | with_reducible first | refine condP_t ?_ | refine condP_f ?_ | refine ifP_tt' ?_ | refine ifP_ff' ?_ | refine ifP_tf' ?_ | refine ifP_ft' ?_ | refine ifP_u' ?_ | refine optP_mk0 ?_))
        refine neq_s (fun u9 => ?_) (fun u9 => ?_)
        · (repeat (first | refine bindP_mk (by simp (disch := first | omega | exact Int.natCast_nonneg _ | assumption) only [BB, B2, ↓reduceIte, Nat.reduceLeDiff, Nat.reduceAdd, CC] <;> rfl) ?_ | refine newP_mk ?_ | refine optP_mk ?_ | with_reducible first | refine condP_t ?_ | refine condP_f ?_ | refine ifP_tt' ?_ | refine ifP_ff' ?_ | refine ifP_tf' ?_ | refine ifP_ft' ?_ | refine ifP_u' ?_ | refine optP_mk0 ?_))
          exact hno _ (by rw [decide_eq_false (by omega)]; rfl) (by omega)
        · have u9 : m.ops.length = s.r.length := by omega
          rw [decide_eq_true u9, Bool.true_and] at hno hK
          (repeat (first | refine bindP_mk (by simp (disch := first | omega | exact Int.natCast_nonneg _ | assumption) only [BB, B2, ↓reduceIte, Nat.reduceLeDiff, Nat.reduceAdd, CC, g3, hol] <;> rfl) ?_ | refine newP_mk ?_ | refine optP_mk ?_ | with_reducible first | refine condP_t ?_ | refine condP_f ?_ | refine ifP_tt' ?_ | refine ifP_ff' ?_ | refine ifP_tf' ?_ | refine ifP_ft' ?_ | refine ifP_u' ?_ | refine optP_mk0 ?_))
          generalize hB : opsOk R m.ops s.r = B at hno hK
          refine loopP_rule (fun j e h' nx' => ∃ (k : Nat), k + j = m.ops.length ∧ nx ≤ nx' ∧ h' = h3 ∧ e 3 = ptr nx ∧ e 4 = ptr (nx + 1) ∧ e 5 = ptr (nx + 2) ∧ e 7 = .int .i64 k ∧ opsOk R (m.ops.drop k) (s.r.drop k) = B) ?_ (n := m.ops.length) ⟨0, by omega, by omega, rfl, rfl, rfl, rfl, rfl, hB⟩
          rintro j e h' nx' ⟨k, hj, hnx, rfl, e3, e4, e5, e7, hr⟩ Q' hq hx
          unfold ref11_move_L1
          rw [e3, e4, e5, e7]
          (repeat (first | refine bindP_mk (by simp (disch := first | omega | exact Int.natCast_nonneg _ | assumption) only [BB, B2, ↓reduceIte, Nat.reduceLeDiff, Nat.reduceAdd, CC, g3, hol] <;> rfl) ?_ | refine newP_mk ?_ | refine optP_mk ?_ | with_reducible first | refine condP_t ?_ | refine condP_f ?_ | refine ifP_tt' ?_ | refine ifP_ff' ?_ | refine ifP_tf' ?_ | refine ifP_ft' ?_ | refine ifP_u' ?_ | refine optP_mk0 ?_))
          refine lss_s (fun hk => ?_) (fun hk => ?_)
          · have hk : k < m.ops.length := by omega
            have hk2 : k < s.r.length := by omega
            rw [drop_cons hk, drop_cons hk2, opsOk_cons] at hr
            have oix := hov.ix .i64 hk
            obtain ⟨w, ⟨ow, olt⟩, o1⟩ := hov.at1 hk
            simp only [List.cons.injEq, and_true] at ow
            subst ow
            have rix := y2.ix .i64 hk2
            have rld := y2.load hk2
            generalize m.ops[k] = o at hr o1 olt
            generalize s.r[k] = r at hr rld
            have hfin : ∀ (e' : Env) n, e' 6 = .bool false → opOk R o r = false → nx ≤ n → Q' .ret e' h' n := fun e' n h6 hc hn => by
              refine hx _ _ _ _ (fun e => by cases e) (exP_r ?_)
              rw [h6]
              refine ⟨h, hs, kb hK ?_ hn⟩
              rw [← hr, hc]; rfl
            have hok : ∀ (e' : Env) n, e' 3 = ptr nx → e' 4 = ptr (nx + 1) → e' 5 = ptr (nx + 2) → e' 7 = .int .i64 ((k : Int) + 1) → opOk R o r = true → nx ≤ n → Q' .normal e' h' n := fun e' n f3 f4 f5 f7 hc hn =>
              hq (j - 1) _ _ _ _ (by omega) ⟨k + 1, by omega, hn, rfl, f3, f4, f5, f7, by rw [← hr, hc]; rfl⟩ (Sub.refl _)
            unfold opOk at hfin hok
            (repeat (first | refine bindP_mk (by simp (disch := first | omega | exact Int.natCast_nonneg _ | assumption) only [BB, B2, ↓reduceIte, Nat.reduceLeDiff, Nat.reduceAdd, CC, g3, oix, o1] <;> rfl) ?_ | refine newP_mk ?_ | refine optP_mk ?_ | with_reducible first | refine condP_t ?_ | refine condP_f ?_ | refine ifP_tt' ?_ | refine ifP_ff' ?_ | refine ifP_tf' ?_ | refine ifP_ft' ?_ | refine ifP_u' ?_ | refine optP_mk0 ?_))
            refine lss_s (fun u1 => ?_) (fun u1 => ?_)
            · (repeat (first | refine bindP_mk (by simp (disch := first | omega | exact Int.natCast_nonneg _ | assumption) only [BB, B2, ↓reduceIte, Nat.reduceLeDiff, Nat.reduceAdd, CC, g3, oix, o1] <;> rfl) ?_ | refine newP_mk ?_ | refine optP_mk ?_ | with_reducible first | refine condP_t ?_ | refine condP_f ?_ | refine ifP_tt' ?_ | refine ifP_ff' ?_ | refine ifP_tf' ?_ | refine ifP_ft' ?_ | refine ifP_u' ?_ | refine optP_mk0 ?_))
              exact hfin _ _ rfl (by rw [decide_eq_false (by omega)]; rfl) (by omega)
            · rw [decide_eq_true (by omega), Bool.true_and] at hfin hok
              (repeat (first | refine bindP_mk (by simp (disch := first | omega | exact Int.natCast_nonneg _ | assumption) only [BB, B2, ↓reduceIte, Nat.reduceLeDiff, Nat.reduceAdd, CC, g3, oix, o1] <;> rfl) ?_ | refine newP_mk ?_ | refine optP_mk ?_ | with_reducible first | refine condP_t ?_ | refine condP_f ?_ | refine ifP_tt' ?_ | refine ifP_ff' ?_ | refine ifP_tf' ?_ | refine ifP_ft' ?_ | refine ifP_u' ?_ | refine optP_mk0 ?_))
              refine gtr_s (fun u2 => ?_) (fun u2 => ?_)
              · (repeat (first | refine bindP_mk (by simp (disch := first | omega | exact Int.natCast_nonneg _ | assumption) only [BB, B2, ↓reduceIte, Nat.reduceLeDiff, Nat.reduceAdd, CC, g3, oix, o1] <;> rfl) ?_ | refine newP_mk ?_ | refine optP_mk ?_ | with_reducible first | refine condP_t ?_ | refine condP_f ?_ | refine ifP_tt' ?_ | refine ifP_ff' ?_ | refine ifP_tf' ?_ | refine ifP_ft' ?_ | refine ifP_u' ?_ | refine optP_mk0 ?_))
                exact hfin _ _ rfl (by rw [decide_eq_false (by omega)]; rfl) (by omega)
              · rw [decide_eq_true (by omega), Bool.true_and] at hfin hok
                (repeat (first | refine bindP_mk (by simp (disch := first | omega | exact Int.natCast_nonneg _ | assumption) only [BB, B2, ↓reduceIte, Nat.reduceLeDiff, Nat.reduceAdd, CC, g3, oix, o1] <;> rfl) ?_ | refine newP_mk ?_ | refine optP_mk ?_ | with_reducible first | refine condP_t ?_ | refine condP_f ?_ | refine ifP_tt' ?_ | refine ifP_ff' ?_ | refine ifP_tf' ?_ | refine ifP_ft' ?_ | refine ifP_u' ?_ | refine optP_mk0 ?_))
                refine neq_s (fun u3 => ?_) (fun u3 => ?_)
                · rw [decide_eq_false (by omega), Bool.false_or] at hfin hok
                  (repeat (first | refine bindP_mk (by simp (disch := first | omega | exact Int.natCast_nonneg _ | assumption) only [BB, B2, ↓reduceIte, Nat.reduceLeDiff, Nat.reduceAdd, CC, g1, g2, g3, hsg, hix, hx4, hx1, rix, rld] <;> rfl) ?_ | refine newP_mk ?_ | refine optP_mk ?_ | with_reducible first | refine condP_t ?_ | refine condP_f ?_ | refine ifP_tt' ?_ | refine ifP_ff' ?_ | refine ifP_tf' ?_ | refine ifP_ft' ?_ | refine ifP_u' ?_ | refine optP_mk0 ?_))
                  refine ref11_in_c (by omega) hrv fun n9 hn9 => ?_
                  cases hcn : R.contains r with
                  | true =>
                    rw [hcn] at hok
                    (repeat (first | refine bindP_mk (by simp (disch := first | omega | exact Int.natCast_nonneg _ | assumption) only [BB, B2, ↓reduceIte, Nat.reduceLeDiff, Nat.reduceAdd, CC] <;> rfl) ?_ | refine newP_mk ?_ | refine optP_mk ?_ | with_reducible first | refine condP_t ?_ | refine condP_f ?_ | refine ifP_tt' ?_ | refine ifP_ff' ?_ | refine ifP_tf' ?_ | refine ifP_ft' ?_ | refine ifP_u' ?_ | refine optP_mk0 ?_))
                    exact hok _ _ e3 e4 e5 rfl rfl (by omega)
                  | false =>
                    rw [hcn] at hfin
                    (repeat (first | refine bindP_mk (by simp (disch := first | omega | exact Int.natCast_nonneg _ | assumption) only [BB, B2, ↓reduceIte, Nat.reduceLeDiff, Nat.reduceAdd, CC] <;> rfl) ?_ | refine newP_mk ?_ | refine optP_mk ?_ | with_reducible first | refine condP_t ?_ | refine condP_f ?_ | refine ifP_tt' ?_ | refine ifP_ff' ?_ | refine ifP_tf' ?_ | refine ifP_ft' ?_ | refine ifP_u' ?_ | refine optP_mk0 ?_))
                    exact hfin _ _ rfl rfl (by omega)
                · rw [decide_eq_true (by omega), Bool.true_or] at hfin hok
                  (repeat (first | refine bindP_mk (by simp (disch := first | omega | exact Int.natCast_nonneg _ | assumption) only [BB, B2, ↓reduceIte, Nat.reduceLeDiff, Nat.reduceAdd, CC] <;> rfl) ?_ | refine newP_mk ?_ | refine optP_mk ?_ | with_reducible first | refine condP_t ?_ | refine condP_f ?_ | refine ifP_tt' ?_ | refine ifP_ff' ?_ | refine ifP_tf' ?_ | refine ifP_ft' ?_ | refine ifP_u' ?_ | refine optP_mk0 ?_))
                  exact hok _ _ e3 e4 e5 rfl rfl (by omega)
          · (repeat (first | refine bindP_mk (by simp (disch := first | omega | exact Int.natCast_nonneg _ | assumption) only [BB, B2, ↓reduceIte, Nat.reduceLeDiff, Nat.reduceAdd, CC] <;> rfl) ?_ | refine newP_mk ?_ | refine optP_mk ?_ | with_reducible first | refine condP_t ?_ | refine condP_f ?_ | refine ifP_tt' ?_ | refine ifP_ff' ?_ | refine ifP_tf' ?_ | refine ifP_ft' ?_ | refine ifP_u' ?_ | refine optP_mk0 ?_))
            refine hx _ _ _ _ (fun e => by cases e) (exP_e (beqP_t ?_))
            unfold ref11_move_j1
            rw [drop_all (by omega), opsOk_nil] at hr
            exact ⟨h, hs, kb hK hr.symm (by omega)⟩
end V
end Go.Proofs.Ytmmdcdjkmakgpaa
set_option linter.unusedVariables false
set_option linter.unusedSimpArgs false
namespace Go.Proofs.Ytmmdcdjkmakgpaa
namespace V
open PA
attribute [local irreducible] bindP ifP condP newP optP exP beqP
def rowOk (S : List StateD) (R : List Int) (many ru : Int) (row : List MoveD) : Bool := decide (-1 ≤ ru) && (decide (ru < 512) && (decide ((row.length : Int) = many) && row.all (moveOk S R)))
def rowsOk (S : List StateD) (R : List Int) (many : Int) : List Int → List (List MoveD) → Bool
  | ru :: rus, row :: rows => rowOk S R many ru row && rowsOk S R many rus rows
  | _, _ => true
def stateOk (S : List StateD) (many : Int) (cn : Nat) (s : StateD) : Bool := decide (codesD s.r.length ≠ 0) && (decide ((s.rule.length : Int) = codesD s.r.length) && (decide ((s.next.length : Int) = codesD s.r.length) && (rz (-1) 512 s.l && (rz (-1) cn s.r && rowsOk S s.r many s.rule s.next))))
theorem rowsOk_cons (S : List StateD) (R : List Int) (many ru : Int) (row : List MoveD) (rus : List Int) (rows : List (List MoveD)) : rowsOk S R many (ru :: rus) (row :: rows) = (rowOk S R many ru row && rowsOk S R many rus rows) := rfl
theorem rowsOk_nil (S : List StateD) (R : List Int) (many : Int) (l : List Int) : rowsOk S R many l [] = true := by cases l <;> rfl
end V
end Go.Proofs.Ytmmdcdjkmakgpaa
set_option linter.unusedVariables false
set_option linter.unusedSimpArgs false
namespace Go.Proofs.Ytmmdcdjkmakgpaa
namespace V
open PA
attribute [local irreducible] bindP ifP condP newP optP exP beqP
set_option maxRecDepth 8000 in
set_option maxHeartbeats 2000000 in
theorem ref11_state_c {ro : Ro} {c : List Nat} {n : Int} {cv sv lv rv uv nv : Value} {S : List StateD} {C : List (Int × Int)} {s : StateD} (hc : c.length = 256) (hn : n ≤ 256) (hSl : S.length ≤ 256) (hC : C.length ≤ 512) (hsr : s.r.length ≤ maxB) {h : T Obj} {nx : Nat} {K : KV} (hf : Fr h nx)
    (hcv : SlR ro h cv 2 RCount C) (hS : SlR ro h sv 4 (RState ro h) S) (h1 : ZI ro h lv s.l) (h2 : ZI ro h rv s.r) (h3 : ZI ro h uv s.rule) (h4 : SlR ro h nv 1 (RRow ro h) s.next)
    (hK : ∀ nx', nx ≤ nx' → K (.bool (stateOk S n C.length s)) h nx') : callP Try.prog ro i_ref11_state [.agg (autL c n cv sv).toArray, .agg #[lv, rv, uv, nv]] h nx K := by
  apply ref11_state_of
  unfold ref11_state
  refine param_mk hf (Nat.le_refl _) fun p1 hs1 hf1 g1 _ => ?_
  refine param_mk hf1 (Nat.le_refl _) fun p2 hs2 hf2 g2 _ => ?_
  have g1 : p2.get nx = some (.cells (autL c n cv sv).toArray y_api_Auto) := hs2 _ _ g1
  have g2 : p2.get (nx + 1) = some (.cells #[lv, rv, uv, nv] y_api_State) := g2
  have hs := hs1.trans hs2
  have hS := hS.sub hs (RState.sub hs)
  have hcv := hcv.sub hs fun _ _ h => h
  have h1 := h1.sub hs
  have h2 := h2.sub hs
  have h3 := h3.sub hs
  have h4 := h4.sub hs (RRow.sub hs)
  have hsg := autL_states (n := n) (cv := cv) (sv := sv) hc
  have hcg := autL_counts (n := n) (cv := cv) (sv := sv) hc
  have hmg := autL_many (n := n) (cv := cv) (sv := sv) hc
  have LA := loadA_all (ro := ro) (z := 0) (n := 259) (l := autL c n cv sv) g1 (autL_len hc)
  have LS := loadA_all (ro := ro) (z := 0) (n := 4) (l := [lv, rv, uv, nv]) g2 rfl
  have l1 := h1.len
  have l2 := h2.len
  have l3 := h3.len
  have l4 := h4.len
  have lc := hcv.len
  have hno : ∀ n', stateOk S n C.length s = false → nx ≤ n' → ∃ h', Sub h' p2 ∧ K (.bool false) h' n' := fun n' e hn => ⟨h, hs, kb hK e hn⟩
  unfold stateOk at hno hK
  (repeat (first | refine bindP_mk (by simp (disch := first | omega | exact Int.natCast_nonneg _ | assumption) only [BB, B2, ↓reduceIte, Nat.reduceLeDiff, Nat.reduceAdd, CC, g2, l2] <;> rfl) ?_ | refine newP_mk ?_ | refine optP_mk ?_ | with_reducible first | refine condP_t ?_ | refine condP_f ?_ | refine ifP_tt' ?_ | refine ifP_ff' ?_ | refine ifP_tf' ?_ | refine ifP_ft' ?_ | refine ifP_u' ?_ | refine optP_mk0 ?_))
  refine ref11_Codes_c fun n1 hn1 => ?_
  have hcl := codes_le s.r.length
  have hcf := codes_few (m := s.r.length)
  generalize codesD s.r.length = cd at hno hK hcl hcf
  refine eql_s (fun u1 => ?_) (fun u1 => ?_)
  · (repeat (first | refine bindP_mk (by simp (disch := first | omega | exact Int.natCast_nonneg _ | assumption) only [BB, B2, ↓reduceIte, Nat.reduceLeDiff, Nat.reduceAdd, CC] <;> rfl) ?_ | refine newP_mk ?_ | refine optP_mk ?_ | with_reducible first | refine condP_t ?_ | refine condP_f ?_ | refine ifP_tt' ?_ | refine ifP_ff' ?_ | refine ifP_tf' ?_ | refine ifP_ft' ?_ | refine ifP_u' ?_ | refine optP_mk0 ?_))
    exact hno _ (by rw [decide_eq_false (by omega)]; rfl) (by omega)
  · rw [decide_eq_true u1, Bool.true_and] at hno hK
    have hcf := hcf u1
    (repeat (first | refine bindP_mk (by simp (disch := first | omega | exact Int.natCast_nonneg _ | assumption) only [BB, B2, ↓reduceIte, Nat.reduceLeDiff, Nat.reduceAdd, CC, g2] <;> rfl) ?_ | refine newP_mk ?_ | refine optP_mk ?_ | with_reducible first | refine condP_t ?_ | refine condP_f ?_ | refine ifP_tt' ?_ | refine ifP_ff' ?_ | refine ifP_tf' ?_ | refine ifP_ft' ?_ | refine ifP_u' ?_ | refine optP_mk0 ?_))
    refine ref11_rises_c (by omega) h1 fun n2 hn2 => ?_
    cases u4 : rz (-1) 512 s.l with
    | false =>
      (repeat (first | refine bindP_mk (by simp (disch := first | omega | exact Int.natCast_nonneg _ | assumption) only [BB, B2, ↓reduceIte, Nat.reduceLeDiff, Nat.reduceAdd, CC] <;> rfl) ?_ | refine newP_mk ?_ | refine optP_mk ?_ | with_reducible first | refine condP_t ?_ | refine condP_f ?_ | refine ifP_tt' ?_ | refine ifP_ff' ?_ | refine ifP_tf' ?_ | refine ifP_ft' ?_ | refine ifP_u' ?_ | refine optP_mk0 ?_))
      exact hno _ (by rw [u4]; simp) (by omega)
    | true =>
      rw [u4, Bool.true_and] at hno hK
      (repeat (first | refine bindP_mk (by simp (disch := first | omega | exact Int.natCast_nonneg _ | assumption) only [BB, B2, ↓reduceIte, Nat.reduceLeDiff, Nat.reduceAdd, CC, g1, g2, hcg, lc] <;> rfl) ?_ | refine newP_mk ?_ | refine optP_mk ?_ | with_reducible first | refine condP_t ?_ | refine condP_f ?_ | refine ifP_tt' ?_ | refine ifP_ff' ?_ | refine ifP_tf' ?_ | refine ifP_ft' ?_ | refine ifP_u' ?_ | refine optP_mk0 ?_))
      refine ref11_rises_c (by omega) h2 fun n3 hn3 => ?_
      cases u5 : rz (-1) C.length s.r with
      | false =>
        (repeat (first | refine bindP_mk (by simp (disch := first | omega | exact Int.natCast_nonneg _ | assumption) only [BB, B2, ↓reduceIte, Nat.reduceLeDiff, Nat.reduceAdd, CC] <;> rfl) ?_ | refine newP_mk ?_ | refine optP_mk ?_ | with_reducible first | refine condP_t ?_ | refine condP_f ?_ | refine ifP_tt' ?_ | refine ifP_ff' ?_ | refine ifP_tf' ?_ | refine ifP_ft' ?_ | refine ifP_u' ?_ | refine optP_mk0 ?_))
        exact hno _ (by rw [u5]; simp) (by omega)
      | true =>
        rw [u5, Bool.true_and] at hno hK
        (repeat (first | refine bindP_mk (by simp (disch := first | omega | exact Int.natCast_nonneg _ | assumption) only [BB, B2, ↓reduceIte, Nat.reduceLeDiff, Nat.reduceAdd, CC, g2, l3] <;> rfl) ?_ | refine newP_mk ?_ | refine optP_mk ?_ | with_reducible first | refine condP_t ?_ | refine condP_f ?_ | refine ifP_tt' ?_ | refine ifP_ff' ?_ | refine ifP_tf' ?_ | refine ifP_ft' ?_ | refine ifP_u' ?_ | refine optP_mk0 ?_))
        refine neq_s (fun u2 => ?_) (fun u2 => ?_)
        · (repeat (first | refine bindP_mk (by simp (disch := first | omega | exact Int.natCast_nonneg _ | assumption) only [BB, B2, ↓reduceIte, Nat.reduceLeDiff, Nat.reduceAdd, CC] <;> rfl) ?_ | refine newP_mk ?_ | refine optP_mk ?_ | with_reducible first | refine condP_t ?_ | refine condP_f ?_ | refine ifP_tt' ?_ | refine ifP_ff' ?_ | refine ifP_tf' ?_ | refine ifP_ft' ?_ | refine ifP_u' ?_ | refine optP_mk0 ?_))
          exact hno _ (by rw [decide_eq_false (by omega)]; rfl) (by omega)
        · rw [decide_eq_true u2, Bool.true_and] at hno hK
          (repeat (first | refine bindP_mk (by simp (disch := first | omega | exact Int.natCast_nonneg _ | assumption) only [BB, B2, ↓reduceIte, Nat.reduceLeDiff, Nat.reduceAdd, CC, g2, l4] <;> rfl) ?_ | refine newP_mk ?_ | refine optP_mk ?_ | with_reducible first | refine condP_t ?_ | refine condP_f ?_ | refine ifP_tt' ?_ | refine ifP_ff' ?_ | refine ifP_tf' ?_ | refine ifP_ft' ?_ | refine ifP_u' ?_ | refine optP_mk0 ?_))
          refine neq_s (fun u3 => ?_) (fun u3 => ?_)
          · (repeat (first | refine bindP_mk (by simp (disch := first | omega | exact Int.natCast_nonneg _ | assumption) only [BB, B2, ↓reduceIte, Nat.reduceLeDiff, Nat.reduceAdd, CC] <;> rfl) ?_ | refine newP_mk ?_ | refine optP_mk ?_ | with_reducible first | refine condP_t ?_ | refine condP_f ?_ | refine ifP_tt' ?_ | refine ifP_ff' ?_ | refine ifP_tf' ?_ | refine ifP_ft' ?_ | refine ifP_u' ?_ | refine optP_mk0 ?_))
            exact hno _ (by rw [decide_eq_false (by omega)]; rfl) (by omega)
          · rw [decide_eq_true u3, Bool.true_and] at hno hK
            (repeat (first | refine bindP_mk (by simp (disch := first | omega | exact Int.natCast_nonneg _ | assumption) only [BB, B2, ↓reduceIte, Nat.reduceLeDiff, Nat.reduceAdd, CC] <;> rfl) ?_ | refine newP_mk ?_ | refine optP_mk ?_ | with_reducible first | refine condP_t ?_ | refine condP_f ?_ | refine ifP_tt' ?_ | refine ifP_ff' ?_ | refine ifP_tf' ?_ | refine ifP_ft' ?_ | refine ifP_u' ?_ | refine optP_mk0 ?_))
            generalize hB : rowsOk S s.r n s.rule s.next = B at hno hK
            refine loopP_rule (fun j e h' nx' => ∃ (k : Nat), k + j = s.next.length ∧ n3 ≤ nx' ∧ h' = p2 ∧ e 2 = ptr nx ∧ e 3 = ptr (nx + 1) ∧ e 5 = .int .i64 cd ∧ e 6 = .int .i64 k ∧ rowsOk S s.r n (s.rule.drop k) (s.next.drop k) = B) ?_ (n := s.next.length) ⟨0, by omega, by omega, rfl, rfl, rfl, rfl, rfl, hB⟩
            rintro j e h' nx' ⟨k, hj, hnx, rfl, e2, e3, e5, e6, hr⟩ Q' hq hx
            unfold ref11_state_L1
            rw [e2, e3, e5, e6]
            refine lss_s (fun hk => ?_) (fun hk => ?_)
            · have hk : k < s.next.length := by omega
              have hk2 : k < s.rule.length := by omega
              rw [drop_cons hk, drop_cons hk2, rowsOk_cons] at hr
              have nix := h4.ix .i64 hk
              obtain ⟨w, ⟨w', ow, orow, olen⟩, o1⟩ := h4.at1 hk
              simp only [List.cons.injEq, and_true] at ow
              subst ow
              have uix := h3.ix .i64 hk2
              have uld := h3.load hk2
              generalize s.next[k] = row at hr o1 orow olen
              generalize s.rule[k] = ru at hr uld
              have rl := orow.len
              have hfin : ∀ (e' : Env) n', e' 4 = .bool false → rowOk S s.r n ru row = false → nx ≤ n' → Q' .ret e' h' n' := fun e' n' h6 hc hn => by
                refine hx _ _ _ _ (fun e => by cases e) (exP_r ?_)
                rw [h6]
                refine ⟨h, hs, kb hK ?_ hn⟩
                rw [← hr, hc]; rfl
              have hok : ∀ (e' : Env) n', e' 2 = ptr nx → e' 3 = ptr (nx + 1) → e' 5 = .int .i64 cd → e' 6 = .int .i64 ((k : Int) + 1) → rowOk S s.r n ru row = true → n3 ≤ n' → Q' .normal e' h' n' := fun e' n' f2 f3 f5 f6 hc hn =>
                hq (j - 1) _ _ _ _ (by omega) ⟨k + 1, by omega, hn, rfl, f2, f3, f5, f6, by rw [← hr, hc]; rfl⟩ (Sub.refl _)
              unfold rowOk at hfin hok
              (repeat (first | refine bindP_mk (by simp (disch := first | omega | exact Int.natCast_nonneg _ | assumption) only [BB, B2, ↓reduceIte, Nat.reduceLeDiff, Nat.reduceAdd, CC, g2, uix, uld] <;> rfl) ?_ | refine newP_mk ?_ | refine optP_mk ?_ | with_reducible first | refine condP_t ?_ | refine condP_f ?_ | refine ifP_tt' ?_ | refine ifP_ff' ?_ | refine ifP_tf' ?_ | refine ifP_ft' ?_ | refine ifP_u' ?_ | refine optP_mk0 ?_))
              refine lss_s (fun v1 => ?_) (fun v1 => ?_)
              · (repeat (first | refine bindP_mk (by simp (disch := first | omega | exact Int.natCast_nonneg _ | assumption) only [BB, B2, ↓reduceIte, Nat.reduceLeDiff, Nat.reduceAdd, CC] <;> rfl) ?_ | refine newP_mk ?_ | refine optP_mk ?_ | with_reducible first | refine condP_t ?_ | refine condP_f ?_ | refine ifP_tt' ?_ | refine ifP_ff' ?_ | refine ifP_tf' ?_ | refine ifP_ft' ?_ | refine ifP_u' ?_ | refine optP_mk0 ?_))
                exact hfin _ _ rfl (by rw [decide_eq_false (by omega)]; rfl) (by omega)
              · rw [decide_eq_true v1, Bool.true_and] at hfin hok
                (repeat (first | refine bindP_mk (by simp (disch := first | omega | exact Int.natCast_nonneg _ | assumption) only [BB, B2, ↓reduceIte, Nat.reduceLeDiff, Nat.reduceAdd, CC, g2, uix, uld] <;> rfl) ?_ | refine newP_mk ?_ | refine optP_mk ?_ | with_reducible first | refine condP_t ?_ | refine condP_f ?_ | refine ifP_tt' ?_ | refine ifP_ff' ?_ | refine ifP_tf' ?_ | refine ifP_ft' ?_ | refine ifP_u' ?_ | refine optP_mk0 ?_))
                refine geq_s (fun v2 => ?_) (fun v2 => ?_)
                · (repeat (first | refine bindP_mk (by simp (disch := first | omega | exact Int.natCast_nonneg _ | assumption) only [BB, B2, ↓reduceIte, Nat.reduceLeDiff, Nat.reduceAdd, CC] <;> rfl) ?_ | refine newP_mk ?_ | refine optP_mk ?_ | with_reducible first | refine condP_t ?_ | refine condP_f ?_ | refine ifP_tt' ?_ | refine ifP_ff' ?_ | refine ifP_tf' ?_ | refine ifP_ft' ?_ | refine ifP_u' ?_ | refine optP_mk0 ?_))
                  exact hfin _ _ rfl (by rw [decide_eq_false (by omega)]; rfl) (by omega)
                · rw [decide_eq_true v2, Bool.true_and] at hfin hok
                  (repeat (first | refine bindP_mk (by simp (disch := first | omega | exact Int.natCast_nonneg _ | assumption) only [BB, B2, ↓reduceIte, Nat.reduceLeDiff, Nat.reduceAdd, CC, g1, g2, nix, o1, rl, hmg] <;> rfl) ?_ | refine newP_mk ?_ | refine optP_mk ?_ | with_reducible first | refine condP_t ?_ | refine condP_f ?_ | refine ifP_tt' ?_ | refine ifP_ff' ?_ | refine ifP_tf' ?_ | refine ifP_ft' ?_ | refine ifP_u' ?_ | refine optP_mk0 ?_))
                  refine neq_s (fun v3 => ?_) (fun v3 => ?_)
                  · (repeat (first | refine bindP_mk (by simp (disch := first | omega | exact Int.natCast_nonneg _ | assumption) only [BB, B2, ↓reduceIte, Nat.reduceLeDiff, Nat.reduceAdd, CC] <;> rfl) ?_ | refine newP_mk ?_ | refine optP_mk ?_ | with_reducible first | refine condP_t ?_ | refine condP_f ?_ | refine ifP_tt' ?_ | refine ifP_ff' ?_ | refine ifP_tf' ?_ | refine ifP_ft' ?_ | refine ifP_u' ?_ | refine optP_mk0 ?_))
                    exact hfin _ _ rfl (by rw [decide_eq_false (by omega)]; rfl) (by omega)
                  · rw [decide_eq_true (by omega), Bool.true_and] at hfin hok
                    (repeat (first | refine bindP_mk (by simp (disch := first | omega | exact Int.natCast_nonneg _ | assumption) only [BB, B2, ↓reduceIte, Nat.reduceLeDiff, Nat.reduceAdd, CC] <;> rfl) ?_ | refine newP_mk ?_ | refine optP_mk ?_ | with_reducible first | refine condP_t ?_ | refine condP_f ?_ | refine ifP_tt' ?_ | refine ifP_ff' ?_ | refine ifP_tf' ?_ | refine ifP_ft' ?_ | refine ifP_u' ?_ | refine optP_mk0 ?_))
                    generalize hA : row.all (moveOk S s.r) = A at hfin hok
                    refine loopP_rule (fun j e h'' nx' => ∃ (q : Nat), q + j = row.length ∧ n3 ≤ nx' ∧ h'' = h' ∧ e 2 = ptr nx ∧ e 3 = ptr (nx + 1) ∧ e 5 = .int .i64 cd ∧ e 6 = .int .i64 k ∧ e 7 = .int .i64 q ∧ (row.drop q).all (moveOk S s.r) = A) ?_ (n := row.length) ⟨0, by omega, by omega, rfl, e2, e3, e5, e6, rfl, hA⟩
                    rintro j2 e' h'' nx2 ⟨q, hj2, hnx2, rfl, f2, f3, f5, f6, f7, hr2⟩ Q2 hq2 hx
                    unfold ref11_state_L2
                    rw [f2, f3, f6, f7]
                    (repeat (first | refine bindP_mk (by simp (disch := first | omega | exact Int.natCast_nonneg _ | assumption) only [BB, B2, ↓reduceIte, Nat.reduceLeDiff, Nat.reduceAdd, CC, g2, nix, o1, rl] <;> rfl) ?_ | refine newP_mk ?_ | refine optP_mk ?_ | with_reducible first | refine condP_t ?_ | refine condP_f ?_ | refine ifP_tt' ?_ | refine ifP_ff' ?_ | refine ifP_tf' ?_ | refine ifP_ft' ?_ | refine ifP_u' ?_ | refine optP_mk0 ?_))
                    refine lss_s (fun hk3 => ?_) (fun hk3 => ?_)
                    · have hk3 : q < row.length := by omega
                      rw [drop_cons hk3, List.all_cons] at hr2
                      have qix := orow.ix .i64 hk3
                      obtain ⟨x, ⟨ov, rfl, y1, y2⟩, hx2, hx3, hx4, hx5⟩ := orow.at hk3
                      generalize row[q] = m at hr2 y1 y2 hx3 hx5
                      (repeat (first | refine bindP_mk (by simp (disch := first | omega | exact Int.natCast_nonneg _ | assumption) only [BB, B2, ↓reduceIte, Nat.reduceLeDiff, Nat.reduceAdd, CC, LA, LS, g2, nix, o1, qix, hx3] <;> rfl) ?_ | refine newP_mk ?_ | refine optP_mk ?_ | with_reducible first | refine condP_t ?_ | refine condP_f ?_ | refine ifP_tt' ?_ | refine ifP_ff' ?_ | refine ifP_tf' ?_ | refine ifP_ft' ?_ | refine ifP_u' ?_ | refine optP_mk0 ?_))
                      refine ref11_move_c hc hSl (by omega) y2 (hf2.mono (by omega)) hS h2 y1 fun n4 hn4 => ?_
                      cases hm : moveOk S s.r m with
                      | true =>
                        rw [hm, Bool.true_and] at hr2
                        have hok2 : ∀ (e' : Env) n', e' 2 = ptr nx → e' 3 = ptr (nx + 1) → e' 5 = .int .i64 cd → e' 6 = .int .i64 k → e' 7 = .int .i64 ((q : Int) + 1) → n3 ≤ n' → Q2 .normal e' h'' n' := fun e' n' z2 z3 z5 z6 z7 hn =>
                          hq2 (j2 - 1) _ _ _ _ (by omega) ⟨q + 1, by omega, hn, rfl, z2, z3, z5, z6, z7, hr2⟩ (Sub.refl _)
                        (repeat (first | refine bindP_mk (by simp (disch := first | omega | exact Int.natCast_nonneg _ | assumption) only [BB, B2, ↓reduceIte, Nat.reduceLeDiff, Nat.reduceAdd, CC] <;> rfl) ?_ | refine newP_mk ?_ | refine optP_mk ?_ | with_reducible first | refine condP_t ?_ | refine condP_f ?_ | refine ifP_tt' ?_ | refine ifP_ff' ?_ | refine ifP_tf' ?_ | refine ifP_ft' ?_ | refine ifP_u' ?_ | refine optP_mk0 ?_))
                        exact hok2 _ _ f2 f3 f5 f6 rfl (by omega)
                      | false =>
                        rw [hm, Bool.false_and] at hr2
                        subst hr2
                        (repeat (first | refine bindP_mk (by simp (disch := first | omega | exact Int.natCast_nonneg _ | assumption) only [BB, B2, ↓reduceIte, Nat.reduceLeDiff, Nat.reduceAdd, CC] <;> rfl) ?_ | refine newP_mk ?_ | refine optP_mk ?_ | with_reducible first | refine condP_t ?_ | refine condP_f ?_ | refine ifP_tt' ?_ | refine ifP_ff' ?_ | refine ifP_tf' ?_ | refine ifP_ft' ?_ | refine ifP_u' ?_ | refine optP_mk0 ?_))
                        refine hx _ _ _ _ (fun e => by cases e) (exP_r ?_)
                        exact hfin _ _ rfl rfl (by omega)
                    · rw [drop_all (by omega)] at hr2
                      have hr2 : true = A := hr2
                      subst hr2
                      (repeat (first | refine bindP_mk (by simp (disch := first | omega | exact Int.natCast_nonneg _ | assumption) only [BB, B2, ↓reduceIte, Nat.reduceLeDiff, Nat.reduceAdd, CC] <;> rfl) ?_ | refine newP_mk ?_ | refine optP_mk ?_ | with_reducible first | refine condP_t ?_ | refine condP_f ?_ | refine ifP_tt' ?_ | refine ifP_ff' ?_ | refine ifP_tf' ?_ | refine ifP_ft' ?_ | refine ifP_u' ?_ | refine optP_mk0 ?_))
                      refine hx _ _ _ _ (fun e => by cases e) (exP_e (beqP_t ?_))
                      have hend : ∀ (e' : Env) n', e' 2 = ptr nx → e' 3 = ptr (nx + 1) → e' 5 = .int .i64 cd → e' 6 = .int .i64 k → n3 ≤ n' → ref11_state_j2 ro Q' e' h'' n' := fun e' n' z2 z3 z5 z6 hn => by
                        unfold ref11_state_j2
                        rw [z6]
                        (repeat (first | refine bindP_mk (by simp (disch := first | omega | exact Int.natCast_nonneg _ | assumption) only [BB, B2, ↓reduceIte, Nat.reduceLeDiff, Nat.reduceAdd, CC] <;> rfl) ?_ | refine newP_mk ?_ | refine optP_mk ?_ | with_reducible first | refine condP_t ?_ | refine condP_f ?_ | refine ifP_tt' ?_ | refine ifP_ff' ?_ | refine ifP_tf' ?_ | refine ifP_ft' ?_ | refine ifP_u' ?_ | refine optP_mk0 ?_))
                        exact hok _ _ z2 z3 z5 rfl rfl (by omega)
                      exact hend _ _ f2 f3 f5 f6 (by omega)
            · (repeat (first | refine bindP_mk (by simp (disch := first | omega | exact Int.natCast_nonneg _ | assumption) only [BB, B2, ↓reduceIte, Nat.reduceLeDiff, Nat.reduceAdd, CC] <;> rfl) ?_ | refine newP_mk ?_ | refine optP_mk ?_ | with_reducible first | refine condP_t ?_ | refine condP_f ?_ | refine ifP_tt' ?_ | refine ifP_ff' ?_ | refine ifP_tf' ?_ | refine ifP_ft' ?_ | refine ifP_u' ?_ | refine optP_mk0 ?_))
              refine hx _ _ _ _ (fun e => by cases e) (exP_e (beqP_t ?_))
              unfold ref11_state_j1
              rw [drop_all (l := s.next) (by omega), rowsOk_nil] at hr
              exact ⟨h, hs, kb hK hr.symm (by omega)⟩
end V
end Go.Proofs.Ytmmdcdjkmakgpaa
set_option linter.unusedVariables false
set_option linter.unusedSimpArgs false
namespace Go.Proofs.Ytmmdcdjkmakgpaa
namespace V
open PA
attribute [local irreducible] bindP ifP condP newP optP exP beqP
theorem SlR.okC {D : Type} {ro : Ro} {h : T Obj} {v : Value} {z : Nat} {R : List Value → D → Prop} {l : List D} (hl : SlR ro h v z R l) : cellOk v = true := by obtain ⟨cs, h9, _⟩ := hl; exact h9.ok
def countOk (p : Int × Int) : Bool := decide (1 ≤ p.1) && (decide (p.1 ≤ p.2) && (decide (2 ≤ p.2) && decide (p.2 ≤ 4096)))
def firstOk (S : List StateD) : Bool := decide ((S.getD 0 noS).l.length = 0) && decide ((S.getD 0 noS).r.length = 0)
def autoOk (d : AutoD) : Bool := rightB d.c d.many && (decide (d.counts.length ≤ 512) && (decide (1 ≤ d.states.length) && (decide (d.states.length ≤ 256) && (firstOk d.states && (d.counts.all countOk && d.states.all (stateOk d.states d.many d.counts.length))))))
theorem right_many {c : List Nat} {n : Int} (h : rightB c n = true) : n ≤ 256 := by
  unfold rightB at h
  split at h
  · rename_i m hm
    have := rt_le hm
    simp only [decide_eq_true_eq] at h
    omega
  · cases h
theorem rz_many : ∀ {l : List Int} {a m : Int}, rz a m l = true → (l.length : Int) ≤ max 0 (m - a - 1)
  | [], a, m, _ => by simp only [List.length_nil]; omega
  | x :: r, a, m, h => by
    rw [rz_cons] at h
    simp only [Bool.and_eq_true, decide_eq_true_eq] at h
    have := rz_many h.2.2
    rw [List.length_cons]
    omega
theorem zer_a2 : zer Try.prog y_a2_int = some (.agg #[.int .i64 0, .int .i64 0]) := by kernel_rfl
end V
end Go.Proofs.Ytmmdcdjkmakgpaa
set_option linter.unusedVariables false
set_option linter.unusedSimpArgs false
namespace Go.Proofs.Ytmmdcdjkmakgpaa
namespace V
open PA
theorem rz_upper : ∀ {l : List Int} {a m m' : Int}, m ≤ m' → rz a m l = true → rz a m' l = true
  | [], _, _, _, _, _ => rfl
  | x :: r, a, m, m', hm, h => by
    simp only [rz, Bool.and_eq_true, decide_eq_true_eq] at h ⊢
    exact ⟨h.1, by omega, rz_upper hm h.2.2⟩
theorem digs_mem {g : GlD} : ∀ {l : List Int} {c : Int} {d : Int × Int}, d ∈ digs g l c → d.1 ∈ l ∧ (d.2 ≠ -1 → ctd g d.1 = true)
  | [], c, d, hd => by cases hd
  | p :: r, c, d, hd => by
    rw [digs_cons] at hd
    split at hd
    · rename_i hc
      rcases List.mem_cons.1 hd with rfl | hd
      · exact ⟨by simp, fun _ => hc⟩
      · obtain ⟨h1, h2⟩ := digs_mem hd
        exact ⟨by simp [h1], h2⟩
    · rcases List.mem_cons.1 hd with rfl | hd
      · exact ⟨by simp, fun h => absurd rfl h⟩
      · obtain ⟨h1, h2⟩ := digs_mem hd
        exact ⟨by simp [h1], h2⟩
theorem at_mem {g : GlD} {q : Int} (h0 : 0 ≤ q) (h1 : q < g.p.length) : g.at q ∈ g.p ∧ g.p[q.toNat]? = some (g.at q) := by
  have hl : q.toNat < g.p.length := by omega
  have : g.at q = g.p[q.toNat] := by
    unfold GlD.at
    rw [List.getD_eq_getElem?_getD, List.getElem?_eq_getElem hl]; rfl
  rw [this]
  exact ⟨List.getElem_mem hl, List.getElem?_eq_getElem hl⟩
theorem num_lt {g : GlD} {p q : Int} (hp : 0 ≤ p) (hpq : p < q) (hc : ctd g p = true) (hq : q ≤ g.p.length) : numZ g p < numZ g q := by
  unfold numZ
  have hl : p.toNat < g.p.length := by omega
  have hat := (at_mem (g := g) (q := p) hp (by omega)).2
  have h1 : g.p.take (p.toNat + 1) = g.p.take p.toNat ++ [g.at p] := by
    rw [List.take_succ_eq_append_getElem hl]
    have := List.getElem?_eq_getElem hl
    rw [hat] at this
    rw [Option.some.inj this]
  have h2 : ((g.p.take (p.toNat + 1)).filter ctdP).length = ((g.p.take p.toNat).filter ctdP).length + 1 := by
    rw [h1, List.filter_append, List.length_append, List.filter_cons_of_pos (show ctdP (g.at p) = true from hc)]; rfl
  have h3 : ((g.p.take (p.toNat + 1)).filter ctdP).length ≤ ((g.p.take q.toNat).filter ctdP).length := by
    have e : g.p.take (p.toNat + 1) = (g.p.take q.toNat).take (p.toNat + 1) := by rw [List.take_take, Nat.min_eq_left (by omega)]
    rw [e]
    exact ((List.take_sublist _ _).filter _).length_le
  omega
theorem num_cnts {g : GlD} {q : Int} (h0 : 0 ≤ q) (h1 : q < g.p.length) (hc : ctd g q = true) : numZ g q < ((cntsL g.p).length : Nat) ∧ 0 ≤ numZ g q := by
  have := num_lt h0 (show q < (g.p.length : Int) from h1) hc (Int.le_refl _)
  have e : numZ g (g.p.length : Int) = ((cntsL g.p).length : Nat) := by rw [numZ_cnts, List.take_length]
  refine ⟨by omega, ?_⟩
  unfold numZ; omega
theorem regs_rz {g : GlD} : ∀ {l : List Int} {a b : Int}, rz a g.p.length l = true → -1 ≤ a → (∀ q ∈ l, ctd g q = true → b < numZ g q) → rz b ((cntsL g.p).length : Nat) (regsZ g l) = true
  | [], a, b, _, _, _ => rfl
  | x :: r, a, b, h, ha, hb => by
    simp only [rz, Bool.and_eq_true, decide_eq_true_eq] at h
    unfold regsZ
    cases hc : ctd g x with
    | false =>
      rw [List.filter_cons_of_neg (by simp [hc])]
      exact regs_rz h.2.2 (by omega) fun q hq hcq => hb q (by simp [hq]) hcq
    | true =>
      rw [List.filter_cons_of_pos hc, List.map_cons]
      have h1 := hb x (by simp) hc
      have h2 := num_cnts (by omega) h.2.1 hc
      simp only [rz, Bool.and_eq_true, decide_eq_true_eq]
      refine ⟨h1, h2.1, regs_rz h.2.2 (by omega) fun q hq hcq => ?_⟩
      have := rz_mem h.2.2 q hq
      exact num_lt (by omega) this.1 hc (by omega)
theorem ruleZ_range {g : GlD} : ∀ {D : List (Int × Int)} {b : Int}, (∀ d ∈ D, 0 ≤ (g.at d.1).rule ∧ (g.at d.1).rule < 512) → -1 ≤ b ∧ b < 512 → -1 ≤ ruleZ g b D ∧ ruleZ g b D < 512
  | [], b, _, hb => hb
  | d :: r, b, h, hb => by
    rw [ruleZ_cons]
    refine ruleZ_range (fun d' hd' => h d' (by simp [hd'])) ?_
    have := h d (by simp)
    split <;> omega
theorem opsOk_maps {α : Type} {R : List Int} (f : α → Nat) (k : α → Int) : ∀ {L : List α}, (∀ q ∈ L, opOk R (f q) (k q) = true) → opsOk R (L.map f) (L.map k) = true
  | [], _ => rfl
  | q :: L, h => by
    rw [List.map_cons, List.map_cons, opsOk_cons, h q (by simp), Bool.true_and]
    exact opsOk_maps f k fun x hx => h x (by simp [hx])
theorem rowsOk_of {S : List StateD} {R : List Int} {many : Int} : ∀ {rus : List Int} {rows : List (List MoveD)}, (∀ (q : Nat) ru row, rus[q]? = some ru → rows[q]? = some row → rowOk S R many ru row = true) → rowsOk S R many rus rows = true
  | [], rows, _ => by cases rows <;> rfl
  | ru :: rus, [], _ => rfl
  | ru :: rus, row :: rows, h => by
    rw [rowsOk_cons, h 0 ru row rfl rfl, Bool.true_and]
    exact rowsOk_of fun q r w h1 h2 => h (q + 1) r w (by simpa using h1) (by simpa using h2)
theorem codes_pos {m : Nat} (h : m ≤ 3) : codesD (m : Int) ≠ 0 ∧ 0 ≤ codesD (m : Int) := by
  have : m = 0 ∨ m = 1 ∨ m = 2 ∨ m = 3 := by omega
  rcases this with rfl | rfl | rfl | rfl <;> exact ⟨by decide, by decide⟩
theorem mv_ok {g : GlD} {S : List StateD} (hb : Base g S) {i : Nat} {s : StateD} (hs : S[i]? = some s) {c : Int} {b : Nat} {m : MoveD} (hm : MvOk g (entersZ g i (digs g s.l c)) (staysZ (digs g s.l c)) b S m) : moveOk S s.r m = true := by
  unfold moveOk
  rcases hm with ⟨h1, h2, h3⟩ | ⟨h1, k, t, h2, h3, h4, h5⟩
  · rw [if_pos h2, h3]; rfl
  · rw [if_neg (by omega)]
    have hk0 : k ≠ 0 := by
      rintro rfl
      obtain ⟨z, z1, z2⟩ := hb.zero
      rw [z1] at h3; cases h3
      exact h1 (by rw [← h4]; exact z2)
    have hkl := (List.getElem?_eq_some_iff.1 h3).1
    have hgd : S.getD m.to.toNat noS = t := by rw [h2, Int.toNat_natCast, List.getD_eq_getElem?_getD, h3]; rfl
    obtain ⟨t1, t2, t3⟩ := hb.ok t (List.mem_of_getElem? h3)
    rw [hgd, t2, h4, h5, h2, decide_eq_true (by omega), decide_eq_true (by omega), Bool.true_and, Bool.true_and]
    have hlen : (opsZ g (entersZ g i (digs g s.l c)) (staysZ (digs g s.l c)) (lZ g (entersZ g i (digs g s.l c)) (staysZ (digs g s.l c)) b)).length = (regsZ g (lZ g (entersZ g i (digs g s.l c)) (staysZ (digs g s.l c)) b)).length := by
      unfold opsZ regsZ
      rw [List.length_map, List.length_map]
    rw [decide_eq_true hlen, Bool.true_and]
    unfold opsZ regsZ
    refine opsOk_maps _ _ fun q hq => ?_
    obtain ⟨hq1, hq2⟩ := List.mem_filter.1 hq
    unfold opOk opZ
    cases hst : staysZ (digs g s.l c) q with
    | false => rfl
    | true =>
      have hR : s.r.contains (numZ g q) = true := by
        unfold staysZ at hst
        obtain ⟨d, hd, he⟩ := List.any_eq_true.1 hst
        simp only [Bool.and_eq_true, decide_eq_true_eq] at he
        have hdl := (digs_mem hd).1
        rw [he.1] at hdl
        rw [(hb.ok s (List.mem_of_getElem? hs)).2.1]
        unfold regsZ
        simp only [List.contains_eq_mem, decide_eq_true_eq, List.mem_map, List.mem_filter]
        exact ⟨q, ⟨hdl, hq2⟩, rfl⟩
      rw [hR]
      cases entersZ g i (digs g s.l c) q <;> rfl
theorem right_of {g : GlD} (h0 : (ofZ g).1 = 0) : autoOk (ofZ g).2 = true := by
  obtain ⟨hr, S, hS, hm, _⟩ := ofZ_ok h0
  obtain ⟨hgl, hfr, hmay⟩ := right_parts hr
  rw [hS]
  unfold autoOk ofD
  dsimp only
  obtain ⟨z, z1, z2⟩ := hm.base.zero
  have hz0 := (List.getElem?_eq_some_iff.1 z1).1
  have hcl := cntsL_len g.p
  have hfirst : firstOk S = true := by
    unfold firstOk
    have : S.getD 0 noS = z := by rw [List.getD_eq_getElem?_getD, z1]; rfl
    rw [this, (hm.base.ok z (List.mem_of_getElem? z1)).2.1, z2]; rfl
  have hcnt : (cntsL g.p).all countOk = true := by
    rw [List.all_eq_true]
    intro p hp
    unfold cntsL at hp
    obtain ⟨x, hx, rfl⟩ := List.mem_map.1 hp
    obtain ⟨hx1, hx2⟩ := List.mem_filter.1 hx
    have hx2 : 1 < x.hi := of_decide_eq_true hx2
    obtain ⟨m1, m2, m3, _⟩ := may_parts (hmay x hx1)
    unfold countOk
    simp only [Bool.and_eq_true, decide_eq_true_eq]
    exact ⟨m1, m2, by omega, m3⟩
  have hst : S.all (stateOk S (many (setsL g.p) : Int) (cntsL g.p).length) = true := by
    rw [List.all_eq_true]
    intro s hs
    obtain ⟨i, hi⟩ := List.mem_iff_getElem?.1 hs
    obtain ⟨o1, o2, o3⟩ := hm.base.ok s hs
    obtain ⟨c1, c2⟩ := hm.codes hi
    obtain ⟨p1, p2⟩ := codes_pos o3
    unfold stateOk
    simp only [Bool.and_eq_true, decide_eq_true_eq]
    refine ⟨p1, by omega, by omega, rz_upper (by omega) o1, ?_, rowsOk_of fun q ru row h1 h2 => ?_⟩
    · rw [o2]
      refine regs_rz o1 (Int.le_refl _) fun q hq hc => ?_
      unfold numZ; omega
    · have hru := hm.rule i s q ru hi h1
      obtain ⟨n1, n2⟩ := hm.next i s q row hi h2
      have hrg := ruleZ_range (g := g) (D := digs g s.l q) (b := -1) (fun d hd => by
        have := rz_mem o1 _ (digs_mem hd).1
        obtain ⟨_, _, _, m4, m5, _⟩ := may_parts (hmay _ (at_mem (by omega) this.2).1)
        exact ⟨m4, m5⟩) ⟨by omega, by omega⟩
      unfold rowOk
      simp only [Bool.and_eq_true, decide_eq_true_eq, List.all_eq_true]
      refine ⟨by omega, by omega, by rw [n1, ofB_many], fun m hmr => ?_⟩
      obtain ⟨j, hj⟩ := List.mem_iff_getElem?.1 hmr
      have hjl := (List.getElem?_eq_some_iff.1 hj).1
      exact mv_ok hm.base hi (n2 j _ m (List.getElem?_eq_getElem (by omega)) hj)
  rw [right_cls, decide_eq_true (show (cntsL g.p).length ≤ 512 by omega), decide_eq_true (show 1 ≤ S.length by omega), decide_eq_true hm.base.few, hfirst, hcnt, hst]
  rfl
end V
end Go.Proofs.Ytmmdcdjkmakgpaa
set_option linter.unusedVariables false
set_option linter.unusedSimpArgs false
namespace Go.Proofs.Ytmmdcdjkmakgpaa
namespace V
open PA
def ahead (A : Int) : List MoveD → Option Int
  | [] => some A
  | m :: r => if m.to ≤ A then ahead (max A (m.to + 1)) r else none
def movesOf (S : List StateD) : List MoveD := S.flatMap fun s => s.next.flatten
structure AM (S : List StateD) (k : Nat) : Prop where
  all : ahead 1 (movesOf S) = some (S.length : Int)
  at_ : ∀ i, i ≤ k → i < S.length → ∃ A, ahead 1 (movesOf (S.take i)) = some A ∧ (i : Int) < A
end V
end Go.Proofs.Ytmmdcdjkmakgpaa
set_option linter.unusedVariables false
set_option linter.unusedSimpArgs false
namespace Go.Proofs.Ytmmdcdjkmakgpaa
namespace V
open PA
attribute [local irreducible] bindP ifP condP newP optP exP beqP
def fewD (g : GlD) : GlD := if 40 < g.p.length then ⟨[], []⟩ else g
theorem zer_Gl : zer Try.prog y_api_Glush = some (.agg #[nilS, nilS]) := by kernel_rfl
theorem build_Gl0 : buildV Try.prog y_api_Glush [] = some (.agg #[nilS, nilS]) := by kernel_rfl
end V
end Go.Proofs.Ytmmdcdjkmakgpaa
set_option linter.unusedVariables false
set_option linter.unusedSimpArgs false
namespace Go.Proofs.Ytmmdcdjkmakgpaa
namespace V
attribute [local irreducible] callPre callP bindP
end V
end Go.Proofs.Ytmmdcdjkmakgpaa
set_option linter.unusedVariables false
set_option linter.unusedSimpArgs false
namespace Go.Proofs.Ytmmdcdjkmakgpaa
namespace V
open PA
structure Alike1 (p q : PosD) : Prop where
  s : p.s = q.s
  rule : p.rule = q.rule
  last : p.last = q.last
  next : p.next = q.next
  ct : ctdP p = ctdP q
structure AlikeG (x y : GlD) : Prop where
  first : x.first = y.first
  len : x.p.length = y.p.length
  each : ∀ (i : Nat) p q, x.p[i]? = some p → y.p[i]? = some q → Alike1 p q
section
variable {x y : GlD}
theorem AlikeG.at (h : AlikeG x y) (q : Int) : Alike1 (x.at q) (y.at q) := by
  unfold GlD.at
  rw [List.getD_eq_getElem?_getD, List.getD_eq_getElem?_getD]
  cases hx : x.p[q.toNat]? with
  | none =>
    have : y.p[q.toNat]? = none := by rw [List.getElem?_eq_none_iff] at hx ⊢; have := h.len; omega
    rw [this]; exact ⟨rfl, rfl, rfl, rfl, rfl⟩
  | some p =>
    have hl := (List.getElem?_eq_some_iff.1 hx).1
    have hy : y.p[q.toNat]? = some (y.p[q.toNat]'(by have := h.len; omega)) := List.getElem?_eq_getElem _
    rw [hy]; exact h.each _ _ _ hx hy
theorem AlikeG.ctd (h : AlikeG x y) : ctd x = ctd y := funext fun q => (h.at q).ct
theorem filter_len : ∀ {a b : List PosD}, a.length = b.length → (∀ (i : Nat) p q, a[i]? = some p → b[i]? = some q → Alike1 p q) → (a.filter ctdP).length = (b.filter ctdP).length
  | [], [], _, _ => rfl
  | p :: a, q :: b, hl, he => by
    have h0 := (he 0 p q rfl rfl).ct
    have ih := filter_len (a := a) (b := b) (by simpa using hl) fun i p q hp hq => he (i + 1) p q (by simpa using hp) (by simpa using hq)
    cases hc : ctdP q with
    | true => rw [List.filter_cons_of_pos (h0.trans hc), List.filter_cons_of_pos hc, List.length_cons, List.length_cons, ih]
    | false => rw [List.filter_cons_of_neg (by rw [h0, hc]; decide), List.filter_cons_of_neg (by rw [hc]; decide), ih]
  | [], q :: b, hl, _ => by simp at hl
  | p :: a, [], hl, _ => by simp at hl
theorem AlikeG.num (h : AlikeG x y) : numZ x = numZ y := funext fun q => by
  unfold numZ
  rw [filter_len (a := x.p.take q.toNat) (b := y.p.take q.toNat) (by rw [List.length_take, List.length_take, h.len]) fun i p r hp hr => by
    rw [List.getElem?_take] at hp hr
    split at hp
    · rename_i hi
      rw [if_pos hi] at hr
      exact h.each i p r hp hr
    · cases hp]
theorem AlikeG.regs (h : AlikeG x y) : regsZ x = regsZ y := funext fun l => by unfold regsZ; rw [h.ctd, h.num]
theorem AlikeG.digs (h : AlikeG x y) : ∀ (l : List Int) (c : Int), digs x l c = digs y l c
  | [], c => rfl
  | p :: r, c => by rw [digs_cons, digs_cons, h.ctd, h.digs r (c / 3), h.digs r c]
theorem AlikeG.enters (h : AlikeG x y) (k : Nat) (D : List (Int × Int)) : entersZ x k D = entersZ y k D := funext fun q => by
  unfold entersZ
  rw [h.first]
  congr 2
  funext d
  rw [(h.at d.1).next]
theorem AlikeG.rule (h : AlikeG x y) : ∀ (D : List (Int × Int)) (b : Int), ruleZ x b D = ruleZ y b D
  | [], b => rfl
  | d :: r, b => by rw [ruleZ_cons, ruleZ_cons, (h.at d.1).last, (h.at d.1).rule, h.rule r]
theorem AlikeG.lz (h : AlikeG x y) (en st : Int → Bool) (b : Nat) : lZ x en st b = lZ y en st b := by
  unfold lZ
  rw [h.len]
  congr 1
  funext q
  unfold takesZ
  rw [(h.at q).s]
theorem AlikeG.ops (h : AlikeG x y) (en st : Int → Bool) (l : List Int) : opsZ x en st l = opsZ y en st l := by unfold opsZ; rw [h.ctd]
theorem AlikeG.find (h : AlikeG x y) (S : List StateD) (l : List Int) : findZ x S l = findZ y S l := by unfold findZ; rw [h.regs]
theorem AlikeG.goes (h : AlikeG x y) (en st : Int → Bool) (b : Nat) (S : List StateD) : goesZ x en st b S = goesZ y en st b S := by
  by_cases hl : lZ y en st b = []
  · rw [goesZ_nil hl, goesZ_nil (by rw [h.lz]; exact hl)]
  · rw [goesZ_ne hl, goesZ_ne (by rw [h.lz]; exact hl), h.lz, h.find, h.ops]
theorem AlikeG.row (h : AlikeG x y) (en st : Int → Bool) : ∀ (B : List Nat) (S : List StateD), rowZ x en st B S = rowZ y en st B S
  | [], S => rfl
  | b :: r, S => by rw [rowZ_cons, rowZ_cons, h.goes, h.row en st r]
theorem AlikeG.code (h : AlikeG x y) (B : List Nat) (k : Nat) (c : Int) (S : List StateD) : codeZ x B k c S = codeZ y B k c S := by
  unfold codeZ
  dsimp only
  rw [h.digs, h.enters, h.row, h.rule]
theorem AlikeG.codes (h : AlikeG x y) (B : List Nat) (k : Nat) : ∀ (n : Nat) (c : Int) (S : List StateD), codesZ x B k n c S = codesZ y B k n c S
  | 0, c, S => rfl
  | n + 1, c, S => by rw [codesZ_succ, codesZ_succ, h.code, h.codes B k n]
theorem AlikeG.all (h : AlikeG x y) (B : List Nat) : ∀ (n k : Nat) (S : List StateD), allZ x B n k S = allZ y B n k S
  | 0, k, S => rfl
  | n + 1, k, S => by rw [allZ_succ, allZ_succ, h.codes, h.all B n]
theorem AlikeG.sets (h : AlikeG x y) : setsL x.p = setsL y.p := by
  unfold setsL
  apply List.ext_getElem?
  intro i
  rw [List.getElem?_map, List.getElem?_map]
  cases hx : x.p[i]? with
  | none =>
    have : y.p[i]? = none := by rw [List.getElem?_eq_none_iff] at hx ⊢; have := h.len; omega
    rw [this]
  | some p =>
    have hl := (List.getElem?_eq_some_iff.1 hx).1
    have hy : y.p[i]? = some (y.p[i]'(by have := h.len; omega)) := List.getElem?_eq_getElem _
    rw [hy]
    show some p.s = some _
    rw [(h.each _ _ _ hx hy).s]
theorem AlikeG.cnts (h : AlikeG x y) : (cntsL x.p).length = (cntsL y.p).length := by
  unfold cntsL
  rw [List.length_map, List.length_map]
  exact filter_len h.len h.each
theorem AlikeG.of (h : AlikeG x y) (hx : rightD x = true) (hy : rightD y = true) : (ofZ x).1 = (ofZ y).1 ∧ (ofZ x).2.c = (ofZ y).2.c ∧ (ofZ x).2.many = (ofZ y).2.many ∧ (ofZ x).2.states = (ofZ y).2.states ∧ (ofZ x).2.counts.length = (ofZ y).2.counts.length ∧ ((ofZ y).1 = 0 → (ofZ y).2.counts = cntsL y.p) ∧ ((ofZ y).1 ≠ 0 → (ofZ y).2.counts = []) := by
  have hB : ofB x = ofB y := by unfold ofB; rw [h.sets]
  unfold ofZ
  rw [if_pos hx, if_pos hy, hB, h.all]
  by_cases h0 : (allZ y (ofB y) 256 0 [noS]).1 = 0
  · rw [if_pos h0, if_pos h0]
    refine ⟨rfl, ?_, ?_, rfl, h.cnts, fun _ => rfl, fun h => absurd rfl h⟩
    · show cls (setsL x.p) = cls (setsL y.p); rw [h.sets]
    · show (many (setsL x.p) : Int) = many (setsL y.p); rw [h.sets]
  · rw [if_neg h0, if_neg h0]
    exact ⟨rfl, rfl, rfl, rfl, rfl, fun h => absurd h h0, fun _ => rfl⟩
end
end V
end Go.Proofs.Ytmmdcdjkmakgpaa
set_option linter.unusedVariables false
set_option linter.unusedSimpArgs false
namespace Go.Proofs.Ytmmdcdjkmakgpaa
namespace V
theorem okZ : zerosOk Try.prog = true := by kernel_rfl
theorem okN : namesOk Try.prog = true := by kernel_rfl
theorem okM : Try.prog.follows .mixedOrders = true := by kernel_rfl
set_option maxRecDepth 1000000 in
theorem shown_orc : Orc Try.prog i_law11_shown (.bool true) := orc_ev okZ okN okM (k := 200) rfl (by kernel_rfl) fun ro => by kernel_rfl
theorem shown_c {ro : Ro} {h : T Obj} {nx : Nat} {K : KV} (hK : K (.bool true) h nx) : callP Try.prog ro i_law11_shown [] h nx K := callP_orc shown_orc hK
end V
end Go.Proofs.Ytmmdcdjkmakgpaa
set_option linter.unusedVariables false
set_option linter.unusedSimpArgs false
namespace Go.Proofs.Ytmmdcdjkmakgpaa
namespace V
attribute [local irreducible] callPre callP bindP
end V
end Go.Proofs.Ytmmdcdjkmakgpaa
set_option linter.unusedVariables false
set_option linter.unusedSimpArgs false
namespace Go.Proofs.Ytmmdcdjkmakgpaa
namespace V
open PA
attribute [local irreducible] bindP ifP condP newP optP exP beqP
section
variable {ro : Ro}
theorem st_ok {h : T Obj} {lv rv uv nv : Value} {s : StateD} (y1 : ZI ro h lv s.l) (y2 : ZI ro h rv s.r) (y3 : ZI ro h uv s.rule) (y4 : SlR ro h nv 1 (RRow ro h) s.next) : [lv, rv, uv, nv].all cellOk = true := by
  simp only [List.all_cons, List.all_nil, y1.ok, y2.ok, y3.ok, y4.okC]; rfl
section
variable {S : List StateD} {c : List Nat} {n : Int} {cv sv : Value} {aid : Nat}
end
end
end V
end Go.Proofs.Ytmmdcdjkmakgpaa
set_option linter.unusedVariables false
set_option linter.unusedSimpArgs false
namespace Go.Proofs.Ytmmdcdjkmakgpaa
namespace V
attribute [local irreducible] callPre callP bindP
end V
end Go.Proofs.Ytmmdcdjkmakgpaa
set_option linter.unusedVariables false
set_option linter.unusedSimpArgs false
namespace Go.Proofs.Ytmmdcdjkmakgpaa
namespace V
open PA
attribute [local irreducible] bindP ifP condP newP optP exP beqP
theorem SlR.slice {D : Type} {ro : Ro} {h : T Obj} {v : Value} {z : Nat} {R : List Value → D → Prop} {l : List D} (hv : SlR ro h v z R l) (hl : 0 < l.length) : ∃ a n c, v = .slice (some a) n c := by
  obtain ⟨cs, h1, h2, h3⟩ := hv
  rcases h1 with ⟨rfl, rfl⟩ | ⟨a, cap, rfl, _⟩
  · simp at h2; omega
  · exact ⟨_, _, _, rfl⟩
section
variable {ro : Ro} {x : GlD} {av bv w : Value}
end
end V
end Go.Proofs.Ytmmdcdjkmakgpaa
set_option linter.unusedVariables false
set_option linter.unusedSimpArgs false
namespace Go.Proofs.Ytmmdcdjkmakgpaa
namespace V
open PA
attribute [local irreducible] bindP ifP condP newP optP exP beqP
theorem autL_cls {c : List Nat} {n : Int} {cv sv : Value} {b k : Nat} (hc : c.length = 256) (hk : c[b]? = some k) : (autL c n cv sv)[b]? = some (.int .u8 (k : Int)) := by
  obtain ⟨hb, he⟩ := List.getElem?_eq_some_iff.1 hk
  unfold autL
  rw [List.getElem?_append_left (by rw [splitLI_len hc]; omega), splitLI_get hb, he]
def fewV (v : Value) (g : GlD) : Value := if 40 < g.p.length then .agg #[nilS, nilS] else v
theorem fewV_R {ro : Ro} {h : T Obj} {v : Value} {g : GlD} (hg : RG ro h v g) : RG ro h (fewV v g) (fewD g) := by
  unfold fewV fewD
  split
  · exact ⟨nilS, nilS, rfl, Sl.nil, SlR.nil⟩
  · exact hg
set_option maxRecDepth 4000 in
theorem law11_few_c2 {ro : Ro} {v : Value} {g : GlD} {h : T Obj} {nx : Nat} {K : KV} (hf : Fr h nx) (hg : RG ro h v g) (hK : ∀ nx', nx ≤ nx' → K (fewV v g) h nx') : callP Try.prog ro i_law11_few [v] h nx K := by
  obtain ⟨a, b, rfl, ha, hb⟩ := hg
  apply law11_few_of
  unfold law11_few
  refine param_mk hf (Nat.le_refl _) fun h1 hs1 hf1 g1 _ => ?_
  have g1 : h1.get nx = some (.cells [a, b].toArray y_api_Glush) := g1
  refine bindP_mk zer_Gl (obj_mk hf1 (Nat.le_refl _) fun h2 hs2 hf2 g2 _ => ?_)
  have g2 : h2.get (nx + 1) = some (.cells [nilS, nilS].toArray y_api_Glush) := g2
  have g1 := hs2 _ _ g1
  have hs := hs1.trans hs2
  have hbl := (hb.sub hs (RPos.sub hs)).len
  have e1 : ([a, b] : List Value)[1]? = some b := rfl
  have hak := ha.ok
  have hbk : cellOk b = true := by obtain ⟨cs, h1, _⟩ := hb; exact h1.ok
  (repeat (first | refine bindP_mk (by simp (disch := first | omega | exact Int.natCast_nonneg _ | assumption) only [BB, B2, ↓reduceIte, Nat.reduceLeDiff, Nat.reduceAdd, CC, g1, e1, hbl] <;> rfl) ?_ | refine newP_mk ?_ | refine optP_mk ?_ | with_reducible first | refine condP_t ?_ | refine condP_f ?_ | refine ifP_tt' ?_ | refine ifP_ff' ?_ | refine ifP_tf' ?_ | refine ifP_ft' ?_ | refine ifP_u' ?_ | refine optP_mk0 ?_))
  refine gtr_s (fun u => ?_) (fun u => ?_)
  · refine condP_t (bindP_mk build_Gl0 ?_)
    refine bindP_mk (storeA_own (l := [nilS, nilS]) (vs := [nilS, nilS]) g2 rfl rfl rfl rfl) ?_
    refine bindP_mk (loadA_all (l := [nilS, nilS]) (by rw [T.get_upd_same]) rfl) ?_
    refine ⟨h, hs.new hf (by omega), ?_⟩
    have := hK (nx + 8) (by omega)
    unfold fewV at this
    rw [if_pos (by omega)] at this
    exact this
  · refine condP_f (bindP_mk (loadA_all (l := [a, b]) g1 rfl) ?_)
    refine bindP_mk (storeA_own (l := [nilS, nilS]) (vs := [a, b]) g2 rfl rfl rfl (by simp [hak, hbk])) ?_
    refine bindP_mk (loadA_all (l := [a, b]) (by rw [T.get_upd_same]) rfl) ?_
    refine ⟨h, hs.new hf (by omega), ?_⟩
    have := hK (nx + 8) (by omega)
    unfold fewV at this
    rw [if_neg (by omega)] at this
    exact this
section
variable {ro : Ro}
end
end V
end Go.Proofs.Ytmmdcdjkmakgpaa
set_option linter.unusedVariables false
set_option linter.unusedSimpArgs false
namespace Go.Proofs.Ytmmdcdjkmakgpaa
namespace V
open PA
attribute [local irreducible] bindP ifP condP newP optP exP beqP
set_option maxRecDepth 8000 in
set_option maxHeartbeats 2000000 in
theorem ref11_Right_c {ro : Ro} {x : List Value} {d : AutoD} {h : T Obj} {nx : Nat} {K : KV} (hf : Fr h nx) (hd : RAuto ro h x d) (hK : ∀ nx', nx ≤ nx' → K (.bool (autoOk d)) h nx') : callP Try.prog ro i_ref11_Right [.agg x.toArray] h nx K := by
  obtain ⟨cv, sv, rfl, hc, hcl, hcv, hS, hb1, hb2⟩ := hd
  obtain ⟨c, n, C, S⟩ := d
  simp only at hc hcl hcv hS hb1 hb2
  dsimp only
  apply ref11_Right_of
  unfold ref11_Right
  refine param_mk hf (Nat.le_refl _) fun p1 hs hf1 g1 _ => ?_
  have g1 : p1.get nx = some (.cells (autL c n cv sv).toArray y_api_Auto) := g1
  have hS := hS.sub hs (RState.sub hs)
  have hcv := hcv.sub hs fun _ _ h => h
  have hsg := autL_states (n := n) (cv := cv) (sv := sv) hc
  have hcg := autL_counts (n := n) (cv := cv) (sv := sv) hc
  have lc := hcv.len
  have ls := hS.len
  have hno : ∀ n', autoOk ⟨c, n, C, S⟩ = false → nx ≤ n' → ∃ h', Sub h' p1 ∧ K (.bool false) h' n' := fun n' e hn => ⟨h, hs, kb hK e hn⟩
  unfold autoOk at hno hK
  dsimp only at hno hK
  (repeat (first | refine bindP_mk (by simp (disch := first | omega | exact Int.natCast_nonneg _ | assumption) only [BB, B2, ↓reduceIte, Nat.reduceLeDiff, Nat.reduceAdd, CC] <;> rfl) ?_ | refine newP_mk ?_ | refine optP_mk ?_ | with_reducible first | refine condP_t ?_ | refine condP_f ?_ | refine ifP_tt' ?_ | refine ifP_ff' ?_ | refine ifP_tf' ?_ | refine ifP_ft' ?_ | refine ifP_u' ?_ | refine optP_mk0 ?_))
  refine bindP_mk (loadS g1 hc) ?_
  refine ref02_Right_c hc hcl (hf1.mono (by omega)) fun n1 hn1 => ?_
  cases hr : rightB c n with
  | false =>
    (repeat (first | refine bindP_mk (by simp (disch := first | omega | exact Int.natCast_nonneg _ | assumption) only [BB, B2, ↓reduceIte, Nat.reduceLeDiff, Nat.reduceAdd, CC] <;> rfl) ?_ | refine newP_mk ?_ | refine optP_mk ?_ | with_reducible first | refine condP_t ?_ | refine condP_f ?_ | refine ifP_tt' ?_ | refine ifP_ff' ?_ | refine ifP_tf' ?_ | refine ifP_ft' ?_ | refine ifP_u' ?_ | refine optP_mk0 ?_))
    exact hno _ (by rw [hr]; rfl) (by omega)
  | true =>
    have hn := right_many hr
    rw [hr, Bool.true_and] at hno hK
    (repeat (first | refine bindP_mk (by simp (disch := first | omega | exact Int.natCast_nonneg _ | assumption) only [BB, B2, ↓reduceIte, Nat.reduceLeDiff, Nat.reduceAdd, CC, g1, hcg, lc] <;> rfl) ?_ | refine newP_mk ?_ | refine optP_mk ?_ | with_reducible first | refine condP_t ?_ | refine condP_f ?_ | refine ifP_tt' ?_ | refine ifP_ff' ?_ | refine ifP_tf' ?_ | refine ifP_ft' ?_ | refine ifP_u' ?_ | refine optP_mk0 ?_))
    refine gtr_s (fun u1 => ?_) (fun u1 => ?_)
    · (repeat (first | refine bindP_mk (by simp (disch := first | omega | exact Int.natCast_nonneg _ | assumption) only [BB, B2, ↓reduceIte, Nat.reduceLeDiff, Nat.reduceAdd, CC] <;> rfl) ?_ | refine newP_mk ?_ | refine optP_mk ?_ | with_reducible first | refine condP_t ?_ | refine condP_f ?_ | refine ifP_tt' ?_ | refine ifP_ff' ?_ | refine ifP_tf' ?_ | refine ifP_ft' ?_ | refine ifP_u' ?_ | refine optP_mk0 ?_))
      exact hno _ (by rw [decide_eq_false (by omega)]; rfl) (by omega)
    · have u1 : C.length ≤ 512 := by omega
      rw [decide_eq_true u1, Bool.true_and] at hno hK
      (repeat (first | refine bindP_mk (by simp (disch := first | omega | exact Int.natCast_nonneg _ | assumption) only [BB, B2, ↓reduceIte, Nat.reduceLeDiff, Nat.reduceAdd, CC, g1, hsg, ls] <;> rfl) ?_ | refine newP_mk ?_ | refine optP_mk ?_ | with_reducible first | refine condP_t ?_ | refine condP_f ?_ | refine ifP_tt' ?_ | refine ifP_ff' ?_ | refine ifP_tf' ?_ | refine ifP_ft' ?_ | refine ifP_u' ?_ | refine optP_mk0 ?_))
      refine lss_s (fun u2 => ?_) (fun u2 => ?_)
      · (repeat (first | refine bindP_mk (by simp (disch := first | omega | exact Int.natCast_nonneg _ | assumption) only [BB, B2, ↓reduceIte, Nat.reduceLeDiff, Nat.reduceAdd, CC] <;> rfl) ?_ | refine newP_mk ?_ | refine optP_mk ?_ | with_reducible first | refine condP_t ?_ | refine condP_f ?_ | refine ifP_tt' ?_ | refine ifP_ff' ?_ | refine ifP_tf' ?_ | refine ifP_ft' ?_ | refine ifP_u' ?_ | refine optP_mk0 ?_))
        exact hno _ (by rw [decide_eq_false (by omega)]; rfl) (by omega)
      · have u2 : 1 ≤ S.length := by omega
        rw [decide_eq_true u2, Bool.true_and] at hno hK
        (repeat (first | refine bindP_mk (by simp (disch := first | omega | exact Int.natCast_nonneg _ | assumption) only [BB, B2, ↓reduceIte, Nat.reduceLeDiff, Nat.reduceAdd, CC, g1, hsg, ls] <;> rfl) ?_ | refine newP_mk ?_ | refine optP_mk ?_ | with_reducible first | refine condP_t ?_ | refine condP_f ?_ | refine ifP_tt' ?_ | refine ifP_ff' ?_ | refine ifP_tf' ?_ | refine ifP_ft' ?_ | refine ifP_u' ?_ | refine optP_mk0 ?_))
        refine gtr_s (fun u3 => ?_) (fun u3 => ?_)
        · (repeat (first | refine bindP_mk (by simp (disch := first | omega | exact Int.natCast_nonneg _ | assumption) only [BB, B2, ↓reduceIte, Nat.reduceLeDiff, Nat.reduceAdd, CC] <;> rfl) ?_ | refine newP_mk ?_ | refine optP_mk ?_ | with_reducible first | refine condP_t ?_ | refine condP_f ?_ | refine ifP_tt' ?_ | refine ifP_ff' ?_ | refine ifP_tf' ?_ | refine ifP_ft' ?_ | refine ifP_u' ?_ | refine optP_mk0 ?_))
          exact hno _ (by rw [decide_eq_false (by omega)]; rfl) (by omega)
        · have u3 : S.length ≤ 256 := by omega
          rw [decide_eq_true u3, Bool.true_and] at hno hK
          have h0 : 0 < S.length := by omega
          have six : ixSl 4 sv (.int .i64 0) = some (elPtr 4 sv 0) := hS.ix .i64 (i := 0) h0
          obtain ⟨x, ⟨lv, rv, uv, nv, rfl, y1, y2, y3, y4, y5⟩, hx2, hx3, hx4, hx5⟩ := hS.at h0
          have q0 := hx5 0 lv rfl
          have q1 := hx5 1 rv rfl
          have ll := y1.len
          have lr := y2.len
          have hgd : S.getD 0 noS = S[0] := by rw [List.getD_eq_getElem?_getD, List.getElem?_eq_getElem h0]; rfl
          have hfst : firstOk S = (decide (S[0].l.length = 0) && decide (S[0].r.length = 0)) := by unfold firstOk; rw [hgd]
          rw [hfst] at hno hK
          (repeat (first | refine bindP_mk (by simp (disch := first | omega | exact Int.natCast_nonneg _ | assumption) only [BB, B2, ↓reduceIte, Nat.reduceLeDiff, Nat.reduceAdd, CC, g1, hsg, six, hx4, q0, ll] <;> rfl) ?_ | refine newP_mk ?_ | refine optP_mk ?_ | with_reducible first | refine condP_t ?_ | refine condP_f ?_ | refine ifP_tt' ?_ | refine ifP_ff' ?_ | refine ifP_tf' ?_ | refine ifP_ft' ?_ | refine ifP_u' ?_ | refine optP_mk0 ?_))
          refine gtr_s (fun u4 => ?_) (fun u4 => ?_)
          · (repeat (first | refine bindP_mk (by simp (disch := first | omega | exact Int.natCast_nonneg _ | assumption) only [BB, B2, ↓reduceIte, Nat.reduceLeDiff, Nat.reduceAdd, CC] <;> rfl) ?_ | refine newP_mk ?_ | refine optP_mk ?_ | with_reducible first | refine condP_t ?_ | refine condP_f ?_ | refine ifP_tt' ?_ | refine ifP_ff' ?_ | refine ifP_tf' ?_ | refine ifP_ft' ?_ | refine ifP_u' ?_ | refine optP_mk0 ?_))
            exact hno _ (by rw [decide_eq_false (by omega)]; rfl) (by omega)
          · rw [decide_eq_true (show S[0].l.length = 0 by omega), Bool.true_and] at hno hK
            (repeat (first | refine bindP_mk (by simp (disch := first | omega | exact Int.natCast_nonneg _ | assumption) only [BB, B2, ↓reduceIte, Nat.reduceLeDiff, Nat.reduceAdd, CC, g1, hsg, six, hx4, q1, lr] <;> rfl) ?_ | refine newP_mk ?_ | refine optP_mk ?_ | with_reducible first | refine condP_t ?_ | refine condP_f ?_ | refine ifP_tt' ?_ | refine ifP_ff' ?_ | refine ifP_tf' ?_ | refine ifP_ft' ?_ | refine ifP_u' ?_ | refine optP_mk0 ?_))
            refine gtr_s (fun u5 => ?_) (fun u5 => ?_)
            · (repeat (first | refine bindP_mk (by simp (disch := first | omega | exact Int.natCast_nonneg _ | assumption) only [BB, B2, ↓reduceIte, Nat.reduceLeDiff, Nat.reduceAdd, CC] <;> rfl) ?_ | refine newP_mk ?_ | refine optP_mk ?_ | with_reducible first | refine condP_t ?_ | refine condP_f ?_ | refine ifP_tt' ?_ | refine ifP_ff' ?_ | refine ifP_tf' ?_ | refine ifP_ft' ?_ | refine ifP_u' ?_ | refine optP_mk0 ?_))
              exact hno _ (by rw [decide_eq_false (by omega)]; rfl) (by omega)
            · rw [decide_eq_true (show S[0].r.length = 0 by omega), Bool.true_and] at hno hK
              (repeat (first | refine bindP_mk (by simp (disch := first | omega | exact Int.natCast_nonneg _ | assumption) only [BB, B2, ↓reduceIte, Nat.reduceLeDiff, Nat.reduceAdd, CC] <;> rfl) ?_ | refine newP_mk ?_ | refine optP_mk ?_ | with_reducible first | refine condP_t ?_ | refine condP_f ?_ | refine ifP_tt' ?_ | refine ifP_ff' ?_ | refine ifP_tf' ?_ | refine ifP_ft' ?_ | refine ifP_u' ?_ | refine optP_mk0 ?_))
              generalize hB : C.all countOk = B at hno hK
              refine loopP_rule (fun j e h' nx' => ∃ (k : Nat), k + j = C.length ∧ nx + 1 ≤ nx' ∧ h' = p1 ∧ e 1 = ptr nx ∧ e 3 = .int .i64 k ∧ (C.drop k).all countOk = B) ?_ (n := C.length) ⟨0, by omega, by omega, rfl, rfl, rfl, hB⟩
              rintro j e h' nx' ⟨k, hj, hnx, rfl, e1, e3, hr2⟩ Q' hq hx
              unfold ref11_Right_L2
              rw [e1, e3]
              (repeat (first | refine bindP_mk (by simp (disch := first | omega | exact Int.natCast_nonneg _ | assumption) only [BB, B2, ↓reduceIte, Nat.reduceLeDiff, Nat.reduceAdd, CC, g1, hcg, lc] <;> rfl) ?_ | refine newP_mk ?_ | refine optP_mk ?_ | with_reducible first | refine condP_t ?_ | refine condP_f ?_ | refine ifP_tt' ?_ | refine ifP_ff' ?_ | refine ifP_tf' ?_ | refine ifP_ft' ?_ | refine ifP_u' ?_ | refine optP_mk0 ?_))
              refine lss_s (fun hk => ?_) (fun hk => ?_)
              · have hk : k < C.length := by omega
                rw [drop_cons hk, List.all_cons] at hr2
                have cix := hcv.ix .i64 hk
                obtain ⟨x, hx1, hx2, hx3, hx4, hx5⟩ := hcv.at hk
                generalize C[k] = p at hr2 hx1
                obtain rfl : x = [.int .i64 p.1, .int .i64 p.2] := hx1
                (repeat (first | refine bindP_mk (by simp (disch := first | omega | exact Int.natCast_nonneg _ | assumption) only [BB, B2, ↓reduceIte, Nat.reduceLeDiff, Nat.reduceAdd, CC, g1, hcg, cix, hx3] <;> rfl) ?_ | refine newP_mk ?_ | refine optP_mk ?_ | with_reducible first | refine condP_t ?_ | refine condP_f ?_ | refine ifP_tt' ?_ | refine ifP_ff' ?_ | refine ifP_tf' ?_ | refine ifP_ft' ?_ | refine ifP_u' ?_ | refine optP_mk0 ?_))
                refine local_mk (x := [.int .i64 p.1, .int .i64 p.2]) zer_a2 rfl rfl rfl rfl hf1 (by omega) fun h6 hs6 hf6 g6 _ => ?_
                have hfin : ∀ (e' : Env) n', e' 2 = .bool false → countOk p = false → nx ≤ n' → Q' .ret e' h6 n' := fun e' n' h6 hc hn => by
                  refine hx _ _ _ _ (fun e => by cases e) (exP_r ?_)
                  rw [h6]
                  rw [hc, Bool.false_and] at hr2
                  subst hr2
                  obtain ⟨h9, z1, z2⟩ := hno n' (by simp) hn
                  exact ⟨h9, z1.trans hs6, z2⟩
                have hok : ∀ (e' : Env) n', e' 1 = ptr nx → e' 3 = .int .i64 ((k : Int) + 1) → countOk p = true → nx + 1 ≤ n' → Q' .normal e' h6 n' := fun e' n' f1 f3 hc hn =>
                  hq (j - 1) _ h' _ _ (by omega) ⟨k + 1, by omega, hn, rfl, f1, f3, by rw [← hr2, hc]; rfl⟩ hs6
                unfold countOk at hfin hok
                (repeat (first | refine bindP_mk (by simp (disch := first | omega | exact Int.natCast_nonneg _ | assumption) only [BB, B2, ↓reduceIte, Nat.reduceLeDiff, Nat.reduceAdd, CC, g6] <;> rfl) ?_ | refine newP_mk ?_ | refine optP_mk ?_ | with_reducible first | refine condP_t ?_ | refine condP_f ?_ | refine ifP_tt' ?_ | refine ifP_ff' ?_ | refine ifP_tf' ?_ | refine ifP_ft' ?_ | refine ifP_u' ?_ | refine optP_mk0 ?_))
                refine lss_s (fun v1 => ?_) (fun v1 => ?_)
                · (repeat (first | refine bindP_mk (by simp (disch := first | omega | exact Int.natCast_nonneg _ | assumption) only [BB, B2, ↓reduceIte, Nat.reduceLeDiff, Nat.reduceAdd, CC] <;> rfl) ?_ | refine newP_mk ?_ | refine optP_mk ?_ | with_reducible first | refine condP_t ?_ | refine condP_f ?_ | refine ifP_tt' ?_ | refine ifP_ff' ?_ | refine ifP_tf' ?_ | refine ifP_ft' ?_ | refine ifP_u' ?_ | refine optP_mk0 ?_))
                  exact hfin _ _ rfl (by rw [decide_eq_false (by omega)]; rfl) (by omega)
                · rw [decide_eq_true v1, Bool.true_and] at hfin hok
                  (repeat (first | refine bindP_mk (by simp (disch := first | omega | exact Int.natCast_nonneg _ | assumption) only [BB, B2, ↓reduceIte, Nat.reduceLeDiff, Nat.reduceAdd, CC, g6] <;> rfl) ?_ | refine newP_mk ?_ | refine optP_mk ?_ | with_reducible first | refine condP_t ?_ | refine condP_f ?_ | refine ifP_tt' ?_ | refine ifP_ff' ?_ | refine ifP_tf' ?_ | refine ifP_ft' ?_ | refine ifP_u' ?_ | refine optP_mk0 ?_))
                  refine gtr_s (fun v2 => ?_) (fun v2 => ?_)
                  · (repeat (first | refine bindP_mk (by simp (disch := first | omega | exact Int.natCast_nonneg _ | assumption) only [BB, B2, ↓reduceIte, Nat.reduceLeDiff, Nat.reduceAdd, CC] <;> rfl) ?_ | refine newP_mk ?_ | refine optP_mk ?_ | with_reducible first | refine condP_t ?_ | refine condP_f ?_ | refine ifP_tt' ?_ | refine ifP_ff' ?_ | refine ifP_tf' ?_ | refine ifP_ft' ?_ | refine ifP_u' ?_ | refine optP_mk0 ?_))
                    exact hfin _ _ rfl (by rw [decide_eq_false (by omega)]; rfl) (by omega)
                  · rw [decide_eq_true v2, Bool.true_and] at hfin hok
                    (repeat (first | refine bindP_mk (by simp (disch := first | omega | exact Int.natCast_nonneg _ | assumption) only [BB, B2, ↓reduceIte, Nat.reduceLeDiff, Nat.reduceAdd, CC, g6] <;> rfl) ?_ | refine newP_mk ?_ | refine optP_mk ?_ | with_reducible first | refine condP_t ?_ | refine condP_f ?_ | refine ifP_tt' ?_ | refine ifP_ff' ?_ | refine ifP_tf' ?_ | refine ifP_ft' ?_ | refine ifP_u' ?_ | refine optP_mk0 ?_))
                    refine lss_s (fun v3 => ?_) (fun v3 => ?_)
                    · (repeat (first | refine bindP_mk (by simp (disch := first | omega | exact Int.natCast_nonneg _ | assumption) only [BB, B2, ↓reduceIte, Nat.reduceLeDiff, Nat.reduceAdd, CC] <;> rfl) ?_ | refine newP_mk ?_ | refine optP_mk ?_ | with_reducible first | refine condP_t ?_ | refine condP_f ?_ | refine ifP_tt' ?_ | refine ifP_ff' ?_ | refine ifP_tf' ?_ | refine ifP_ft' ?_ | refine ifP_u' ?_ | refine optP_mk0 ?_))
                      exact hfin _ _ rfl (by rw [decide_eq_false (by omega)]; rfl) (by omega)
                    · rw [decide_eq_true v3, Bool.true_and] at hfin hok
                      (repeat (first | refine bindP_mk (by simp (disch := first | omega | exact Int.natCast_nonneg _ | assumption) only [BB, B2, ↓reduceIte, Nat.reduceLeDiff, Nat.reduceAdd, CC, g6] <;> rfl) ?_ | refine newP_mk ?_ | refine optP_mk ?_ | with_reducible first | refine condP_t ?_ | refine condP_f ?_ | refine ifP_tt' ?_ | refine ifP_ff' ?_ | refine ifP_tf' ?_ | refine ifP_ft' ?_ | refine ifP_u' ?_ | refine optP_mk0 ?_))
                      refine gtr_s (fun v4 => ?_) (fun v4 => ?_)
                      · (repeat (first | refine bindP_mk (by simp (disch := first | omega | exact Int.natCast_nonneg _ | assumption) only [BB, B2, ↓reduceIte, Nat.reduceLeDiff, Nat.reduceAdd, CC] <;> rfl) ?_ | refine newP_mk ?_ | refine optP_mk ?_ | with_reducible first | refine condP_t ?_ | refine condP_f ?_ | refine ifP_tt' ?_ | refine ifP_ff' ?_ | refine ifP_tf' ?_ | refine ifP_ft' ?_ | refine ifP_u' ?_ | refine optP_mk0 ?_))
                        exact hfin _ _ rfl (by rw [decide_eq_false (by omega)]) (by omega)
                      · rw [decide_eq_true v4] at hok
                        (repeat (first | refine bindP_mk (by simp (disch := first | omega | exact Int.natCast_nonneg _ | assumption) only [BB, B2, ↓reduceIte, Nat.reduceLeDiff, Nat.reduceAdd, CC] <;> rfl) ?_ | refine newP_mk ?_ | refine optP_mk ?_ | with_reducible first | refine condP_t ?_ | refine condP_f ?_ | refine ifP_tt' ?_ | refine ifP_ff' ?_ | refine ifP_tf' ?_ | refine ifP_ft' ?_ | refine ifP_u' ?_ | refine optP_mk0 ?_))
                        exact hok _ _ e1 rfl rfl (by omega)
              · rw [drop_all (by omega)] at hr2
                have hr2 : true = B := hr2
                subst hr2
                rw [Bool.true_and] at hno hK
                (repeat (first | refine bindP_mk (by simp (disch := first | omega | exact Int.natCast_nonneg _ | assumption) only [BB, B2, ↓reduceIte, Nat.reduceLeDiff, Nat.reduceAdd, CC] <;> rfl) ?_ | refine newP_mk ?_ | refine optP_mk ?_ | with_reducible first | refine condP_t ?_ | refine condP_f ?_ | refine ifP_tt' ?_ | refine ifP_ff' ?_ | refine ifP_tf' ?_ | refine ifP_ft' ?_ | refine ifP_u' ?_ | refine optP_mk0 ?_))
                refine hx _ _ _ _ (fun e => by cases e) (exP_e (beqP_t ?_))
                have LA := loadA_all (ro := ro) (z := 0) (n := 259) (l := autL c n cv sv) g1 (autL_len hc)
                have hend : ∀ (e' : Env) n', e' 1 = ptr nx → nx + 1 ≤ n' → ref11_Right_j1 ro K e' h' n' := by
                  intro e' n' z1 hn'
                  unfold ref11_Right_j1
                  generalize hA : S.all (stateOk S n C.length) = A at hno hK
                  refine loopP_rule (fun j e h'' nx' => ∃ (k : Nat), k + j = S.length ∧ nx + 1 ≤ nx' ∧ h'' = h' ∧ e 1 = ptr nx ∧ e 5 = .int .i64 k ∧ (S.drop k).all (stateOk S n C.length) = A) ?_ (n := S.length) ⟨0, by omega, by omega, rfl, z1, rfl, hA⟩
                  rintro j e h'' nx' ⟨k, hj, hnx, rfl, e1, e5, hr2⟩ Q2 hq hx
                  unfold ref11_Right_L1
                  rw [e1, e5]
                  (repeat (first | refine bindP_mk (by simp (disch := first | omega | exact Int.natCast_nonneg _ | assumption) only [BB, B2, ↓reduceIte, Nat.reduceLeDiff, Nat.reduceAdd, CC, g1, hsg, ls] <;> rfl) ?_ | refine newP_mk ?_ | refine optP_mk ?_ | with_reducible first | refine condP_t ?_ | refine condP_f ?_ | refine ifP_tt' ?_ | refine ifP_ff' ?_ | refine ifP_tf' ?_ | refine ifP_ft' ?_ | refine ifP_u' ?_ | refine optP_mk0 ?_))
                  refine lss_s (fun hk => ?_) (fun hk => ?_)
                  · have hk : k < S.length := by omega
                    rw [drop_cons hk, List.all_cons] at hr2
                    have kix := hS.ix .i64 hk
                    obtain ⟨x, ⟨lv, rv, uv, nv, rfl, w1, w2, w3, w4, w5⟩, hx2, hx3, hx4, hx5⟩ := hS.at hk
                    generalize S[k] = s at hr2 w1 w2 w3 w4 w5
                    (repeat (first | refine bindP_mk (by simp (disch := first | omega | exact Int.natCast_nonneg _ | assumption) only [BB, B2, ↓reduceIte, Nat.reduceLeDiff, Nat.reduceAdd, CC, LA, g1, hsg, kix, hx3] <;> rfl) ?_ | refine newP_mk ?_ | refine optP_mk ?_ | with_reducible first | refine condP_t ?_ | refine condP_f ?_ | refine ifP_tt' ?_ | refine ifP_ff' ?_ | refine ifP_tf' ?_ | refine ifP_ft' ?_ | refine ifP_u' ?_ | refine optP_mk0 ?_))
                    refine ref11_state_c hc hn u3 u1 w5 (hf1.mono (by omega)) hcv hS w1 w2 w3 w4 fun n4 hn4 => ?_
                    cases hm : stateOk S n C.length s with
                    | true =>
                      rw [hm, Bool.true_and] at hr2
                      have hok2 : ∀ (e' : Env) n', e' 1 = ptr nx → e' 5 = .int .i64 ((k : Int) + 1) → nx + 1 ≤ n' → Q2 .normal e' h'' n' := fun e' n' z1 z5 hn =>
                        hq (j - 1) _ _ _ _ (by omega) ⟨k + 1, by omega, hn, rfl, z1, z5, hr2⟩ (Sub.refl _)
                      (repeat (first | refine bindP_mk (by simp (disch := first | omega | exact Int.natCast_nonneg _ | assumption) only [BB, B2, ↓reduceIte, Nat.reduceLeDiff, Nat.reduceAdd, CC] <;> rfl) ?_ | refine newP_mk ?_ | refine optP_mk ?_ | with_reducible first | refine condP_t ?_ | refine condP_f ?_ | refine ifP_tt' ?_ | refine ifP_ff' ?_ | refine ifP_tf' ?_ | refine ifP_ft' ?_ | refine ifP_u' ?_ | refine optP_mk0 ?_))
                      exact hok2 _ _ e1 rfl (by omega)
                    | false =>
                      rw [hm, Bool.false_and] at hr2
                      subst hr2
                      (repeat (first | refine bindP_mk (by simp (disch := first | omega | exact Int.natCast_nonneg _ | assumption) only [BB, B2, ↓reduceIte, Nat.reduceLeDiff, Nat.reduceAdd, CC] <;> rfl) ?_ | refine newP_mk ?_ | refine optP_mk ?_ | with_reducible first | refine condP_t ?_ | refine condP_f ?_ | refine ifP_tt' ?_ | refine ifP_ff' ?_ | refine ifP_tf' ?_ | refine ifP_ft' ?_ | refine ifP_u' ?_ | refine optP_mk0 ?_))
                      refine hx _ _ _ _ (fun e => by cases e) (exP_r ?_)
                      exact hno _ rfl (by omega)
                  · rw [drop_all (by omega)] at hr2
                    have hr2 : true = A := hr2
                    subst hr2
                    (repeat (first | refine bindP_mk (by simp (disch := first | omega | exact Int.natCast_nonneg _ | assumption) only [BB, B2, ↓reduceIte, Nat.reduceLeDiff, Nat.reduceAdd, CC] <;> rfl) ?_ | refine newP_mk ?_ | refine optP_mk ?_ | with_reducible first | refine condP_t ?_ | refine condP_f ?_ | refine ifP_tt' ?_ | refine ifP_ff' ?_ | refine ifP_tf' ?_ | refine ifP_ft' ?_ | refine ifP_u' ?_ | refine optP_mk0 ?_))
                    refine hx _ _ _ _ (fun e => by cases e) (exP_e (beqP_t ?_))
                    unfold ref11_Right_j2
                    exact ⟨h, hs, hK _ (by omega)⟩
                exact hend _ _ e1 (by omega)
end V
end Go.Proofs.Ytmmdcdjkmakgpaa
set_option linter.unusedVariables false
set_option linter.unusedSimpArgs false
namespace Go.Proofs.Ytmmdcdjkmakgpaa
namespace V
open PA
attribute [local irreducible] bindP ifP condP newP optP exP beqP
set_option maxRecDepth 4000 in
theorem ref09_rises_c {ro : Ro} {v : Value} {l : List Int} {many : Int} (hm : many ≤ 1000000) {h : T Obj} {nx : Nat} {K : KV} (hv : ZI ro h v l) (hK : ∀ nx', nx ≤ nx' → K (.bool (rz (-1) many l)) h nx') : callP Try.prog ro i_ref09_rises [v, .int .i64 many] h nx K := by
  apply ref09_rises_of
  unfold ref09_rises
  generalize hR : rz (-1) many l = R at hK
  refine loopP_rule (fun j e h' nx' => ∃ (k : Nat) (last : Int), k + j = l.length ∧ nx ≤ nx' ∧ h' = h ∧ e 0 = v ∧ e 1 = .int .i64 many ∧ e 5 = .int .i64 k ∧ (k : Int) ≤ last + 1 ∧ last ≤ 1000000 ∧ (k = 0 → last = -1) ∧ (∀ q, q + 1 = k → l[q]? = some last) ∧ rz last many (l.drop k) = R) ?_ (n := l.length) ⟨0, -1, by omega, by omega, rfl, rfl, rfl, rfl, by omega, by omega, fun _ => rfl, fun q hq => by omega, hR⟩
  rintro j e h' nx' ⟨k, last, hj, hnx, rfl, e0, e1, e5, hk1, hk2, hk0, hkp, hr⟩ Q' hq hx
  unfold ref09_rises_L1
  rw [e0, e1, e5]
  refine bindP_mk hv.len ?_
  refine lss_s (fun hk => ?_) (fun hk => ?_)
  · have hk : k < l.length := by omega
    have hxk : l[k]? = some l[k] := List.getElem?_eq_getElem hk
    rw [drop_cons hk, rz_cons] at hr
    (repeat (first | refine bindP_mk (by simp (disch := first | omega | exact Int.natCast_nonneg _ | assumption) only [BB, B2, ↓reduceIte, Nat.reduceLeDiff, Nat.reduceAdd, CC] <;> rfl) ?_ | refine newP_mk ?_ | refine optP_mk ?_ | with_reducible first | refine condP_t ?_ | refine condP_f ?_ | refine ifP_tt' ?_ | refine ifP_ff' ?_ | refine ifP_tf' ?_ | refine ifP_ft' ?_ | refine ifP_u' ?_ | refine optP_mk0 ?_))
    refine bindP_mk (hv.ix _ hk) (bindP_mk (hv.load hk) ?_)
    generalize l[k] = x at hr hxk
    have hfin : ∀ (e' : Env) n, e' 4 = .bool false → (¬ last < x ∨ ¬ x < many) → nx ≤ n → Q' .ret e' h' n := fun e' n h4 hc hn => by
      refine hx _ _ _ _ (fun e => by cases e) (exP_r ?_)
      rw [h4]
      refine ⟨_, Sub.refl _, kb hK ?_ hn⟩
      rw [← hr]
      rcases hc with hc | hc
      · rw [decide_eq_false hc]; rfl
      · rw [decide_eq_false hc]; simp
    have hok : ∀ (e' : Env) n, e' 0 = v → e' 1 = .int .i64 many → e' 5 = .int .i64 ((k : Int) + 1) → last < x → x < many → nx ≤ n → Q' .normal e' h' n := fun e' n g0 g1 g5 hc1 hc2 hn => by
      refine hq (j - 1) _ _ _ _ (by omega) ⟨k + 1, x, by omega, hn, rfl, g0, g1, g5, by omega, by omega, fun h => by omega, fun q hq => ?_, ?_⟩ (Sub.refl _)
      · have : q = k := by omega
        subst this; exact hxk
      · rw [← hr, decide_eq_true hc1, decide_eq_true hc2]; rfl
    (first | refine lss_s (fun hb => ?_) (fun hb => ?_) | refine leq_s (fun hb => ?_) (fun hb => ?_) | refine gtr_s (fun hb => ?_) (fun hb => ?_) | refine geq_s (fun hb => ?_) (fun hb => ?_) | refine eql_s (fun hb => ?_) (fun hb => ?_) | refine neq_s (fun hb => ?_) (fun hb => ?_))
    · (repeat (first | refine bindP_mk (by simp (disch := first | omega | exact Int.natCast_nonneg _ | assumption) only [BB, B2, ↓reduceIte, Nat.reduceLeDiff, Nat.reduceAdd, CC] <;> rfl) ?_ | refine newP_mk ?_ | refine optP_mk ?_ | with_reducible first | refine condP_t ?_ | refine condP_f ?_ | refine ifP_tt' ?_ | refine ifP_ff' ?_ | refine ifP_tf' ?_ | refine ifP_ft' ?_ | refine ifP_u' ?_ | refine optP_mk0 ?_))
      exact hfin _ _ rfl (.inl (by omega)) (by omega)
    · (repeat (first | refine bindP_mk (by simp (disch := first | omega | exact Int.natCast_nonneg _ | assumption) only [BB, B2, ↓reduceIte, Nat.reduceLeDiff, Nat.reduceAdd, CC] <;> rfl) ?_ | refine newP_mk ?_ | refine optP_mk ?_ | with_reducible first | refine condP_t ?_ | refine condP_f ?_ | refine ifP_tt' ?_ | refine ifP_ff' ?_ | refine ifP_tf' ?_ | refine ifP_ft' ?_ | refine ifP_u' ?_ | refine optP_mk0 ?_))
      refine bindP_mk (hv.ix _ hk) ?_
      (repeat (first | refine bindP_mk (by simp (disch := first | omega | exact Int.natCast_nonneg _ | assumption) only [BB, B2, ↓reduceIte, Nat.reduceLeDiff, Nat.reduceAdd, CC] <;> rfl) ?_ | refine newP_mk ?_ | refine optP_mk ?_ | with_reducible first | refine condP_t ?_ | refine condP_f ?_ | refine ifP_tt' ?_ | refine ifP_ff' ?_ | refine ifP_tf' ?_ | refine ifP_ft' ?_ | refine ifP_u' ?_ | refine optP_mk0 ?_))
      refine bindP_mk (hv.load' hxk) ?_
      (repeat (first | refine bindP_mk (by simp (disch := first | omega | exact Int.natCast_nonneg _ | assumption) only [BB, B2, ↓reduceIte, Nat.reduceLeDiff, Nat.reduceAdd, CC] <;> rfl) ?_ | refine newP_mk ?_ | refine optP_mk ?_ | with_reducible first | refine condP_t ?_ | refine condP_f ?_ | refine ifP_tt' ?_ | refine ifP_ff' ?_ | refine ifP_tf' ?_ | refine ifP_ft' ?_ | refine ifP_u' ?_ | refine optP_mk0 ?_))
      (first | refine lss_s (fun hb => ?_) (fun hb => ?_) | refine leq_s (fun hb => ?_) (fun hb => ?_) | refine gtr_s (fun hb => ?_) (fun hb => ?_) | refine geq_s (fun hb => ?_) (fun hb => ?_) | refine eql_s (fun hb => ?_) (fun hb => ?_) | refine neq_s (fun hb => ?_) (fun hb => ?_))
      · (repeat (first | refine bindP_mk (by simp (disch := first | omega | exact Int.natCast_nonneg _ | assumption) only [BB, B2, ↓reduceIte, Nat.reduceLeDiff, Nat.reduceAdd, CC] <;> rfl) ?_ | refine newP_mk ?_ | refine optP_mk ?_ | with_reducible first | refine condP_t ?_ | refine condP_f ?_ | refine ifP_tt' ?_ | refine ifP_ff' ?_ | refine ifP_tf' ?_ | refine ifP_ft' ?_ | refine ifP_u' ?_ | refine optP_mk0 ?_))
        exact hfin _ _ rfl (.inr (by omega)) (by omega)
      · (repeat (first | refine bindP_mk (by simp (disch := first | omega | exact Int.natCast_nonneg _ | assumption) only [BB, B2, ↓reduceIte, Nat.reduceLeDiff, Nat.reduceAdd, CC] <;> rfl) ?_ | refine newP_mk ?_ | refine optP_mk ?_ | with_reducible first | refine condP_t ?_ | refine condP_f ?_ | refine ifP_tt' ?_ | refine ifP_ff' ?_ | refine ifP_tf' ?_ | refine ifP_ft' ?_ | refine ifP_u' ?_ | refine optP_mk0 ?_))
        (first | refine lss_s (fun hb => ?_) (fun hb => ?_) | refine leq_s (fun hb => ?_) (fun hb => ?_) | refine gtr_s (fun hb => ?_) (fun hb => ?_) | refine geq_s (fun hb => ?_) (fun hb => ?_) | refine eql_s (fun hb => ?_) (fun hb => ?_) | refine neq_s (fun hb => ?_) (fun hb => ?_))
        · have h2 := hkp (k - 1) (by omega)
          have h3 := (List.getElem?_eq_some_iff.1 h2).1
          have h4 : ((k : Int) - 1).toNat = k - 1 := by omega
          (repeat (first | refine bindP_mk (by simp (disch := first | omega | exact Int.natCast_nonneg _ | assumption) only [BB, B2, ↓reduceIte, Nat.reduceLeDiff, Nat.reduceAdd, CC] <;> rfl) ?_ | refine newP_mk ?_ | refine optP_mk ?_ | with_reducible first | refine condP_t ?_ | refine condP_f ?_ | refine ifP_tt' ?_ | refine ifP_ff' ?_ | refine ifP_tf' ?_ | refine ifP_ft' ?_ | refine ifP_u' ?_ | refine optP_mk0 ?_))
          refine bindP_mk (hv.ixI _ (by omega) (by omega)) ?_
          rw [h4]
          (repeat (first | refine bindP_mk (by simp (disch := first | omega | exact Int.natCast_nonneg _ | assumption) only [BB, B2, ↓reduceIte, Nat.reduceLeDiff, Nat.reduceAdd, CC] <;> rfl) ?_ | refine newP_mk ?_ | refine optP_mk ?_ | with_reducible first | refine condP_t ?_ | refine condP_f ?_ | refine ifP_tt' ?_ | refine ifP_ff' ?_ | refine ifP_tf' ?_ | refine ifP_ft' ?_ | refine ifP_u' ?_ | refine optP_mk0 ?_))
          refine bindP_mk (hv.load' h2) ?_
          (repeat (first | refine bindP_mk (by simp (disch := first | omega | exact Int.natCast_nonneg _ | assumption) only [BB, B2, ↓reduceIte, Nat.reduceLeDiff, Nat.reduceAdd, CC] <;> rfl) ?_ | refine newP_mk ?_ | refine optP_mk ?_ | with_reducible first | refine condP_t ?_ | refine condP_f ?_ | refine ifP_tt' ?_ | refine ifP_ff' ?_ | refine ifP_tf' ?_ | refine ifP_ft' ?_ | refine ifP_u' ?_ | refine optP_mk0 ?_))
          refine bindP_mk (hv.ix _ hk) ?_
          (repeat (first | refine bindP_mk (by simp (disch := first | omega | exact Int.natCast_nonneg _ | assumption) only [BB, B2, ↓reduceIte, Nat.reduceLeDiff, Nat.reduceAdd, CC] <;> rfl) ?_ | refine newP_mk ?_ | refine optP_mk ?_ | with_reducible first | refine condP_t ?_ | refine condP_f ?_ | refine ifP_tt' ?_ | refine ifP_ff' ?_ | refine ifP_tf' ?_ | refine ifP_ft' ?_ | refine ifP_u' ?_ | refine optP_mk0 ?_))
          refine bindP_mk (hv.load' hxk) ?_
          (repeat (first | refine bindP_mk (by simp (disch := first | omega | exact Int.natCast_nonneg _ | assumption) only [BB, B2, ↓reduceIte, Nat.reduceLeDiff, Nat.reduceAdd, CC] <;> rfl) ?_ | refine newP_mk ?_ | refine optP_mk ?_ | with_reducible first | refine condP_t ?_ | refine condP_f ?_ | refine ifP_tt' ?_ | refine ifP_ff' ?_ | refine ifP_tf' ?_ | refine ifP_ft' ?_ | refine ifP_u' ?_ | refine optP_mk0 ?_))
          (first | refine lss_s (fun hb => ?_) (fun hb => ?_) | refine leq_s (fun hb => ?_) (fun hb => ?_) | refine gtr_s (fun hb => ?_) (fun hb => ?_) | refine geq_s (fun hb => ?_) (fun hb => ?_) | refine eql_s (fun hb => ?_) (fun hb => ?_) | refine neq_s (fun hb => ?_) (fun hb => ?_))
          · (repeat (first | refine bindP_mk (by simp (disch := first | omega | exact Int.natCast_nonneg _ | assumption) only [BB, B2, ↓reduceIte, Nat.reduceLeDiff, Nat.reduceAdd, CC] <;> rfl) ?_ | refine newP_mk ?_ | refine optP_mk ?_ | with_reducible first | refine condP_t ?_ | refine condP_f ?_ | refine ifP_tt' ?_ | refine ifP_ff' ?_ | refine ifP_tf' ?_ | refine ifP_ft' ?_ | refine ifP_u' ?_ | refine optP_mk0 ?_))
            exact hfin _ _ rfl (.inl (by omega)) (by omega)
          · (repeat (first | refine bindP_mk (by simp (disch := first | omega | exact Int.natCast_nonneg _ | assumption) only [BB, B2, ↓reduceIte, Nat.reduceLeDiff, Nat.reduceAdd, CC] <;> rfl) ?_ | refine newP_mk ?_ | refine optP_mk ?_ | with_reducible first | refine condP_t ?_ | refine condP_f ?_ | refine ifP_tt' ?_ | refine ifP_ff' ?_ | refine ifP_tf' ?_ | refine ifP_ft' ?_ | refine ifP_u' ?_ | refine optP_mk0 ?_))
            exact hok _ _ e0 e1 rfl (by omega) (by omega) (by omega)
        · (repeat (first | refine bindP_mk (by simp (disch := first | omega | exact Int.natCast_nonneg _ | assumption) only [BB, B2, ↓reduceIte, Nat.reduceLeDiff, Nat.reduceAdd, CC] <;> rfl) ?_ | refine newP_mk ?_ | refine optP_mk ?_ | with_reducible first | refine condP_t ?_ | refine condP_f ?_ | refine ifP_tt' ?_ | refine ifP_ff' ?_ | refine ifP_tf' ?_ | refine ifP_ft' ?_ | refine ifP_u' ?_ | refine optP_mk0 ?_))
          exact hok _ _ e0 e1 rfl (by omega) (by omega) (by omega)
  · (repeat (first | refine bindP_mk (by simp (disch := first | omega | exact Int.natCast_nonneg _ | assumption) only [BB, B2, ↓reduceIte, Nat.reduceLeDiff, Nat.reduceAdd, CC] <;> rfl) ?_ | refine newP_mk ?_ | refine optP_mk ?_ | with_reducible first | refine condP_t ?_ | refine condP_f ?_ | refine ifP_tt' ?_ | refine ifP_ff' ?_ | refine ifP_tf' ?_ | refine ifP_ft' ?_ | refine ifP_u' ?_ | refine optP_mk0 ?_))
    refine hx _ _ _ _ (fun e => by cases e) (exP_e (beqP_t ?_))
    unfold ref09_rises_j1
    rw [drop_all (by omega)] at hr
    exact ⟨_, Sub.refl _, kb hK hr.symm (by omega)⟩
theorem zer_Pos : zer Try.prog y_api_Pos = some (.agg (posL dummy (.slice none 0 0)).toArray) := by kernel_rfl
set_option maxRecDepth 4000 in
theorem ref09_Right_c {ro : Ro} {v : Value} {g : GlD} {h : T Obj} {nx : Nat} {K : KV} (hf : Fr h nx) (hg : RG ro h v g) (hK : ∀ nx', nx ≤ nx' → K (.bool (rightD g)) h nx') : callP Try.prog ro i_ref09_Right [v] h nx K := by
  obtain ⟨a, b, rfl, ha, hb⟩ := hg
  apply ref09_Right_of
  unfold ref09_Right
  refine newP_mk ?_
  have hs1 : Sub h (h.upd nx (some (.cells (Value.cells (.agg #[a, b])) y_api_Glush))) := (Sub.refl h).new hf (Nat.le_refl _)
  have hf1 : Fr (h.upd nx (some (.cells (Value.cells (.agg #[a, b])) y_api_Glush))) (nx + 1) := hf.upd (by omega) (by omega)
  have g1 : (h.upd nx (some (.cells (Value.cells (.agg #[a, b])) y_api_Glush))).get nx = some (.cells #[a, b] y_api_Glush) := by rw [T.get_upd_same]; rfl
  generalize h.upd nx (some (.cells (Value.cells (.agg #[a, b])) y_api_Glush)) = h1 at hs1 hf1 g1
  have hK' : ∀ (c : Bool) n, rightD g = c → nx ≤ n → ∃ h', Sub h' h1 ∧ K (.bool c) h' n := fun c n e hn => ⟨h, hs1, kb hK e hn⟩
  unfold rightD at hK'
  have hl := hb.len
  have hb1 := hb.sub hs1 (RPos.sub hs1)
  (repeat (first | refine bindP_mk (by simp (disch := first | omega | exact Int.natCast_nonneg _ | assumption) only [BB, B2, ↓reduceIte, Nat.reduceLeDiff, Nat.reduceAdd, CC, g1, hl] <;> rfl) ?_ | refine newP_mk ?_ | refine optP_mk ?_ | with_reducible first | refine condP_t ?_ | refine condP_f ?_ | refine ifP_tt' ?_ | refine ifP_ff' ?_ | refine ifP_tf' ?_ | refine ifP_ft' ?_ | refine ifP_u' ?_ | refine optP_mk0 ?_))
  (first | refine lss_s (fun hb => ?_) (fun hb => ?_) | refine leq_s (fun hb => ?_) (fun hb => ?_) | refine gtr_s (fun hb => ?_) (fun hb => ?_) | refine geq_s (fun hb => ?_) (fun hb => ?_) | refine eql_s (fun hb => ?_) (fun hb => ?_) | refine neq_s (fun hb => ?_) (fun hb => ?_))
  · (repeat (first | refine bindP_mk (by simp (disch := first | omega | exact Int.natCast_nonneg _ | assumption) only [BB, B2, ↓reduceIte, Nat.reduceLeDiff, Nat.reduceAdd, CC, g1, hl] <;> rfl) ?_ | refine newP_mk ?_ | refine optP_mk ?_ | with_reducible first | refine condP_t ?_ | refine condP_f ?_ | refine ifP_tt' ?_ | refine ifP_ff' ?_ | refine ifP_tf' ?_ | refine ifP_ft' ?_ | refine ifP_u' ?_ | refine optP_mk0 ?_))
    exact hK' _ _ (by rw [decide_eq_false (by omega)]; rfl) (by omega)
  · (repeat (first | refine bindP_mk (by simp (disch := first | omega | exact Int.natCast_nonneg _ | assumption) only [BB, B2, ↓reduceIte, Nat.reduceLeDiff, Nat.reduceAdd, CC, g1, hl] <;> rfl) ?_ | refine newP_mk ?_ | refine optP_mk ?_ | with_reducible first | refine condP_t ?_ | refine condP_f ?_ | refine ifP_tt' ?_ | refine ifP_ff' ?_ | refine ifP_tf' ?_ | refine ifP_ft' ?_ | refine ifP_u' ?_ | refine optP_mk0 ?_))
    refine ref09_rises_c (by omega) (ha.sub hs1) fun n hn => ?_
    cases hr : rz (-1) g.p.length g.first with
    | false =>
      (repeat (first | refine bindP_mk (by simp (disch := first | omega | exact Int.natCast_nonneg _ | assumption) only [BB, B2, ↓reduceIte, Nat.reduceLeDiff, Nat.reduceAdd, CC, g1, hl] <;> rfl) ?_ | refine newP_mk ?_ | refine optP_mk ?_ | with_reducible first | refine condP_t ?_ | refine condP_f ?_ | refine ifP_tt' ?_ | refine ifP_ff' ?_ | refine ifP_tf' ?_ | refine ifP_ft' ?_ | refine ifP_u' ?_ | refine optP_mk0 ?_))
      exact hK' _ _ (by rw [hr]; simp) (by omega)
    | true =>
      (repeat (first | refine bindP_mk (by simp (disch := first | omega | exact Int.natCast_nonneg _ | assumption) only [BB, B2, ↓reduceIte, Nat.reduceLeDiff, Nat.reduceAdd, CC, g1, hl] <;> rfl) ?_ | refine newP_mk ?_ | refine optP_mk ?_ | with_reducible first | refine condP_t ?_ | refine condP_f ?_ | refine ifP_tt' ?_ | refine ifP_ff' ?_ | refine ifP_tf' ?_ | refine ifP_ft' ?_ | refine ifP_u' ?_ | refine optP_mk0 ?_))
      rw [hr, decide_eq_true (by omega)] at hK'
      simp only [Bool.true_and] at hK'
      generalize hR : g.p.all (mayD g.p.length) = R at hK'
      refine loopP_rule (fun j e h' nx' => ∃ (k : Nat), k + j = g.p.length ∧ nx + 1 ≤ nx' ∧ h' = h1 ∧ e 1 = ptr nx ∧ e 3 = .int .i64 k ∧ (g.p.drop k).all (mayD g.p.length) = R) ?_ (n := g.p.length) ⟨0, by omega, by omega, rfl, rfl, rfl, hR⟩
      rintro j e h' nx' ⟨k, hj, hnx, rfl, e1, e3, hr2⟩ Q' hq hx
      unfold ref09_Right_L1
      rw [e1, e3]
      (repeat (first | refine bindP_mk (by simp (disch := first | omega | exact Int.natCast_nonneg _ | assumption) only [BB, B2, ↓reduceIte, Nat.reduceLeDiff, Nat.reduceAdd, CC, g1, hl] <;> rfl) ?_ | refine newP_mk ?_ | refine optP_mk ?_ | with_reducible first | refine condP_t ?_ | refine condP_f ?_ | refine ifP_tt' ?_ | refine ifP_ff' ?_ | refine ifP_tf' ?_ | refine ifP_ft' ?_ | refine ifP_u' ?_ | refine optP_mk0 ?_))
      refine lss_s (fun hk => ?_) (fun hk => ?_)
      · have hk : k < g.p.length := by omega
        rw [drop_cons hk, List.all_cons] at hr2
        obtain ⟨x, ⟨nv, rfl, hn1, hn2⟩, hx2, hx3, hx4, hx5⟩ := hb1.at hk
        generalize g.p[k] = p at hr2 hx2 hx3 hx5 hn1 hn2
        (repeat (first | refine bindP_mk (by simp (disch := first | omega | exact Int.natCast_nonneg _ | assumption) only [BB, B2, ↓reduceIte, Nat.reduceLeDiff, Nat.reduceAdd, CC, g1, hl] <;> rfl) ?_ | refine newP_mk ?_ | refine optP_mk ?_ | with_reducible first | refine condP_t ?_ | refine condP_f ?_ | refine ifP_tt' ?_ | refine ifP_ff' ?_ | refine ifP_tf' ?_ | refine ifP_ft' ?_ | refine ifP_u' ?_ | refine optP_mk0 ?_))
        refine bindP_mk (hb1.ix _ hk) (bindP_mk hx3 (bindP_mk zer_Pos (newP_mk ?_)))
        refine bindP_mk (storeA_own (l := posL dummy (.slice none 0 0)) (vs := posL p nv) (e := y_api_Pos) (f := (0, 0)) (by rw [T.get_upd_same]; rfl) rfl rfl rfl (posL_ok hn1.ok)) ?_
        have hs2 : Sub h' ((h'.upd (nx' + 10) (some (.cells (Value.cells (.agg (posL dummy (.slice none 0 0)).toArray)) y_api_Pos))).upd (nx' + 10) (some (.cells (posL p nv).toArray y_api_Pos))) := ((Sub.refl h').new hf1 (by omega)).new hf1 (by omega)
        have hf2 : Fr ((h'.upd (nx' + 10) (some (.cells (Value.cells (.agg (posL dummy (.slice none 0 0)).toArray)) y_api_Pos))).upd (nx' + 10) (some (.cells (posL p nv).toArray y_api_Pos))) (nx' + 11) := ((hf1.mono (show nx + 1 ≤ nx' + 11 by omega)).upd (Nat.le_refl _) (by omega)).upd (Nat.le_refl _) (by omega)
        have g2 : ((h'.upd (nx' + 10) (some (.cells (Value.cells (.agg (posL dummy (.slice none 0 0)).toArray)) y_api_Pos))).upd (nx' + 10) (some (.cells (posL p nv).toArray y_api_Pos))).get (nx' + 10) = some (.cells (posL p nv).toArray y_api_Pos) := by rw [T.get_upd_same]
        have g3 := hs2 _ _ g1
        generalize (h'.upd (nx' + 10) (some (.cells (Value.cells (.agg (posL dummy (.slice none 0 0)).toArray)) y_api_Pos))).upd (nx' + 10) (some (.cells (posL p nv).toArray y_api_Pos)) = h2 at hs2 hf2 g2 g3
        have hfin : ∀ (e' : Env) n, e' 2 = .bool false → mayD g.p.length p = false → nx ≤ n → Q' .ret e' h2 n := fun e' n h4 hc hn => by
          refine hx _ _ _ _ (fun e => by cases e) (exP_r ?_)
          rw [h4]
          obtain ⟨h9, q1, q2⟩ := hK' false n (by rw [← hr2, hc]; rfl) hn
          exact ⟨h9, q1.trans hs2, q2⟩
        have hok : ∀ (e' : Env) n, e' 1 = ptr nx → e' 3 = .int .i64 ((k : Int) + 1) → mayD g.p.length p = true → nx + 1 ≤ n → Q' .normal e' h2 n := fun e' n q1 q3 hc hn => by
          refine hq (j - 1) _ h' _ _ (by omega) ⟨k + 1, by omega, hn, rfl, q1, q3, ?_⟩ hs2
          rw [← hr2, hc, Bool.true_and]
        unfold mayD at hfin hok
        (repeat (first | refine bindP_mk (by simp (disch := first | omega | exact Int.natCast_nonneg _ | assumption) only [BB, B2, ↓reduceIte, Nat.reduceLeDiff, Nat.reduceAdd, CC, g2, g3, posL_take] <;> rfl) ?_ | refine newP_mk ?_ | refine optP_mk ?_ | with_reducible first | refine condP_t ?_ | refine condP_f ?_ | refine ifP_tt' ?_ | refine ifP_ff' ?_ | refine ifP_tf' ?_ | refine ifP_ft' ?_ | refine ifP_u' ?_ | refine optP_mk0 ?_))
        refine bindP_mk build_Set0 (bindP_mk plain_Set (eql_set0_s hn2 (fun h0 => ?_) (fun h0 => ?_)))
        · (repeat (first | refine bindP_mk (by simp (disch := first | omega | exact Int.natCast_nonneg _ | assumption) only [BB, B2, ↓reduceIte, Nat.reduceLeDiff, Nat.reduceAdd, CC, g2, g3] <;> rfl) ?_ | refine newP_mk ?_ | refine optP_mk ?_ | with_reducible first | refine condP_t ?_ | refine condP_f ?_ | refine ifP_tt' ?_ | refine ifP_ff' ?_ | refine ifP_tf' ?_ | refine ifP_ft' ?_ | refine ifP_u' ?_ | refine optP_mk0 ?_))
          exact hfin _ _ rfl (by simp [h0]) (by omega)
        · (repeat (first | refine bindP_mk (by simp (disch := first | omega | exact Int.natCast_nonneg _ | assumption) only [BB, B2, ↓reduceIte, Nat.reduceLeDiff, Nat.reduceAdd, CC, g2, g3] <;> rfl) ?_ | refine newP_mk ?_ | refine optP_mk ?_ | with_reducible first | refine condP_t ?_ | refine condP_f ?_ | refine ifP_tt' ?_ | refine ifP_ff' ?_ | refine ifP_tf' ?_ | refine ifP_ft' ?_ | refine ifP_u' ?_ | refine optP_mk0 ?_))
          iterate 5 ((first | refine lss_s (fun hb => ?_) (fun hb => ?_) | refine leq_s (fun hb => ?_) (fun hb => ?_) | refine gtr_s (fun hb => ?_) (fun hb => ?_) | refine geq_s (fun hb => ?_) (fun hb => ?_) | refine eql_s (fun hb => ?_) (fun hb => ?_) | refine neq_s (fun hb => ?_) (fun hb => ?_)); (focus ((repeat (first | refine bindP_mk (by simp (disch := first | omega | exact Int.natCast_nonneg _ | assumption) only [BB, B2, ↓reduceIte, Nat.reduceLeDiff, Nat.reduceAdd, CC, g2, g3] <;> rfl) ?_ | refine newP_mk ?_ | refine optP_mk ?_ | with_reducible first | refine condP_t ?_ | refine condP_f ?_ | refine ifP_tt' ?_ | refine ifP_ff' ?_ | refine ifP_tf' ?_ | refine ifP_ft' ?_ | refine ifP_u' ?_ | refine optP_mk0 ?_)); refine hfin _ _ rfl ?_ (by omega); simp only [Bool.and_eq_false_iff, decide_eq_false_iff_not]; omega)); (repeat (first | refine bindP_mk (by simp (disch := first | omega | exact Int.natCast_nonneg _ | assumption) only [BB, B2, ↓reduceIte, Nat.reduceLeDiff, Nat.reduceAdd, CC, g2, g3, hl] <;> rfl) ?_ | refine newP_mk ?_ | refine optP_mk ?_ | with_reducible first | refine condP_t ?_ | refine condP_f ?_ | refine ifP_tt' ?_ | refine ifP_ff' ?_ | refine ifP_tf' ?_ | refine ifP_ft' ?_ | refine ifP_u' ?_ | refine optP_mk0 ?_)))
          (repeat (first | refine bindP_mk (by simp (disch := first | omega | exact Int.natCast_nonneg _ | assumption) only [BB, B2, ↓reduceIte, Nat.reduceLeDiff, Nat.reduceAdd, CC, g2, g3, hl] <;> rfl) ?_ | refine newP_mk ?_ | refine optP_mk ?_ | with_reducible first | refine condP_t ?_ | refine condP_f ?_ | refine ifP_tt' ?_ | refine ifP_ff' ?_ | refine ifP_tf' ?_ | refine ifP_ft' ?_ | refine ifP_u' ?_ | refine optP_mk0 ?_))
          refine ref09_rises_c (by omega) (hn1.sub hs2) fun n hn => ?_
          cases hr3 : rz (-1) g.p.length p.next with
          | false =>
            (repeat (first | refine bindP_mk (by simp (disch := first | omega | exact Int.natCast_nonneg _ | assumption) only [BB, B2, ↓reduceIte, Nat.reduceLeDiff, Nat.reduceAdd, CC] <;> rfl) ?_ | refine newP_mk ?_ | refine optP_mk ?_ | with_reducible first | refine condP_t ?_ | refine condP_f ?_ | refine ifP_tt' ?_ | refine ifP_ff' ?_ | refine ifP_tf' ?_ | refine ifP_ft' ?_ | refine ifP_u' ?_ | refine optP_mk0 ?_))
            exact hfin _ _ rfl (by rw [hr3]; simp) (by omega)
          | true =>
            (repeat (first | refine bindP_mk (by simp (disch := first | omega | exact Int.natCast_nonneg _ | assumption) only [BB, B2, ↓reduceIte, Nat.reduceLeDiff, Nat.reduceAdd, CC] <;> rfl) ?_ | refine newP_mk ?_ | refine optP_mk ?_ | with_reducible first | refine condP_t ?_ | refine condP_f ?_ | refine ifP_tt' ?_ | refine ifP_ff' ?_ | refine ifP_tf' ?_ | refine ifP_ft' ?_ | refine ifP_u' ?_ | refine optP_mk0 ?_))
            refine hok _ _ e1 rfl ?_ (by omega)
            rw [hr3, decide_eq_true h0]
            repeat rw [decide_eq_true (by omega), Bool.true_and]
            rfl
      · (repeat (first | refine bindP_mk (by simp (disch := first | omega | exact Int.natCast_nonneg _ | assumption) only [BB, B2, ↓reduceIte, Nat.reduceLeDiff, Nat.reduceAdd, CC] <;> rfl) ?_ | refine newP_mk ?_ | refine optP_mk ?_ | with_reducible first | refine condP_t ?_ | refine condP_f ?_ | refine ifP_tt' ?_ | refine ifP_ff' ?_ | refine ifP_tf' ?_ | refine ifP_ft' ?_ | refine ifP_u' ?_ | refine optP_mk0 ?_))
        refine hx _ _ _ _ (fun e => by cases e) (exP_e (beqP_t ?_))
        unfold ref09_Right_j1
        rw [drop_all (by omega)] at hr2
        exact hK' _ _ (by exact hr2.symm) (by omega)
end V
end Go.Proofs.Ytmmdcdjkmakgpaa
set_option linter.unusedVariables false
set_option linter.unusedSimpArgs false
namespace Go.Proofs.Ytmmdcdjkmakgpaa
namespace V
attribute [local irreducible] callPre callP bindP
@[irreducible] def law11_AutoGoes_j1 (ro : Ro) (K : KV) : Env → T Obj → Nat → Prop := fun e h nx => bindP (loadA ro h 2 (e 6)) fun t181_33 => bindP (loadA ro h 2 (e 9)) fun t182_34 => callP Try.prog ro i_law11_code [t181_33, t182_34] h (nx + 3) fun t183_35 h36 n37 => ifP (e 5) true h36 (n37 + 29) (fun k38 => k38 t183_35 h36 (n37 + 29)) fun t186_39 h40 n41 => ifP (e 5) true h40 n41 (fun k42 => bindP (fwdP 258 (e 7)) fun t187_46 => k42 t187_46 h40 n41) fun t187_43 h44 n45 => ifP (e 5) true h44 n45 (fun k47 => bindP (load1 ro h44 t187_43) fun t188_51 => k47 t188_51 h44 n45) fun t188_48 h49 n50 => ifP (e 5) true h49 n50 (fun k52 => k52 (e 10) h49 n50) fun t189_53 h54 n55 => ifP (e 5) true h54 n55 (fun k56 => bindP (ixSl 4 t188_48 t189_53) fun t190_60 => k56 t190_60 h54 n55) fun t190_57 h58 n59 => ifP (e 5) true h58 n59 (fun k61 => bindP (fwdP 2 t190_57) fun t191_65 => k61 t191_65 h58 n59) fun t191_62 h63 n64 => ifP (e 5) true h63 n64 (fun k66 => bindP (load1 ro h63 t191_62) fun t192_70 => k66 t192_70 h63 n64) fun t192_67 h68 n69 => ifP (e 5) true h68 n69 (fun k71 => bindP (lenSl t192_67) fun t193_75 => k71 t193_75 h68 n69) fun t193_72 h73 n74 => ifP (e 5) true h73 n74 (fun k76 => bindP (intB .lss t186_39 t193_72) fun t194_80 => k76 t194_80 h73 n74) fun t194_77 h78 n79 => bindP (pickV (e 5) t194_77 (Value.bool false)) fun t195_81 => ifP t195_81 true h78 n79 (fun k82 => bindP (fwdP 258 (e 7)) fun t197_86 => k82 t197_86 h78 n79) fun t197_83 h84 n85 => ifP t195_81 true h84 n85 (fun k87 => bindP (load1 ro h84 t197_83) fun t198_91 => k87 t198_91 h84 n85) fun t198_88 h89 n90 => ifP t195_81 true h89 n90 (fun k92 => k92 (e 10) h89 n90) fun t199_93 h94 n95 => ifP t195_81 true h94 n95 (fun k96 => bindP (ixSl 4 t198_88 t199_93) fun t200_100 => k96 t200_100 h94 n95) fun t200_97 h98 n99 => ifP t195_81 true h98 n99 (fun k101 => bindP (fwdP 2 t200_97) fun t201_105 => k101 t201_105 h98 n99) fun t201_102 h103 n104 => ifP t195_81 true h103 n104 (fun k106 => bindP (load1 ro h103 t201_102) fun t202_110 => k106 t202_110 h103 n104) fun t202_107 h108 n109 => ifP t195_81 true h108 n109 (fun k111 => k111 t183_35 h108 n109) fun t203_112 h113 n114 => ifP t195_81 true h113 n114 (fun k115 => bindP (ixSl 1 t202_107 t203_112) fun t204_119 => k115 t204_119 h113 n114) fun t204_116 h117 n118 => ifP t195_81 true h117 n118 (fun k120 => bindP (load1 ro h117 t204_116) fun t205_124 => k120 t205_124 h117 n118) fun t205_121 h122 n123 => ifP t195_81 true h122 n123 (fun k125 => bindP (loadA ro h122 2 (e 6)) fun t206_129 => k125 t206_129 h122 n123) fun t206_126 h127 n128 => ifP t195_81 true h127 n128 (fun k130 => bindP (loadA ro h127 2 (e 9)) fun t207_134 => k130 t207_134 h127 n128) fun t207_131 h132 n133 => ifP t195_81 true h132 n133 (fun k135 => callP Try.prog ro i_ref10_Rule [t206_126, t207_131] h132 n133 fun t208_139 h140 n141 => (onP (some (t195_81, true)) (sameV t204_116 h132 h140)) ∧ ((onP (some (t195_81, true)) (sameV t201_102 h132 h140)) ∧ ((onP (some (t195_81, true)) (sameV t197_83 h132 h140)) ∧ (k135 t208_139 h140 n141)))) fun t208_136 h137 n138 => ifP t195_81 true h137 n138 (fun k142 => bindP (intB .eql t205_121 t208_136) fun t209_146 => k142 t209_146 h137 n138) fun t209_143 h144 n145 => bindP (pickV t195_81 t209_143 (Value.bool false)) fun t210_147 => ∃ h148, Sub h148 h144 ∧ K t210_147 h148 n145
@[irreducible] def law11_AutoGoes_j2 (ro : Ro) (Q : KE) : Env → T Obj → Nat → Prop := fun e h nx => bindP (intB .add (e 39) (Value.int IntKind.i64 1)) fun t180_152 => Q .normal (puts e [(180, t180_152), (39, t180_152)]) h (nx + 2)
@[irreducible] def law11_AutoGoes_j3 (ro : Ro) (Q : KE) : Env → T Obj → Nat → Prop := fun e h nx => bindP (loadA ro h 2 (e 15)) fun t177_266 => bindP (fwdP 0 (e 14)) fun t178_267 => bindP (load1 ro h t178_267) fun t179_268 => bindP (storeN 2 h (e 9) t177_266) fun h269 => (sameV t178_267 h h269) ∧ (law11_AutoGoes_j2 ro Q (puts e [(177, t177_266), (178, t178_267), (179, t179_268), (10, t179_268)]) h269 (nx + 5))
@[irreducible] def law11_AutoGoes_j4 (ro : Ro) (Q : KE) : Env → T Obj → Nat → Prop := fun e h nx => bindP (intB .add (e 114) (Value.int IntKind.i64 1)) fun t176_274 => Q .normal (puts e [(176, t176_274), (114, t176_274)]) h (nx + 2)
@[irreducible] def law11_AutoGoes_L2 (ro : Ro) : PT := fun e h nx Q => bindP (intB .lss (e 114) (e 113)) fun t115_273 => condP t115_273 (bindP (ixSl 2 (e 112) (e 114)) fun t117_275 => bindP (loadA ro h 2 t117_275) fun t118_276 => bindP (zer Try.prog y_api_Held) fun z277 => newP h (nx + 4) (.cells z277.cells y_api_Held) fun h278 => bindP (storeN 2 h278 (ptr (nx + 4)) t118_276) fun h279 => bindP (fwdP 0 (e 16)) fun t119_280 => bindP (load1 ro h279 t119_280) fun t120_281 => bindP (ixSl 1 t120_281 (e 114)) fun t122_282 => bindP (load1 ro h279 t122_282) fun t123_283 => bindP (fwdP 0 (ptr (nx + 4))) fun t124_284 => bindP (load1 ro h279 t124_284) fun t125_285 => bindP (intB .neq t123_283 t125_285) fun t126_286 => condP t126_286 (Q .ret (puts e [(115, t115_273), (116, (e 114)), (117, t117_275), (118, t118_276), (19, (ptr (nx + 4))), (18, (e 114)), (119, t119_280), (120, t120_281), (121, (e 114)), (122, t122_282), (123, t123_283), (124, t124_284), (125, t125_285), (126, t126_286), (4, (Value.bool false))]) h279 (nx + 16)) (bindP (fwdP 1 (e 6)) fun t127_287 => bindP (load1 ro h279 t127_287) fun t128_288 => bindP (fwdP 0 (ptr (nx + 4))) fun t129_289 => bindP (load1 ro h279 t129_289) fun t130_290 => bindP (ixSl 9 t128_288 t130_290) fun t131_291 => bindP (fwdP 5 t131_291) fun t132_292 => bindP (load1 ro h279 t132_292) fun t133_293 => bindP (intB .lss t133_293 (Value.int IntKind.i64 2)) fun t134_294 => condP t134_294 (law11_AutoGoes_j4 ro Q (puts e [(115, t115_273), (116, (e 114)), (117, t117_275), (118, t118_276), (19, (ptr (nx + 4))), (18, (e 114)), (119, t119_280), (120, t120_281), (121, (e 114)), (122, t122_282), (123, t123_283), (124, t124_284), (125, t125_285), (126, t126_286), (127, t127_287), (128, t128_288), (129, t129_289), (130, t130_290), (131, t131_291), (132, t132_292), (133, t133_293), (134, t134_294)]) h279 (nx + 23)) (bindP (fwdP 1 (e 14)) fun t136_295 => bindP (load1 ro h279 t136_295) fun t137_296 => bindP (lenSl t137_296) fun t138_297 => bindP (intB .geq (e 17) t138_297) fun t139_298 => ifP t139_298 false h279 (nx + 62) (fun k299 => bindP (fwdP 1 (e 14)) fun t141_303 => k299 t141_303 h279 (nx + 62)) fun t141_300 h301 n302 => ifP t139_298 false h301 n302 (fun k304 => bindP (load1 ro h301 t141_300) fun t142_308 => k304 t142_308 h301 n302) fun t142_305 h306 n307 => ifP t139_298 false h306 n307 (fun k309 => k309 (e 17) h306 n307) fun t143_310 h311 n312 => ifP t139_298 false h311 n312 (fun k313 => bindP (ixSl 1 t142_305 t143_310) fun t144_317 => k313 t144_317 h311 n312) fun t144_314 h315 n316 => ifP t139_298 false h315 n316 (fun k318 => bindP (load1 ro h315 t144_314) fun t145_322 => k318 t145_322 h315 n316) fun t145_319 h320 n321 => ifP t139_298 false h320 n321 (fun k323 => bindP (intB .eql t145_319 (Value.int IntKind.u8 1)) fun t146_327 => k323 t146_327 h320 n321) fun t146_324 h325 n326 => ifP t139_298 false h325 n326 (fun k328 => bindP (fwdP 1 (ptr (nx + 4))) fun t147_332 => k328 t147_332 h325 n326) fun t147_329 h330 n331 => ifP t139_298 false h330 n331 (fun k333 => bindP (load1 ro h330 t147_329) fun t148_337 => k333 t148_337 h330 n331) fun t148_334 h335 n336 => ifP t139_298 false h335 n336 (fun k338 => bindP (ixSl 1 t148_334 (Value.int IntKind.i64 0)) fun t149_342 => k338 t149_342 h335 n336) fun t149_339 h340 n341 => ifP t139_298 false h340 n341 (fun k343 => bindP (load1 ro h340 t149_339) fun t150_347 => k343 t150_347 h340 n341) fun t150_344 h345 n346 => ifP t139_298 false h345 n346 (fun k348 => bindP (intB .gtr t150_344 (Value.int IntKind.i64 1)) fun t151_352 => k348 t151_352 h345 n346) fun t151_349 h350 n351 => ifP t139_298 false h350 n351 (fun k353 => bindP (boolB .neq t146_324 t151_349) fun t152_357 => k353 t152_357 h350 n351) fun t152_354 h355 n356 => bindP (pickV t139_298 (Value.bool true) t152_354) fun t153_358 => ifP t153_358 false h355 n356 (fun k359 => bindP (fwdP 1 (e 14)) fun t155_363 => k359 t155_363 h355 n356) fun t155_360 h361 n362 => ifP t153_358 false h361 n362 (fun k364 => bindP (load1 ro h361 t155_360) fun t156_368 => k364 t156_368 h361 n362) fun t156_365 h366 n367 => ifP t153_358 false h366 n367 (fun k369 => k369 (e 17) h366 n367) fun t157_370 h371 n372 => ifP t153_358 false h371 n372 (fun k373 => bindP (ixSl 1 t156_365 t157_370) fun t158_377 => k373 t158_377 h371 n372) fun t158_374 h375 n376 => ifP t153_358 false h375 n376 (fun k378 => bindP (load1 ro h375 t158_374) fun t159_382 => k378 t159_382 h375 n376) fun t159_379 h380 n381 => ifP t153_358 false h380 n381 (fun k383 => bindP (intB .eql t159_379 (Value.int IntKind.u8 3)) fun t160_387 => k383 t160_387 h380 n381) fun t160_384 h385 n386 => ifP t153_358 false h385 n386 (fun k388 => bindP (fwdP 1 (ptr (nx + 4))) fun t161_392 => k388 t161_392 h385 n386) fun t161_389 h390 n391 => ifP t153_358 false h390 n391 (fun k393 => bindP (load1 ro h390 t161_389) fun t162_397 => k393 t162_397 h390 n391) fun t162_394 h395 n396 => ifP t153_358 false h395 n396 (fun k398 => bindP (lenSl t162_394) fun t163_402 => k398 t163_402 h395 n396) fun t163_399 h400 n401 => ifP t153_358 false h400 n401 (fun k403 => bindP (intB .eql t163_399 (Value.int IntKind.i64 1)) fun t164_407 => k403 t164_407 h400 n401) fun t164_404 h405 n406 => ifP t153_358 false h405 n406 (fun k408 => k408 t164_404 h405 n406) fun t165_409 h410 n411 => ifP t165_409 true h410 n411 (fun k412 => bindP (fwdP 1 (ptr (nx + 4))) fun t166_416 => k412 t166_416 h410 n411) fun t166_413 h414 n415 => ifP t165_409 true h414 n415 (fun k417 => bindP (load1 ro h414 t166_413) fun t167_421 => k417 t167_421 h414 n415) fun t167_418 h419 n420 => ifP t165_409 true h419 n420 (fun k422 => bindP (ixSl 1 t167_418 (Value.int IntKind.i64 0)) fun t168_426 => k422 t168_426 h419 n420) fun t168_423 h424 n425 => ifP t165_409 true h424 n425 (fun k427 => bindP (load1 ro h424 t168_423) fun t169_431 => k427 t169_431 h424 n425) fun t169_428 h429 n430 => ifP t165_409 true h429 n430 (fun k432 => bindP (intB .eql t169_428 (Value.int IntKind.i64 1)) fun t170_436 => k432 t170_436 h429 n430) fun t170_433 h434 n435 => ifP t153_358 false h434 n435 (fun k437 => bindP (pickV t165_409 t170_433 (Value.bool false)) fun t171_441 => k437 t171_441 h434 n435) fun t171_438 h439 n440 => ifP t153_358 false h439 n440 (fun k442 => bindP (boolB .neq t160_384 t171_438) fun t172_446 => k442 t172_446 h439 n440) fun t172_443 h444 n445 => bindP (pickV t153_358 (Value.bool true) t172_443) fun t173_447 => condP t173_447 (Q .ret (puts e [(115, t115_273), (116, (e 114)), (117, t117_275), (118, t118_276), (19, (ptr (nx + 4))), (18, (e 114)), (119, t119_280), (120, t120_281), (121, (e 114)), (122, t122_282), (123, t123_283), (124, t124_284), (125, t125_285), (126, t126_286), (127, t127_287), (128, t128_288), (129, t129_289), (130, t130_290), (131, t131_291), (132, t132_292), (133, t133_293), (134, t134_294), (135, (e 17)), (136, t136_295), (137, t137_296), (138, t138_297), (139, t139_298), (140, t139_298), (141, t141_300), (142, t142_305), (143, t143_310), (144, t144_314), (145, t145_319), (146, t146_324), (147, t147_329), (148, t148_334), (149, t149_339), (150, t150_344), (151, t151_349), (152, t152_354), (153, t153_358), (154, t153_358), (155, t155_360), (156, t156_365), (157, t157_370), (158, t158_374), (159, t159_379), (160, t160_384), (161, t161_389), (162, t162_394), (163, t163_399), (164, t164_404), (165, t165_409), (166, t166_413), (167, t167_418), (168, t168_423), (169, t169_428), (170, t170_433), (171, t171_438), (172, t172_443), (173, t173_447), (4, (Value.bool false))]) h444 (n445 + 1)) (bindP (intB .add (e 17) (Value.int IntKind.i64 1)) fun t175_448 => law11_AutoGoes_j4 ro Q (puts e [(115, t115_273), (116, (e 114)), (117, t117_275), (118, t118_276), (19, (ptr (nx + 4))), (18, (e 114)), (119, t119_280), (120, t120_281), (121, (e 114)), (122, t122_282), (123, t123_283), (124, t124_284), (125, t125_285), (126, t126_286), (127, t127_287), (128, t128_288), (129, t129_289), (130, t130_290), (131, t131_291), (132, t132_292), (133, t133_293), (134, t134_294), (135, (e 17)), (136, t136_295), (137, t137_296), (138, t138_297), (139, t139_298), (140, t139_298), (141, t141_300), (142, t142_305), (143, t143_310), (144, t144_314), (145, t145_319), (146, t146_324), (147, t147_329), (148, t148_334), (149, t149_339), (150, t150_344), (151, t151_349), (152, t152_354), (153, t153_358), (154, t153_358), (155, t155_360), (156, t156_365), (157, t157_370), (158, t158_374), (159, t159_379), (160, t160_384), (161, t161_389), (162, t162_394), (163, t163_399), (164, t164_404), (165, t165_409), (166, t166_413), (167, t167_418), (168, t168_423), (169, t169_428), (170, t170_433), (171, t171_438), (172, t172_443), (173, t173_447), (174, (e 17)), (175, t175_448), (17, t175_448)]) h444 (n445 + 3))))) (Q (.exit 2) (puts e [(115, t115_273)]) h (nx + 1))
@[irreducible] def law11_AutoGoes_L1 (ro : Ro) : PT := fun e h nx Q => bindP (intB .lss (e 39) (e 38)) fun t40_151 => condP t40_151 (bindP (fwdP 258 (e 7)) fun t42_153 => bindP (load1 ro h t42_153) fun t43_154 => bindP (ixSl 4 t43_154 (e 10)) fun t45_155 => bindP (loadA ro h 4 t45_155) fun t46_156 => bindP (zer Try.prog y_api_State) fun z157 => newP h (nx + 8) (.cells z157.cells y_api_State) fun h158 => bindP (storeN 4 h158 (ptr (nx + 8)) t46_156) fun h159 => bindP (loadA ro h159 2 (e 6)) fun t47_160 => bindP (loadA ro h159 2 (e 9)) fun t48_161 => callP Try.prog ro i_law11_code [t47_160, t48_161] h159 (nx + 13) fun t49_162 h163 n164 => bindP (fwdP 3 (ptr (nx + 8))) fun t51_165 => bindP (load1 ro h163 t51_165) fun t52_166 => bindP (lenSl t52_166) fun t53_167 => bindP (intB .geq t49_162 t53_167) fun t54_168 => ifP t54_168 false h163 (n164 + 17) (fun k169 => bindP (fwdP 2 (ptr (nx + 8))) fun t56_173 => k169 t56_173 h163 (n164 + 17)) fun t56_170 h171 n172 => ifP t54_168 false h171 n172 (fun k174 => bindP (load1 ro h171 t56_170) fun t57_178 => k174 t57_178 h171 n172) fun t57_175 h176 n177 => ifP t54_168 false h176 n177 (fun k179 => k179 t49_162 h176 n177) fun t58_180 h181 n182 => ifP t54_168 false h181 n182 (fun k183 => bindP (ixSl 1 t57_175 t58_180) fun t59_187 => k183 t59_187 h181 n182) fun t59_184 h185 n186 => ifP t54_168 false h185 n186 (fun k188 => bindP (load1 ro h185 t59_184) fun t60_192 => k188 t60_192 h185 n186) fun t60_189 h190 n191 => ifP t54_168 false h190 n191 (fun k193 => bindP (loadA ro h190 2 (e 6)) fun t61_197 => k193 t61_197 h190 n191) fun t61_194 h195 n196 => ifP t54_168 false h195 n196 (fun k198 => bindP (loadA ro h195 2 (e 9)) fun t62_202 => k198 t62_202 h195 n196) fun t62_199 h200 n201 => ifP t54_168 false h200 n201 (fun k203 => callP Try.prog ro i_ref10_Rule [t61_194, t62_199] h200 n201 fun t63_207 h208 n209 => (onP (some (t54_168, false)) (sameV t59_184 h200 h208)) ∧ ((onP (some (t54_168, false)) (sameV t56_170 h200 h208)) ∧ (k203 t63_207 h208 n209))) fun t63_204 h205 n206 => ifP t54_168 false h205 n206 (fun k210 => bindP (intB .neq t60_189 t63_204) fun t64_214 => k210 t64_214 h205 n206) fun t64_211 h212 n213 => bindP (pickV t54_168 (Value.bool true) t64_211) fun t65_215 => condP t65_215 (Q .ret (puts e [(40, t40_151), (41, (e 39)), (11, (e 39)), (42, t42_153), (43, t43_154), (44, (e 10)), (45, t45_155), (46, t46_156), (12, (ptr (nx + 8))), (47, t47_160), (48, t48_161), (49, t49_162), (13, t49_162), (50, t49_162), (51, t51_165), (52, t52_166), (53, t53_167), (54, t54_168), (55, t54_168), (56, t56_170), (57, t57_175), (58, t58_180), (59, t59_184), (60, t60_189), (61, t61_194), (62, t62_199), (63, t63_204), (64, t64_211), (65, t65_215), (4, (Value.bool false))]) h212 (n213 + 1)) (bindP (fwdP 3 (ptr (nx + 8))) fun t66_216 => bindP (load1 ro h212 t66_216) fun t67_217 => bindP (ixSl 1 t67_217 t49_162) fun t69_218 => bindP (load1 ro h212 t69_218) fun t70_219 => bindP (ixStr (e 1) (e 39)) fun t73_220 => bindP (fwdP 0 (e 7)) fun t74_221 => bindP (fwdP 0 t74_221) fun t75_222 => bindP (ixArr 256 1 t75_222 t73_220) fun t76_223 => bindP (load1 ro h212 t76_223) fun t77_224 => bindP (ixSl 2 t70_219 t77_224) fun t78_225 => bindP (loadA ro h212 2 t78_225) fun t79_226 => bindP (zer Try.prog y_api_Move) fun z227 => newP h212 (n213 + 14) (.cells z227.cells y_api_Move) fun h228 => bindP (storeN 2 h228 (ptr (n213 + 14)) t79_226) fun h229 => bindP (loadA ro h229 2 (e 6)) fun t80_230 => bindP (loadA ro h229 2 (e 9)) fun t81_231 => bindP (ixStr (e 1) (e 39)) fun t84_232 => callP Try.prog ro i_ref10_Step [t80_230, t81_231, t84_232] h229 (n213 + 24) fun t85_233 h234 n235 => bindP (zer Try.prog y_api_Config) fun z236 => newP h234 (n213 + 22) (.cells z236.cells y_api_Config) fun h237 => bindP (storeN 2 h237 (ptr (n213 + 22)) t85_233) fun h238 => bindP (fwdP 0 (ptr (n213 + 14))) fun t86_239 => bindP (load1 ro h238 t86_239) fun t87_240 => bindP (intB .lss t87_240 (Value.int IntKind.i64 0)) fun t88_241 => bindP (fwdP 1 (ptr (n213 + 22))) fun t89_242 => bindP (load1 ro h238 t89_242) fun t90_243 => bindP (lenSl t90_243) fun t91_244 => bindP (intB .eql t91_244 (Value.int IntKind.i64 0)) fun t92_245 => bindP (boolB .neq t88_241 t92_245) fun t93_246 => condP t93_246 (Q .ret (puts e [(40, t40_151), (41, (e 39)), (11, (e 39)), (42, t42_153), (43, t43_154), (44, (e 10)), (45, t45_155), (46, t46_156), (12, (ptr (nx + 8))), (47, t47_160), (48, t48_161), (49, t49_162), (13, t49_162), (50, t49_162), (51, t51_165), (52, t52_166), (53, t53_167), (54, t54_168), (55, t54_168), (56, t56_170), (57, t57_175), (58, t58_180), (59, t59_184), (60, t60_189), (61, t61_194), (62, t62_199), (63, t63_204), (64, t64_211), (65, t65_215), (66, t66_216), (67, t67_217), (68, t49_162), (69, t69_218), (70, t70_219), (71, (e 1)), (72, (e 39)), (73, t73_220), (74, t74_221), (75, t75_222), (76, t76_223), (77, t77_224), (78, t78_225), (79, t79_226), (14, (ptr (n213 + 14))), (80, t80_230), (81, t81_231), (82, (e 1)), (83, (e 39)), (84, t84_232), (85, t85_233), (15, (ptr (n213 + 22))), (86, t86_239), (87, t87_240), (88, t88_241), (89, t89_242), (90, t90_243), (91, t91_244), (92, t92_245), (93, t93_246), (4, (Value.bool false))]) h238 (n235 + 9)) (bindP (fwdP 0 (ptr (n213 + 14))) fun t94_247 => bindP (load1 ro h238 t94_247) fun t95_248 => bindP (intB .lss t95_248 (Value.int IntKind.i64 0)) fun t96_249 => condP t96_249 (Q .ret (puts e [(40, t40_151), (41, (e 39)), (11, (e 39)), (42, t42_153), (43, t43_154), (44, (e 10)), (45, t45_155), (46, t46_156), (12, (ptr (nx + 8))), (47, t47_160), (48, t48_161), (49, t49_162), (13, t49_162), (50, t49_162), (51, t51_165), (52, t52_166), (53, t53_167), (54, t54_168), (55, t54_168), (56, t56_170), (57, t57_175), (58, t58_180), (59, t59_184), (60, t60_189), (61, t61_194), (62, t62_199), (63, t63_204), (64, t64_211), (65, t65_215), (66, t66_216), (67, t67_217), (68, t49_162), (69, t69_218), (70, t70_219), (71, (e 1)), (72, (e 39)), (73, t73_220), (74, t74_221), (75, t75_222), (76, t76_223), (77, t77_224), (78, t78_225), (79, t79_226), (14, (ptr (n213 + 14))), (80, t80_230), (81, t81_231), (82, (e 1)), (83, (e 39)), (84, t84_232), (85, t85_233), (15, (ptr (n213 + 22))), (86, t86_239), (87, t87_240), (88, t88_241), (89, t89_242), (90, t90_243), (91, t91_244), (92, t92_245), (93, t93_246), (94, t94_247), (95, t95_248), (96, t96_249), (97, (e 5)), (4, (e 5))]) h238 (n235 + 13)) (bindP (fwdP 258 (e 7)) fun t98_250 => bindP (load1 ro h238 t98_250) fun t99_251 => bindP (fwdP 0 (ptr (n213 + 14))) fun t100_252 => bindP (load1 ro h238 t100_252) fun t101_253 => bindP (ixSl 4 t99_251 t101_253) fun t102_254 => bindP (loadA ro h238 4 t102_254) fun t103_255 => bindP (zer Try.prog y_api_State) fun z256 => newP h238 (n235 + 17) (.cells z256.cells y_api_State) fun h257 => bindP (storeN 4 h257 (ptr (n235 + 17)) t103_255) fun h258 => bindP (fwdP 0 (ptr (n235 + 17))) fun t104_259 => bindP (load1 ro h258 t104_259) fun t105_260 => bindP (lenSl t105_260) fun t106_261 => bindP (fwdP 1 (ptr (n213 + 22))) fun t107_262 => bindP (load1 ro h258 t107_262) fun t108_263 => bindP (lenSl t108_263) fun t109_264 => bindP (intB .neq t106_261 t109_264) fun t110_265 => condP t110_265 (Q .ret (puts e [(40, t40_151), (41, (e 39)), (11, (e 39)), (42, t42_153), (43, t43_154), (44, (e 10)), (45, t45_155), (46, t46_156), (12, (ptr (nx + 8))), (47, t47_160), (48, t48_161), (49, t49_162), (13, t49_162), (50, t49_162), (51, t51_165), (52, t52_166), (53, t53_167), (54, t54_168), (55, t54_168), (56, t56_170), (57, t57_175), (58, t58_180), (59, t59_184), (60, t60_189), (61, t61_194), (62, t62_199), (63, t63_204), (64, t64_211), (65, t65_215), (66, t66_216), (67, t67_217), (68, t49_162), (69, t69_218), (70, t70_219), (71, (e 1)), (72, (e 39)), (73, t73_220), (74, t74_221), (75, t75_222), (76, t76_223), (77, t77_224), (78, t78_225), (79, t79_226), (14, (ptr (n213 + 14))), (80, t80_230), (81, t81_231), (82, (e 1)), (83, (e 39)), (84, t84_232), (85, t85_233), (15, (ptr (n213 + 22))), (86, t86_239), (87, t87_240), (88, t88_241), (89, t89_242), (90, t90_243), (91, t91_244), (92, t92_245), (93, t93_246), (94, t94_247), (95, t95_248), (96, t96_249), (98, t98_250), (99, t99_251), (100, t100_252), (101, t101_253), (102, t102_254), (103, t103_255), (16, (ptr (n235 + 17))), (104, t104_259), (105, t105_260), (106, t106_261), (107, t107_262), (108, t108_263), (109, t109_264), (110, t110_265), (4, (Value.bool false))]) h258 (n235 + 27)) (bindP (fwdP 1 (ptr (n213 + 22))) fun t111_270 => bindP (load1 ro h258 t111_270) fun t112_271 => bindP (lenSl t112_271) fun t113_272 => loopP (law11_AutoGoes_L2 ro) (puts e [(40, t40_151), (41, (e 39)), (11, (e 39)), (42, t42_153), (43, t43_154), (44, (e 10)), (45, t45_155), (46, t46_156), (12, (ptr (nx + 8))), (47, t47_160), (48, t48_161), (49, t49_162), (13, t49_162), (50, t49_162), (51, t51_165), (52, t52_166), (53, t53_167), (54, t54_168), (55, t54_168), (56, t56_170), (57, t57_175), (58, t58_180), (59, t59_184), (60, t60_189), (61, t61_194), (62, t62_199), (63, t63_204), (64, t64_211), (65, t65_215), (66, t66_216), (67, t67_217), (68, t49_162), (69, t69_218), (70, t70_219), (71, (e 1)), (72, (e 39)), (73, t73_220), (74, t74_221), (75, t75_222), (76, t76_223), (77, t77_224), (78, t78_225), (79, t79_226), (14, (ptr (n213 + 14))), (80, t80_230), (81, t81_231), (82, (e 1)), (83, (e 39)), (84, t84_232), (85, t85_233), (15, (ptr (n213 + 22))), (86, t86_239), (87, t87_240), (88, t88_241), (89, t89_242), (90, t90_243), (91, t91_244), (92, t92_245), (93, t93_246), (94, t94_247), (95, t95_248), (96, t96_249), (98, t98_250), (99, t99_251), (100, t100_252), (101, t101_253), (102, t102_254), (103, t103_255), (16, (ptr (n235 + 17))), (104, t104_259), (105, t105_260), (106, t106_261), (107, t107_262), (108, t108_263), (109, t109_264), (110, t110_265), (17, (Value.int IntKind.i64 0)), (111, t111_270), (112, t112_271), (113, t113_272), (114, (Value.int IntKind.i64 0))]) h258 (n235 + 31) fun x452 e449 h450 n451 => exP x452 (law11_AutoGoes_j3 ro Q e449 h450 n451) (fun i453 => beqP (Nat.beq i453 2) (law11_AutoGoes_j3 ro Q e449 h450 n451) (beqP (Nat.beq i453 1) (law11_AutoGoes_j2 ro Q e449 h450 n451) (Q (.exit i453) e449 h450 n451))) (Q .ret e449 h450 n451)))))) (Q (.exit 0) (puts e [(40, t40_151)]) h (nx + 1))
@[irreducible] def law11_AutoGoes (ro : Ro) (v0 v1 : Value) (h : T Obj) (nx : Nat) (K : KV) : Prop := newP h nx (.cells (Value.cells v0) y_api_Glush) fun h1 => callP Try.prog ro i_law11_shown [] h1 (nx + 3) fun t21_2 h3 n4 => bindP (loadA ro h3 2 (ptr nx)) fun t22_5 => callP Try.prog ro i_law11_few [t22_5] h3 (n4 + 3) fun t23_6 h7 n8 => bindP (zer Try.prog y_api_Glush) fun z9 => newP h7 n8 (.cells z9.cells y_api_Glush) fun h10 => bindP (storeN 2 h10 (ptr n8) t23_6) fun h11 => bindP (loadA ro h11 2 (ptr n8)) fun t25_12 => callP Try.prog ro i_auto_Of [t25_12] h11 (n8 + 4) fun t26_13 h14 n15 => bindP (nth 0 t26_13) fun t27_16 => bindP (nth 1 t26_13) fun t28_17 => bindP (zer Try.prog y_api_Auto) fun z18 => newP h14 (n15 + 3) (.cells z18.cells y_api_Auto) fun h19 => bindP (storeN 259 h19 (ptr (n15 + 3)) t27_16) fun h20 => bindP (intB .neq t28_17 (Value.int IntKind.i64 0)) fun t30_21 => condP t30_21 (∃ h22, Sub h22 h20 ∧ K t21_2 h22 (n15 + 10)) (bindP (loadA ro h20 259 (ptr (n15 + 3))) fun t32_23 => callP Try.prog ro i_ref11_Right [t32_23] h20 (n15 + 10) fun t33_24 h25 n26 => bindP (unV .not t33_24) fun t34_27 => condP t34_27 (∃ h28, Sub h28 h25 ∧ K (Value.bool false) h28 (n26 + 2)) (bindP (buildV Try.prog y_api_Config [(0, (Value.bool true))]) fun t35_29 => bindP (zer Try.prog y_api_Config) fun z30 => newP h25 (n26 + 2) (.cells z30.cells y_api_Config) fun h31 => bindP (storeN 2 h31 (ptr (n26 + 2)) t35_29) fun h32 => bindP (lenStr v1) fun t37_149 => bindP (builtinQ Try.prog h32 .min #[y_int, y_int] [t37_149, (Value.int IntKind.i64 60)]) fun t38_150 => loopP (law11_AutoGoes_L1 ro) (puts (entE [v0, v1]) [(2, (ptr nx)), (4, (Value.bool false)), (21, t21_2), (5, t21_2), (22, t22_5), (23, t23_6), (6, (ptr n8)), (25, t25_12), (26, t26_13), (24, t26_13), (27, t27_16), (28, t28_17), (7, (ptr (n15 + 3))), (8, t28_17), (29, t28_17), (30, t30_21), (32, t32_23), (33, t33_24), (34, t34_27), (35, t35_29), (9, (ptr (n26 + 2))), (10, (Value.int IntKind.i64 0)), (36, v1), (37, t37_149), (38, t38_150), (39, (Value.int IntKind.i64 0))]) h32 (n26 + 9) fun x457 e454 h455 n456 => exP x457 (law11_AutoGoes_j1 ro K e454 h455 n456) (fun i458 => beqP (Nat.beq i458 0) (law11_AutoGoes_j1 ro K e454 h455 n456) (False)) (∃ h459, Sub h459 h455 ∧ K (e454 4) h459 n456)))
theorem law11_AutoGoes_eq (ro : Ro) (v0 v1 : Value) (h : T Obj) (nx : Nat) (K : KV) : callPre Try.prog ro (callP Try.prog ro) Try.f4 [v0, v1] h nx K = law11_AutoGoes ro v0 v1 h nx K := by kernel_rfl
theorem law11_AutoGoes_of {ro : Ro} {v0 v1 : Value} {h : T Obj} {nx : Nat} {K : KV} (hw : law11_AutoGoes ro v0 v1 h nx K) : callP Try.prog ro i_law11_AutoGoes [v0, v1] h nx K := callP_by (P := Try.prog) (fn := Try.f4) (by kernel_rfl) (by kernel_rfl) (by kernel_rfl) (Eq.mpr (law11_AutoGoes_eq ro v0 v1 h nx K) hw)
@[irreducible] def law11_code_j1 (ro : Ro) (K : KV) : Env → T Obj → Nat → Prop := fun e h nx => ∃ h3, Sub h3 h ∧ K (e 5) h3 (nx + 2)
@[irreducible] def law11_code_j2 (ro : Ro) (Q : KE) : Env → T Obj → Nat → Prop := fun e h nx => bindP (intB .add (e 13) (Value.int IntKind.i64 1)) fun t35_8 => Q .normal (puts e [(35, t35_8), (13, t35_8)]) h (nx + 2)
@[irreducible] def law11_code_L1 (ro : Ro) : PT := fun e h nx Q => bindP (intB .lss (e 13) (e 12)) fun t14_7 => condP t14_7 (bindP (ixSl 2 (e 11) (e 13)) fun t15_9 => bindP (loadA ro h 2 t15_9) fun t16_10 => bindP (zer Try.prog y_api_Held) fun z11 => newP h (nx + 3) (.cells z11.cells y_api_Held) fun h12 => bindP (storeN 2 h12 (ptr (nx + 3)) t16_10) fun h13 => bindP (fwdP 1 (e 2)) fun t17_14 => bindP (load1 ro h13 t17_14) fun t18_15 => bindP (fwdP 0 (ptr (nx + 3))) fun t19_16 => bindP (load1 ro h13 t19_16) fun t20_17 => bindP (ixSl 9 t18_15 t20_17) fun t21_18 => bindP (loadA ro h13 9 t21_18) fun t22_19 => bindP (zer Try.prog y_api_Pos) fun z20 => newP h13 (nx + 11) (.cells z20.cells y_api_Pos) fun h21 => bindP (storeN 9 h21 (ptr (nx + 11)) t22_19) fun h22 => bindP (fwdP 5 (ptr (nx + 11))) fun t23_23 => bindP (load1 ro h22 t23_23) fun t24_24 => bindP (intB .gtr t24_24 (Value.int IntKind.i64 1)) fun t25_25 => condP t25_25 (bindP (loadA ro h22 9 (ptr (nx + 11))) fun t28_26 => bindP (loadA ro h22 2 (ptr (nx + 3))) fun t29_27 => callP Try.prog ro i_law11_digit [t28_26, t29_27] h22 (nx + 21) fun t30_28 h29 n30 => bindP (intB .mul (e 6) t30_28) fun t31_31 => bindP (intB .add (e 5) t31_31) fun t32_32 => bindP (intB .mul (e 6) (Value.int IntKind.i64 3)) fun t34_33 => law11_code_j2 ro Q (puts e [(14, t14_7), (15, t15_9), (16, t16_10), (8, (ptr (nx + 3))), (17, t17_14), (18, t18_15), (19, t19_16), (20, t20_17), (21, t21_18), (22, t22_19), (9, (ptr (nx + 11))), (23, t23_23), (24, t24_24), (25, t25_25), (26, (e 5)), (27, (e 6)), (28, t28_26), (29, t29_27), (30, t30_28), (31, t31_31), (32, t32_32), (5, t32_32), (33, (e 6)), (34, t34_33), (6, t34_33)]) h29 (n30 + 6)) (law11_code_j2 ro Q (puts e [(14, t14_7), (15, t15_9), (16, t16_10), (8, (ptr (nx + 3))), (17, t17_14), (18, t18_15), (19, t19_16), (20, t20_17), (21, t21_18), (22, t22_19), (9, (ptr (nx + 11))), (23, t23_23), (24, t24_24), (25, t25_25)]) h22 (nx + 16))) (Q (.exit 0) (puts e [(14, t14_7)]) h (nx + 1))
@[irreducible] def law11_code (ro : Ro) (v0 v1 : Value) (h : T Obj) (nx : Nat) (K : KV) : Prop := newP h nx (.cells (Value.cells v0) y_api_Glush) fun h1 => newP h1 (nx + 1) (.cells (Value.cells v1) y_api_Config) fun h2 => bindP (fwdP 1 (ptr (nx + 1))) fun t10_4 => bindP (load1 ro h2 t10_4) fun t11_5 => bindP (lenSl t11_5) fun t12_6 => loopP (law11_code_L1 ro) (puts (entE [v0, v1]) [(2, (ptr nx)), (3, (ptr (nx + 1))), (4, (Value.int IntKind.i64 0)), (5, (Value.int IntKind.i64 0)), (6, (Value.int IntKind.i64 1)), (10, t10_4), (11, t11_5), (12, t12_6), (13, (Value.int IntKind.i64 0))]) h2 (nx + 9) fun x37 e34 h35 n36 => exP x37 (law11_code_j1 ro K e34 h35 n36) (fun i38 => beqP (Nat.beq i38 0) (law11_code_j1 ro K e34 h35 n36) (False)) (∃ h39, Sub h39 h35 ∧ K (e34 4) h39 n36)
theorem law11_code_eq (ro : Ro) (v0 v1 : Value) (h : T Obj) (nx : Nat) (K : KV) : callPre Try.prog ro (callP Try.prog ro) Try.f18 [v0, v1] h nx K = law11_code ro v0 v1 h nx K := by kernel_rfl
theorem law11_code_of {ro : Ro} {v0 v1 : Value} {h : T Obj} {nx : Nat} {K : KV} (hw : law11_code ro v0 v1 h nx K) : callP Try.prog ro i_law11_code [v0, v1] h nx K := callP_by (P := Try.prog) (fn := Try.f18) (by kernel_rfl) (by kernel_rfl) (by kernel_rfl) (Eq.mpr (law11_code_eq ro v0 v1 h nx K) hw)
@[irreducible] def ref10_Rule (ro : Ro) (v0 v1 : Value) (h : T Obj) (nx : Nat) (K : KV) : Prop := newP h nx (.cells (Value.cells v0) y_api_Glush) fun h1 => newP h1 (nx + 1) (.cells (Value.cells v1) y_api_Config) fun h2 => bindP (loadA ro h2 2 (ptr nx)) fun t5_3 => bindP (loadA ro h2 2 (ptr (nx + 1))) fun t6_4 => callP Try.prog ro i_ref10_Right [t5_3, t6_4] h2 (nx + 6) fun t7_5 h6 n7 => bindP (unV .not t7_5) fun t8_8 => condP t8_8 (∃ h9, Sub h9 h6 ∧ K (Value.int IntKind.i64 (-1)) h9 (n7 + 2)) (bindP (loadA ro h6 2 (ptr nx)) fun t9_10 => bindP (loadA ro h6 2 (ptr (nx + 1))) fun t10_11 => callP Try.prog ro i_ref10_rule [t9_10, t10_11] h6 (n7 + 4) fun t11_12 h13 n14 => ∃ h15, Sub h15 h13 ∧ K t11_12 h15 (n14 + 1))
theorem ref10_Rule_eq (ro : Ro) (v0 v1 : Value) (h : T Obj) (nx : Nat) (K : KV) : callPre Try.prog ro (callP Try.prog ro) Try.f19 [v0, v1] h nx K = ref10_Rule ro v0 v1 h nx K := by kernel_rfl
theorem ref10_Rule_of {ro : Ro} {v0 v1 : Value} {h : T Obj} {nx : Nat} {K : KV} (hw : ref10_Rule ro v0 v1 h nx K) : callP Try.prog ro i_ref10_Rule [v0, v1] h nx K := callP_by (P := Try.prog) (fn := Try.f19) (by kernel_rfl) (by kernel_rfl) (by kernel_rfl) (Eq.mpr (ref10_Rule_eq ro v0 v1 h nx K) hw)
@[irreducible] def ref10_Step (ro : Ro) (v0 v1 v2 : Value) (h : T Obj) (nx : Nat) (K : KV) : Prop := newP h nx (.cells (Value.cells v0) y_api_Glush) fun h1 => newP h1 (nx + 1) (.cells (Value.cells v1) y_api_Config) fun h2 => bindP (zer Try.prog y_api_Config) fun z3 => newP h2 (nx + 2) (.cells z3.cells y_api_Config) fun h4 => bindP (loadA ro h4 2 (ptr nx)) fun t7_5 => bindP (loadA ro h4 2 (ptr (nx + 1))) fun t8_6 => callP Try.prog ro i_ref10_Right [t7_5, t8_6] h4 (nx + 6) fun t9_7 h8 n9 => bindP (unV .not t9_7) fun t10_10 => condP t10_10 (bindP (buildV Try.prog y_api_Config []) fun t11_11 => bindP (storeN 2 h8 (ptr (nx + 2)) t11_11) fun h12 => bindP (loadA ro h12 2 (ptr (nx + 2))) fun r13 => ∃ h14, Sub h14 h12 ∧ K r13 h14 (n9 + 3)) (bindP (loadA ro h8 2 (ptr nx)) fun t12_15 => bindP (loadA ro h8 2 (ptr (nx + 1))) fun t13_16 => callP Try.prog ro i_ref10_step [t12_15, t13_16, v2] h8 (n9 + 5) fun t15_17 h18 n19 => bindP (storeN 2 h18 (ptr (nx + 2)) t15_17) fun h20 => bindP (loadA ro h20 2 (ptr (nx + 2))) fun r21 => ∃ h22, Sub h22 h20 ∧ K r21 h22 (n19 + 1))
theorem ref10_Step_eq (ro : Ro) (v0 v1 v2 : Value) (h : T Obj) (nx : Nat) (K : KV) : callPre Try.prog ro (callP Try.prog ro) Try.f20 [v0, v1, v2] h nx K = ref10_Step ro v0 v1 v2 h nx K := by kernel_rfl
theorem ref10_Step_of {ro : Ro} {v0 v1 v2 : Value} {h : T Obj} {nx : Nat} {K : KV} (hw : ref10_Step ro v0 v1 v2 h nx K) : callP Try.prog ro i_ref10_Step [v0, v1, v2] h nx K := callP_by (P := Try.prog) (fn := Try.f20) (by kernel_rfl) (by kernel_rfl) (by kernel_rfl) (Eq.mpr (ref10_Step_eq ro v0 v1 v2 h nx K) hw)
@[irreducible] def law11_digit (ro : Ro) (v0 v1 : Value) (h : T Obj) (nx : Nat) (K : KV) : Prop := newP h nx (.cells (Value.cells v0) y_api_Pos) fun h1 => newP h1 (nx + 1) (.cells (Value.cells v1) y_api_Held) fun h2 => bindP (fwdP 1 (ptr (nx + 1))) fun t5_3 => bindP (load1 ro h2 t5_3) fun t6_4 => bindP (fwdP 1 (ptr (nx + 1))) fun t7_5 => bindP (load1 ro h2 t7_5) fun t8_6 => bindP (lenSl t8_6) fun t9_7 => bindP (intB .sub t9_7 (Value.int IntKind.i64 1)) fun t10_8 => bindP (ixSl 1 t6_4 t10_8) fun t11_9 => bindP (load1 ro h2 t11_9) fun t12_10 => bindP (fwdP 4 (ptr nx)) fun t13_11 => bindP (load1 ro h2 t13_11) fun t14_12 => bindP (intB .lss t12_10 t14_12) fun t15_13 => condP t15_13 (∃ h14, Sub h14 h2 ∧ K (Value.int IntKind.i64 0) h14 (nx + 15)) (bindP (fwdP 1 (ptr (nx + 1))) fun t16_15 => bindP (load1 ro h2 t16_15) fun t17_16 => bindP (ixSl 1 t17_16 (Value.int IntKind.i64 0)) fun t18_17 => bindP (load1 ro h2 t18_17) fun t19_18 => bindP (fwdP 5 (ptr nx)) fun t20_19 => bindP (load1 ro h2 t20_19) fun t21_20 => bindP (intB .lss t19_18 t21_20) fun t22_21 => condP t22_21 (∃ h22, Sub h22 h2 ∧ K (Value.int IntKind.i64 2) h22 (nx + 22)) (∃ h23, Sub h23 h2 ∧ K (Value.int IntKind.i64 1) h23 (nx + 22)))
theorem law11_digit_eq (ro : Ro) (v0 v1 : Value) (h : T Obj) (nx : Nat) (K : KV) : callPre Try.prog ro (callP Try.prog ro) Try.f36 [v0, v1] h nx K = law11_digit ro v0 v1 h nx K := by kernel_rfl
theorem law11_digit_of {ro : Ro} {v0 v1 : Value} {h : T Obj} {nx : Nat} {K : KV} (hw : law11_digit ro v0 v1 h nx K) : callP Try.prog ro i_law11_digit [v0, v1] h nx K := callP_by (P := Try.prog) (fn := Try.f36) (by kernel_rfl) (by kernel_rfl) (by kernel_rfl) (Eq.mpr (law11_digit_eq ro v0 v1 h nx K) hw)
@[irreducible] def ref10_Right_j1 (ro : Ro) (K : KV) : Env → T Obj → Nat → Prop := fun e h nx => ∃ h49, Sub h49 h ∧ K (Value.bool true) h49 (nx + 1)
@[irreducible] def ref10_Right_j2 (ro : Ro) (Q : KE) : Env → T Obj → Nat → Prop := fun e h nx => bindP (intB .add (e 5) (Value.int IntKind.i64 1)) fun t27_54 => Q .normal (puts e [(26, (e 5)), (27, t27_54), (5, t27_54)]) h (nx + 3)
@[irreducible] def ref10_Right_L2 (ro : Ro) : PT := fun e h nx Q => bindP (fwdP 1 (e 6)) fun t67_185 => bindP (load1 ro h t67_185) fun t68_186 => bindP (lenSl t68_186) fun t69_187 => bindP (intB .lss (e 7) t69_187) fun t70_188 => condP t70_188 (bindP (fwdP 1 (e 6)) fun t73_189 => bindP (load1 ro h t73_189) fun t74_190 => bindP (ixSl 1 t74_190 (e 7)) fun t76_191 => bindP (load1 ro h t76_191) fun t77_192 => bindP (intB .lss t77_192 (Value.int IntKind.i64 1)) fun t78_193 => ifP t78_193 false h (nx + 44) (fun k194 => bindP (fwdP 1 (e 6)) fun t80_198 => k194 t80_198 h (nx + 44)) fun t80_195 h196 n197 => ifP t78_193 false h196 n197 (fun k199 => bindP (load1 ro h196 t80_195) fun t81_203 => k199 t81_203 h196 n197) fun t81_200 h201 n202 => ifP t78_193 false h201 n202 (fun k204 => k204 (e 7) h201 n202) fun t82_205 h206 n207 => ifP t78_193 false h206 n207 (fun k208 => bindP (ixSl 1 t81_200 t82_205) fun t83_212 => k208 t83_212 h206 n207) fun t83_209 h210 n211 => ifP t78_193 false h210 n211 (fun k213 => bindP (load1 ro h210 t83_209) fun t84_217 => k213 t84_217 h210 n211) fun t84_214 h215 n216 => ifP t78_193 false h215 n216 (fun k218 => bindP (fwdP 1 (e 2)) fun t85_222 => k218 t85_222 h215 n216) fun t85_219 h220 n221 => ifP t78_193 false h220 n221 (fun k223 => bindP (load1 ro h220 t85_219) fun t86_227 => k223 t86_227 h220 n221) fun t86_224 h225 n226 => ifP t78_193 false h225 n226 (fun k228 => bindP (fwdP 0 (e 6)) fun t87_232 => k228 t87_232 h225 n226) fun t87_229 h230 n231 => ifP t78_193 false h230 n231 (fun k233 => bindP (load1 ro h230 t87_229) fun t88_237 => k233 t88_237 h230 n231) fun t88_234 h235 n236 => ifP t78_193 false h235 n236 (fun k238 => bindP (ixSl 9 t86_224 t88_234) fun t89_242 => k238 t89_242 h235 n236) fun t89_239 h240 n241 => ifP t78_193 false h240 n241 (fun k243 => bindP (fwdP 5 t89_239) fun t90_247 => k243 t90_247 h240 n241) fun t90_244 h245 n246 => ifP t78_193 false h245 n246 (fun k248 => bindP (load1 ro h245 t90_244) fun t91_252 => k248 t91_252 h245 n246) fun t91_249 h250 n251 => ifP t78_193 false h250 n251 (fun k253 => bindP (intB .gtr t84_214 t91_249) fun t92_257 => k253 t92_257 h250 n251) fun t92_254 h255 n256 => bindP (pickV t78_193 (Value.bool true) t92_254) fun t93_258 => ifP t93_258 false h255 n256 (fun k259 => k259 (e 7) h255 n256) fun t95_260 h261 n262 => ifP t93_258 false h261 n262 (fun k263 => bindP (intB .gtr t95_260 (Value.int IntKind.i64 0)) fun t96_267 => k263 t96_267 h261 n262) fun t96_264 h265 n266 => ifP t93_258 false h265 n266 (fun k268 => k268 t96_264 h265 n266) fun t97_269 h270 n271 => ifP t97_269 true h270 n271 (fun k272 => bindP (fwdP 1 (e 6)) fun t98_276 => k272 t98_276 h270 n271) fun t98_273 h274 n275 => ifP t97_269 true h274 n275 (fun k277 => bindP (load1 ro h274 t98_273) fun t99_281 => k277 t99_281 h274 n275) fun t99_278 h279 n280 => ifP t97_269 true h279 n280 (fun k282 => k282 (e 7) h279 n280) fun t100_283 h284 n285 => ifP t97_269 true h284 n285 (fun k286 => bindP (intB .sub t100_283 (Value.int IntKind.i64 1)) fun t101_290 => k286 t101_290 h284 n285) fun t101_287 h288 n289 => ifP t97_269 true h288 n289 (fun k291 => bindP (ixSl 1 t99_278 t101_287) fun t102_295 => k291 t102_295 h288 n289) fun t102_292 h293 n294 => ifP t97_269 true h293 n294 (fun k296 => bindP (load1 ro h293 t102_292) fun t103_300 => k296 t103_300 h293 n294) fun t103_297 h298 n299 => ifP t97_269 true h298 n299 (fun k301 => bindP (fwdP 1 (e 6)) fun t104_305 => k301 t104_305 h298 n299) fun t104_302 h303 n304 => ifP t97_269 true h303 n304 (fun k306 => bindP (load1 ro h303 t104_302) fun t105_310 => k306 t105_310 h303 n304) fun t105_307 h308 n309 => ifP t97_269 true h308 n309 (fun k311 => k311 (e 7) h308 n309) fun t106_312 h313 n314 => ifP t97_269 true h313 n314 (fun k315 => bindP (ixSl 1 t105_307 t106_312) fun t107_319 => k315 t107_319 h313 n314) fun t107_316 h317 n318 => ifP t97_269 true h317 n318 (fun k320 => bindP (load1 ro h317 t107_316) fun t108_324 => k320 t108_324 h317 n318) fun t108_321 h322 n323 => ifP t97_269 true h322 n323 (fun k325 => bindP (intB .geq t103_297 t108_321) fun t109_329 => k325 t109_329 h322 n323) fun t109_326 h327 n328 => ifP t93_258 false h327 n328 (fun k330 => bindP (pickV t97_269 t109_326 (Value.bool false)) fun t110_334 => k330 t110_334 h327 n328) fun t110_331 h332 n333 => bindP (pickV t93_258 (Value.bool true) t110_331) fun t111_335 => condP t111_335 (Q .ret (puts e [(66, (e 7)), (67, t67_185), (68, t68_186), (69, t69_187), (70, t70_188), (73, t73_189), (74, t74_190), (75, (e 7)), (76, t76_191), (77, t77_192), (78, t78_193), (79, t78_193), (80, t80_195), (81, t81_200), (82, t82_205), (83, t83_209), (84, t84_214), (85, t85_219), (86, t86_224), (87, t87_229), (88, t88_234), (89, t89_239), (90, t90_244), (91, t91_249), (92, t92_254), (93, t93_258), (94, t93_258), (95, t95_260), (96, t96_264), (97, t97_269), (98, t98_273), (99, t99_278), (100, t100_283), (101, t101_287), (102, t102_292), (103, t103_297), (104, t104_302), (105, t105_307), (106, t106_312), (107, t107_316), (108, t108_321), (109, t109_326), (110, t110_331), (111, t111_335), (4, (Value.bool false))]) h332 (n333 + 1)) (bindP (intB .add (e 7) (Value.int IntKind.i64 1)) fun t72_336 => Q .normal (puts e [(66, (e 7)), (67, t67_185), (68, t68_186), (69, t69_187), (70, t70_188), (73, t73_189), (74, t74_190), (75, (e 7)), (76, t76_191), (77, t77_192), (78, t78_193), (79, t78_193), (80, t80_195), (81, t81_200), (82, t82_205), (83, t83_209), (84, t84_214), (85, t85_219), (86, t86_224), (87, t87_229), (88, t88_234), (89, t89_239), (90, t90_244), (91, t91_249), (92, t92_254), (93, t93_258), (94, t93_258), (95, t95_260), (96, t96_264), (97, t97_269), (98, t98_273), (99, t99_278), (100, t100_283), (101, t101_287), (102, t102_292), (103, t103_297), (104, t104_302), (105, t105_307), (106, t106_312), (107, t107_316), (108, t108_321), (109, t109_326), (110, t110_331), (111, t111_335), (71, (e 7)), (72, t72_336), (7, t72_336)]) h332 (n333 + 3))) (Q (.exit 2) (puts e [(66, (e 7)), (67, t67_185), (68, t68_186), (69, t69_187), (70, t70_188)]) h (nx + 5))
@[irreducible] def ref10_Right_L1 (ro : Ro) : PT := fun e h nx Q => bindP (fwdP 1 (e 3)) fun t22_50 => bindP (load1 ro h t22_50) fun t23_51 => bindP (lenSl t23_51) fun t24_52 => bindP (intB .lss (e 5) t24_52) fun t25_53 => condP t25_53 (bindP (fwdP 1 (e 3)) fun t28_55 => bindP (load1 ro h t28_55) fun t29_56 => bindP (ixSl 2 t29_56 (e 5)) fun t31_57 => bindP (loadA ro h 2 t31_57) fun t32_58 => bindP (zer Try.prog y_api_Held) fun z59 => newP h (nx + 10) (.cells z59.cells y_api_Held) fun h60 => bindP (storeN 2 h60 (ptr (nx + 10)) t32_58) fun h61 => bindP (fwdP 0 (ptr (nx + 10))) fun t33_62 => bindP (load1 ro h61 t33_62) fun t34_63 => bindP (intB .lss t34_63 (Value.int IntKind.i64 0)) fun t35_64 => ifP t35_64 false h61 (nx + 45) (fun k65 => bindP (fwdP 0 (ptr (nx + 10))) fun t37_69 => k65 t37_69 h61 (nx + 45)) fun t37_66 h67 n68 => ifP t35_64 false h67 n68 (fun k70 => bindP (load1 ro h67 t37_66) fun t38_74 => k70 t38_74 h67 n68) fun t38_71 h72 n73 => ifP t35_64 false h72 n73 (fun k75 => bindP (fwdP 1 (e 2)) fun t39_79 => k75 t39_79 h72 n73) fun t39_76 h77 n78 => ifP t35_64 false h77 n78 (fun k80 => bindP (load1 ro h77 t39_76) fun t40_84 => k80 t40_84 h77 n78) fun t40_81 h82 n83 => ifP t35_64 false h82 n83 (fun k85 => bindP (lenSl t40_81) fun t41_89 => k85 t41_89 h82 n83) fun t41_86 h87 n88 => ifP t35_64 false h87 n88 (fun k90 => bindP (intB .geq t38_71 t41_86) fun t42_94 => k90 t42_94 h87 n88) fun t42_91 h92 n93 => bindP (pickV t35_64 (Value.bool true) t42_91) fun t43_95 => ifP t43_95 false h92 n93 (fun k96 => k96 (e 5) h92 n93) fun t45_97 h98 n99 => ifP t43_95 false h98 n99 (fun k100 => bindP (intB .gtr t45_97 (Value.int IntKind.i64 0)) fun t46_104 => k100 t46_104 h98 n99) fun t46_101 h102 n103 => ifP t43_95 false h102 n103 (fun k105 => k105 t46_101 h102 n103) fun t47_106 h107 n108 => ifP t47_106 true h107 n108 (fun k109 => bindP (fwdP 1 (e 3)) fun t48_113 => k109 t48_113 h107 n108) fun t48_110 h111 n112 => ifP t47_106 true h111 n112 (fun k114 => bindP (load1 ro h111 t48_110) fun t49_118 => k114 t49_118 h111 n112) fun t49_115 h116 n117 => ifP t47_106 true h116 n117 (fun k119 => k119 (e 5) h116 n117) fun t50_120 h121 n122 => ifP t47_106 true h121 n122 (fun k123 => bindP (intB .sub t50_120 (Value.int IntKind.i64 1)) fun t51_127 => k123 t51_127 h121 n122) fun t51_124 h125 n126 => ifP t47_106 true h125 n126 (fun k128 => bindP (ixSl 2 t49_115 t51_124) fun t52_132 => k128 t52_132 h125 n126) fun t52_129 h130 n131 => ifP t47_106 true h130 n131 (fun k133 => bindP (fwdP 0 t52_129) fun t53_137 => k133 t53_137 h130 n131) fun t53_134 h135 n136 => ifP t47_106 true h135 n136 (fun k138 => bindP (load1 ro h135 t53_134) fun t54_142 => k138 t54_142 h135 n136) fun t54_139 h140 n141 => ifP t47_106 true h140 n141 (fun k143 => bindP (fwdP 0 (ptr (nx + 10))) fun t55_147 => k143 t55_147 h140 n141) fun t55_144 h145 n146 => ifP t47_106 true h145 n146 (fun k148 => bindP (load1 ro h145 t55_144) fun t56_152 => k148 t56_152 h145 n146) fun t56_149 h150 n151 => ifP t47_106 true h150 n151 (fun k153 => bindP (intB .geq t54_139 t56_149) fun t57_157 => k153 t57_157 h150 n151) fun t57_154 h155 n156 => ifP t43_95 false h155 n156 (fun k158 => bindP (pickV t47_106 t57_154 (Value.bool false)) fun t58_162 => k158 t58_162 h155 n156) fun t58_159 h160 n161 => bindP (pickV t43_95 (Value.bool true) t58_159) fun t59_163 => ifP t59_163 false h160 n161 (fun k164 => bindP (fwdP 1 (ptr (nx + 10))) fun t61_168 => k164 t61_168 h160 n161) fun t61_165 h166 n167 => ifP t59_163 false h166 n167 (fun k169 => bindP (load1 ro h166 t61_165) fun t62_173 => k169 t62_173 h166 n167) fun t62_170 h171 n172 => ifP t59_163 false h171 n172 (fun k174 => bindP (lenSl t62_170) fun t63_178 => k174 t63_178 h171 n172) fun t63_175 h176 n177 => ifP t59_163 false h176 n177 (fun k179 => bindP (intB .eql t63_175 (Value.int IntKind.i64 0)) fun t64_183 => k179 t64_183 h176 n177) fun t64_180 h181 n182 => bindP (pickV t59_163 (Value.bool true) t64_180) fun t65_184 => condP t65_184 (Q .ret (puts e [(21, (e 5)), (22, t22_50), (23, t23_51), (24, t24_52), (25, t25_53), (28, t28_55), (29, t29_56), (30, (e 5)), (31, t31_57), (32, t32_58), (6, (ptr (nx + 10))), (33, t33_62), (34, t34_63), (35, t35_64), (36, t35_64), (37, t37_66), (38, t38_71), (39, t39_76), (40, t40_81), (41, t41_86), (42, t42_91), (43, t43_95), (44, t43_95), (45, t45_97), (46, t46_101), (47, t47_106), (48, t48_110), (49, t49_115), (50, t50_120), (51, t51_124), (52, t52_129), (53, t53_134), (54, t54_139), (55, t55_144), (56, t56_149), (57, t57_154), (58, t58_159), (59, t59_163), (60, t59_163), (61, t61_165), (62, t62_170), (63, t63_175), (64, t64_180), (65, t65_184), (4, (Value.bool false))]) h181 (n182 + 1)) (loopP (ref10_Right_L2 ro) (puts e [(21, (e 5)), (22, t22_50), (23, t23_51), (24, t24_52), (25, t25_53), (28, t28_55), (29, t29_56), (30, (e 5)), (31, t31_57), (32, t32_58), (6, (ptr (nx + 10))), (33, t33_62), (34, t34_63), (35, t35_64), (36, t35_64), (37, t37_66), (38, t38_71), (39, t39_76), (40, t40_81), (41, t41_86), (42, t42_91), (43, t43_95), (44, t43_95), (45, t45_97), (46, t46_101), (47, t47_106), (48, t48_110), (49, t49_115), (50, t50_120), (51, t51_124), (52, t52_129), (53, t53_134), (54, t54_139), (55, t55_144), (56, t56_149), (57, t57_154), (58, t58_159), (59, t59_163), (60, t59_163), (61, t61_165), (62, t62_170), (63, t63_175), (64, t64_180), (65, t65_184), (7, (Value.int IntKind.i64 0))]) h181 (n182 + 1) fun x340 e337 h338 n339 => exP x340 (ref10_Right_j2 ro Q e337 h338 n339) (fun i341 => beqP (Nat.beq i341 2) (ref10_Right_j2 ro Q e337 h338 n339) (beqP (Nat.beq i341 1) (ref10_Right_j2 ro Q e337 h338 n339) (Q (.exit i341) e337 h338 n339))) (Q .ret e337 h338 n339))) (Q (.exit 0) (puts e [(21, (e 5)), (22, t22_50), (23, t23_51), (24, t24_52), (25, t25_53)]) h (nx + 5))
@[irreducible] def ref10_Right (ro : Ro) (v0 v1 : Value) (h : T Obj) (nx : Nat) (K : KV) : Prop := newP h nx (.cells (Value.cells v0) y_api_Glush) fun h1 => newP h1 (nx + 1) (.cells (Value.cells v1) y_api_Config) fun h2 => bindP (loadA ro h2 2 (ptr nx)) fun t8_3 => callP Try.prog ro i_ref09_Right [t8_3] h2 (nx + 5) fun t9_4 h5 n6 => bindP (unV .not t9_4) fun t10_7 => ifP t10_7 false h5 (n6 + 2) (fun k8 => bindP (fwdP 0 (ptr (nx + 1))) fun t12_12 => k8 t12_12 h5 (n6 + 3)) fun t12_9 h10 n11 => ifP t10_7 false h10 n11 (fun k13 => bindP (load1 ro h10 t12_9) fun t13_17 => k13 t13_17 h10 (n11 + 1)) fun t13_14 h15 n16 => ifP t10_7 false h15 n16 (fun k18 => k18 t13_14 h15 (n16 + 1)) fun t14_19 h20 n21 => ifP t14_19 true h20 n21 (fun k22 => bindP (fwdP 1 (ptr (nx + 1))) fun t15_26 => k22 t15_26 h20 (n21 + 1)) fun t15_23 h24 n25 => ifP t14_19 true h24 n25 (fun k27 => bindP (load1 ro h24 t15_23) fun t16_31 => k27 t16_31 h24 (n25 + 1)) fun t16_28 h29 n30 => ifP t14_19 true h29 n30 (fun k32 => bindP (lenSl t16_28) fun t17_36 => k32 t17_36 h29 (n30 + 1)) fun t17_33 h34 n35 => ifP t14_19 true h34 n35 (fun k37 => bindP (intB .gtr t17_33 (Value.int IntKind.i64 0)) fun t18_41 => k37 t18_41 h34 (n35 + 1)) fun t18_38 h39 n40 => ifP t10_7 false h39 n40 (fun k42 => bindP (pickV t14_19 t18_38 (Value.bool false)) fun t19_46 => k42 t19_46 h39 (n40 + 1)) fun t19_43 h44 n45 => bindP (pickV t10_7 (Value.bool true) t19_43) fun t20_47 => condP t20_47 (∃ h48, Sub h48 h44 ∧ K (Value.bool false) h48 (n45 + 2)) (loopP (ref10_Right_L1 ro) (puts (entE [v0, v1]) [(2, (ptr nx)), (3, (ptr (nx + 1))), (4, (Value.bool false)), (8, t8_3), (9, t9_4), (10, t10_7), (11, t10_7), (12, t12_9), (13, t13_14), (14, t14_19), (15, t15_23), (16, t16_28), (17, t17_33), (18, t18_38), (19, t19_43), (20, t20_47), (5, (Value.int IntKind.i64 0))]) h44 (n45 + 2) fun x345 e342 h343 n344 => exP x345 (ref10_Right_j1 ro K e342 h343 n344) (fun i346 => beqP (Nat.beq i346 0) (ref10_Right_j1 ro K e342 h343 n344) (False)) (∃ h347, Sub h347 h343 ∧ K (e342 4) h347 n344))
theorem ref10_Right_eq (ro : Ro) (v0 v1 : Value) (h : T Obj) (nx : Nat) (K : KV) : callPre Try.prog ro (callP Try.prog ro) Try.f37 [v0, v1] h nx K = ref10_Right ro v0 v1 h nx K := by kernel_rfl
theorem ref10_Right_of {ro : Ro} {v0 v1 : Value} {h : T Obj} {nx : Nat} {K : KV} (hw : ref10_Right ro v0 v1 h nx K) : callP Try.prog ro i_ref10_Right [v0, v1] h nx K := callP_by (P := Try.prog) (fn := Try.f37) (by kernel_rfl) (by kernel_rfl) (by kernel_rfl) (Eq.mpr (ref10_Right_eq ro v0 v1 h nx K) hw)
@[irreducible] def ref10_rule_j1 (ro : Ro) (K : KV) : Env → T Obj → Nat → Prop := fun e h nx => ∃ h3, Sub h3 h ∧ K (e 5) h3 (nx + 2)
@[irreducible] def ref10_rule_j2 (ro : Ro) (Q : KE) : Env → T Obj → Nat → Prop := fun e h nx => bindP (intB .add (e 6) (Value.int IntKind.i64 1)) fun t14_8 => Q .normal (puts e [(13, (e 6)), (14, t14_8), (6, t14_8)]) h (nx + 3)
@[irreducible] def ref10_rule_L1 (ro : Ro) : PT := fun e h nx Q => bindP (fwdP 1 (e 3)) fun t9_4 => bindP (load1 ro h t9_4) fun t10_5 => bindP (lenSl t10_5) fun t11_6 => bindP (intB .lss (e 6) t11_6) fun t12_7 => condP t12_7 (bindP (fwdP 1 (e 2)) fun t15_9 => bindP (load1 ro h t15_9) fun t16_10 => bindP (fwdP 1 (e 3)) fun t17_11 => bindP (load1 ro h t17_11) fun t18_12 => bindP (ixSl 2 t18_12 (e 6)) fun t20_13 => bindP (fwdP 0 t20_13) fun t21_14 => bindP (load1 ro h t21_14) fun t22_15 => bindP (ixSl 9 t16_10 t22_15) fun t23_16 => bindP (loadA ro h 9 t23_16) fun t24_17 => bindP (zer Try.prog y_api_Pos) fun z18 => newP h (nx + 15) (.cells z18.cells y_api_Pos) fun h19 => bindP (storeN 9 h19 (ptr (nx + 15)) t24_17) fun h20 => bindP (fwdP 7 (ptr (nx + 15))) fun t25_21 => bindP (load1 ro h20 t25_21) fun t26_22 => ifP t26_22 true h20 (nx + 38) (fun k23 => bindP (loadA ro h20 2 (e 2)) fun t28_27 => k23 t28_27 h20 (nx + 38)) fun t28_24 h25 n26 => ifP t26_22 true h25 n26 (fun k28 => bindP (fwdP 1 (e 3)) fun t29_32 => k28 t29_32 h25 n26) fun t29_29 h30 n31 => ifP t26_22 true h30 n31 (fun k33 => bindP (load1 ro h30 t29_29) fun t30_37 => k33 t30_37 h30 n31) fun t30_34 h35 n36 => ifP t26_22 true h35 n36 (fun k38 => k38 (e 6) h35 n36) fun t31_39 h40 n41 => ifP t26_22 true h40 n41 (fun k42 => bindP (ixSl 2 t30_34 t31_39) fun t32_46 => k42 t32_46 h40 n41) fun t32_43 h44 n45 => ifP t26_22 true h44 n45 (fun k47 => bindP (loadA ro h44 2 t32_43) fun t33_51 => k47 t33_51 h44 n45) fun t33_48 h49 n50 => ifP t26_22 true h49 n50 (fun k52 => callP Try.prog ro i_ref10_ripe [t28_24, t33_48] h49 n50 fun t34_56 h57 n58 => k52 t34_56 h57 n58) fun t34_53 h54 n55 => bindP (pickV t26_22 t34_53 (Value.bool false)) fun t35_59 => ifP t35_59 true h54 n55 (fun k60 => k60 (e 5) h54 n55) fun t37_61 h62 n63 => ifP t35_59 true h62 n63 (fun k64 => bindP (intB .lss t37_61 (Value.int IntKind.i64 0)) fun t38_68 => k64 t38_68 h62 n63) fun t38_65 h66 n67 => ifP t35_59 true h66 n67 (fun k69 => k69 t38_65 h66 n67) fun t39_70 h71 n72 => ifP t39_70 false h71 n72 (fun k73 => bindP (fwdP 6 (ptr (nx + 15))) fun t40_77 => k73 t40_77 h71 n72) fun t40_74 h75 n76 => ifP t39_70 false h75 n76 (fun k78 => bindP (load1 ro h75 t40_74) fun t41_82 => k78 t41_82 h75 n76) fun t41_79 h80 n81 => ifP t39_70 false h80 n81 (fun k83 => k83 (e 5) h80 n81) fun t42_84 h85 n86 => ifP t39_70 false h85 n86 (fun k87 => bindP (intB .lss t41_79 t42_84) fun t43_91 => k87 t43_91 h85 n86) fun t43_88 h89 n90 => ifP t35_59 true h89 n90 (fun k92 => bindP (pickV t39_70 (Value.bool true) t43_88) fun t44_96 => k92 t44_96 h89 n90) fun t44_93 h94 n95 => bindP (pickV t35_59 t44_93 (Value.bool false)) fun t45_97 => condP t45_97 (bindP (fwdP 6 (ptr (nx + 15))) fun t46_98 => bindP (load1 ro h94 t46_98) fun t47_99 => ref10_rule_j2 ro Q (puts e [(8, (e 6)), (9, t9_4), (10, t10_5), (11, t11_6), (12, t12_7), (15, t15_9), (16, t16_10), (17, t17_11), (18, t18_12), (19, (e 6)), (20, t20_13), (21, t21_14), (22, t22_15), (23, t23_16), (24, t24_17), (7, (ptr (nx + 15))), (25, t25_21), (26, t26_22), (27, t26_22), (28, t28_24), (29, t29_29), (30, t30_34), (31, t31_39), (32, t32_43), (33, t33_48), (34, t34_53), (35, t35_59), (36, t35_59), (37, t37_61), (38, t38_65), (39, t39_70), (40, t40_74), (41, t41_79), (42, t42_84), (43, t43_88), (44, t44_93), (45, t45_97), (46, t46_98), (47, t47_99), (5, t47_99)]) h94 (n95 + 3)) (ref10_rule_j2 ro Q (puts e [(8, (e 6)), (9, t9_4), (10, t10_5), (11, t11_6), (12, t12_7), (15, t15_9), (16, t16_10), (17, t17_11), (18, t18_12), (19, (e 6)), (20, t20_13), (21, t21_14), (22, t22_15), (23, t23_16), (24, t24_17), (7, (ptr (nx + 15))), (25, t25_21), (26, t26_22), (27, t26_22), (28, t28_24), (29, t29_29), (30, t30_34), (31, t31_39), (32, t32_43), (33, t33_48), (34, t34_53), (35, t35_59), (36, t35_59), (37, t37_61), (38, t38_65), (39, t39_70), (40, t40_74), (41, t41_79), (42, t42_84), (43, t43_88), (44, t44_93), (45, t45_97)]) h94 n95)) (Q (.exit 0) (puts e [(8, (e 6)), (9, t9_4), (10, t10_5), (11, t11_6), (12, t12_7)]) h (nx + 5))
@[irreducible] def ref10_rule (ro : Ro) (v0 v1 : Value) (h : T Obj) (nx : Nat) (K : KV) : Prop := newP h nx (.cells (Value.cells v0) y_api_Glush) fun h1 => newP h1 (nx + 1) (.cells (Value.cells v1) y_api_Config) fun h2 => loopP (ref10_rule_L1 ro) (puts (entE [v0, v1]) [(2, (ptr nx)), (3, (ptr (nx + 1))), (4, (Value.int IntKind.i64 0)), (5, (Value.int IntKind.i64 (-1))), (6, (Value.int IntKind.i64 0))]) h2 (nx + 5) fun x103 e100 h101 n102 => exP x103 (ref10_rule_j1 ro K e100 h101 n102) (fun i104 => beqP (Nat.beq i104 0) (ref10_rule_j1 ro K e100 h101 n102) (False)) (∃ h105, Sub h105 h101 ∧ K (e100 4) h105 n102)
theorem ref10_rule_eq (ro : Ro) (v0 v1 : Value) (h : T Obj) (nx : Nat) (K : KV) : callPre Try.prog ro (callP Try.prog ro) Try.f38 [v0, v1] h nx K = ref10_rule ro v0 v1 h nx K := by kernel_rfl
theorem ref10_rule_of {ro : Ro} {v0 v1 : Value} {h : T Obj} {nx : Nat} {K : KV} (hw : ref10_rule ro v0 v1 h nx K) : callP Try.prog ro i_ref10_rule [v0, v1] h nx K := callP_by (P := Try.prog) (fn := Try.f38) (by kernel_rfl) (by kernel_rfl) (by kernel_rfl) (Eq.mpr (ref10_rule_eq ro v0 v1 h nx K) hw)
@[irreducible] def ref10_step_j1 (ro : Ro) (K : KV) : Env → T Obj → Nat → Prop := fun e h nx => bindP (loadA ro h 2 (e 7)) fun t51_9 => bindP (storeN 2 h (e 6) t51_9) fun h10 => bindP (loadA ro h10 2 (e 6)) fun r11 => ∃ h12, Sub h12 h10 ∧ K r11 h12 (nx + 2)
@[irreducible] def ref10_step_j2 (ro : Ro) (Q : KE) : Env → T Obj → Nat → Prop := fun e h nx => bindP (intB .add (e 8) (Value.int IntKind.i64 1)) fun t17_17 => Q .normal (puts e [(16, (e 8)), (17, t17_17), (8, t17_17)]) h (nx + 3)
@[irreducible] def ref10_step_j3 (ro : Ro) (Q : KE) : Env → T Obj → Nat → Prop := fun e h nx => bindP (loadA ro h 2 (e 3)) fun t35_27 => bindP (loadA ro h 2 (e 4)) fun t36_28 => callP Try.prog ro i_ref10_stays [t35_27, t36_28, (e 8)] h (nx + 5) fun t38_29 h30 n31 => bindP (appendV Try.prog ro h30 (n31 + 1) #[y_s_int, y_s_int] [(e 9), t38_29]) fun r32 => bindP (lenSl r32.1) fun t41_33 => bindP (intB .gtr t41_33 (Value.int IntKind.i64 0)) fun t42_34 => condP t42_34 (bindP (fwdP 1 (e 7)) fun t43_35 => bindP (load1 ro r32.2.1 t43_35) fun t44_36 => bindP (buildV Try.prog y_api_Held [(0, (e 8)), (1, r32.1)]) fun t47_37 => bindP (sliceLitV Try.prog y_s_api_Held (r32.2.2 + 9) 1 [(0, t47_37)]) fun r38 => optP r32.2.1 (r32.2.2 + 9) r38.2 fun h39 => bindP (appendV Try.prog ro h39 (r32.2.2 + 11) #[y_s_api_Held, y_s_api_Held] [t44_36, r38.1]) fun r40 => bindP (fwdP 1 (e 7)) fun t50_41 => bindP (storeN 1 r40.2.1 t50_41 r40.1) fun h42 => ref10_step_j2 ro Q (puts e [(34, (e 9)), (35, t35_27), (36, t36_28), (37, (e 8)), (38, t38_29), (39, r32.1), (9, r32.1), (40, r32.1), (41, t41_33), (42, t42_34), (43, t43_35), (44, t44_36), (45, (e 8)), (46, r32.1), (47, t47_37), (48, r38.1), (49, r40.1), (50, t50_41)]) h42 (r40.2.2 + 2)) (ref10_step_j2 ro Q (puts e [(34, (e 9)), (35, t35_27), (36, t36_28), (37, (e 8)), (38, t38_29), (39, r32.1), (9, r32.1), (40, r32.1), (41, t41_33), (42, t42_34)]) r32.2.1 (r32.2.2 + 4))
@[irreducible] def ref10_step_L1 (ro : Ro) : PT := fun e h nx Q => bindP (fwdP 1 (e 3)) fun t12_13 => bindP (load1 ro h t12_13) fun t13_14 => bindP (lenSl t13_14) fun t14_15 => bindP (intB .lss (e 8) t14_15) fun t15_16 => condP t15_16 (bindP (fwdP 1 (e 3)) fun t18_18 => bindP (load1 ro h t18_18) fun t19_19 => bindP (ixSl 9 t19_19 (e 8)) fun t21_20 => bindP (fwdP 0 t21_20) fun t22_21 => bindP (loadA ro h 4 t22_21) fun t23_22 => callP Try.prog ro i_ref01_Has [t23_22, (e 2)] h (nx + 13) fun t25_23 h24 n25 => bindP (unV .not t25_23) fun t26_26 => condP t26_26 (ref10_step_j2 ro Q (puts e [(11, (e 8)), (12, t12_13), (13, t13_14), (14, t14_15), (15, t15_16), (18, t18_18), (19, t19_19), (20, (e 8)), (21, t21_20), (22, t22_21), (23, t23_22), (24, (e 2)), (25, t25_23), (26, t26_26)]) h24 (n25 + 1)) (bindP (loadA ro h24 2 (e 3)) fun t27_43 => bindP (loadA ro h24 2 (e 4)) fun t28_44 => callP Try.prog ro i_ref10_enters [t27_43, t28_44, (e 8)] h24 (n25 + 6) fun t30_45 h46 n47 => condP t30_45 (bindP (sliceLitV Try.prog y_s_int (n47 + 1) 1 [(0, (Value.int IntKind.i64 1))]) fun r48 => optP h46 (n47 + 1) r48.2 fun h49 => bindP (appendV Try.prog ro h49 (n47 + 3) #[y_s_int, y_s_int] [(Value.slice none 0 0), r48.1]) fun r50 => ref10_step_j3 ro Q (puts e [(11, (e 8)), (12, t12_13), (13, t13_14), (14, t14_15), (15, t15_16), (18, t18_18), (19, t19_19), (20, (e 8)), (21, t21_20), (22, t22_21), (23, t23_22), (24, (e 2)), (25, t25_23), (26, t26_26), (9, (Value.slice none 0 0)), (27, t27_43), (28, t28_44), (29, (e 8)), (30, t30_45), (31, (Value.slice none 0 0)), (32, r48.1), (33, r50.1), (9, r50.1)]) r50.2.1 (r50.2.2 + 1)) (ref10_step_j3 ro Q (puts e [(11, (e 8)), (12, t12_13), (13, t13_14), (14, t14_15), (15, t15_16), (18, t18_18), (19, t19_19), (20, (e 8)), (21, t21_20), (22, t22_21), (23, t23_22), (24, (e 2)), (25, t25_23), (26, t26_26), (9, (Value.slice none 0 0)), (27, t27_43), (28, t28_44), (29, (e 8)), (30, t30_45)]) h46 n47))) (Q (.exit 0) (puts e [(11, (e 8)), (12, t12_13), (13, t13_14), (14, t14_15), (15, t15_16)]) h (nx + 5))
@[irreducible] def ref10_step (ro : Ro) (v0 v1 v2 : Value) (h : T Obj) (nx : Nat) (K : KV) : Prop := newP h nx (.cells (Value.cells v0) y_api_Glush) fun h1 => newP h1 (nx + 1) (.cells (Value.cells v1) y_api_Config) fun h2 => bindP (zer Try.prog y_api_Config) fun z3 => newP h2 (nx + 2) (.cells z3.cells y_api_Config) fun h4 => bindP (buildV Try.prog y_api_Config []) fun t10_5 => bindP (zer Try.prog y_api_Config) fun z6 => newP h4 (nx + 4) (.cells z6.cells y_api_Config) fun h7 => bindP (storeN 2 h7 (ptr (nx + 4)) t10_5) fun h8 => loopP (ref10_step_L1 ro) (puts (entE [v0, v1, v2]) [(3, (ptr nx)), (4, (ptr (nx + 1))), (6, (ptr (nx + 2))), (10, t10_5), (7, (ptr (nx + 4))), (8, (Value.int IntKind.i64 0))]) h8 (nx + 7) fun x54 e51 h52 n53 => exP x54 (ref10_step_j1 ro K e51 h52 n53) (fun i55 => beqP (Nat.beq i55 0) (ref10_step_j1 ro K e51 h52 n53) (False)) (bindP (loadA ro h52 2 (e51 6)) fun r56 => ∃ h57, Sub h57 h52 ∧ K r56 h57 n53)
theorem ref10_step_eq (ro : Ro) (v0 v1 v2 : Value) (h : T Obj) (nx : Nat) (K : KV) : callPre Try.prog ro (callP Try.prog ro) Try.f39 [v0, v1, v2] h nx K = ref10_step ro v0 v1 v2 h nx K := by kernel_rfl
theorem ref10_step_of {ro : Ro} {v0 v1 v2 : Value} {h : T Obj} {nx : Nat} {K : KV} (hw : ref10_step ro v0 v1 v2 h nx K) : callP Try.prog ro i_ref10_step [v0, v1, v2] h nx K := callP_by (P := Try.prog) (fn := Try.f39) (by kernel_rfl) (by kernel_rfl) (by kernel_rfl) (Eq.mpr (ref10_step_eq ro v0 v1 v2 h nx K) hw)
@[irreducible] def ref10_ripe (ro : Ro) (v0 v1 : Value) (h : T Obj) (nx : Nat) (K : KV) : Prop := newP h nx (.cells (Value.cells v0) y_api_Glush) fun h1 => newP h1 (nx + 1) (.cells (Value.cells v1) y_api_Held) fun h2 => bindP (fwdP 1 (ptr (nx + 1))) fun t5_3 => bindP (load1 ro h2 t5_3) fun t6_4 => bindP (fwdP 1 (ptr (nx + 1))) fun t7_5 => bindP (load1 ro h2 t7_5) fun t8_6 => bindP (lenSl t8_6) fun t9_7 => bindP (intB .sub t9_7 (Value.int IntKind.i64 1)) fun t10_8 => bindP (ixSl 1 t6_4 t10_8) fun t11_9 => bindP (load1 ro h2 t11_9) fun t12_10 => bindP (fwdP 1 (ptr nx)) fun t13_11 => bindP (load1 ro h2 t13_11) fun t14_12 => bindP (fwdP 0 (ptr (nx + 1))) fun t15_13 => bindP (load1 ro h2 t15_13) fun t16_14 => bindP (ixSl 9 t14_12 t16_14) fun t17_15 => bindP (fwdP 4 t17_15) fun t18_16 => bindP (load1 ro h2 t18_16) fun t19_17 => bindP (intB .geq t12_10 t19_17) fun t20_18 => ∃ h19, Sub h19 h2 ∧ K t20_18 h19 (nx + 20)
theorem ref10_ripe_eq (ro : Ro) (v0 v1 : Value) (h : T Obj) (nx : Nat) (K : KV) : callPre Try.prog ro (callP Try.prog ro) Try.f71 [v0, v1] h nx K = ref10_ripe ro v0 v1 h nx K := by kernel_rfl
theorem ref10_ripe_of {ro : Ro} {v0 v1 : Value} {h : T Obj} {nx : Nat} {K : KV} (hw : ref10_ripe ro v0 v1 h nx K) : callP Try.prog ro i_ref10_ripe [v0, v1] h nx K := callP_by (P := Try.prog) (fn := Try.f71) (by kernel_rfl) (by kernel_rfl) (by kernel_rfl) (Eq.mpr (ref10_ripe_eq ro v0 v1 h nx K) hw)
@[irreducible] def ref10_enters_j1 (ro : Ro) (K : KV) : Env → T Obj → Nat → Prop := fun e h nx => ∃ h11, Sub h11 h ∧ K (Value.bool false) h11 (nx + 1)
@[irreducible] def ref10_enters_L1 (ro : Ro) : PT := fun e h nx Q => bindP (fwdP 1 (e 4)) fun t15_12 => bindP (load1 ro h t15_12) fun t16_13 => bindP (lenSl t16_13) fun t17_14 => bindP (intB .lss (e 7) t17_14) fun t18_15 => condP t18_15 (bindP (loadA ro h 2 (e 3)) fun t21_16 => bindP (fwdP 1 (e 4)) fun t22_17 => bindP (load1 ro h t22_17) fun t23_18 => bindP (ixSl 2 t23_18 (e 7)) fun t25_19 => bindP (loadA ro h 2 t25_19) fun t26_20 => callP Try.prog ro i_ref10_ripe [t21_16, t26_20] h (nx + 27) fun t27_21 h22 n23 => ifP t27_21 true h22 n23 (fun k24 => bindP (fwdP 1 (e 3)) fun t29_28 => k24 t29_28 h22 n23) fun t29_25 h26 n27 => ifP t27_21 true h26 n27 (fun k29 => bindP (load1 ro h26 t29_25) fun t30_33 => k29 t30_33 h26 n27) fun t30_30 h31 n32 => ifP t27_21 true h31 n32 (fun k34 => bindP (fwdP 1 (e 4)) fun t31_38 => k34 t31_38 h31 n32) fun t31_35 h36 n37 => ifP t27_21 true h36 n37 (fun k39 => bindP (load1 ro h36 t31_35) fun t32_43 => k39 t32_43 h36 n37) fun t32_40 h41 n42 => ifP t27_21 true h41 n42 (fun k44 => k44 (e 7) h41 n42) fun t33_45 h46 n47 => ifP t27_21 true h46 n47 (fun k48 => bindP (ixSl 2 t32_40 t33_45) fun t34_52 => k48 t34_52 h46 n47) fun t34_49 h50 n51 => ifP t27_21 true h50 n51 (fun k53 => bindP (fwdP 0 t34_49) fun t35_57 => k53 t35_57 h50 n51) fun t35_54 h55 n56 => ifP t27_21 true h55 n56 (fun k58 => bindP (load1 ro h55 t35_54) fun t36_62 => k58 t36_62 h55 n56) fun t36_59 h60 n61 => ifP t27_21 true h60 n61 (fun k63 => bindP (ixSl 9 t30_30 t36_59) fun t37_67 => k63 t37_67 h60 n61) fun t37_64 h65 n66 => ifP t27_21 true h65 n66 (fun k68 => bindP (fwdP 8 t37_64) fun t38_72 => k68 t38_72 h65 n66) fun t38_69 h70 n71 => ifP t27_21 true h70 n71 (fun k73 => bindP (load1 ro h70 t38_69) fun t39_77 => k73 t39_77 h70 n71) fun t39_74 h75 n76 => ifP t27_21 true h75 n76 (fun k78 => k78 (e 2) h75 n76) fun t40_79 h80 n81 => ifP t27_21 true h80 n81 (fun k82 => callP Try.prog ro i_ref10_in [t39_74, t40_79] h80 n81 fun t41_86 h87 n88 => k82 t41_86 h87 n88) fun t41_83 h84 n85 => bindP (pickV t27_21 t41_83 (Value.bool false)) fun t42_89 => condP t42_89 (Q .ret (puts e [(14, (e 7)), (15, t15_12), (16, t16_13), (17, t17_14), (18, t18_15), (21, t21_16), (22, t22_17), (23, t23_18), (24, (e 7)), (25, t25_19), (26, t26_20), (27, t27_21), (28, t27_21), (29, t29_25), (30, t30_30), (31, t31_35), (32, t32_40), (33, t33_45), (34, t34_49), (35, t35_54), (36, t36_59), (37, t37_64), (38, t38_69), (39, t39_74), (40, t40_79), (41, t41_83), (42, t42_89), (6, (Value.bool true))]) h84 (n85 + 1)) (bindP (intB .add (e 7) (Value.int IntKind.i64 1)) fun t20_90 => Q .normal (puts e [(14, (e 7)), (15, t15_12), (16, t16_13), (17, t17_14), (18, t18_15), (21, t21_16), (22, t22_17), (23, t23_18), (24, (e 7)), (25, t25_19), (26, t26_20), (27, t27_21), (28, t27_21), (29, t29_25), (30, t30_30), (31, t31_35), (32, t32_40), (33, t33_45), (34, t34_49), (35, t35_54), (36, t36_59), (37, t37_64), (38, t38_69), (39, t39_74), (40, t40_79), (41, t41_83), (42, t42_89), (19, (e 7)), (20, t20_90), (7, t20_90)]) h84 (n85 + 3))) (Q (.exit 0) (puts e [(14, (e 7)), (15, t15_12), (16, t16_13), (17, t17_14), (18, t18_15)]) h (nx + 5))
@[irreducible] def ref10_enters (ro : Ro) (v0 v1 v2 : Value) (h : T Obj) (nx : Nat) (K : KV) : Prop := newP h nx (.cells (Value.cells v0) y_api_Glush) fun h1 => newP h1 (nx + 1) (.cells (Value.cells v1) y_api_Config) fun h2 => bindP (fwdP 0 (ptr (nx + 1))) fun t8_3 => bindP (load1 ro h2 t8_3) fun t9_4 => condP t9_4 (bindP (fwdP 0 (ptr nx)) fun t10_5 => bindP (load1 ro h2 t10_5) fun t11_6 => callP Try.prog ro i_ref10_in [t11_6, v2] h2 (nx + 9) fun t13_7 h8 n9 => ∃ h10, Sub h10 h8 ∧ K t13_7 h10 (n9 + 1)) (loopP (ref10_enters_L1 ro) (puts (entE [v0, v1, v2]) [(3, (ptr nx)), (4, (ptr (nx + 1))), (6, (Value.bool false)), (8, t8_3), (9, t9_4), (7, (Value.int IntKind.i64 0))]) h2 (nx + 6) fun x94 e91 h92 n93 => exP x94 (ref10_enters_j1 ro K e91 h92 n93) (fun i95 => beqP (Nat.beq i95 0) (ref10_enters_j1 ro K e91 h92 n93) (False)) (∃ h96, Sub h96 h92 ∧ K (e91 6) h96 n93))
theorem ref10_enters_eq (ro : Ro) (v0 v1 v2 : Value) (h : T Obj) (nx : Nat) (K : KV) : callPre Try.prog ro (callP Try.prog ro) Try.f72 [v0, v1, v2] h nx K = ref10_enters ro v0 v1 v2 h nx K := by kernel_rfl
theorem ref10_enters_of {ro : Ro} {v0 v1 v2 : Value} {h : T Obj} {nx : Nat} {K : KV} (hw : ref10_enters ro v0 v1 v2 h nx K) : callP Try.prog ro i_ref10_enters [v0, v1, v2] h nx K := callP_by (P := Try.prog) (fn := Try.f72) (by kernel_rfl) (by kernel_rfl) (by kernel_rfl) (Eq.mpr (ref10_enters_eq ro v0 v1 v2 h nx K) hw)
@[irreducible] def ref10_stays_j1 (ro : Ro) (K : KV) : Env → T Obj → Nat → Prop := fun e h nx => ∃ h3, Sub h3 h ∧ K (e 7) h3 (nx + 2)
@[irreducible] def ref10_stays_j2 (ro : Ro) (Q : KE) : Env → T Obj → Nat → Prop := fun e h nx => bindP (intB .add (e 8) (Value.int IntKind.i64 1)) fun t16_8 => Q .normal (puts e [(15, (e 8)), (16, t16_8), (8, t16_8)]) h (nx + 3)
@[irreducible] def ref10_stays_j3 (ro : Ro) (Q : KE) : Env → T Obj → Nat → Prop := fun e h nx => bindP (intB .add (e 9) (Value.int IntKind.i64 1)) fun t35_22 => Q .normal (puts e [(34, (e 9)), (35, t35_22), (9, t35_22)]) h (nx + 3)
@[irreducible] def ref10_stays_L2 (ro : Ro) : PT := fun e h nx Q => bindP (fwdP 1 (e 4)) fun t26_15 => bindP (load1 ro h t26_15) fun t27_16 => bindP (ixSl 2 t27_16 (e 8)) fun t29_17 => bindP (fwdP 1 t29_17) fun t30_18 => bindP (load1 ro h t30_18) fun t31_19 => bindP (lenSl t31_19) fun t32_20 => bindP (intB .lss (e 9) t32_20) fun t33_21 => condP t33_21 (bindP (fwdP 1 (e 4)) fun t36_23 => bindP (load1 ro h t36_23) fun t37_24 => bindP (ixSl 2 t37_24 (e 8)) fun t39_25 => bindP (fwdP 1 t39_25) fun t40_26 => bindP (load1 ro h t40_26) fun t41_27 => bindP (ixSl 1 t41_27 (e 9)) fun t43_28 => bindP (load1 ro h t43_28) fun t44_29 => bindP (fwdP 1 (e 3)) fun t45_30 => bindP (load1 ro h t45_30) fun t46_31 => bindP (ixSl 9 t46_31 (e 2)) fun t48_32 => bindP (fwdP 5 t48_32) fun t49_33 => bindP (load1 ro h t49_33) fun t50_34 => bindP (intB .lss t44_29 t50_34) fun t51_35 => condP t51_35 (bindP (fwdP 1 (e 4)) fun t53_36 => bindP (load1 ro h t53_36) fun t54_37 => bindP (ixSl 2 t54_37 (e 8)) fun t56_38 => bindP (fwdP 1 t56_38) fun t57_39 => bindP (load1 ro h t57_39) fun t58_40 => bindP (ixSl 1 t58_40 (e 9)) fun t60_41 => bindP (load1 ro h t60_41) fun t61_42 => bindP (intB .add t61_42 (Value.int IntKind.i64 1)) fun t62_43 => bindP (sliceLitV Try.prog y_s_int (nx + 36) 1 [(0, t62_43)]) fun r44 => optP h (nx + 36) r44.2 fun h45 => bindP (appendV Try.prog ro h45 (nx + 38) #[y_s_int, y_s_int] [(e 7), r44.1]) fun r46 => ref10_stays_j3 ro Q (puts e [(25, (e 9)), (26, t26_15), (27, t27_16), (28, (e 8)), (29, t29_17), (30, t30_18), (31, t31_19), (32, t32_20), (33, t33_21), (36, t36_23), (37, t37_24), (38, (e 8)), (39, t39_25), (40, t40_26), (41, t41_27), (42, (e 9)), (43, t43_28), (44, t44_29), (45, t45_30), (46, t46_31), (47, (e 2)), (48, t48_32), (49, t49_33), (50, t50_34), (51, t51_35), (52, (e 7)), (53, t53_36), (54, t54_37), (55, (e 8)), (56, t56_38), (57, t57_39), (58, t58_40), (59, (e 9)), (60, t60_41), (61, t61_42), (62, t62_43), (63, r44.1), (64, r46.1), (7, r46.1)]) r46.2.1 (r46.2.2 + 1)) (ref10_stays_j3 ro Q (puts e [(25, (e 9)), (26, t26_15), (27, t27_16), (28, (e 8)), (29, t29_17), (30, t30_18), (31, t31_19), (32, t32_20), (33, t33_21), (36, t36_23), (37, t37_24), (38, (e 8)), (39, t39_25), (40, t40_26), (41, t41_27), (42, (e 9)), (43, t43_28), (44, t44_29), (45, t45_30), (46, t46_31), (47, (e 2)), (48, t48_32), (49, t49_33), (50, t50_34), (51, t51_35)]) h (nx + 25))) (Q (.exit 2) (puts e [(25, (e 9)), (26, t26_15), (27, t27_16), (28, (e 8)), (29, t29_17), (30, t30_18), (31, t31_19), (32, t32_20), (33, t33_21)]) h (nx + 9))
@[irreducible] def ref10_stays_L1 (ro : Ro) : PT := fun e h nx Q => bindP (fwdP 1 (e 4)) fun t11_4 => bindP (load1 ro h t11_4) fun t12_5 => bindP (lenSl t12_5) fun t13_6 => bindP (intB .lss (e 8) t13_6) fun t14_7 => condP t14_7 (bindP (fwdP 1 (e 4)) fun t17_9 => bindP (load1 ro h t17_9) fun t18_10 => bindP (ixSl 2 t18_10 (e 8)) fun t20_11 => bindP (fwdP 0 t20_11) fun t21_12 => bindP (load1 ro h t21_12) fun t22_13 => bindP (intB .neq t22_13 (e 2)) fun t24_14 => condP t24_14 (ref10_stays_j2 ro Q (puts e [(10, (e 8)), (11, t11_4), (12, t12_5), (13, t13_6), (14, t14_7), (17, t17_9), (18, t18_10), (19, (e 8)), (20, t20_11), (21, t21_12), (22, t22_13), (23, (e 2)), (24, t24_14)]) h (nx + 13)) (loopP (ref10_stays_L2 ro) (puts e [(10, (e 8)), (11, t11_4), (12, t12_5), (13, t13_6), (14, t14_7), (17, t17_9), (18, t18_10), (19, (e 8)), (20, t20_11), (21, t21_12), (22, t22_13), (23, (e 2)), (24, t24_14), (9, (Value.int IntKind.i64 0))]) h (nx + 14) fun x50 e47 h48 n49 => exP x50 (ref10_stays_j2 ro Q e47 h48 n49) (fun i51 => beqP (Nat.beq i51 2) (ref10_stays_j2 ro Q e47 h48 n49) (beqP (Nat.beq i51 1) (ref10_stays_j2 ro Q e47 h48 n49) (Q (.exit i51) e47 h48 n49))) (Q .ret e47 h48 n49))) (Q (.exit 0) (puts e [(10, (e 8)), (11, t11_4), (12, t12_5), (13, t13_6), (14, t14_7)]) h (nx + 5))
@[irreducible] def ref10_stays (ro : Ro) (v0 v1 v2 : Value) (h : T Obj) (nx : Nat) (K : KV) : Prop := newP h nx (.cells (Value.cells v0) y_api_Glush) fun h1 => newP h1 (nx + 1) (.cells (Value.cells v1) y_api_Config) fun h2 => loopP (ref10_stays_L1 ro) (puts (entE [v0, v1, v2]) [(3, (ptr nx)), (4, (ptr (nx + 1))), (6, (Value.slice none 0 0)), (7, (Value.slice none 0 0)), (8, (Value.int IntKind.i64 0))]) h2 (nx + 5) fun x55 e52 h53 n54 => exP x55 (ref10_stays_j1 ro K e52 h53 n54) (fun i56 => beqP (Nat.beq i56 0) (ref10_stays_j1 ro K e52 h53 n54) (False)) (∃ h57, Sub h57 h53 ∧ K (e52 6) h57 n54)
theorem ref10_stays_eq (ro : Ro) (v0 v1 v2 : Value) (h : T Obj) (nx : Nat) (K : KV) : callPre Try.prog ro (callP Try.prog ro) Try.f73 [v0, v1, v2] h nx K = ref10_stays ro v0 v1 v2 h nx K := by kernel_rfl
theorem ref10_stays_of {ro : Ro} {v0 v1 v2 : Value} {h : T Obj} {nx : Nat} {K : KV} (hw : ref10_stays ro v0 v1 v2 h nx K) : callP Try.prog ro i_ref10_stays [v0, v1, v2] h nx K := callP_by (P := Try.prog) (fn := Try.f73) (by kernel_rfl) (by kernel_rfl) (by kernel_rfl) (Eq.mpr (ref10_stays_eq ro v0 v1 v2 h nx K) hw)
@[irreducible] def ref10_in_j1 (ro : Ro) (K : KV) : Env → T Obj → Nat → Prop := fun e h nx => ∃ h1, Sub h1 h ∧ K (Value.bool false) h1 (nx + 1)
@[irreducible] def ref10_in_L1 (ro : Ro) : PT := fun e h nx Q => bindP (lenSl (e 0)) fun t8_2 => bindP (intB .lss (e 5) t8_2) fun t9_3 => condP t9_3 (bindP (ixSl 1 (e 0) (e 5)) fun t14_4 => bindP (load1 ro h t14_4) fun t15_5 => bindP (intB .eql t15_5 (e 1)) fun t17_6 => condP t17_6 (Q .ret (puts e [(6, (e 5)), (7, (e 0)), (8, t8_2), (9, t9_3), (12, (e 0)), (13, (e 5)), (14, t14_4), (15, t15_5), (16, (e 1)), (17, t17_6), (4, (Value.bool true))]) h (nx + 11)) (bindP (intB .add (e 5) (Value.int IntKind.i64 1)) fun t11_7 => Q .normal (puts e [(6, (e 5)), (7, (e 0)), (8, t8_2), (9, t9_3), (12, (e 0)), (13, (e 5)), (14, t14_4), (15, t15_5), (16, (e 1)), (17, t17_6), (10, (e 5)), (11, t11_7), (5, t11_7)]) h (nx + 13))) (Q (.exit 0) (puts e [(6, (e 5)), (7, (e 0)), (8, t8_2), (9, t9_3)]) h (nx + 4))
@[irreducible] def ref10_in (ro : Ro) (v0 v1 : Value) (h : T Obj) (nx : Nat) (K : KV) : Prop := loopP (ref10_in_L1 ro) (puts (entE [v0, v1]) [(4, (Value.bool false)), (5, (Value.int IntKind.i64 0))]) h (nx + 2) fun x11 e8 h9 n10 => exP x11 (ref10_in_j1 ro K e8 h9 n10) (fun i12 => beqP (Nat.beq i12 0) (ref10_in_j1 ro K e8 h9 n10) (False)) (∃ h13, Sub h13 h9 ∧ K (e8 4) h13 n10)
theorem ref10_in_eq (ro : Ro) (v0 v1 : Value) (h : T Obj) (nx : Nat) (K : KV) : callPre Try.prog ro (callP Try.prog ro) Try.f98 [v0, v1] h nx K = ref10_in ro v0 v1 h nx K := by kernel_rfl
theorem ref10_in_of {ro : Ro} {v0 v1 : Value} {h : T Obj} {nx : Nat} {K : KV} (hw : ref10_in ro v0 v1 h nx K) : callP Try.prog ro i_ref10_in [v0, v1] h nx K := callP_by (P := Try.prog) (fn := Try.f98) (by kernel_rfl) (by kernel_rfl) (by kernel_rfl) (Eq.mpr (ref10_in_eq ro v0 v1 h nx K) hw)
end V
end Go.Proofs.Ytmmdcdjkmakgpaa