/- Texts laid one behind the other: GM, ME, MF, MG, MH, MI, MB, MC.
   No condition. -/
import Derived.KernelRfl
import Derived.Test.YtepbdkfkfcckoaaQO4
set_option linter.unusedVariables false
set_option linter.unusedSimpArgs false
set_option linter.unusedVariables false
set_option linter.unusedSimpArgs false
namespace Go.Proofs.Ytepbdkfkfcckoaa
namespace V
attribute [local irreducible] callPre callP bindP
abbrev i_ref09_builder_node : FuncId := 38
abbrev i_ref09_builder_put : FuncId := 58
abbrev i_ref09_builder_cat : FuncId := 59
abbrev i_ref09_builder_link : FuncId := 60
@[irreducible] def law10_NcaWhole_j3 (ro : Ro) (K : KV) : Env → T Obj → Nat → Prop := fun e h nx => ifP (e 5) true h (nx + 2) (fun k38 => bindP (loadA ro h 2 (e 9)) fun t90_42 => k38 t90_42 h (nx + 3)) fun t90_39 h40 n41 => ifP (e 5) true h40 n41 (fun k43 => bindP (loadA ro h40 2 (e 12)) fun t91_47 => k43 t91_47 h40 (n41 + 1)) fun t91_44 h45 n46 => ifP (e 5) true h45 n46 (fun k48 => callP Try.prog ro i_nca_Rule [t90_39, t91_44] h45 (n46 + 1) fun t92_52 h53 n54 => k48 t92_52 h53 n54) fun t92_49 h50 n51 => ifP (e 5) true h50 n51 (fun k55 => k55 (e 14) h50 (n51 + 1)) fun t93_56 h57 n58 => ifP (e 5) true h57 n58 (fun k59 => bindP (intB .eql t92_49 t93_56) fun t94_63 => k59 t94_63 h57 (n58 + 1)) fun t94_60 h61 n62 => bindP (pickV (e 5) t94_60 (Value.bool false)) fun t95_64 => ∃ h65, Sub h65 h61 ∧ K t95_64 h65 (n62 + 2)
@[irreducible] def law10_NcaWhole_j4 (ro : Ro) (Q : KE) : Env → T Obj → Nat → Prop := fun e h nx => bindP (intB .add (e 74) (Value.int IntKind.i64 1)) fun t87_68 => Q .normal (puts e [(87, t87_68), (74, t87_68)]) h (nx + 2)
@[irreducible] def law10_NcaWhole_L1 (ro : Ro) : PT := fun e h nx Q => bindP (intB .lss (e 74) (e 73)) fun t75_67 => condP t75_67 (bindP (ixSl 1 (e 72) (e 74)) fun t77_69 => bindP (load1 ro h t77_69) fun t78_70 => bindP (intB .lss (e 14) (Value.int IntKind.i64 0)) fun t80_71 => ifP t80_71 true h (nx + 9) (fun k72 => k72 t78_70 h (nx + 10)) fun t82_73 h74 n75 => ifP t80_71 true h74 n75 (fun k76 => k76 (e 11) h74 (n75 + 1)) fun t83_77 h78 n79 => ifP t80_71 true h78 n79 (fun k80 => callP Try.prog ro i_ref07_Is [t82_73, t83_77] h78 (n79 + 1) fun t84_84 h85 n86 => k80 t84_84 h85 n86) fun t84_81 h82 n83 => bindP (pickV t80_71 t84_81 (Value.bool false)) fun t85_87 => condP t85_87 (law10_NcaWhole_j4 ro Q (puts e [(75, t75_67), (76, (e 74)), (77, t77_69), (78, t78_70), (15, (e 74)), (16, t78_70), (79, (e 14)), (80, t80_71), (81, t80_71), (82, t82_73), (83, t83_77), (84, t84_81), (85, t85_87), (86, (e 74)), (14, (e 74))]) h82 (n83 + 3)) (law10_NcaWhole_j4 ro Q (puts e [(75, t75_67), (76, (e 74)), (77, t77_69), (78, t78_70), (15, (e 74)), (16, t78_70), (79, (e 14)), (80, t80_71), (81, t80_71), (82, t82_73), (83, t83_77), (84, t84_81), (85, t85_87)]) h82 (n83 + 1))) (Q (.exit 4) (puts e [(75, t75_67)]) h (nx + 1))
@[irreducible] def law10_NcaWhole_j2 (ro : Ro) (K : KV) : Env → T Obj → Nat → Prop := fun e h nx => bindP (lenSl (e 6)) fun t73_66 => loopP (law10_NcaWhole_L1 ro) (puts e [(14, (Value.int IntKind.i64 (-1))), (72, (e 6)), (73, t73_66), (74, (Value.int IntKind.i64 0))]) h (nx + 4) fun x91 e88 h89 n90 => exP x91 (law10_NcaWhole_j3 ro K e88 h89 n90) (fun i92 => beqP (Nat.beq i92 4) (law10_NcaWhole_j3 ro K e88 h89 n90) (False)) (∃ h93, Sub h93 h89 ∧ K (e88 4) h93 n90)
@[irreducible] def law10_NcaWhole_L2 (ro : Ro) : PT := fun e h nx Q => bindP (intB .lss (e 62) (e 61)) fun t63_95 => condP t63_95 (bindP (loadA ro h 2 (e 9)) fun t65_96 => bindP (loadA ro h 2 (e 12)) fun t66_97 => bindP (ixStr (e 11) (e 62)) fun t69_98 => callP Try.prog ro i_nca_Step [t65_96, t66_97, t69_98] h (nx + 10) fun t70_99 h100 n101 => bindP (storeN 2 h100 (e 12) t70_99) fun h102 => bindP (intB .add (e 62) (Value.int IntKind.i64 1)) fun t71_103 => Q .normal (puts e [(63, t63_95), (64, (e 62)), (13, (e 62)), (65, t65_96), (66, t66_97), (67, (e 11)), (68, (e 62)), (69, t69_98), (70, t70_99), (71, t71_103), (62, t71_103)]) h102 (n101 + 2)) (Q (.exit 2) (puts e [(63, t63_95)]) h (nx + 1))
@[irreducible] def law10_NcaWhole_j1 (ro : Ro) (K : KV) : Env → T Obj → Nat → Prop := fun e h nx => callP Try.prog ro i_ref09_Of [(e 6)] h (nx + 2) fun t43_4 h5 n6 => bindP (nth 0 t43_4) fun t44_7 => bindP (nth 1 t43_4) fun t45_8 => bindP (zer Try.prog y_api_Glush) fun z9 => newP h5 (n6 + 3) (.cells z9.cells y_api_Glush) fun h10 => bindP (storeN 2 h10 (ptr (n6 + 3)) t44_7) fun h11 => bindP (lenStr (e 1)) fun t48_12 => bindP (builtinQ Try.prog h11 .min #[y_int, y_int] [t48_12, (Value.int IntKind.i64 20)]) fun t49_13 => bindP (sliceV Try.prog y_string (e 1) none (some t49_13) none) fun t50_14 => bindP (intB .neq t45_8 (Value.int IntKind.i64 0)) fun t52_15 => ifP t52_15 false h11 (n6 + 15) (fun k16 => k16 t50_14 h11 (n6 + 16)) fun t54_17 h18 n19 => ifP t52_15 false h18 n19 (fun k20 => bindP (lenStr t54_17) fun t55_24 => k20 t55_24 h18 (n19 + 1)) fun t55_21 h22 n23 => ifP t52_15 false h22 n23 (fun k25 => bindP (intB .eql t55_21 (Value.int IntKind.i64 0)) fun t56_29 => k25 t56_29 h22 (n23 + 1)) fun t56_26 h27 n28 => bindP (pickV t52_15 (Value.bool true) t56_26) fun t57_30 => condP t57_30 (∃ h31, Sub h31 h27 ∧ K (e 5) h31 (n28 + 3)) (callP Try.prog ro i_nca_Start [] h27 (n28 + 2) fun t59_32 h33 n34 => bindP (zer Try.prog y_api_Config) fun z35 => newP h33 n34 (.cells z35.cells y_api_Config) fun h36 => bindP (storeN 2 h36 (ptr n34) t59_32) fun h37 => bindP (lenStr t50_14) fun t61_94 => loopP (law10_NcaWhole_L2 ro) (puts e [(42, (e 6)), (43, t43_4), (41, t43_4), (44, t44_7), (45, t45_8), (9, (ptr (n6 + 3))), (10, t45_8), (46, (e 1)), (47, (e 1)), (48, t48_12), (49, t49_13), (50, t50_14), (11, t50_14), (51, t45_8), (52, t52_15), (53, t52_15), (54, t54_17), (55, t55_21), (56, t56_26), (57, t57_30), (59, t59_32), (12, (ptr n34)), (60, t50_14), (61, t61_94), (62, (Value.int IntKind.i64 0))]) h37 (n34 + 5) fun x107 e104 h105 n106 => exP x107 (law10_NcaWhole_j2 ro K e104 h105 n106) (fun i108 => beqP (Nat.beq i108 2) (law10_NcaWhole_j2 ro K e104 h105 n106) (False)) (∃ h109, Sub h109 h105 ∧ K (e104 4) h109 n106))
@[irreducible] def law10_NcaWhole_j5 (ro : Ro) (Q : KE) : Env → T Obj → Nat → Prop := fun e h nx => bindP (intB .add (e 20) (Value.int IntKind.i64 1)) fun t40_112 => Q .normal (puts e [(40, t40_112), (20, t40_112)]) h (nx + 2)
@[irreducible] def law10_NcaWhole_L3 (ro : Ro) : PT := fun e h nx Q => bindP (intB .lss (e 20) (e 19)) fun t21_111 => condP t21_111 (bindP (ixSl 1 (e 18) (e 20)) fun t23_113 => bindP (load1 ro h t23_113) fun t24_114 => bindP (intB .lss (e 20) (Value.int IntKind.i64 4)) fun t26_115 => ifP t26_115 true h (nx + 9) (fun k116 => k116 t24_114 h (nx + 10)) fun t28_117 h118 n119 => ifP t26_115 true h118 n119 (fun k120 => bindP (lenSl t28_117) fun t29_124 => k120 t29_124 h118 (n119 + 1)) fun t29_121 h122 n123 => ifP t26_115 true h122 n123 (fun k125 => bindP (intB .leq t29_121 (Value.int IntKind.i64 60)) fun t30_129 => k125 t30_129 h122 (n123 + 1)) fun t30_126 h127 n128 => bindP (pickV t26_115 t30_126 (Value.bool false)) fun t31_130 => ifP t31_130 true h127 (n128 + 2) (fun k131 => k131 t24_114 h127 (n128 + 3)) fun t33_132 h133 n134 => ifP t31_130 true h133 n134 (fun k135 => callP Try.prog ro i_ref08_Right [t33_132] h133 (n134 + 1) fun t34_139 h140 n141 => k135 t34_139 h140 n141) fun t34_136 h137 n138 => bindP (pickV t31_130 t34_136 (Value.bool false)) fun t35_142 => condP t35_142 (bindP (sliceLitV Try.prog y_s_s_api_Node (n138 + 3) 1 [(0, t24_114)]) fun r143 => optP h137 (n138 + 3) r143.2 fun h144 => bindP (appendV Try.prog ro h144 (n138 + 5) #[y_s_s_api_Node, y_s_s_api_Node] [(e 6), r143.1]) fun r145 => law10_NcaWhole_j5 ro Q (puts e [(21, t21_111), (22, (e 20)), (23, t23_113), (24, t24_114), (7, (e 20)), (8, t24_114), (25, (e 20)), (26, t26_115), (27, t26_115), (28, t28_117), (29, t29_121), (30, t30_126), (31, t31_130), (32, t31_130), (33, t33_132), (34, t34_136), (35, t35_142), (36, (e 6)), (37, t24_114), (38, r143.1), (39, r145.1), (6, r145.1)]) r145.2.1 (r145.2.2 + 1)) (law10_NcaWhole_j5 ro Q (puts e [(21, t21_111), (22, (e 20)), (23, t23_113), (24, t24_114), (7, (e 20)), (8, t24_114), (25, (e 20)), (26, t26_115), (27, t26_115), (28, t28_117), (29, t29_121), (30, t30_126), (31, t31_130), (32, t31_130), (33, t33_132), (34, t34_136), (35, t35_142)]) h137 (n138 + 1))) (Q (.exit 0) (puts e [(21, t21_111)]) h (nx + 1))
@[irreducible] def law10_NcaWhole (ro : Ro) (v0 v1 : Value) (h : T Obj) (nx : Nat) (K : KV) : Prop := callP Try.prog ro i_law10_shown [] h (nx + 2) fun t17_1 h2 n3 => bindP (lenSl v0) fun t19_110 => loopP (law10_NcaWhole_L3 ro) (puts (entE [v0, v1]) [(4, (Value.bool false)), (17, t17_1), (5, t17_1), (6, (Value.slice none 0 0)), (18, v0), (19, t19_110), (20, (Value.int IntKind.i64 0))]) h2 (n3 + 5) fun x149 e146 h147 n148 => exP x149 (law10_NcaWhole_j1 ro K e146 h147 n148) (fun i150 => beqP (Nat.beq i150 0) (law10_NcaWhole_j1 ro K e146 h147 n148) (False)) (∃ h151, Sub h151 h147 ∧ K (e146 4) h151 n148)
theorem law10_NcaWhole_eq (ro : Ro) (v0 v1 : Value) (h : T Obj) (nx : Nat) (K : KV) : callPre Try.prog ro (callP Try.prog ro) Try.f7 [v0, v1] h nx K = law10_NcaWhole ro v0 v1 h nx K := by kernel_rfl
theorem law10_NcaWhole_of {ro : Ro} {v0 v1 : Value} {h : T Obj} {nx : Nat} {K : KV} (hw : law10_NcaWhole ro v0 v1 h nx K) : callP Try.prog ro i_law10_NcaWhole [v0, v1] h nx K := callP_by (P := Try.prog) (fn := Try.f7) (by kernel_rfl) (by kernel_rfl) (by kernel_rfl) (Eq.mpr (law10_NcaWhole_eq ro v0 v1 h nx K) hw)
@[irreducible] def ref08_Right_j1 (ro : Ro) (K : KV) : Env → T Obj → Nat → Prop := fun e h nx => ∃ h6, Sub h6 h ∧ K (Value.bool true) h6 (nx + 1)
@[irreducible] def ref08_Right_L1 (ro : Ro) : PT := fun e h nx Q => bindP (lenSl (e 0)) fun t10_7 => bindP (intB .lss (e 3) t10_7) fun t11_8 => condP t11_8 (bindP (ixSl 9 (e 0) (e 3)) fun t16_9 => bindP (loadA ro h 9 t16_9) fun t17_10 => bindP (zer Try.prog y_api_Node) fun z11 => newP h (nx + 8) (.cells z11.cells y_api_Node) fun h12 => bindP (storeN 9 h12 (ptr (nx + 8)) t17_10) fun h13 => bindP (fwdP 0 (ptr (nx + 8))) fun t18_14 => bindP (load1 ro h13 t18_14) fun t19_15 => bindP (intB .eql t19_15 (Value.int IntKind.u8 5)) fun t20_16 => ifP t20_16 true h13 (nx + 14) (fun k17 => bindP (fwdP 6 (ptr (nx + 8))) fun t22_21 => k17 t22_21 h13 (nx + 15)) fun t22_18 h19 n20 => ifP t20_16 true h19 n20 (fun k22 => bindP (load1 ro h19 t22_18) fun t23_26 => k22 t23_26 h19 (n20 + 1)) fun t23_23 h24 n25 => ifP t20_16 true h24 n25 (fun k27 => bindP (intB .neq t23_23 (Value.int IntKind.i64 0)) fun t24_31 => k27 t24_31 h24 (n25 + 1)) fun t24_28 h29 n30 => ifP t20_16 true h29 n30 (fun k32 => k32 t24_28 h29 (n30 + 1)) fun t25_33 h34 n35 => ifP t25_33 false h34 n35 (fun k36 => bindP (fwdP 7 (ptr (nx + 8))) fun t26_40 => k36 t26_40 h34 (n35 + 1)) fun t26_37 h38 n39 => ifP t25_33 false h38 n39 (fun k41 => bindP (load1 ro h38 t26_37) fun t27_45 => k41 t27_45 h38 (n39 + 1)) fun t27_42 h43 n44 => ifP t25_33 false h43 n44 (fun k46 => bindP (intB .neq t27_42 (Value.int IntKind.i64 (-1))) fun t28_50 => k46 t28_50 h43 (n44 + 1)) fun t28_47 h48 n49 => ifP t20_16 true h48 n49 (fun k51 => bindP (pickV t25_33 (Value.bool true) t28_47) fun t29_55 => k51 t29_55 h48 (n49 + 1)) fun t29_52 h53 n54 => bindP (pickV t20_16 t29_52 (Value.bool false)) fun t30_56 => ifP t30_56 true h53 (n54 + 2) (fun k57 => k57 (e 0) h53 (n54 + 3)) fun t32_58 h59 n60 => ifP t30_56 true h59 n60 (fun k61 => bindP (loadA ro h59 9 (ptr (nx + 8))) fun t33_65 => k61 t33_65 h59 (n60 + 1)) fun t33_62 h63 n64 => ifP t30_56 true h63 n64 (fun k66 => callP Try.prog ro i_ref08_counted [t32_58, t33_62] h63 (n64 + 1) fun t34_70 h71 n72 => k66 t34_70 h71 n72) fun t34_67 h68 n69 => ifP t30_56 true h68 n69 (fun k73 => bindP (unV .not t34_67) fun t35_77 => k73 t35_77 h68 (n69 + 1)) fun t35_74 h75 n76 => bindP (pickV t30_56 t35_74 (Value.bool false)) fun t36_78 => condP t36_78 (Q .ret (puts e [(8, (e 3)), (9, (e 0)), (10, t10_7), (11, t11_8), (14, (e 0)), (15, (e 3)), (16, t16_9), (17, t17_10), (4, (ptr (nx + 8))), (18, t18_14), (19, t19_15), (20, t20_16), (21, t20_16), (22, t22_18), (23, t23_23), (24, t24_28), (25, t25_33), (26, t26_37), (27, t27_42), (28, t28_47), (29, t29_52), (30, t30_56), (31, t30_56), (32, t32_58), (33, t33_62), (34, t34_67), (35, t35_74), (36, t36_78), (2, (Value.bool false))]) h75 (n76 + 2)) (bindP (intB .add (e 3) (Value.int IntKind.i64 1)) fun t13_79 => Q .normal (puts e [(8, (e 3)), (9, (e 0)), (10, t10_7), (11, t11_8), (14, (e 0)), (15, (e 3)), (16, t16_9), (17, t17_10), (4, (ptr (nx + 8))), (18, t18_14), (19, t19_15), (20, t20_16), (21, t20_16), (22, t22_18), (23, t23_23), (24, t24_28), (25, t25_33), (26, t26_37), (27, t27_42), (28, t28_47), (29, t29_52), (30, t30_56), (31, t30_56), (32, t32_58), (33, t33_62), (34, t34_67), (35, t35_74), (36, t36_78), (12, (e 3)), (13, t13_79), (3, t13_79)]) h75 (n76 + 4))) (Q (.exit 0) (puts e [(8, (e 3)), (9, (e 0)), (10, t10_7), (11, t11_8)]) h (nx + 4))
@[irreducible] def ref08_Right (ro : Ro) (v0 : Value) (h : T Obj) (nx : Nat) (K : KV) : Prop := callP Try.prog ro i_ref06_Plain [v0] h (nx + 3) fun t6_1 h2 n3 => bindP (unV .not t6_1) fun t7_4 => condP t7_4 (∃ h5, Sub h5 h2 ∧ K (Value.bool false) h5 (n3 + 2)) (loopP (ref08_Right_L1 ro) (puts (entE [v0]) [(2, (Value.bool false)), (5, v0), (6, t6_1), (7, t7_4), (3, (Value.int IntKind.i64 0))]) h2 (n3 + 2) fun x83 e80 h81 n82 => exP x83 (ref08_Right_j1 ro K e80 h81 n82) (fun i84 => beqP (Nat.beq i84 0) (ref08_Right_j1 ro K e80 h81 n82) (False)) (∃ h85, Sub h85 h81 ∧ K (e80 2) h85 n82))
theorem ref08_Right_eq (ro : Ro) (v0 : Value) (h : T Obj) (nx : Nat) (K : KV) : callPre Try.prog ro (callP Try.prog ro) Try.f22 [v0] h nx K = ref08_Right ro v0 h nx K := by kernel_rfl
theorem ref08_Right_of {ro : Ro} {v0 : Value} {h : T Obj} {nx : Nat} {K : KV} (hw : ref08_Right ro v0 h nx K) : callP Try.prog ro i_ref08_Right [v0] h nx K := callP_by (P := Try.prog) (fn := Try.f22) (by kernel_rfl) (by kernel_rfl) (by kernel_rfl) (Eq.mpr (ref08_Right_eq ro v0 h nx K) hw)
@[irreducible] def ref09_Of_j2 (ro : Ro) (K : KV) : Env → T Obj → Nat → Prop := fun e h nx => bindP (nilCk (e 5)) fun t81_15 => bindP (fwdP 0 t81_15) fun t82_16 => bindP (load1 ro h t82_16) fun t83_17 => bindP (fwdP 1 (e 6)) fun t84_18 => bindP (storeN 1 h t84_18 t83_17) fun h19 => bindP (loadA ro h19 2 (e 6)) fun t85_20 => bindP (storeN 2 h19 (e 2) t85_20) fun h21 => bindP (loadA ro h21 2 (e 2)) fun r22 => ∃ h23, Sub h23 h21 ∧ K (.tuple #[r22, (Value.int IntKind.i64 0)]) h23 (nx + 9)
@[irreducible] def ref09_Of_j3 (ro : Ro) (Q : KE) : Env → T Obj → Nat → Prop := fun e h nx => bindP (intB .add (e 7) (Value.int IntKind.i64 1)) fun t35_26 => Q .normal (puts e [(34, (e 7)), (35, t35_26), (7, t35_26)]) h (nx + 3)
@[irreducible] def ref09_Of_j4 (ro : Ro) (Q : KE) : Env → T Obj → Nat → Prop := fun e h nx => bindP (nilCk (e 5)) fun t74_48 => bindP (fwdP 0 t74_48) fun t75_49 => bindP (load1 ro h t75_49) fun t76_50 => bindP (lenSl t76_50) fun t77_51 => bindP (intB .gtr t77_51 (Value.int IntKind.i64 512)) fun t78_52 => condP t78_52 (bindP (buildV Try.prog y_api_Glush []) fun t79_53 => bindP (storeN 2 h (e 2) t79_53) fun h54 => Q .ret (puts e [(73, (e 5)), (74, t74_48), (75, t75_49), (76, t76_50), (77, t77_51), (78, t78_52), (79, t79_53), (3, (Value.int IntKind.i64 3))]) h54 (nx + 9)) (ref09_Of_j3 ro Q (puts e [(73, (e 5)), (74, t74_48), (75, t75_49), (76, t76_50), (77, t77_51), (78, t78_52)]) h (nx + 6))
@[irreducible] def ref09_Of_L2 (ro : Ro) : PT := fun e h nx Q => bindP (fwdP 2 (e 8)) fun t56_55 => bindP (load1 ro h t56_55) fun t57_56 => bindP (lenSl t57_56) fun t58_57 => bindP (intB .lss (e 9) t58_57) fun t59_58 => condP t59_58 (bindP (nilCk (e 5)) fun t63_59 => bindP (fwdP 0 t63_59) fun t64_60 => bindP (load1 ro h t64_60) fun t65_61 => bindP (fwdP 2 (e 8)) fun t66_62 => bindP (load1 ro h t66_62) fun t67_63 => bindP (ixSl 1 t67_63 (e 9)) fun t69_64 => bindP (load1 ro h t69_64) fun t70_65 => bindP (ixSl 9 t65_61 t70_65) fun t71_66 => bindP (fwdP 7 t71_66) fun t72_67 => bindP (storeN 1 h t72_67 (Value.bool true)) fun h68 => bindP (intB .add (e 9) (Value.int IntKind.i64 1)) fun t61_69 => Q .normal (puts e [(55, (e 9)), (56, t56_55), (57, t57_56), (58, t58_57), (59, t59_58), (62, (e 5)), (63, t63_59), (64, t64_60), (65, t65_61), (66, t66_62), (67, t67_63), (68, (e 9)), (69, t69_64), (70, t70_65), (71, t71_66), (72, t72_67), (60, (e 9)), (61, t61_69), (9, t61_69)]) h68 (nx + 20)) (Q (.exit 4) (puts e [(55, (e 9)), (56, t56_55), (57, t57_56), (58, t58_57), (59, t59_58)]) h (nx + 5))
@[irreducible] def ref09_Of_L1 (ro : Ro) : PT := fun e h nx Q => bindP (lenSl (e 0)) fun t32_24 => bindP (intB .lss (e 7) t32_24) fun t33_25 => condP t33_25 (bindP (ixSl 1 (e 0) (e 7)) fun t39_27 => bindP (load1 ro h t39_27) fun t40_28 => bindP (ixSl 1 (e 0) (e 7)) fun t43_29 => bindP (load1 ro h t43_29) fun t44_30 => bindP (lenSl t44_30) fun t45_31 => bindP (intB .sub t45_31 (Value.int IntKind.i64 1)) fun t46_32 => callP Try.prog ro i_ref09_builder_node [(e 5), t40_28, t46_32, (e 7)] h (nx + 19) fun t48_33 h34 n35 => bindP (zer Try.prog y_raddleref09_info) fun z36 => newP h34 (nx + 17) (.cells z36.cells y_raddleref09_info) fun h37 => bindP (storeN 3 h37 (ptr (nx + 17)) t48_33) fun h38 => bindP (fwdP 0 (e 6)) fun t49_39 => bindP (load1 ro h38 t49_39) fun t50_40 => bindP (fwdP 1 (ptr (nx + 17))) fun t51_41 => bindP (load1 ro h38 t51_41) fun t52_42 => callP Try.prog ro i_ref09_both [t50_40, t52_42] h38 (n35 + 5) fun t53_43 h44 n45 => bindP (fwdP 0 (e 6)) fun t54_46 => bindP (storeN 1 h44 t54_46 t53_43) fun h47 => loopP (ref09_Of_L2 ro) (puts e [(30, (e 7)), (31, (e 0)), (32, t32_24), (33, t33_25), (36, (e 5)), (37, (e 0)), (38, (e 7)), (39, t39_27), (40, t40_28), (41, (e 0)), (42, (e 7)), (43, t43_29), (44, t44_30), (45, t45_31), (46, t46_32), (47, (e 7)), (48, t48_33), (8, (ptr (nx + 17))), (49, t49_39), (50, t50_40), (51, t51_41), (52, t52_42), (53, t53_43), (54, t54_46), (9, (Value.int IntKind.i64 0))]) h47 (n45 + 3) fun x73 e70 h71 n72 => exP x73 (ref09_Of_j4 ro Q e70 h71 n72) (fun i74 => beqP (Nat.beq i74 4) (ref09_Of_j4 ro Q e70 h71 n72) (beqP (Nat.beq i74 3) (ref09_Of_j3 ro Q e70 h71 n72) (Q (.exit i74) e70 h71 n72))) (Q .ret e70 h71 n72)) (Q (.exit 2) (puts e [(30, (e 7)), (31, (e 0)), (32, t32_24), (33, t33_25)]) h (nx + 4))
@[irreducible] def ref09_Of_j1 (ro : Ro) (K : KV) : Env → T Obj → Nat → Prop := fun e h nx => bindP (buildV Try.prog y_raddleref09_builder []) fun t27_9 => newP h (nx + 1) (.cells (Value.cells t27_9) y_raddleref09_builder) fun h10 => bindP (buildV Try.prog y_api_Glush []) fun t29_11 => bindP (zer Try.prog y_api_Glush) fun z12 => newP h10 (nx + 4) (.cells z12.cells y_api_Glush) fun h13 => bindP (storeN 2 h13 (ptr (nx + 4)) t29_11) fun h14 => loopP (ref09_Of_L1 ro) (puts e [(27, t27_9), (28, (ptr (nx + 1))), (5, (ptr (nx + 1))), (29, t29_11), (6, (ptr (nx + 4))), (7, (Value.int IntKind.i64 0))]) h14 (nx + 7) fun x78 e75 h76 n77 => exP x78 (ref09_Of_j2 ro K e75 h76 n77) (fun i79 => beqP (Nat.beq i79 2) (ref09_Of_j2 ro K e75 h76 n77) (False)) (bindP (loadA ro h76 2 (e75 2)) fun r80 => ∃ h81, Sub h81 h76 ∧ K (.tuple #[r80, (e75 3)]) h81 n77)
@[irreducible] def ref09_Of_L3 (ro : Ro) : PT := fun e h nx Q => bindP (lenSl (e 0)) fun t16_82 => bindP (intB .lss (e 4) t16_82) fun t17_83 => condP t17_83 (bindP (ixSl 1 (e 0) (e 4)) fun t22_84 => bindP (load1 ro h t22_84) fun t23_85 => callP Try.prog ro i_ref08_Right [t23_85] h (nx + 9) fun t24_86 h87 n88 => bindP (unV .not t24_86) fun t25_89 => condP t25_89 (bindP (buildV Try.prog y_api_Glush []) fun t26_90 => bindP (storeN 2 h87 (e 2) t26_90) fun h91 => Q .ret (puts e [(14, (e 4)), (15, (e 0)), (16, t16_82), (17, t17_83), (20, (e 0)), (21, (e 4)), (22, t22_84), (23, t23_85), (24, t24_86), (25, t25_89), (26, t26_90), (3, (Value.int IntKind.i64 1))]) h91 (n88 + 4)) (bindP (intB .add (e 4) (Value.int IntKind.i64 1)) fun t19_92 => Q .normal (puts e [(14, (e 4)), (15, (e 0)), (16, t16_82), (17, t17_83), (20, (e 0)), (21, (e 4)), (22, t22_84), (23, t23_85), (24, t24_86), (25, t25_89), (18, (e 4)), (19, t19_92), (4, t19_92)]) h87 (n88 + 4))) (Q (.exit 0) (puts e [(14, (e 4)), (15, (e 0)), (16, t16_82), (17, t17_83)]) h (nx + 4))
@[irreducible] def ref09_Of (ro : Ro) (v0 : Value) (h : T Obj) (nx : Nat) (K : KV) : Prop := bindP (zer Try.prog y_api_Glush) fun z1 => newP h nx (.cells z1.cells y_api_Glush) fun h2 => bindP (lenSl v0) fun t11_3 => bindP (intB .gtr t11_3 (Value.int IntKind.i64 512)) fun t12_4 => condP t12_4 (bindP (buildV Try.prog y_api_Glush []) fun t13_5 => bindP (storeN 2 h2 (ptr nx) t13_5) fun h6 => bindP (loadA ro h6 2 (ptr nx)) fun r7 => ∃ h8, Sub h8 h6 ∧ K (.tuple #[r7, (Value.int IntKind.i64 1)]) h8 (nx + 8)) (loopP (ref09_Of_L3 ro) (puts (entE [v0]) [(2, (ptr nx)), (3, (Value.int IntKind.i64 0)), (10, v0), (11, t11_3), (12, t12_4), (4, (Value.int IntKind.i64 0))]) h2 (nx + 6) fun x96 e93 h94 n95 => exP x96 (ref09_Of_j1 ro K e93 h94 n95) (fun i97 => beqP (Nat.beq i97 0) (ref09_Of_j1 ro K e93 h94 n95) (False)) (bindP (loadA ro h94 2 (e93 2)) fun r98 => ∃ h99, Sub h99 h94 ∧ K (.tuple #[r98, (e93 3)]) h99 n95))
theorem ref09_Of_eq (ro : Ro) (v0 : Value) (h : T Obj) (nx : Nat) (K : KV) : callPre Try.prog ro (callP Try.prog ro) Try.f23 [v0] h nx K = ref09_Of ro v0 h nx K := by kernel_rfl
theorem ref09_Of_of {ro : Ro} {v0 : Value} {h : T Obj} {nx : Nat} {K : KV} (hw : ref09_Of ro v0 h nx K) : callP Try.prog ro i_ref09_Of [v0] h nx K := callP_by (P := Try.prog) (fn := Try.f23) (by kernel_rfl) (by kernel_rfl) (by kernel_rfl) (Eq.mpr (ref09_Of_eq ro v0 h nx K) hw)
@[irreducible] def ref07_Is (ro : Ro) (v0 v1 : Value) (h : T Obj) (nx : Nat) (K : KV) : Prop := callP Try.prog ro i_ref07_Ends [v0, v1, (Value.int IntKind.i64 0)] h (nx + 4) fun t8_1 h2 n3 => bindP (lenSl t8_1) fun t10_4 => bindP (intB .gtr t10_4 (Value.int IntKind.i64 0)) fun t11_5 => ifP t11_5 true h2 (n3 + 5) (fun k6 => k6 t8_1 h2 (n3 + 6)) fun t13_7 h8 n9 => ifP t11_5 true h8 n9 (fun k10 => k10 t8_1 h8 (n9 + 1)) fun t14_11 h12 n13 => ifP t11_5 true h12 n13 (fun k14 => bindP (lenSl t14_11) fun t15_18 => k14 t15_18 h12 (n13 + 1)) fun t15_15 h16 n17 => ifP t11_5 true h16 n17 (fun k19 => bindP (intB .sub t15_15 (Value.int IntKind.i64 1)) fun t16_23 => k19 t16_23 h16 (n17 + 1)) fun t16_20 h21 n22 => ifP t11_5 true h21 n22 (fun k24 => bindP (ixSl 1 t13_7 t16_20) fun t17_28 => k24 t17_28 h21 (n22 + 1)) fun t17_25 h26 n27 => ifP t11_5 true h26 n27 (fun k29 => bindP (load1 ro h26 t17_25) fun t18_33 => k29 t18_33 h26 (n27 + 1)) fun t18_30 h31 n32 => ifP t11_5 true h31 n32 (fun k34 => k34 v1 h31 (n32 + 1)) fun t19_35 h36 n37 => ifP t11_5 true h36 n37 (fun k38 => bindP (lenStr t19_35) fun t20_42 => k38 t20_42 h36 (n37 + 1)) fun t20_39 h40 n41 => ifP t11_5 true h40 n41 (fun k43 => bindP (intB .eql t18_30 t20_39) fun t21_47 => k43 t21_47 h40 (n41 + 1)) fun t21_44 h45 n46 => bindP (pickV t11_5 t21_44 (Value.bool false)) fun t22_48 => ∃ h49, Sub h49 h45 ∧ K t22_48 h49 (n46 + 2)
theorem ref07_Is_eq (ro : Ro) (v0 v1 : Value) (h : T Obj) (nx : Nat) (K : KV) : callPre Try.prog ro (callP Try.prog ro) Try.f26 [v0, v1] h nx K = ref07_Is ro v0 v1 h nx K := by kernel_rfl
theorem ref07_Is_of {ro : Ro} {v0 v1 : Value} {h : T Obj} {nx : Nat} {K : KV} (hw : ref07_Is ro v0 v1 h nx K) : callP Try.prog ro i_ref07_Is [v0, v1] h nx K := callP_by (P := Try.prog) (fn := Try.f26) (by kernel_rfl) (by kernel_rfl) (by kernel_rfl) (Eq.mpr (ref07_Is_eq ro v0 v1 h nx K) hw)
@[irreducible] def ref06_Plain_j1 (ro : Ro) (K : KV) : Env → T Obj → Nat → Prop := fun e h nx => callP Try.prog ro i_ref04_Right [(e 0)] h (nx + 2) fun t17_1 h2 n3 => ∃ h4, Sub h4 h2 ∧ K t17_1 h4 (n3 + 1)
@[irreducible] def ref06_Plain_L1 (ro : Ro) : PT := fun e h nx Q => bindP (lenSl (e 0)) fun t6_5 => bindP (intB .lss (e 3) t6_5) fun t7_6 => condP t7_6 (bindP (ixSl 9 (e 0) (e 3)) fun t12_7 => bindP (fwdP 0 t12_7) fun t13_8 => bindP (load1 ro h t13_8) fun t14_9 => bindP (intB .eql t14_9 (Value.int IntKind.u8 6)) fun t15_10 => condP t15_10 (Q .ret (puts e [(4, (e 3)), (5, (e 0)), (6, t6_5), (7, t7_6), (10, (e 0)), (11, (e 3)), (12, t12_7), (13, t13_8), (14, t14_9), (15, t15_10), (2, (Value.bool false))]) h (nx + 11)) (bindP (intB .add (e 3) (Value.int IntKind.i64 1)) fun t9_11 => Q .normal (puts e [(4, (e 3)), (5, (e 0)), (6, t6_5), (7, t7_6), (10, (e 0)), (11, (e 3)), (12, t12_7), (13, t13_8), (14, t14_9), (15, t15_10), (8, (e 3)), (9, t9_11), (3, t9_11)]) h (nx + 13))) (Q (.exit 0) (puts e [(4, (e 3)), (5, (e 0)), (6, t6_5), (7, t7_6)]) h (nx + 4))
@[irreducible] def ref06_Plain (ro : Ro) (v0 : Value) (h : T Obj) (nx : Nat) (K : KV) : Prop := loopP (ref06_Plain_L1 ro) (puts (entE [v0]) [(2, (Value.bool false)), (3, (Value.int IntKind.i64 0))]) h (nx + 2) fun x15 e12 h13 n14 => exP x15 (ref06_Plain_j1 ro K e12 h13 n14) (fun i16 => beqP (Nat.beq i16 0) (ref06_Plain_j1 ro K e12 h13 n14) (False)) (∃ h17, Sub h17 h13 ∧ K (e12 2) h17 n14)
theorem ref06_Plain_eq (ro : Ro) (v0 : Value) (h : T Obj) (nx : Nat) (K : KV) : callPre Try.prog ro (callP Try.prog ro) Try.f36 [v0] h nx K = ref06_Plain ro v0 h nx K := by kernel_rfl
theorem ref06_Plain_of {ro : Ro} {v0 : Value} {h : T Obj} {nx : Nat} {K : KV} (hw : ref06_Plain ro v0 h nx K) : callP Try.prog ro i_ref06_Plain [v0] h nx K := callP_by (P := Try.prog) (fn := Try.f36) (by kernel_rfl) (by kernel_rfl) (by kernel_rfl) (Eq.mpr (ref06_Plain_eq ro v0 h nx K) hw)
@[irreducible] def ref08_counted (ro : Ro) (v0 v1 : Value) (h : T Obj) (nx : Nat) (K : KV) : Prop := newP h nx (.cells (Value.cells v1) y_api_Node) fun h1 => bindP (fwdP 5 (ptr nx)) fun t6_2 => bindP (load1 ro h1 t6_2) fun t7_3 => bindP (ixSl 1 t7_3 (Value.int IntKind.i64 0)) fun t8_4 => bindP (load1 ro h1 t8_4) fun t9_5 => bindP (ixSl 9 v0 t9_5) fun t10_6 => bindP (fwdP 0 t10_6) fun t11_7 => bindP (load1 ro h1 t11_7) fun t12_8 => bindP (intB .eql t12_8 (Value.int IntKind.u8 2)) fun t13_9 => ifP t13_9 true h1 (nx + 12) (fun k10 => bindP (fwdP 6 (ptr nx)) fun t15_14 => k10 t15_14 h1 (nx + 13)) fun t15_11 h12 n13 => ifP t13_9 true h12 n13 (fun k15 => bindP (load1 ro h12 t15_11) fun t16_19 => k15 t16_19 h12 (n13 + 1)) fun t16_16 h17 n18 => ifP t13_9 true h17 n18 (fun k20 => bindP (intB .geq t16_16 (Value.int IntKind.i64 1)) fun t17_24 => k20 t17_24 h17 (n18 + 1)) fun t17_21 h22 n23 => bindP (pickV t13_9 t17_21 (Value.bool false)) fun t18_25 => ifP t18_25 true h22 (n23 + 2) (fun k26 => bindP (fwdP 7 (ptr nx)) fun t20_30 => k26 t20_30 h22 (n23 + 3)) fun t20_27 h28 n29 => ifP t18_25 true h28 n29 (fun k31 => bindP (load1 ro h28 t20_27) fun t21_35 => k31 t21_35 h28 (n29 + 1)) fun t21_32 h33 n34 => ifP t18_25 true h33 n34 (fun k36 => bindP (intB .geq t21_32 (Value.int IntKind.i64 2)) fun t22_40 => k36 t22_40 h33 (n34 + 1)) fun t22_37 h38 n39 => bindP (pickV t18_25 t22_37 (Value.bool false)) fun t23_41 => ∃ h42, Sub h42 h38 ∧ K t23_41 h42 (n39 + 2)
theorem ref08_counted_eq (ro : Ro) (v0 v1 : Value) (h : T Obj) (nx : Nat) (K : KV) : callPre Try.prog ro (callP Try.prog ro) Try.f37 [v0, v1] h nx K = ref08_counted ro v0 v1 h nx K := by kernel_rfl
theorem ref08_counted_of {ro : Ro} {v0 v1 : Value} {h : T Obj} {nx : Nat} {K : KV} (hw : ref08_counted ro v0 v1 h nx K) : callP Try.prog ro i_ref08_counted [v0, v1] h nx K := callP_by (P := Try.prog) (fn := Try.f37) (by kernel_rfl) (by kernel_rfl) (by kernel_rfl) (Eq.mpr (ref08_counted_eq ro v0 v1 h nx K) hw)
@[irreducible] def ref09_builder_node_j3 (ro : Ro) (K : KV) : Env → T Obj → Nat → Prop := fun e h nx => bindP (loadA ro h 3 (e 12)) fun t127_80 => bindP (storeN 3 h (e 8) t127_80) fun h81 => bindP (loadA ro h81 3 (e 8)) fun r82 => ∃ h83, Sub h83 h81 ∧ K r82 h83 (nx + 2)
@[irreducible] def ref09_builder_node_j2 (ro : Ro) (K : KV) : Env → T Obj → Nat → Prop := fun e h nx => bindP (fwdP 0 (e 9)) fun t118_84 => bindP (load1 ro h t118_84) fun t119_85 => bindP (intB .eql t119_85 (Value.int IntKind.u8 5)) fun t120_86 => condP t120_86 (bindP (fwdP 2 (e 12)) fun t122_87 => bindP (load1 ro h t122_87) fun t123_88 => bindP (fwdP 1 (e 12)) fun t124_89 => bindP (load1 ro h t124_89) fun t125_90 => callP Try.prog ro i_ref09_builder_link [(e 0), t123_88, t125_90] h (nx + 9) fun t126_91 h92 n93 => ref09_builder_node_j3 ro K (puts e [(118, t118_84), (119, t119_85), (120, t120_86), (121, (e 0)), (122, t122_87), (123, t123_88), (124, t124_89), (125, t125_90), (126, t126_91)]) h92 n93) (ref09_builder_node_j3 ro K (puts e [(118, t118_84), (119, t119_85), (120, t120_86)]) h (nx + 3))
@[irreducible] def ref09_builder_node_L1 (ro : Ro) : PT := fun e h nx Q => bindP (lenSl (e 10)) fun t86_94 => bindP (intB .lss (e 13) t86_94) fun t87_95 => condP t87_95 (bindP (fwdP 0 (e 12)) fun t90_96 => bindP (load1 ro h t90_96) fun t91_97 => ifP t91_97 false h (nx + 7) (fun k98 => k98 (e 10) h (nx + 8)) fun t93_99 h100 n101 => ifP t91_97 false h100 n101 (fun k102 => k102 (e 13) h100 (n101 + 1)) fun t94_103 h104 n105 => ifP t91_97 false h104 n105 (fun k106 => bindP (ixSl 3 t93_99 t94_103) fun t95_110 => k106 t95_110 h104 (n105 + 1)) fun t95_107 h108 n109 => ifP t91_97 false h108 n109 (fun k111 => bindP (fwdP 0 t95_107) fun t96_115 => k111 t96_115 h108 (n109 + 1)) fun t96_112 h113 n114 => ifP t91_97 false h113 n114 (fun k116 => bindP (load1 ro h113 t96_112) fun t97_120 => k116 t97_120 h113 (n114 + 1)) fun t97_117 h118 n119 => bindP (pickV t91_97 (Value.bool true) t97_117) fun t98_121 => bindP (fwdP 0 (e 12)) fun t99_122 => bindP (storeN 1 h118 t99_122 t98_121) fun h123 => bindP (fwdP 1 (e 12)) fun t100_124 => bindP (load1 ro h123 t100_124) fun t101_125 => bindP (ixSl 3 (e 10) (e 13)) fun t104_126 => bindP (fwdP 1 t104_126) fun t105_127 => bindP (load1 ro h123 t105_127) fun t106_128 => callP Try.prog ro i_ref09_both [t101_125, t106_128] h123 (n119 + 13) fun t107_129 h130 n131 => bindP (fwdP 1 (e 12)) fun t108_132 => bindP (storeN 1 h130 t108_132 t107_129) fun h133 => bindP (fwdP 2 (e 12)) fun t109_134 => bindP (load1 ro h133 t109_134) fun t110_135 => bindP (ixSl 3 (e 10) (e 13)) fun t113_136 => bindP (fwdP 2 t113_136) fun t114_137 => bindP (load1 ro h133 t114_137) fun t115_138 => callP Try.prog ro i_ref09_both [t110_135, t115_138] h133 (n131 + 10) fun t116_139 h140 n141 => bindP (fwdP 2 (e 12)) fun t117_142 => bindP (storeN 1 h140 t117_142 t116_139) fun h143 => bindP (intB .add (e 13) (Value.int IntKind.i64 1)) fun t89_144 => Q .normal (puts e [(84, (e 13)), (85, (e 10)), (86, t86_94), (87, t87_95), (90, t90_96), (91, t91_97), (92, t91_97), (93, t93_99), (94, t94_103), (95, t95_107), (96, t96_112), (97, t97_117), (98, t98_121), (99, t99_122), (100, t100_124), (101, t101_125), (102, (e 10)), (103, (e 13)), (104, t104_126), (105, t105_127), (106, t106_128), (107, t107_129), (108, t108_132), (109, t109_134), (110, t110_135), (111, (e 10)), (112, (e 13)), (113, t113_136), (114, t114_137), (115, t115_138), (116, t116_139), (117, t117_142), (88, (e 13)), (89, t89_144), (13, t89_144)]) h143 (n141 + 3)) (Q (.exit 2) (puts e [(84, (e 13)), (85, (e 10)), (86, t86_94), (87, t87_95)]) h (nx + 4))
@[irreducible] def ref09_builder_node_j1 (ro : Ro) (K : KV) : Env → T Obj → Nat → Prop := fun e h nx => bindP (fwdP 0 (e 9)) fun t74_64 => bindP (load1 ro h t74_64) fun t75_65 => bindP (intB .eql t75_65 (Value.int IntKind.u8 3)) fun t76_66 => condP t76_66 (callP Try.prog ro i_ref09_builder_cat [(e 0), (e 10)] h (nx + 6) fun t79_67 h68 n69 => bindP (storeN 3 h68 (e 8) t79_67) fun h70 => bindP (loadA ro h70 3 (e 8)) fun r71 => ∃ h72, Sub h72 h70 ∧ K r71 h72 (n69 + 1)) (bindP (fwdP 0 (e 9)) fun t80_73 => bindP (load1 ro h t80_73) fun t81_74 => bindP (intB .eql t81_74 (Value.int IntKind.u8 5)) fun t82_75 => bindP (buildV Try.prog y_raddleref09_info [(0, t82_75)]) fun t83_76 => bindP (zer Try.prog y_raddleref09_info) fun z77 => newP h (nx + 7) (.cells z77.cells y_raddleref09_info) fun h78 => bindP (storeN 3 h78 (ptr (nx + 7)) t83_76) fun h79 => loopP (ref09_builder_node_L1 ro) (puts e [(74, t74_64), (75, t75_65), (76, t76_66), (80, t80_73), (81, t81_74), (82, t82_75), (83, t83_76), (12, (ptr (nx + 7))), (13, (Value.int IntKind.i64 0))]) h79 (nx + 10) fun x148 e145 h146 n147 => exP x148 (ref09_builder_node_j2 ro K e145 h146 n147) (fun i149 => beqP (Nat.beq i149 2) (ref09_builder_node_j2 ro K e145 h146 n147) (False)) (bindP (loadA ro h146 3 (e145 8)) fun r150 => ∃ h151, Sub h151 h146 ∧ K r150 h151 n147))
@[irreducible] def ref09_builder_node_L2 (ro : Ro) : PT := fun e h nx Q => bindP (fwdP 5 (e 9)) fun t56_152 => bindP (load1 ro h t56_152) fun t57_153 => bindP (lenSl t57_153) fun t58_154 => bindP (intB .lss (e 11) t58_154) fun t59_155 => condP t59_155 (bindP (fwdP 5 (e 9)) fun t65_156 => bindP (load1 ro h t65_156) fun t66_157 => bindP (ixSl 1 t66_157 (e 11)) fun t68_158 => bindP (load1 ro h t68_158) fun t69_159 => callP Try.prog ro i_ref09_builder_node [(e 0), (e 1), t69_159, (e 3)] h (nx + 15) fun t71_160 h161 n162 => bindP (sliceLitV Try.prog y_s_raddleref09_info n162 1 [(0, t71_160)]) fun r163 => optP h161 n162 r163.2 fun h164 => bindP (appendV Try.prog ro h164 (n162 + 2) #[y_s_raddleref09_info, y_s_raddleref09_info] [(e 10), r163.1]) fun r165 => bindP (intB .add (e 11) (Value.int IntKind.i64 1)) fun t61_166 => Q .normal (puts e [(55, (e 11)), (56, t56_152), (57, t57_153), (58, t58_154), (59, t59_155), (62, (e 10)), (63, (e 0)), (64, (e 1)), (65, t65_156), (66, t66_157), (67, (e 11)), (68, t68_158), (69, t69_159), (70, (e 3)), (71, t71_160), (72, r163.1), (73, r165.1), (10, r165.1), (60, (e 11)), (61, t61_166), (11, t61_166)]) r165.2.1 (r165.2.2 + 4)) (Q (.exit 0) (puts e [(55, (e 11)), (56, t56_152), (57, t57_153), (58, t58_154), (59, t59_155)]) h (nx + 5))
@[irreducible] def ref09_builder_node (ro : Ro) (v0 v1 v2 v3 : Value) (h : T Obj) (nx : Nat) (K : KV) : Prop := bindP (zer Try.prog y_raddleref09_info) fun z1 => newP h nx (.cells z1.cells y_raddleref09_info) fun h2 => bindP (ixSl 9 v1 v2) fun t16_3 => bindP (loadA ro h2 9 t16_3) fun t17_4 => bindP (zer Try.prog y_api_Node) fun z5 => newP h2 (nx + 5) (.cells z5.cells y_api_Node) fun h6 => bindP (storeN 9 h6 (ptr (nx + 5)) t17_4) fun h7 => bindP (fwdP 0 (ptr (nx + 5))) fun t18_8 => bindP (load1 ro h7 t18_8) fun t19_9 => bindP (intB .eql t19_9 (Value.int IntKind.u8 1)) fun t20_10 => condP t20_10 (bindP (buildV Try.prog y_raddleref09_info [(0, (Value.bool true))]) fun t21_11 => bindP (storeN 3 h7 (ptr nx) t21_11) fun h12 => bindP (loadA ro h12 3 (ptr nx)) fun r13 => ∃ h14, Sub h14 h12 ∧ K r13 h14 (nx + 12)) (bindP (fwdP 0 (ptr (nx + 5))) fun t22_15 => bindP (load1 ro h7 t22_15) fun t23_16 => bindP (intB .eql t23_16 (Value.int IntKind.u8 2)) fun t24_17 => condP t24_17 (bindP (fwdP 1 (ptr (nx + 5))) fun t26_18 => bindP (loadA ro h7 4 t26_18) fun t27_19 => bindP (buildV Try.prog y_api_Pos [(0, t27_19), (1, (Value.int IntKind.i64 1)), (2, (Value.int IntKind.i64 1)), (3, v3)]) fun t29_20 => callP Try.prog ro i_ref09_builder_put [v0, t29_20] h7 (nx + 19) fun t30_21 h22 n23 => bindP (storeN 3 h22 (ptr nx) t30_21) fun h24 => bindP (loadA ro h24 3 (ptr nx)) fun r25 => ∃ h26, Sub h26 h24 ∧ K r25 h26 (n23 + 1)) (bindP (fwdP 0 (ptr (nx + 5))) fun t31_27 => bindP (load1 ro h7 t31_27) fun t32_28 => bindP (intB .eql t32_28 (Value.int IntKind.u8 5)) fun t33_29 => ifP t33_29 true h7 (nx + 17) (fun k30 => bindP (fwdP 7 (ptr (nx + 5))) fun t35_34 => k30 t35_34 h7 (nx + 18)) fun t35_31 h32 n33 => ifP t33_29 true h32 n33 (fun k35 => bindP (load1 ro h32 t35_31) fun t36_39 => k35 t36_39 h32 (n33 + 1)) fun t36_36 h37 n38 => ifP t33_29 true h37 n38 (fun k40 => bindP (intB .neq t36_36 (Value.int IntKind.i64 (-1))) fun t37_44 => k40 t37_44 h37 (n38 + 1)) fun t37_41 h42 n43 => bindP (pickV t33_29 t37_41 (Value.bool false)) fun t38_45 => condP t38_45 (bindP (fwdP 5 (ptr (nx + 5))) fun t41_46 => bindP (load1 ro h42 t41_46) fun t42_47 => bindP (ixSl 1 t42_47 (Value.int IntKind.i64 0)) fun t43_48 => bindP (load1 ro h42 t43_48) fun t44_49 => bindP (ixSl 9 v1 t44_49) fun t45_50 => bindP (fwdP 1 t45_50) fun t46_51 => bindP (loadA ro h42 4 t46_51) fun t47_52 => bindP (fwdP 6 (ptr (nx + 5))) fun t48_53 => bindP (load1 ro h42 t48_53) fun t49_54 => bindP (fwdP 7 (ptr (nx + 5))) fun t50_55 => bindP (load1 ro h42 t50_55) fun t51_56 => bindP (buildV Try.prog y_api_Pos [(0, t47_52), (1, t49_54), (2, t51_56), (3, v3)]) fun t53_57 => callP Try.prog ro i_ref09_builder_put [v0, t53_57] h42 (n43 + 18) fun t54_58 h59 n60 => bindP (storeN 3 h59 (ptr nx) t54_58) fun h61 => bindP (loadA ro h61 3 (ptr nx)) fun r62 => ∃ h63, Sub h63 h61 ∧ K r62 h63 n60) (loopP (ref09_builder_node_L2 ro) (puts (entE [v0, v1, v2, v3]) [(8, (ptr nx)), (14, v1), (15, v2), (16, t16_3), (17, t17_4), (9, (ptr (nx + 5))), (18, t18_8), (19, t19_9), (20, t20_10), (22, t22_15), (23, t23_16), (24, t24_17), (31, t31_27), (32, t32_28), (33, t33_29), (34, t33_29), (35, t35_31), (36, t36_36), (37, t37_41), (38, t38_45), (10, (Value.slice none 0 0)), (11, (Value.int IntKind.i64 0))]) h42 (n43 + 3) fun x170 e167 h168 n169 => exP x170 (ref09_builder_node_j1 ro K e167 h168 n169) (fun i171 => beqP (Nat.beq i171 0) (ref09_builder_node_j1 ro K e167 h168 n169) (False)) (bindP (loadA ro h168 3 (e167 8)) fun r172 => ∃ h173, Sub h173 h168 ∧ K r172 h173 n169))))
theorem ref09_builder_node_eq (ro : Ro) (v0 v1 v2 v3 : Value) (h : T Obj) (nx : Nat) (K : KV) : callPre Try.prog ro (callP Try.prog ro) Try.f38 [v0, v1, v2, v3] h nx K = ref09_builder_node ro v0 v1 v2 v3 h nx K := by kernel_rfl
theorem ref09_builder_node_of {ro : Ro} {v0 v1 v2 v3 : Value} {h : T Obj} {nx : Nat} {K : KV} (hw : ref09_builder_node ro v0 v1 v2 v3 h nx K) : callP Try.prog ro i_ref09_builder_node [v0, v1, v2, v3] h nx K := callP_by (P := Try.prog) (fn := Try.f38) (by kernel_rfl) (by kernel_rfl) (by kernel_rfl) (Eq.mpr (ref09_builder_node_eq ro v0 v1 v2 v3 h nx K) hw)
@[irreducible] def ref09_both_j1 (ro : Ro) (K : KV) : Env → T Obj → Nat → Prop := fun e h nx => ∃ h1, Sub h1 h ∧ K (e 5) h1 (nx + 2)
@[irreducible] def ref09_both_j2 (ro : Ro) (Q : KE) : Env → T Obj → Nat → Prop := fun e h nx => bindP (ixSl 1 (e 1) (e 7)) fun t68_100 => bindP (load1 ro h t68_100) fun t69_101 => bindP (sliceLitV Try.prog y_s_int (nx + 5) 1 [(0, t69_101)]) fun r102 => optP h (nx + 5) r102.2 fun h103 => bindP (appendV Try.prog ro h103 (nx + 7) #[y_s_int, y_s_int] [(e 5), r102.1]) fun r104 => bindP (intB .add (e 7) (Value.int IntKind.i64 1)) fun t73_105 => Q .normal (puts e [(65, (e 5)), (66, (e 1)), (67, (e 7)), (68, t68_100), (69, t69_101), (70, r102.1), (71, r104.1), (5, r104.1), (72, (e 7)), (73, t73_105), (7, t73_105)]) r104.2.1 (r104.2.2 + 4)
@[irreducible] def ref09_both_L1 (ro : Ro) : PT := fun e h nx Q => bindP (lenSl (e 0)) fun t10_2 => bindP (intB .lss (e 6) t10_2) fun t11_3 => ifP t11_3 false h (nx + 5) (fun k4 => k4 (e 7) h (nx + 6)) fun t13_5 h6 n7 => ifP t11_3 false h6 n7 (fun k8 => k8 (e 1) h6 (n7 + 1)) fun t14_9 h10 n11 => ifP t11_3 false h10 n11 (fun k12 => bindP (lenSl t14_9) fun t15_16 => k12 t15_16 h10 (n11 + 1)) fun t15_13 h14 n15 => ifP t11_3 false h14 n15 (fun k17 => bindP (intB .lss t13_5 t15_13) fun t16_21 => k17 t16_21 h14 (n15 + 1)) fun t16_18 h19 n20 => bindP (pickV t11_3 (Value.bool true) t16_18) fun t17_22 => condP t17_22 (bindP (lenSl (e 1)) fun t20_23 => bindP (intB .eql (e 7) t20_23) fun t21_24 => ifP t21_24 false h19 (n20 + 22) (fun k25 => k25 (e 6) h19 (n20 + 22)) fun t23_26 h27 n28 => ifP t21_24 false h27 n28 (fun k29 => k29 (e 0) h27 n28) fun t24_30 h31 n32 => ifP t21_24 false h31 n32 (fun k33 => bindP (lenSl t24_30) fun t25_37 => k33 t25_37 h31 n32) fun t25_34 h35 n36 => ifP t21_24 false h35 n36 (fun k38 => bindP (intB .lss t23_26 t25_34) fun t26_42 => k38 t26_42 h35 n36) fun t26_39 h40 n41 => ifP t21_24 false h40 n41 (fun k43 => k43 t26_39 h40 n41) fun t27_44 h45 n46 => ifP t27_44 true h45 n46 (fun k47 => k47 (e 0) h45 n46) fun t28_48 h49 n50 => ifP t27_44 true h49 n50 (fun k51 => k51 (e 6) h49 n50) fun t29_52 h53 n54 => ifP t27_44 true h53 n54 (fun k55 => bindP (ixSl 1 t28_48 t29_52) fun t30_59 => k55 t30_59 h53 n54) fun t30_56 h57 n58 => ifP t27_44 true h57 n58 (fun k60 => bindP (load1 ro h57 t30_56) fun t31_64 => k60 t31_64 h57 n58) fun t31_61 h62 n63 => ifP t27_44 true h62 n63 (fun k65 => k65 (e 1) h62 n63) fun t32_66 h67 n68 => ifP t27_44 true h67 n68 (fun k69 => k69 (e 7) h67 n68) fun t33_70 h71 n72 => ifP t27_44 true h71 n72 (fun k73 => bindP (ixSl 1 t32_66 t33_70) fun t34_77 => k73 t34_77 h71 n72) fun t34_74 h75 n76 => ifP t27_44 true h75 n76 (fun k78 => bindP (load1 ro h75 t34_74) fun t35_82 => k78 t35_82 h75 n76) fun t35_79 h80 n81 => ifP t27_44 true h80 n81 (fun k83 => bindP (intB .lss t31_61 t35_79) fun t36_87 => k83 t36_87 h80 n81) fun t36_84 h85 n86 => ifP t21_24 false h85 n86 (fun k88 => bindP (pickV t27_44 t36_84 (Value.bool false)) fun t37_92 => k88 t37_92 h85 n86) fun t37_89 h90 n91 => bindP (pickV t21_24 (Value.bool true) t37_89) fun t38_93 => condP t38_93 (bindP (ixSl 1 (e 0) (e 6)) fun t42_94 => bindP (load1 ro h90 t42_94) fun t43_95 => bindP (sliceLitV Try.prog y_s_int (n91 + 5) 1 [(0, t43_95)]) fun r96 => optP h90 (n91 + 5) r96.2 fun h97 => bindP (appendV Try.prog ro h97 (n91 + 7) #[y_s_int, y_s_int] [(e 5), r96.1]) fun r98 => bindP (intB .add (e 6) (Value.int IntKind.i64 1)) fun t47_99 => Q .normal (puts e [(8, (e 6)), (9, (e 0)), (10, t10_2), (11, t11_3), (12, t11_3), (13, t13_5), (14, t14_9), (15, t15_13), (16, t16_18), (17, t17_22), (18, (e 7)), (19, (e 1)), (20, t20_23), (21, t21_24), (22, t21_24), (23, t23_26), (24, t24_30), (25, t25_34), (26, t26_39), (27, t27_44), (28, t28_48), (29, t29_52), (30, t30_56), (31, t31_61), (32, t32_66), (33, t33_70), (34, t34_74), (35, t35_79), (36, t36_84), (37, t37_89), (38, t38_93), (39, (e 5)), (40, (e 0)), (41, (e 6)), (42, t42_94), (43, t43_95), (44, r96.1), (45, r98.1), (5, r98.1), (46, (e 6)), (47, t47_99), (6, t47_99)]) r98.2.1 (r98.2.2 + 4)) (bindP (lenSl (e 0)) fun t50_106 => bindP (intB .lss (e 6) t50_106) fun t51_107 => ifP t51_107 true h90 (n91 + 15) (fun k108 => k108 (e 0) h90 (n91 + 15)) fun t53_109 h110 n111 => ifP t51_107 true h110 n111 (fun k112 => k112 (e 6) h110 n111) fun t54_113 h114 n115 => ifP t51_107 true h114 n115 (fun k116 => bindP (ixSl 1 t53_109 t54_113) fun t55_120 => k116 t55_120 h114 n115) fun t55_117 h118 n119 => ifP t51_107 true h118 n119 (fun k121 => bindP (load1 ro h118 t55_117) fun t56_125 => k121 t56_125 h118 n119) fun t56_122 h123 n124 => ifP t51_107 true h123 n124 (fun k126 => k126 (e 1) h123 n124) fun t57_127 h128 n129 => ifP t51_107 true h128 n129 (fun k130 => k130 (e 7) h128 n129) fun t58_131 h132 n133 => ifP t51_107 true h132 n133 (fun k134 => bindP (ixSl 1 t57_127 t58_131) fun t59_138 => k134 t59_138 h132 n133) fun t59_135 h136 n137 => ifP t51_107 true h136 n137 (fun k139 => bindP (load1 ro h136 t59_135) fun t60_143 => k139 t60_143 h136 n137) fun t60_140 h141 n142 => ifP t51_107 true h141 n142 (fun k144 => bindP (intB .eql t56_122 t60_140) fun t61_148 => k144 t61_148 h141 n142) fun t61_145 h146 n147 => bindP (pickV t51_107 t61_145 (Value.bool false)) fun t62_149 => condP t62_149 (bindP (intB .add (e 6) (Value.int IntKind.i64 1)) fun t64_150 => ref09_both_j2 ro Q (puts e [(8, (e 6)), (9, (e 0)), (10, t10_2), (11, t11_3), (12, t11_3), (13, t13_5), (14, t14_9), (15, t15_13), (16, t16_18), (17, t17_22), (18, (e 7)), (19, (e 1)), (20, t20_23), (21, t21_24), (22, t21_24), (23, t23_26), (24, t24_30), (25, t25_34), (26, t26_39), (27, t27_44), (28, t28_48), (29, t29_52), (30, t30_56), (31, t31_61), (32, t32_66), (33, t33_70), (34, t34_74), (35, t35_79), (36, t36_84), (37, t37_89), (38, t38_93), (48, (e 6)), (49, (e 0)), (50, t50_106), (51, t51_107), (52, t51_107), (53, t53_109), (54, t54_113), (55, t55_117), (56, t56_122), (57, t57_127), (58, t58_131), (59, t59_135), (60, t60_140), (61, t61_145), (62, t62_149), (63, (e 6)), (64, t64_150), (6, t64_150)]) h146 (n147 + 3)) (ref09_both_j2 ro Q (puts e [(8, (e 6)), (9, (e 0)), (10, t10_2), (11, t11_3), (12, t11_3), (13, t13_5), (14, t14_9), (15, t15_13), (16, t16_18), (17, t17_22), (18, (e 7)), (19, (e 1)), (20, t20_23), (21, t21_24), (22, t21_24), (23, t23_26), (24, t24_30), (25, t25_34), (26, t26_39), (27, t27_44), (28, t28_48), (29, t29_52), (30, t30_56), (31, t31_61), (32, t32_66), (33, t33_70), (34, t34_74), (35, t35_79), (36, t36_84), (37, t37_89), (38, t38_93), (48, (e 6)), (49, (e 0)), (50, t50_106), (51, t51_107), (52, t51_107), (53, t53_109), (54, t54_113), (55, t55_117), (56, t56_122), (57, t57_127), (58, t58_131), (59, t59_135), (60, t60_140), (61, t61_145), (62, t62_149)]) h146 n147))) (Q (.exit 0) (puts e [(8, (e 6)), (9, (e 0)), (10, t10_2), (11, t11_3), (12, t11_3), (13, t13_5), (14, t14_9), (15, t15_13), (16, t16_18), (17, t17_22)]) h19 (n20 + 1))
@[irreducible] def ref09_both (ro : Ro) (v0 v1 : Value) (h : T Obj) (nx : Nat) (K : KV) : Prop := loopP (ref09_both_L1 ro) (puts (entE [v0, v1]) [(4, (Value.slice none 0 0)), (5, (Value.slice none 0 0)), (6, (Value.int IntKind.i64 0)), (7, (Value.int IntKind.i64 0))]) h (nx + 4) fun x154 e151 h152 n153 => exP x154 (ref09_both_j1 ro K e151 h152 n153) (fun i155 => beqP (Nat.beq i155 0) (ref09_both_j1 ro K e151 h152 n153) (False)) (∃ h156, Sub h156 h152 ∧ K (e151 4) h156 n153)
theorem ref09_both_eq (ro : Ro) (v0 v1 : Value) (h : T Obj) (nx : Nat) (K : KV) : callPre Try.prog ro (callP Try.prog ro) Try.f39 [v0, v1] h nx K = ref09_both ro v0 v1 h nx K := by kernel_rfl
theorem ref09_both_of {ro : Ro} {v0 v1 : Value} {h : T Obj} {nx : Nat} {K : KV} (hw : ref09_both ro v0 v1 h nx K) : callP Try.prog ro i_ref09_both [v0, v1] h nx K := callP_by (P := Try.prog) (fn := Try.f39) (by kernel_rfl) (by kernel_rfl) (by kernel_rfl) (Eq.mpr (ref09_both_eq ro v0 v1 h nx K) hw)
@[irreducible] def ref07_Ends_j1 (ro : Ro) (K : KV) : Env → T Obj → Nat → Prop := fun e h nx => ∃ h45, Sub h45 h ∧ K (e 9) h45 (nx + 2)
@[irreducible] def ref07_Ends_j2 (ro : Ro) (Q : KE) : Env → T Obj → Nat → Prop := fun e h nx => bindP (intB .add (e 10) (Value.int IntKind.i64 1)) fun t41_48 => Q .normal (puts e [(40, (e 10)), (41, t41_48), (10, t41_48)]) h (nx + 3)
@[irreducible] def ref07_Ends_L1 (ro : Ro) : PT := fun e h nx Q => bindP (lenSl (e 8)) fun t38_46 => bindP (intB .lss (e 10) t38_46) fun t39_47 => condP t39_47 (bindP (ixSl 1 (e 8) (e 10)) fun t44_49 => bindP (load1 ro h t44_49) fun t45_50 => condP t45_50 (bindP (sliceLitV Try.prog y_s_int (nx + 10) 1 [(0, (e 10))]) fun r51 => optP h (nx + 10) r51.2 fun h52 => bindP (appendV Try.prog ro h52 (nx + 12) #[y_s_int, y_s_int] [(e 9), r51.1]) fun r53 => ref07_Ends_j2 ro Q (puts e [(36, (e 10)), (37, (e 8)), (38, t38_46), (39, t39_47), (42, (e 8)), (43, (e 10)), (44, t44_49), (45, t45_50), (46, (e 9)), (47, (e 10)), (48, r51.1), (49, r53.1), (9, r53.1)]) r53.2.1 (r53.2.2 + 1)) (ref07_Ends_j2 ro Q (puts e [(36, (e 10)), (37, (e 8)), (38, t38_46), (39, t39_47), (42, (e 8)), (43, (e 10)), (44, t44_49), (45, t45_50)]) h (nx + 8))) (Q (.exit 0) (puts e [(36, (e 10)), (37, (e 8)), (38, t38_46), (39, t39_47)]) h (nx + 4))
@[irreducible] def ref07_Ends (ro : Ro) (v0 v1 v2 : Value) (h : T Obj) (nx : Nat) (K : KV) : Prop := callP Try.prog ro i_ref06_Plain [v0] h (nx + 3) fun t12_1 h2 n3 => bindP (unV .not t12_1) fun t13_4 => ifP t13_4 false h2 (n3 + 2) (fun k5 => k5 v2 h2 (n3 + 3)) fun t15_6 h7 n8 => ifP t13_4 false h7 n8 (fun k9 => bindP (intB .lss t15_6 (Value.int IntKind.i64 0)) fun t16_13 => k9 t16_13 h7 (n8 + 1)) fun t16_10 h11 n12 => bindP (pickV t13_4 (Value.bool true) t16_10) fun t17_14 => ifP t17_14 false h11 (n12 + 2) (fun k15 => k15 v2 h11 (n12 + 3)) fun t19_16 h17 n18 => ifP t17_14 false h17 n18 (fun k19 => k19 v1 h17 (n18 + 1)) fun t20_20 h21 n22 => ifP t17_14 false h21 n22 (fun k23 => bindP (lenStr t20_20) fun t21_27 => k23 t21_27 h21 (n22 + 1)) fun t21_24 h25 n26 => ifP t17_14 false h25 n26 (fun k28 => bindP (intB .gtr t19_16 t21_24) fun t22_32 => k28 t22_32 h25 (n26 + 1)) fun t22_29 h30 n31 => bindP (pickV t17_14 (Value.bool true) t22_29) fun t23_33 => condP t23_33 (∃ h34, Sub h34 h30 ∧ K (Value.slice none 0 0) h34 (n31 + 2)) (callP Try.prog ro i_ref07_places [v1] h30 (n31 + 3) fun t25_35 h36 n37 => bindP (ixSl 1 t25_35 v2) fun t28_38 => bindP (storeN 1 h36 t28_38 (Value.bool true)) fun h39 => bindP (lenSl v0) fun t31_40 => bindP (intB .sub t31_40 (Value.int IntKind.i64 1)) fun t32_41 => callP Try.prog ro i_ref07_ends [v0, t32_41, v1, t25_35] h39 (n37 + 12) fun t35_42 h43 n44 => loopP (ref07_Ends_L1 ro) (puts (entE [v0, v1, v2]) [(6, (Value.slice none 0 0)), (11, v0), (12, t12_1), (13, t13_4), (14, t13_4), (15, t15_6), (16, t16_10), (17, t17_14), (18, t17_14), (19, t19_16), (20, t20_20), (21, t21_24), (22, t22_29), (23, t23_33), (24, v1), (25, t25_35), (7, t25_35), (26, t25_35), (27, v2), (28, t28_38), (29, v0), (30, v0), (31, t31_40), (32, t32_41), (33, v1), (34, t25_35), (35, t35_42), (8, t35_42), (9, (Value.slice none 0 0)), (10, (Value.int IntKind.i64 0))]) h43 (n44 + 3) fun x57 e54 h55 n56 => exP x57 (ref07_Ends_j1 ro K e54 h55 n56) (fun i58 => beqP (Nat.beq i58 0) (ref07_Ends_j1 ro K e54 h55 n56) (False)) (∃ h59, Sub h59 h55 ∧ K (e54 6) h59 n56))
theorem ref07_Ends_eq (ro : Ro) (v0 v1 v2 : Value) (h : T Obj) (nx : Nat) (K : KV) : callPre Try.prog ro (callP Try.prog ro) Try.f40 [v0, v1, v2] h nx K = ref07_Ends ro v0 v1 v2 h nx K := by kernel_rfl
theorem ref07_Ends_of {ro : Ro} {v0 v1 v2 : Value} {h : T Obj} {nx : Nat} {K : KV} (hw : ref07_Ends ro v0 v1 v2 h nx K) : callP Try.prog ro i_ref07_Ends [v0, v1, v2] h nx K := callP_by (P := Try.prog) (fn := Try.f40) (by kernel_rfl) (by kernel_rfl) (by kernel_rfl) (Eq.mpr (ref07_Ends_eq ro v0 v1 v2 h nx K) hw)
@[irreducible] def ref04_Right_j2 (ro : Ro) (K : KV) : Env → T Obj → Nat → Prop := fun e h nx => ∃ h52, Sub h52 h ∧ K (Value.bool true) h52 (nx + 1)
@[irreducible] def ref04_Right_L1 (ro : Ro) : PT := fun e h nx Q => bindP (lenSl (e 4)) fun t46_53 => bindP (intB .lss (e 6) t46_53) fun t47_54 => condP t47_54 (bindP (ixSl 1 (e 4) (e 6)) fun t52_55 => bindP (load1 ro h t52_55) fun t53_56 => bindP (intB .neq t53_56 (e 6)) fun t55_57 => condP t55_57 (Q .ret (puts e [(44, (e 6)), (45, (e 4)), (46, t46_53), (47, t47_54), (50, (e 4)), (51, (e 6)), (52, t52_55), (53, t53_56), (54, (e 6)), (55, t55_57), (2, (Value.bool false))]) h (nx + 11)) (bindP (intB .add (e 6) (Value.int IntKind.i64 1)) fun t49_58 => Q .normal (puts e [(44, (e 6)), (45, (e 4)), (46, t46_53), (47, t47_54), (50, (e 4)), (51, (e 6)), (52, t52_55), (53, t53_56), (54, (e 6)), (55, t55_57), (48, (e 6)), (49, t49_58), (6, t49_58)]) h (nx + 13))) (Q (.exit 2) (puts e [(44, (e 6)), (45, (e 4)), (46, t46_53), (47, t47_54)]) h (nx + 4))
@[irreducible] def ref04_Right_j1 (ro : Ro) (K : KV) : Env → T Obj → Nat → Prop := fun e h nx => bindP (lenSl (e 0)) fun t30_19 => bindP (intB .sub t30_19 (Value.int IntKind.i64 1)) fun t31_20 => callP Try.prog ro i_ref04_walk [(e 0), t31_20, (Value.slice none 0 0)] h (nx + 5) fun t32_21 h22 n23 => bindP (nth 0 t32_21) fun t33_24 => bindP (nth 1 t32_21) fun t34_25 => bindP (unV .not t34_25) fun t36_26 => ifP t36_26 false h22 (n23 + 8) (fun k27 => k27 t33_24 h22 (n23 + 9)) fun t38_28 h29 n30 => ifP t36_26 false h29 n30 (fun k31 => bindP (lenSl t38_28) fun t39_35 => k31 t39_35 h29 (n30 + 1)) fun t39_32 h33 n34 => ifP t36_26 false h33 n34 (fun k36 => k36 (e 0) h33 (n34 + 1)) fun t40_37 h38 n39 => ifP t36_26 false h38 n39 (fun k40 => bindP (lenSl t40_37) fun t41_44 => k40 t41_44 h38 (n39 + 1)) fun t41_41 h42 n43 => ifP t36_26 false h42 n43 (fun k45 => bindP (intB .neq t39_32 t41_41) fun t42_49 => k45 t42_49 h42 (n43 + 1)) fun t42_46 h47 n48 => bindP (pickV t36_26 (Value.bool true) t42_46) fun t43_50 => condP t43_50 (∃ h51, Sub h51 h47 ∧ K (Value.bool false) h51 (n48 + 2)) (loopP (ref04_Right_L1 ro) (puts e [(28, (e 0)), (29, (e 0)), (30, t30_19), (31, t31_20), (32, t32_21), (27, t32_21), (33, t33_24), (34, t34_25), (4, t33_24), (5, t34_25), (35, t34_25), (36, t36_26), (37, t36_26), (38, t38_28), (39, t39_32), (40, t40_37), (41, t41_41), (42, t42_46), (43, t43_50), (6, (Value.int IntKind.i64 0))]) h47 (n48 + 2) fun x62 e59 h60 n61 => exP x62 (ref04_Right_j2 ro K e59 h60 n61) (fun i63 => beqP (Nat.beq i63 2) (ref04_Right_j2 ro K e59 h60 n61) (False)) (∃ h64, Sub h64 h60 ∧ K (e59 2) h64 n61))
@[irreducible] def ref04_Right_L2 (ro : Ro) : PT := fun e h nx Q => bindP (lenSl (e 0)) fun t17_65 => bindP (intB .lss (e 3) t17_65) fun t18_66 => condP t18_66 (bindP (ixSl 9 (e 0) (e 3)) fun t23_67 => bindP (loadA ro h 9 t23_67) fun t24_68 => callP Try.prog ro i_ref04_shape [t24_68] h (nx + 9) fun t25_69 h70 n71 => bindP (unV .not t25_69) fun t26_72 => condP t26_72 (Q .ret (puts e [(15, (e 3)), (16, (e 0)), (17, t17_65), (18, t18_66), (21, (e 0)), (22, (e 3)), (23, t23_67), (24, t24_68), (25, t25_69), (26, t26_72), (2, (Value.bool false))]) h70 (n71 + 2)) (bindP (intB .add (e 3) (Value.int IntKind.i64 1)) fun t20_73 => Q .normal (puts e [(15, (e 3)), (16, (e 0)), (17, t17_65), (18, t18_66), (21, (e 0)), (22, (e 3)), (23, t23_67), (24, t24_68), (25, t25_69), (26, t26_72), (19, (e 3)), (20, t20_73), (3, t20_73)]) h70 (n71 + 4))) (Q (.exit 0) (puts e [(15, (e 3)), (16, (e 0)), (17, t17_65), (18, t18_66)]) h (nx + 4))
@[irreducible] def ref04_Right (ro : Ro) (v0 : Value) (h : T Obj) (nx : Nat) (K : KV) : Prop := bindP (lenSl v0) fun t8_1 => bindP (intB .lss t8_1 (Value.int IntKind.i64 1)) fun t9_2 => ifP t9_2 false h (nx + 5) (fun k3 => k3 v0 h (nx + 6)) fun t11_4 h5 n6 => ifP t9_2 false h5 n6 (fun k7 => bindP (lenSl t11_4) fun t12_11 => k7 t12_11 h5 (n6 + 1)) fun t12_8 h9 n10 => ifP t9_2 false h9 n10 (fun k12 => bindP (intB .gtr t12_8 (Value.int IntKind.i64 1024)) fun t13_16 => k12 t13_16 h9 (n10 + 1)) fun t13_13 h14 n15 => bindP (pickV t9_2 (Value.bool true) t13_13) fun t14_17 => condP t14_17 (∃ h18, Sub h18 h14 ∧ K (Value.bool false) h18 (n15 + 2)) (loopP (ref04_Right_L2 ro) (puts (entE [v0]) [(2, (Value.bool false)), (7, v0), (8, t8_1), (9, t9_2), (10, t9_2), (11, t11_4), (12, t12_8), (13, t13_13), (14, t14_17), (3, (Value.int IntKind.i64 0))]) h14 (n15 + 2) fun x77 e74 h75 n76 => exP x77 (ref04_Right_j1 ro K e74 h75 n76) (fun i78 => beqP (Nat.beq i78 0) (ref04_Right_j1 ro K e74 h75 n76) (False)) (∃ h79, Sub h79 h75 ∧ K (e74 2) h79 n76))
theorem ref04_Right_eq (ro : Ro) (v0 : Value) (h : T Obj) (nx : Nat) (K : KV) : callPre Try.prog ro (callP Try.prog ro) Try.f45 [v0] h nx K = ref04_Right ro v0 h nx K := by kernel_rfl
theorem ref04_Right_of {ro : Ro} {v0 : Value} {h : T Obj} {nx : Nat} {K : KV} (hw : ref04_Right ro v0 h nx K) : callP Try.prog ro i_ref04_Right [v0] h nx K := callP_by (P := Try.prog) (fn := Try.f45) (by kernel_rfl) (by kernel_rfl) (by kernel_rfl) (Eq.mpr (ref04_Right_eq ro v0 h nx K) hw)
@[irreducible] def ref09_builder_put (ro : Ro) (v0 v1 : Value) (h : T Obj) (nx : Nat) (K : KV) : Prop := newP h nx (.cells (Value.cells v1) y_api_Pos) fun h1 => bindP (zer Try.prog y_raddleref09_info) fun z2 => newP h1 (nx + 1) (.cells z2.cells y_raddleref09_info) fun h3 => bindP (nilCk v0) fun t8_4 => bindP (fwdP 0 t8_4) fun t9_5 => bindP (load1 ro h3 t9_5) fun t10_6 => bindP (loadA ro h3 9 (ptr nx)) fun t11_7 => bindP (sliceLitV Try.prog y_s_api_Pos (nx + 8) 1 [(0, t11_7)]) fun r8 => optP h3 (nx + 8) r8.2 fun h9 => bindP (appendV Try.prog ro h9 (nx + 13) #[y_s_api_Pos, y_s_api_Pos] [t10_6, r8.1]) fun r10 => bindP (nilCk v0) fun t14_11 => bindP (fwdP 0 t14_11) fun t15_12 => bindP (storeN 1 r10.2.1 t15_12 r10.1) fun h13 => bindP (nilCk v0) fun t17_14 => bindP (fwdP 0 t17_14) fun t18_15 => bindP (load1 ro h13 t18_15) fun t19_16 => bindP (lenSl t19_16) fun t20_17 => bindP (intB .sub t20_17 (Value.int IntKind.i64 1)) fun t21_18 => bindP (sliceLitV Try.prog y_s_int (r10.2.2 + 6) 1 [(0, t21_18)]) fun r19 => optP h13 (r10.2.2 + 6) r19.2 fun h20 => bindP (buildV Try.prog y_raddleref09_info [(1, r19.1), (2, r19.1)]) fun t25_21 => bindP (storeN 3 h20 (ptr (nx + 1)) t25_21) fun h22 => bindP (loadA ro h22 3 (ptr (nx + 1))) fun r23 => ∃ h24, Sub h24 h22 ∧ K r23 h24 (r10.2.2 + 12)
theorem ref09_builder_put_eq (ro : Ro) (v0 v1 : Value) (h : T Obj) (nx : Nat) (K : KV) : callPre Try.prog ro (callP Try.prog ro) Try.f58 [v0, v1] h nx K = ref09_builder_put ro v0 v1 h nx K := by kernel_rfl
theorem ref09_builder_put_of {ro : Ro} {v0 v1 : Value} {h : T Obj} {nx : Nat} {K : KV} (hw : ref09_builder_put ro v0 v1 h nx K) : callP Try.prog ro i_ref09_builder_put [v0, v1] h nx K := callP_by (P := Try.prog) (fn := Try.f58) (by kernel_rfl) (by kernel_rfl) (by kernel_rfl) (Eq.mpr (ref09_builder_put_eq ro v0 v1 h nx K) hw)
@[irreducible] def ref09_builder_cat_j1 (ro : Ro) (K : KV) : Env → T Obj → Nat → Prop := fun e h nx => bindP (loadA ro h 3 (e 5)) fun t51_7 => bindP (storeN 3 h (e 4) t51_7) fun h8 => bindP (loadA ro h8 3 (e 4)) fun r9 => ∃ h10, Sub h10 h8 ∧ K r9 h10 (nx + 2)
@[irreducible] def ref09_builder_cat_j2 (ro : Ro) (Q : KE) : Env → T Obj → Nat → Prop := fun e h nx => bindP (intB .add (e 6) (Value.int IntKind.i64 1)) fun t14_13 => Q .normal (puts e [(13, (e 6)), (14, t14_13), (6, t14_13)]) h (nx + 3)
@[irreducible] def ref09_builder_cat_j4 (ro : Ro) (Q : KE) : Env → T Obj → Nat → Prop := fun e h nx => bindP (fwdP 0 (e 5)) fun t44_26 => bindP (load1 ro h t44_26) fun t45_27 => ifP t45_27 true h (nx + 3) (fun k28 => bindP (fwdP 0 (e 7)) fun t47_32 => k28 t47_32 h (nx + 4)) fun t47_29 h30 n31 => ifP t45_27 true h30 n31 (fun k33 => bindP (load1 ro h30 t47_29) fun t48_37 => k33 t48_37 h30 (n31 + 1)) fun t48_34 h35 n36 => bindP (pickV t45_27 t48_34 (Value.bool false)) fun t49_38 => bindP (fwdP 0 (e 5)) fun t50_39 => bindP (storeN 1 h35 t50_39 t49_38) fun h40 => ref09_builder_cat_j2 ro Q (puts e [(44, t44_26), (45, t45_27), (46, t45_27), (47, t47_29), (48, t48_34), (49, t49_38), (50, t50_39)]) h40 (n36 + 3)
@[irreducible] def ref09_builder_cat_j3 (ro : Ro) (Q : KE) : Env → T Obj → Nat → Prop := fun e h nx => bindP (fwdP 0 (e 7)) fun t33_41 => bindP (load1 ro h t33_41) fun t34_42 => condP t34_42 (bindP (fwdP 2 (e 5)) fun t35_43 => bindP (load1 ro h t35_43) fun t36_44 => bindP (fwdP 2 (e 7)) fun t37_45 => bindP (load1 ro h t37_45) fun t38_46 => callP Try.prog ro i_ref09_both [t36_44, t38_46] h (nx + 7) fun t39_47 h48 n49 => bindP (fwdP 2 (e 5)) fun t40_50 => bindP (storeN 1 h48 t40_50 t39_47) fun h51 => ref09_builder_cat_j4 ro Q (puts e [(33, t33_41), (34, t34_42), (35, t35_43), (36, t36_44), (37, t37_45), (38, t38_46), (39, t39_47), (40, t40_50)]) h51 (n49 + 2)) (bindP (fwdP 2 (e 7)) fun t41_52 => bindP (load1 ro h t41_52) fun t42_53 => bindP (fwdP 2 (e 5)) fun t43_54 => bindP (storeN 1 h t43_54 t42_53) fun h55 => ref09_builder_cat_j4 ro Q (puts e [(33, t33_41), (34, t34_42), (41, t41_52), (42, t42_53), (43, t43_54)]) h55 (nx + 6))
@[irreducible] def ref09_builder_cat_L1 (ro : Ro) : PT := fun e h nx Q => bindP (lenSl (e 1)) fun t11_11 => bindP (intB .lss (e 6) t11_11) fun t12_12 => condP t12_12 (bindP (ixSl 3 (e 1) (e 6)) fun t17_14 => bindP (loadA ro h 3 t17_14) fun t18_15 => bindP (zer Try.prog y_raddleref09_info) fun z16 => newP h (nx + 8) (.cells z16.cells y_raddleref09_info) fun h17 => bindP (storeN 3 h17 (ptr (nx + 8)) t18_15) fun h18 => bindP (fwdP 2 (e 5)) fun t20_19 => bindP (load1 ro h18 t20_19) fun t21_20 => bindP (fwdP 1 (ptr (nx + 8))) fun t22_21 => bindP (load1 ro h18 t22_21) fun t23_22 => callP Try.prog ro i_ref09_builder_link [(e 0), t21_20, t23_22] h18 (nx + 16) fun t24_23 h24 n25 => bindP (fwdP 0 (e 5)) fun t25_56 => bindP (load1 ro h24 t25_56) fun t26_57 => condP t26_57 (bindP (fwdP 1 (e 5)) fun t27_58 => bindP (load1 ro h24 t27_58) fun t28_59 => bindP (fwdP 1 (ptr (nx + 8))) fun t29_60 => bindP (load1 ro h24 t29_60) fun t30_61 => callP Try.prog ro i_ref09_both [t28_59, t30_61] h24 (n25 + 7) fun t31_62 h63 n64 => bindP (fwdP 1 (e 5)) fun t32_65 => bindP (storeN 1 h63 t32_65 t31_62) fun h66 => ref09_builder_cat_j3 ro Q (puts e [(9, (e 6)), (10, (e 1)), (11, t11_11), (12, t12_12), (15, (e 1)), (16, (e 6)), (17, t17_14), (18, t18_15), (7, (ptr (nx + 8))), (19, (e 0)), (20, t20_19), (21, t21_20), (22, t22_21), (23, t23_22), (24, t24_23), (25, t25_56), (26, t26_57), (27, t27_58), (28, t28_59), (29, t29_60), (30, t30_61), (31, t31_62), (32, t32_65)]) h66 (n64 + 2)) (ref09_builder_cat_j3 ro Q (puts e [(9, (e 6)), (10, (e 1)), (11, t11_11), (12, t12_12), (15, (e 1)), (16, (e 6)), (17, t17_14), (18, t18_15), (7, (ptr (nx + 8))), (19, (e 0)), (20, t20_19), (21, t21_20), (22, t22_21), (23, t23_22), (24, t24_23), (25, t25_56), (26, t26_57)]) h24 (n25 + 2))) (Q (.exit 0) (puts e [(9, (e 6)), (10, (e 1)), (11, t11_11), (12, t12_12)]) h (nx + 4))
@[irreducible] def ref09_builder_cat (ro : Ro) (v0 v1 : Value) (h : T Obj) (nx : Nat) (K : KV) : Prop := bindP (zer Try.prog y_raddleref09_info) fun z1 => newP h nx (.cells z1.cells y_raddleref09_info) fun h2 => bindP (buildV Try.prog y_raddleref09_info [(0, (Value.bool true))]) fun t8_3 => bindP (zer Try.prog y_raddleref09_info) fun z4 => newP h2 (nx + 2) (.cells z4.cells y_raddleref09_info) fun h5 => bindP (storeN 3 h5 (ptr (nx + 2)) t8_3) fun h6 => loopP (ref09_builder_cat_L1 ro) (puts (entE [v0, v1]) [(4, (ptr nx)), (8, t8_3), (5, (ptr (nx + 2))), (6, (Value.int IntKind.i64 0))]) h6 (nx + 5) fun x70 e67 h68 n69 => exP x70 (ref09_builder_cat_j1 ro K e67 h68 n69) (fun i71 => beqP (Nat.beq i71 0) (ref09_builder_cat_j1 ro K e67 h68 n69) (False)) (bindP (loadA ro h68 3 (e67 4)) fun r72 => ∃ h73, Sub h73 h68 ∧ K r72 h73 n69)
theorem ref09_builder_cat_eq (ro : Ro) (v0 v1 : Value) (h : T Obj) (nx : Nat) (K : KV) : callPre Try.prog ro (callP Try.prog ro) Try.f59 [v0, v1] h nx K = ref09_builder_cat ro v0 v1 h nx K := by kernel_rfl
theorem ref09_builder_cat_of {ro : Ro} {v0 v1 : Value} {h : T Obj} {nx : Nat} {K : KV} (hw : ref09_builder_cat ro v0 v1 h nx K) : callP Try.prog ro i_ref09_builder_cat [v0, v1] h nx K := callP_by (P := Try.prog) (fn := Try.f59) (by kernel_rfl) (by kernel_rfl) (by kernel_rfl) (Eq.mpr (ref09_builder_cat_eq ro v0 v1 h nx K) hw)
@[irreducible] def ref09_builder_link_L1 (ro : Ro) : PT := fun e h nx Q => bindP (lenSl (e 1)) fun t9_1 => bindP (intB .lss (e 6) t9_1) fun t10_2 => condP t10_2 (bindP (nilCk (e 0)) fun t14_3 => bindP (fwdP 0 t14_3) fun t15_4 => bindP (load1 ro h t15_4) fun t16_5 => bindP (ixSl 1 (e 1) (e 6)) fun t19_6 => bindP (load1 ro h t19_6) fun t20_7 => bindP (nilCk (e 0)) fun t22_8 => bindP (fwdP 0 t22_8) fun t23_9 => bindP (load1 ro h t23_9) fun t24_10 => bindP (ixSl 1 (e 1) (e 6)) fun t27_11 => bindP (load1 ro h t27_11) fun t28_12 => bindP (ixSl 9 t24_10 t28_12) fun t29_13 => bindP (fwdP 8 t29_13) fun t30_14 => bindP (load1 ro h t30_14) fun t31_15 => callP Try.prog ro i_ref09_both [t31_15, (e 2)] h (nx + 28) fun t33_16 h17 n18 => (sameV t19_6 h h17) ∧ ((sameV t15_4 h h17) ∧ (bindP (ixSl 9 t16_5 t20_7) fun t34_19 => bindP (fwdP 8 t34_19) fun t35_20 => bindP (storeN 1 h17 t35_20 t33_16) fun h21 => bindP (intB .add (e 6) (Value.int IntKind.i64 1)) fun t12_22 => Q .normal (puts e [(7, (e 6)), (8, (e 1)), (9, t9_1), (10, t10_2), (13, (e 0)), (14, t14_3), (15, t15_4), (16, t16_5), (17, (e 1)), (18, (e 6)), (19, t19_6), (20, t20_7), (21, (e 0)), (22, t22_8), (23, t23_9), (24, t24_10), (25, (e 1)), (26, (e 6)), (27, t27_11), (28, t28_12), (29, t29_13), (30, t30_14), (31, t31_15), (32, (e 2)), (33, t33_16), (34, t34_19), (35, t35_20), (11, (e 6)), (12, t12_22), (6, t12_22)]) h21 (n18 + 3)))) (Q (.exit 0) (puts e [(7, (e 6)), (8, (e 1)), (9, t9_1), (10, t10_2)]) h (nx + 4))
@[irreducible] def ref09_builder_link (ro : Ro) (v0 v1 v2 : Value) (h : T Obj) (nx : Nat) (K : KV) : Prop := loopP (ref09_builder_link_L1 ro) (puts (entE [v0, v1, v2]) [(6, (Value.int IntKind.i64 0))]) h (nx + 1) fun x26 e23 h24 n25 => exP x26 (∃ h29, Sub h29 h24 ∧ K (.tuple #[]) h29 n25) (fun i27 => beqP (Nat.beq i27 0) (∃ h28, Sub h28 h24 ∧ K (.tuple #[]) h28 n25) (False)) (∃ h30, Sub h30 h24 ∧ K (.tuple #[]) h30 n25)
theorem ref09_builder_link_eq (ro : Ro) (v0 v1 v2 : Value) (h : T Obj) (nx : Nat) (K : KV) : callPre Try.prog ro (callP Try.prog ro) Try.f60 [v0, v1, v2] h nx K = ref09_builder_link ro v0 v1 v2 h nx K := by kernel_rfl
theorem ref09_builder_link_of {ro : Ro} {v0 v1 v2 : Value} {h : T Obj} {nx : Nat} {K : KV} (hw : ref09_builder_link ro v0 v1 v2 h nx K) : callP Try.prog ro i_ref09_builder_link [v0, v1, v2] h nx K := callP_by (P := Try.prog) (fn := Try.f60) (by kernel_rfl) (by kernel_rfl) (by kernel_rfl) (Eq.mpr (ref09_builder_link_eq ro v0 v1 v2 h nx K) hw)
@[irreducible] def ref07_places (ro : Ro) (v0 : Value) (h : T Obj) (nx : Nat) (K : KV) : Prop := bindP (lenStr v0) fun t4_1 => bindP (intB .add t4_1 (Value.int IntKind.i64 1)) fun t5_2 => bindP (makeV Try.prog y_s_bool (nx + 4) t5_2 t5_2) fun r3 => optP h (nx + 4) r3.2 fun h4 => ∃ h5, Sub h5 h4 ∧ K r3.1 h5 (nx + 6)
theorem ref07_places_eq (ro : Ro) (v0 : Value) (h : T Obj) (nx : Nat) (K : KV) : callPre Try.prog ro (callP Try.prog ro) Try.f61 [v0] h nx K = ref07_places ro v0 h nx K := by kernel_rfl
theorem ref07_places_of {ro : Ro} {v0 : Value} {h : T Obj} {nx : Nat} {K : KV} (hw : ref07_places ro v0 h nx K) : callP Try.prog ro i_ref07_places [v0] h nx K := callP_by (P := Try.prog) (fn := Try.f61) (by kernel_rfl) (by kernel_rfl) (by kernel_rfl) (Eq.mpr (ref07_places_eq ro v0 h nx K) hw)
@[irreducible] def ref07_ends_j1 (ro : Ro) (K : KV) : Env → T Obj → Nat → Prop := fun e h nx => ∃ h6, Sub h6 h ∧ K (e 3) h6 (nx + 2)
@[irreducible] def ref07_ends_L1 (ro : Ro) : PT := fun e h nx Q => bindP (fwdP 5 (e 9)) fun t29_17 => bindP (load1 ro h t29_17) fun t30_18 => bindP (lenSl t30_18) fun t31_19 => bindP (intB .lss (e 10) t31_19) fun t32_20 => condP t32_20 (bindP (fwdP 5 (e 9)) fun t36_21 => bindP (load1 ro h t36_21) fun t37_22 => bindP (ixSl 1 t37_22 (e 10)) fun t39_23 => bindP (load1 ro h t39_23) fun t40_24 => callP Try.prog ro i_ref07_ends [(e 0), t40_24, (e 2), (e 3)] h (nx + 14) fun t43_25 h26 n27 => bindP (intB .add (e 10) (Value.int IntKind.i64 1)) fun t34_28 => Q .normal (puts e [(28, (e 10)), (29, t29_17), (30, t30_18), (31, t31_19), (32, t32_20), (35, (e 0)), (36, t36_21), (37, t37_22), (38, (e 10)), (39, t39_23), (40, t40_24), (41, (e 2)), (42, (e 3)), (43, t43_25), (3, t43_25), (33, (e 10)), (34, t34_28), (10, t34_28)]) h26 (n27 + 4)) (Q (.exit 1) (puts e [(28, (e 10)), (29, t29_17), (30, t30_18), (31, t31_19), (32, t32_20)]) h (nx + 5))
@[irreducible] def ref07_ends_j2 (ro : Ro) (K : KV) : Env → T Obj → Nat → Prop := fun e h nx => ∃ h39, Sub h39 h ∧ K (e 11) h39 (nx + 2)
@[irreducible] def ref07_ends_L2 (ro : Ro) : PT := fun e h nx Q => bindP (fwdP 5 (e 9)) fun t49_40 => bindP (load1 ro h t49_40) fun t50_41 => bindP (lenSl t50_41) fun t51_42 => bindP (intB .lss (e 12) t51_42) fun t52_43 => condP t52_43 (bindP (fwdP 5 (e 9)) fun t57_44 => bindP (load1 ro h t57_44) fun t58_45 => bindP (ixSl 1 t58_45 (e 12)) fun t60_46 => bindP (load1 ro h t60_46) fun t61_47 => callP Try.prog ro i_ref07_ends [(e 0), t61_47, (e 2), (e 3)] h (nx + 15) fun t64_48 h49 n50 => callP Try.prog ro i_ref07_or [(e 11), t64_48] h49 (n50 + 1) fun t65_51 h52 n53 => bindP (intB .add (e 12) (Value.int IntKind.i64 1)) fun t54_54 => Q .normal (puts e [(48, (e 12)), (49, t49_40), (50, t50_41), (51, t51_42), (52, t52_43), (55, (e 11)), (56, (e 0)), (57, t57_44), (58, t58_45), (59, (e 12)), (60, t60_46), (61, t61_47), (62, (e 2)), (63, (e 3)), (64, t64_48), (65, t65_51), (11, t65_51), (53, (e 12)), (54, t54_54), (12, t54_54)]) h52 (n53 + 4)) (Q (.exit 3) (puts e [(48, (e 12)), (49, t49_40), (50, t50_41), (51, t51_42), (52, t52_43)]) h (nx + 5))
@[irreducible] def ref07_ends (ro : Ro) (v0 v1 v2 v3 : Value) (h : T Obj) (nx : Nat) (K : KV) : Prop := bindP (ixSl 9 v0 v1) fun t15_1 => bindP (loadA ro h 9 t15_1) fun t16_2 => bindP (zer Try.prog y_api_Node) fun z3 => newP h (nx + 5) (.cells z3.cells y_api_Node) fun h4 => bindP (storeN 9 h4 (ptr (nx + 5)) t16_2) fun h5 => bindP (fwdP 0 (ptr (nx + 5))) fun t17_7 => bindP (load1 ro h5 t17_7) fun t18_8 => bindP (intB .eql t18_8 (Value.int IntKind.u8 2)) fun t20_9 => condP t20_9 (bindP (fwdP 1 (ptr (nx + 5))) fun t21_10 => bindP (loadA ro h5 4 t21_10) fun t22_11 => callP Try.prog ro i_ref07_one [t22_11, v2, v3] h5 (nx + 16) fun t25_12 h13 n14 => ∃ h15, Sub h15 h13 ∧ K t25_12 h15 (n14 + 1)) (bindP (intB .eql t18_8 (Value.int IntKind.u8 3)) fun t27_16 => condP t27_16 (loopP (ref07_ends_L1 ro) (puts (entE [v0, v1, v2, v3]) [(8, (Value.slice none 0 0)), (13, v0), (14, v1), (15, t15_1), (16, t16_2), (9, (ptr (nx + 5))), (17, t17_7), (18, t18_8), (20, t20_9), (19, t20_9), (27, t27_16), (26, t27_16), (10, (Value.int IntKind.i64 0))]) h5 (nx + 14) fun x32 e29 h30 n31 => exP x32 (ref07_ends_j1 ro K e29 h30 n31) (fun i33 => beqP (Nat.beq i33 1) (ref07_ends_j1 ro K e29 h30 n31) (beqP (Nat.beq i33 0) (ref07_ends_j1 ro K e29 h30 n31) (False))) (∃ h34, Sub h34 h30 ∧ K (e29 8) h34 n31)) (bindP (intB .eql t18_8 (Value.int IntKind.u8 4)) fun t45_35 => condP t45_35 (callP Try.prog ro i_ref07_places [v2] h5 (nx + 17) fun t47_36 h37 n38 => loopP (ref07_ends_L2 ro) (puts (entE [v0, v1, v2, v3]) [(8, (Value.slice none 0 0)), (13, v0), (14, v1), (15, t15_1), (16, t16_2), (9, (ptr (nx + 5))), (17, t17_7), (18, t18_8), (20, t20_9), (19, t20_9), (27, t27_16), (26, t27_16), (45, t45_35), (44, t45_35), (46, v2), (47, t47_36), (11, t47_36), (12, (Value.int IntKind.i64 0))]) h37 (n38 + 2) fun x58 e55 h56 n57 => exP x58 (ref07_ends_j2 ro K e55 h56 n57) (fun i59 => beqP (Nat.beq i59 3) (ref07_ends_j2 ro K e55 h56 n57) (beqP (Nat.beq i59 0) (ref07_ends_j1 ro K e55 h56 n57) (False))) (∃ h60, Sub h60 h56 ∧ K (e55 8) h60 n57)) (bindP (intB .eql t18_8 (Value.int IntKind.u8 5)) fun t68_61 => condP t68_61 (bindP (loadA ro h5 9 (ptr (nx + 5))) fun t70_62 => callP Try.prog ro i_ref07_rep [v0, t70_62, v2, v3] h5 (nx + 22) fun t73_63 h64 n65 => ∃ h66, Sub h66 h64 ∧ K t73_63 h66 (n65 + 1)) (ref07_ends_j1 ro K (puts (entE [v0, v1, v2, v3]) [(8, (Value.slice none 0 0)), (13, v0), (14, v1), (15, t15_1), (16, t16_2), (9, (ptr (nx + 5))), (17, t17_7), (18, t18_8), (20, t20_9), (19, t20_9), (27, t27_16), (26, t27_16), (45, t45_35), (44, t45_35), (68, t68_61), (67, t68_61)]) h5 (nx + 17)))))
theorem ref07_ends_eq (ro : Ro) (v0 v1 v2 v3 : Value) (h : T Obj) (nx : Nat) (K : KV) : callPre Try.prog ro (callP Try.prog ro) Try.f62 [v0, v1, v2, v3] h nx K = ref07_ends ro v0 v1 v2 v3 h nx K := by kernel_rfl
theorem ref07_ends_of {ro : Ro} {v0 v1 v2 v3 : Value} {h : T Obj} {nx : Nat} {K : KV} (hw : ref07_ends ro v0 v1 v2 v3 h nx K) : callP Try.prog ro i_ref07_ends [v0, v1, v2, v3] h nx K := callP_by (P := Try.prog) (fn := Try.f62) (by kernel_rfl) (by kernel_rfl) (by kernel_rfl) (Eq.mpr (ref07_ends_eq ro v0 v1 v2 v3 h nx K) hw)
@[irreducible] def ref04_shape_j1 (ro : Ro) (K : KV) : Env → T Obj → Nat → Prop := fun e h nx => ∃ h29, Sub h29 h ∧ K (Value.bool false) h29 (nx + 1)
@[irreducible] def ref04_shape_j2 (ro : Ro) (K : KV) : Env → T Obj → Nat → Prop := fun e h nx => condP (e 59) (bindP (unV .not (e 3)) fun t63_119 => ifP t63_119 true h (nx + 3) (fun k120 => k120 (e 4) h (nx + 4)) fun t65_121 h122 n123 => ifP t63_119 true h122 n123 (fun k124 => bindP (unV .not t65_121) fun t66_128 => k124 t66_128 h122 (n123 + 1)) fun t66_125 h126 n127 => bindP (pickV t63_119 t66_125 (Value.bool false)) fun t67_129 => ifP t67_129 true h126 (n127 + 2) (fun k130 => k130 (e 5) h126 (n127 + 3)) fun t69_131 h132 n133 => ifP t67_129 true h132 n133 (fun k134 => bindP (unV .not t69_131) fun t70_138 => k134 t70_138 h132 (n133 + 1)) fun t70_135 h136 n137 => bindP (pickV t67_129 t70_135 (Value.bool false)) fun t71_139 => ifP t71_139 true h136 (n137 + 2) (fun k140 => bindP (fwdP 5 (e 1)) fun t73_144 => k140 t73_144 h136 (n137 + 3)) fun t73_141 h142 n143 => ifP t71_139 true h142 n143 (fun k145 => bindP (load1 ro h142 t73_141) fun t74_149 => k145 t74_149 h142 (n143 + 1)) fun t74_146 h147 n148 => ifP t71_139 true h147 n148 (fun k150 => bindP (lenSl t74_146) fun t75_154 => k150 t75_154 h147 (n148 + 1)) fun t75_151 h152 n153 => ifP t71_139 true h152 n153 (fun k155 => bindP (intB .geq t75_151 (Value.int IntKind.i64 2)) fun t76_159 => k155 t76_159 h152 (n153 + 1)) fun t76_156 h157 n158 => bindP (pickV t71_139 t76_156 (Value.bool false)) fun t77_160 => ∃ h161, Sub h161 h157 ∧ K t77_160 h161 (n158 + 2)) (bindP (intB .eql (e 23) (Value.int IntKind.u8 5)) fun t79_162 => condP t79_162 (bindP (fwdP 7 (e 1)) fun t80_163 => bindP (load1 ro h t80_163) fun t81_164 => bindP (intB .eql t81_164 (Value.int IntKind.i64 (-1))) fun t82_165 => ifP t82_165 false h (nx + 6) (fun k166 => bindP (fwdP 7 (e 1)) fun t84_170 => k166 t84_170 h (nx + 7)) fun t84_167 h168 n169 => ifP t82_165 false h168 n169 (fun k171 => bindP (load1 ro h168 t84_167) fun t85_175 => k171 t85_175 h168 (n169 + 1)) fun t85_172 h173 n174 => ifP t82_165 false h173 n174 (fun k176 => bindP (intB .geq t85_172 (Value.int IntKind.i64 1)) fun t86_180 => k176 t86_180 h173 (n174 + 1)) fun t86_177 h178 n179 => ifP t82_165 false h178 n179 (fun k181 => k181 t86_177 h178 (n179 + 1)) fun t87_182 h183 n184 => ifP t87_182 true h183 n184 (fun k185 => bindP (fwdP 7 (e 1)) fun t88_189 => k185 t88_189 h183 (n184 + 1)) fun t88_186 h187 n188 => ifP t87_182 true h187 n188 (fun k190 => bindP (load1 ro h187 t88_186) fun t89_194 => k190 t89_194 h187 (n188 + 1)) fun t89_191 h192 n193 => ifP t87_182 true h192 n193 (fun k195 => bindP (intB .leq t89_191 (Value.int IntKind.i64 4096)) fun t90_199 => k195 t90_199 h192 (n193 + 1)) fun t90_196 h197 n198 => ifP t82_165 false h197 n198 (fun k200 => bindP (pickV t87_182 t90_196 (Value.bool false)) fun t91_204 => k200 t91_204 h197 (n198 + 1)) fun t91_201 h202 n203 => ifP t82_165 false h202 n203 (fun k205 => k205 t91_201 h202 (n203 + 1)) fun t92_206 h207 n208 => ifP t92_206 true h207 n208 (fun k209 => bindP (fwdP 7 (e 1)) fun t93_213 => k209 t93_213 h207 (n208 + 1)) fun t93_210 h211 n212 => ifP t92_206 true h211 n212 (fun k214 => bindP (load1 ro h211 t93_210) fun t94_218 => k214 t94_218 h211 (n212 + 1)) fun t94_215 h216 n217 => ifP t92_206 true h216 n217 (fun k219 => bindP (fwdP 6 (e 1)) fun t95_223 => k219 t95_223 h216 (n217 + 1)) fun t95_220 h221 n222 => ifP t92_206 true h221 n222 (fun k224 => bindP (load1 ro h221 t95_220) fun t96_228 => k224 t96_228 h221 (n222 + 1)) fun t96_225 h226 n227 => ifP t92_206 true h226 n227 (fun k229 => bindP (intB .geq t94_215 t96_225) fun t97_233 => k229 t97_233 h226 (n227 + 1)) fun t97_230 h231 n232 => ifP t82_165 false h231 n232 (fun k234 => bindP (pickV t92_206 t97_230 (Value.bool false)) fun t98_238 => k234 t98_238 h231 (n232 + 1)) fun t98_235 h236 n237 => bindP (pickV t82_165 (Value.bool true) t98_235) fun t99_239 => bindP (unV .not (e 3)) fun t101_240 => ifP t101_240 true h236 (n237 + 5) (fun k241 => k241 (e 5) h236 (n237 + 6)) fun t103_242 h243 n244 => ifP t101_240 true h243 n244 (fun k245 => bindP (unV .not t103_242) fun t104_249 => k245 t104_249 h243 (n244 + 1)) fun t104_246 h247 n248 => bindP (pickV t101_240 t104_246 (Value.bool false)) fun t105_250 => ifP t105_250 true h247 (n248 + 2) (fun k251 => bindP (fwdP 5 (e 1)) fun t107_255 => k251 t107_255 h247 (n248 + 3)) fun t107_252 h253 n254 => ifP t105_250 true h253 n254 (fun k256 => bindP (load1 ro h253 t107_252) fun t108_260 => k256 t108_260 h253 (n254 + 1)) fun t108_257 h258 n259 => ifP t105_250 true h258 n259 (fun k261 => bindP (lenSl t108_257) fun t109_265 => k261 t109_265 h258 (n259 + 1)) fun t109_262 h263 n264 => ifP t105_250 true h263 n264 (fun k266 => bindP (intB .eql t109_262 (Value.int IntKind.i64 1)) fun t110_270 => k266 t110_270 h263 (n264 + 1)) fun t110_267 h268 n269 => bindP (pickV t105_250 t110_267 (Value.bool false)) fun t111_271 => ifP t111_271 true h268 (n269 + 2) (fun k272 => bindP (fwdP 6 (e 1)) fun t113_276 => k272 t113_276 h268 (n269 + 3)) fun t113_273 h274 n275 => ifP t111_271 true h274 n275 (fun k277 => bindP (load1 ro h274 t113_273) fun t114_281 => k277 t114_281 h274 (n275 + 1)) fun t114_278 h279 n280 => ifP t111_271 true h279 n280 (fun k282 => bindP (intB .geq t114_278 (Value.int IntKind.i64 0)) fun t115_286 => k282 t115_286 h279 (n280 + 1)) fun t115_283 h284 n285 => bindP (pickV t111_271 t115_283 (Value.bool false)) fun t116_287 => ifP t116_287 true h284 (n285 + 2) (fun k288 => bindP (fwdP 6 (e 1)) fun t118_292 => k288 t118_292 h284 (n285 + 3)) fun t118_289 h290 n291 => ifP t116_287 true h290 n291 (fun k293 => bindP (load1 ro h290 t118_289) fun t119_297 => k293 t119_297 h290 (n291 + 1)) fun t119_294 h295 n296 => ifP t116_287 true h295 n296 (fun k298 => bindP (intB .leq t119_294 (Value.int IntKind.i64 4096)) fun t120_302 => k298 t120_302 h295 (n296 + 1)) fun t120_299 h300 n301 => bindP (pickV t116_287 t120_299 (Value.bool false)) fun t121_303 => ifP t121_303 true h300 (n301 + 2) (fun k304 => k304 t99_239 h300 (n301 + 3)) fun t123_305 h306 n307 => bindP (pickV t121_303 t123_305 (Value.bool false)) fun t124_308 => ∃ h309, Sub h309 h306 ∧ K t124_308 h309 (n307 + 2)) (bindP (intB .eql (e 23) (Value.int IntKind.u8 6)) fun t126_310 => condP t126_310 (bindP (unV .not (e 3)) fun t128_311 => ifP t128_311 true h (nx + 7) (fun k312 => k312 (e 4) h (nx + 8)) fun t130_313 h314 n315 => ifP t128_311 true h314 n315 (fun k316 => bindP (unV .not t130_313) fun t131_320 => k316 t131_320 h314 (n315 + 1)) fun t131_317 h318 n319 => bindP (pickV t128_311 t131_317 (Value.bool false)) fun t132_321 => ifP t132_321 true h318 (n319 + 2) (fun k322 => bindP (fwdP 8 (e 1)) fun t134_326 => k322 t134_326 h318 (n319 + 3)) fun t134_323 h324 n325 => ifP t132_321 true h324 n325 (fun k327 => bindP (load1 ro h324 t134_323) fun t135_331 => k327 t135_331 h324 (n325 + 1)) fun t135_328 h329 n330 => ifP t132_321 true h329 n330 (fun k332 => callP Try.prog ro i_ref04_Name [t135_328] h329 (n330 + 1) fun t136_336 h337 n338 => k332 t136_336 h337 n338) fun t136_333 h334 n335 => bindP (pickV t132_321 t136_333 (Value.bool false)) fun t137_339 => ifP t137_339 true h334 (n335 + 2) (fun k340 => bindP (fwdP 5 (e 1)) fun t139_344 => k340 t139_344 h334 (n335 + 3)) fun t139_341 h342 n343 => ifP t137_339 true h342 n343 (fun k345 => bindP (load1 ro h342 t139_341) fun t140_349 => k345 t140_349 h342 (n343 + 1)) fun t140_346 h347 n348 => ifP t137_339 true h347 n348 (fun k350 => bindP (lenSl t140_346) fun t141_354 => k350 t141_354 h347 (n348 + 1)) fun t141_351 h352 n353 => ifP t137_339 true h352 n353 (fun k355 => bindP (intB .eql t141_351 (Value.int IntKind.i64 0)) fun t142_359 => k355 t142_359 h352 (n353 + 1)) fun t142_356 h357 n358 => bindP (pickV t137_339 t142_356 (Value.bool false)) fun t143_360 => ∃ h361, Sub h361 h357 ∧ K t143_360 h361 (n358 + 2)) (ref04_shape_j1 ro K (puts e [(79, t79_162), (78, t79_162), (126, t126_310), (125, t126_310)]) h (nx + 4))))
@[irreducible] def ref04_shape (ro : Ro) (v0 : Value) (h : T Obj) (nx : Nat) (K : KV) : Prop := newP h nx (.cells (Value.cells v0) y_api_Node) fun h1 => bindP (fwdP 1 (ptr nx)) fun t7_2 => bindP (loadA ro h1 4 t7_2) fun t8_3 => bindP (buildV Try.prog y_api_Set []) fun t9_4 => bindP (plainTy Try.prog 20 y_api_Set) fun ks5 => bindP (aggB ks5 .neq t8_3 t9_4) fun t10_6 => bindP (fwdP 6 (ptr nx)) fun t11_7 => bindP (load1 ro h1 t11_7) fun t12_8 => bindP (intB .neq t12_8 (Value.int IntKind.i64 0)) fun t13_9 => ifP t13_9 false h1 (nx + 11) (fun k10 => bindP (fwdP 7 (ptr nx)) fun t15_14 => k10 t15_14 h1 (nx + 12)) fun t15_11 h12 n13 => ifP t13_9 false h12 n13 (fun k15 => bindP (load1 ro h12 t15_11) fun t16_19 => k15 t16_19 h12 (n13 + 1)) fun t16_16 h17 n18 => ifP t13_9 false h17 n18 (fun k20 => bindP (intB .neq t16_16 (Value.int IntKind.i64 0)) fun t17_24 => k20 t17_24 h17 (n18 + 1)) fun t17_21 h22 n23 => bindP (pickV t13_9 (Value.bool true) t17_21) fun t18_25 => bindP (fwdP 8 (ptr nx)) fun t19_26 => bindP (load1 ro h22 t19_26) fun t20_27 => bindP (strB .neq t20_27 (Value.string { data := #[] })) fun t21_28 => bindP (fwdP 0 (ptr nx)) fun t22_30 => bindP (load1 ro h22 t22_30) fun t23_31 => bindP (intB .eql t23_31 (Value.int IntKind.u8 1)) fun t25_32 => condP t25_32 (bindP (unV .not t10_6) fun t27_33 => ifP t27_33 true h22 (n23 + 13) (fun k34 => k34 t18_25 h22 (n23 + 14)) fun t29_35 h36 n37 => ifP t27_33 true h36 n37 (fun k38 => bindP (unV .not t29_35) fun t30_42 => k38 t30_42 h36 (n37 + 1)) fun t30_39 h40 n41 => bindP (pickV t27_33 t30_39 (Value.bool false)) fun t31_43 => ifP t31_43 true h40 (n41 + 2) (fun k44 => k44 t21_28 h40 (n41 + 3)) fun t33_45 h46 n47 => ifP t31_43 true h46 n47 (fun k48 => bindP (unV .not t33_45) fun t34_52 => k48 t34_52 h46 (n47 + 1)) fun t34_49 h50 n51 => bindP (pickV t31_43 t34_49 (Value.bool false)) fun t35_53 => ifP t35_53 true h50 (n51 + 2) (fun k54 => bindP (fwdP 5 (ptr nx)) fun t37_58 => k54 t37_58 h50 (n51 + 3)) fun t37_55 h56 n57 => ifP t35_53 true h56 n57 (fun k59 => bindP (load1 ro h56 t37_55) fun t38_63 => k59 t38_63 h56 (n57 + 1)) fun t38_60 h61 n62 => ifP t35_53 true h61 n62 (fun k64 => bindP (lenSl t38_60) fun t39_68 => k64 t39_68 h61 (n62 + 1)) fun t39_65 h66 n67 => ifP t35_53 true h66 n67 (fun k69 => bindP (intB .eql t39_65 (Value.int IntKind.i64 0)) fun t40_73 => k69 t40_73 h66 (n67 + 1)) fun t40_70 h71 n72 => bindP (pickV t35_53 t40_70 (Value.bool false)) fun t41_74 => ∃ h75, Sub h75 h71 ∧ K t41_74 h75 (n72 + 2)) (bindP (intB .eql t23_31 (Value.int IntKind.u8 2)) fun t43_76 => condP t43_76 (ifP t10_6 true h22 (n23 + 14) (fun k77 => k77 t18_25 h22 (n23 + 15)) fun t46_78 h79 n80 => ifP t10_6 true h79 n80 (fun k81 => bindP (unV .not t46_78) fun t47_85 => k81 t47_85 h79 (n80 + 1)) fun t47_82 h83 n84 => bindP (pickV t10_6 t47_82 (Value.bool false)) fun t48_86 => ifP t48_86 true h83 (n84 + 2) (fun k87 => k87 t21_28 h83 (n84 + 3)) fun t50_88 h89 n90 => ifP t48_86 true h89 n90 (fun k91 => bindP (unV .not t50_88) fun t51_95 => k91 t51_95 h89 (n90 + 1)) fun t51_92 h93 n94 => bindP (pickV t48_86 t51_92 (Value.bool false)) fun t52_96 => ifP t52_96 true h93 (n94 + 2) (fun k97 => bindP (fwdP 5 (ptr nx)) fun t54_101 => k97 t54_101 h93 (n94 + 3)) fun t54_98 h99 n100 => ifP t52_96 true h99 n100 (fun k102 => bindP (load1 ro h99 t54_98) fun t55_106 => k102 t55_106 h99 (n100 + 1)) fun t55_103 h104 n105 => ifP t52_96 true h104 n105 (fun k107 => bindP (lenSl t55_103) fun t56_111 => k107 t56_111 h104 (n105 + 1)) fun t56_108 h109 n110 => ifP t52_96 true h109 n110 (fun k112 => bindP (intB .eql t56_108 (Value.int IntKind.i64 0)) fun t57_116 => k112 t57_116 h109 (n110 + 1)) fun t57_113 h114 n115 => bindP (pickV t52_96 t57_113 (Value.bool false)) fun t58_117 => ∃ h118, Sub h118 h114 ∧ K t58_117 h118 (n115 + 2)) (bindP (intB .eql t23_31 (Value.int IntKind.u8 3)) fun t60_362 => condP t60_362 (ref04_shape_j2 ro K (puts (entE [v0]) [(1, (ptr nx)), (2, (Value.bool false)), (7, t7_2), (8, t8_3), (9, t9_4), (10, t10_6), (3, t10_6), (11, t11_7), (12, t12_8), (13, t13_9), (14, t13_9), (15, t15_11), (16, t16_16), (17, t17_21), (18, t18_25), (4, t18_25), (19, t19_26), (20, t20_27), (21, t21_28), (5, t21_28), (22, t22_30), (23, t23_31), (25, t25_32), (24, t25_32), (43, t43_76), (42, t43_76), (60, t60_362), (59, t60_362)]) h22 (n23 + 14)) (bindP (intB .eql t23_31 (Value.int IntKind.u8 4)) fun t61_363 => ref04_shape_j2 ro K (puts (entE [v0]) [(1, (ptr nx)), (2, (Value.bool false)), (7, t7_2), (8, t8_3), (9, t9_4), (10, t10_6), (3, t10_6), (11, t11_7), (12, t12_8), (13, t13_9), (14, t13_9), (15, t15_11), (16, t16_16), (17, t17_21), (18, t18_25), (4, t18_25), (19, t19_26), (20, t20_27), (21, t21_28), (5, t21_28), (22, t22_30), (23, t23_31), (25, t25_32), (24, t25_32), (43, t43_76), (42, t43_76), (60, t60_362), (59, t60_362), (61, t61_363), (59, t61_363)]) h22 (n23 + 16))))
theorem ref04_shape_eq (ro : Ro) (v0 : Value) (h : T Obj) (nx : Nat) (K : KV) : callPre Try.prog ro (callP Try.prog ro) Try.f67 [v0] h nx K = ref04_shape ro v0 h nx K := by kernel_rfl
theorem ref04_shape_of {ro : Ro} {v0 : Value} {h : T Obj} {nx : Nat} {K : KV} (hw : ref04_shape ro v0 h nx K) : callP Try.prog ro i_ref04_shape [v0] h nx K := callP_by (P := Try.prog) (fn := Try.f67) (by kernel_rfl) (by kernel_rfl) (by kernel_rfl) (Eq.mpr (ref04_shape_eq ro v0 h nx K) hw)
@[irreducible] def ref04_walk_j1 (ro : Ro) (K : KV) : Env → T Obj → Nat → Prop := fun e h nx => bindP (sliceLitV Try.prog y_s_int (nx + 2) 1 [(0, (e 1))]) fun r5 => optP h (nx + 2) r5.2 fun h6 => bindP (appendV Try.prog ro h6 (nx + 4) #[y_s_int, y_s_int] [(e 2), r5.1]) fun r7 => ∃ h8, Sub h8 r7.2.1 ∧ K (.tuple #[r7.1, (Value.bool true)]) h8 (r7.2.2 + 2)
@[irreducible] def ref04_walk_L1 (ro : Ro) : PT := fun e h nx Q => bindP (ixSl 9 (e 0) (e 1)) fun t21_9 => bindP (fwdP 5 t21_9) fun t22_10 => bindP (load1 ro h t22_10) fun t23_11 => bindP (lenSl t23_11) fun t24_12 => bindP (intB .lss (e 8) t24_12) fun t25_13 => condP t25_13 (bindP (ixSl 9 (e 0) (e 1)) fun t30_14 => bindP (fwdP 5 t30_14) fun t31_15 => bindP (load1 ro h t31_15) fun t32_16 => bindP (ixSl 1 t32_16 (e 8)) fun t34_17 => bindP (load1 ro h t34_17) fun t35_18 => bindP (intB .lss t35_18 (Value.int IntKind.i64 0)) fun t37_19 => ifP t37_19 false h (nx + 20) (fun k20 => k20 t35_18 h (nx + 21)) fun t39_21 h22 n23 => ifP t37_19 false h22 n23 (fun k24 => k24 (e 1) h22 (n23 + 1)) fun t40_25 h26 n27 => ifP t37_19 false h26 n27 (fun k28 => bindP (intB .geq t39_21 t40_25) fun t41_32 => k28 t41_32 h26 (n27 + 1)) fun t41_29 h30 n31 => bindP (pickV t37_19 (Value.bool true) t41_29) fun t42_33 => condP t42_33 (Q .ret (puts e [(18, (e 8)), (19, (e 0)), (20, (e 1)), (21, t21_9), (22, t22_10), (23, t23_11), (24, t24_12), (25, t25_13), (28, (e 0)), (29, (e 1)), (30, t30_14), (31, t31_15), (32, t32_16), (33, (e 8)), (34, t34_17), (35, t35_18), (9, t35_18), (36, t35_18), (37, t37_19), (38, t37_19), (39, t39_21), (40, t40_25), (41, t41_29), (42, t42_33), (43, (e 2)), (6, (e 2)), (7, (Value.bool false))]) h30 (n31 + 4)) (callP Try.prog ro i_ref04_walk [(e 0), t35_18, (e 2)] h30 (n31 + 5) fun t48_34 h35 n36 => bindP (nth 0 t48_34) fun t49_37 => bindP (nth 1 t48_34) fun t50_38 => bindP (unV .not t50_38) fun t52_39 => condP t52_39 (Q .ret (puts e [(18, (e 8)), (19, (e 0)), (20, (e 1)), (21, t21_9), (22, t22_10), (23, t23_11), (24, t24_12), (25, t25_13), (28, (e 0)), (29, (e 1)), (30, t30_14), (31, t31_15), (32, t32_16), (33, (e 8)), (34, t34_17), (35, t35_18), (9, t35_18), (36, t35_18), (37, t37_19), (38, t37_19), (39, t39_21), (40, t40_25), (41, t41_29), (42, t42_33), (45, (e 0)), (46, t35_18), (47, (e 2)), (48, t48_34), (44, t48_34), (49, t49_37), (50, t50_38), (10, t49_37), (11, t50_38), (51, t50_38), (52, t52_39), (53, t49_37), (6, t49_37), (7, (Value.bool false))]) h35 (n36 + 10)) (bindP (intB .add (e 8) (Value.int IntKind.i64 1)) fun t27_40 => Q .normal (puts e [(18, (e 8)), (19, (e 0)), (20, (e 1)), (21, t21_9), (22, t22_10), (23, t23_11), (24, t24_12), (25, t25_13), (28, (e 0)), (29, (e 1)), (30, t30_14), (31, t31_15), (32, t32_16), (33, (e 8)), (34, t34_17), (35, t35_18), (9, t35_18), (36, t35_18), (37, t37_19), (38, t37_19), (39, t39_21), (40, t40_25), (41, t41_29), (42, t42_33), (45, (e 0)), (46, t35_18), (47, (e 2)), (48, t48_34), (44, t48_34), (49, t49_37), (50, t50_38), (10, t49_37), (11, t50_38), (51, t50_38), (52, t52_39), (54, t49_37), (2, t49_37), (26, (e 8)), (27, t27_40), (8, t27_40)]) h35 (n36 + 12)))) (Q (.exit 0) (puts e [(18, (e 8)), (19, (e 0)), (20, (e 1)), (21, t21_9), (22, t22_10), (23, t23_11), (24, t24_12), (25, t25_13)]) h (nx + 8))
@[irreducible] def ref04_walk (ro : Ro) (v0 v1 v2 : Value) (h : T Obj) (nx : Nat) (K : KV) : Prop := bindP (lenSl v2) fun t13_1 => bindP (lenSl v0) fun t15_2 => bindP (intB .geq t13_1 t15_2) fun t16_3 => condP t16_3 (∃ h4, Sub h4 h ∧ K (.tuple #[v2, (Value.bool false)]) h4 (nx + 10)) (loopP (ref04_walk_L1 ro) (puts (entE [v0, v1, v2]) [(6, (Value.slice none 0 0)), (7, (Value.bool false)), (12, v2), (13, t13_1), (14, v0), (15, t15_2), (16, t16_3), (8, (Value.int IntKind.i64 0))]) h (nx + 8) fun x44 e41 h42 n43 => exP x44 (ref04_walk_j1 ro K e41 h42 n43) (fun i45 => beqP (Nat.beq i45 0) (ref04_walk_j1 ro K e41 h42 n43) (False)) (∃ h46, Sub h46 h42 ∧ K (.tuple #[(e41 6), (e41 7)]) h46 n43))
theorem ref04_walk_eq (ro : Ro) (v0 v1 v2 : Value) (h : T Obj) (nx : Nat) (K : KV) : callPre Try.prog ro (callP Try.prog ro) Try.f68 [v0, v1, v2] h nx K = ref04_walk ro v0 v1 v2 h nx K := by kernel_rfl
theorem ref04_walk_of {ro : Ro} {v0 v1 v2 : Value} {h : T Obj} {nx : Nat} {K : KV} (hw : ref04_walk ro v0 v1 v2 h nx K) : callP Try.prog ro i_ref04_walk [v0, v1, v2] h nx K := callP_by (P := Try.prog) (fn := Try.f68) (by kernel_rfl) (by kernel_rfl) (by kernel_rfl) (Eq.mpr (ref04_walk_eq ro v0 v1 v2 h nx K) hw)
@[irreducible] def ref07_one_j1 (ro : Ro) (K : KV) : Env → T Obj → Nat → Prop := fun e h nx => ∃ h5, Sub h5 h ∧ K (e 7) h5 (nx + 2)
@[irreducible] def ref07_one_j2 (ro : Ro) (Q : KE) : Env → T Obj → Nat → Prop := fun e h nx => bindP (intB .add (e 8) (Value.int IntKind.i64 1)) fun t16_8 => Q .normal (puts e [(15, (e 8)), (16, t16_8), (8, t16_8)]) h (nx + 3)
@[irreducible] def ref07_one_L1 (ro : Ro) : PT := fun e h nx Q => bindP (lenStr (e 1)) fun t13_6 => bindP (intB .lss (e 8) t13_6) fun t14_7 => condP t14_7 (bindP (ixSl 1 (e 2) (e 8)) fun t19_9 => bindP (load1 ro h t19_9) fun t20_10 => ifP t20_10 true h (nx + 15) (fun k11 => bindP (loadA ro h 4 (e 3)) fun t22_15 => k11 t22_15 h (nx + 15)) fun t22_12 h13 n14 => ifP t20_10 true h13 n14 (fun k16 => k16 (e 1) h13 n14) fun t23_17 h18 n19 => ifP t20_10 true h18 n19 (fun k20 => k20 (e 8) h18 n19) fun t24_21 h22 n23 => ifP t20_10 true h22 n23 (fun k24 => bindP (ixStr t23_17 t24_21) fun t25_28 => k24 t25_28 h22 n23) fun t25_25 h26 n27 => ifP t20_10 true h26 n27 (fun k29 => callP Try.prog ro i_ref01_Has [t22_12, t25_25] h26 n27 fun t26_33 h34 n35 => k29 t26_33 h34 n35) fun t26_30 h31 n32 => bindP (pickV t20_10 t26_30 (Value.bool false)) fun t27_36 => condP t27_36 (bindP (intB .add (e 8) (Value.int IntKind.i64 1)) fun t30_37 => bindP (ixSl 1 (e 7) t30_37) fun t31_38 => bindP (storeN 1 h31 t31_38 (Value.bool true)) fun h39 => ref07_one_j2 ro Q (puts e [(11, (e 8)), (12, (e 1)), (13, t13_6), (14, t14_7), (17, (e 2)), (18, (e 8)), (19, t19_9), (20, t20_10), (21, t20_10), (22, t22_12), (23, t23_17), (24, t24_21), (25, t25_25), (26, t26_30), (27, t27_36), (28, (e 7)), (29, (e 8)), (30, t30_37), (31, t31_38)]) h39 (n32 + 5)) (ref07_one_j2 ro Q (puts e [(11, (e 8)), (12, (e 1)), (13, t13_6), (14, t14_7), (17, (e 2)), (18, (e 8)), (19, t19_9), (20, t20_10), (21, t20_10), (22, t22_12), (23, t23_17), (24, t24_21), (25, t25_25), (26, t26_30), (27, t27_36)]) h31 n32)) (Q (.exit 0) (puts e [(11, (e 8)), (12, (e 1)), (13, t13_6), (14, t14_7)]) h (nx + 4))
@[irreducible] def ref07_one (ro : Ro) (v0 v1 v2 : Value) (h : T Obj) (nx : Nat) (K : KV) : Prop := newP h nx (.cells (Value.cells v0) y_api_Set) fun h1 => callP Try.prog ro i_ref07_places [v1] h1 (nx + 4) fun t10_2 h3 n4 => loopP (ref07_one_L1 ro) (puts (entE [v0, v1, v2]) [(3, (ptr nx)), (6, (Value.slice none 0 0)), (9, v1), (10, t10_2), (7, t10_2), (8, (Value.int IntKind.i64 0))]) h3 (n4 + 2) fun x43 e40 h41 n42 => exP x43 (ref07_one_j1 ro K e40 h41 n42) (fun i44 => beqP (Nat.beq i44 0) (ref07_one_j1 ro K e40 h41 n42) (False)) (∃ h45, Sub h45 h41 ∧ K (e40 6) h45 n42)
theorem ref07_one_eq (ro : Ro) (v0 v1 v2 : Value) (h : T Obj) (nx : Nat) (K : KV) : callPre Try.prog ro (callP Try.prog ro) Try.f71 [v0, v1, v2] h nx K = ref07_one ro v0 v1 v2 h nx K := by kernel_rfl
theorem ref07_one_of {ro : Ro} {v0 v1 v2 : Value} {h : T Obj} {nx : Nat} {K : KV} (hw : ref07_one ro v0 v1 v2 h nx K) : callP Try.prog ro i_ref07_one [v0, v1, v2] h nx K := callP_by (P := Try.prog) (fn := Try.f71) (by kernel_rfl) (by kernel_rfl) (by kernel_rfl) (Eq.mpr (ref07_one_eq ro v0 v1 v2 h nx K) hw)
@[irreducible] def ref07_or_j1 (ro : Ro) (K : KV) : Env → T Obj → Nat → Prop := fun e h nx => ∃ h4, Sub h4 h ∧ K (e 5) h4 (nx + 2)
@[irreducible] def ref07_or_L1 (ro : Ro) : PT := fun e h nx Q => bindP (lenSl (e 1)) fun t12_5 => bindP (intB .lss (e 6) t12_5) fun t13_6 => condP t13_6 (bindP (ixSl 1 (e 5) (e 6)) fun t20_7 => bindP (load1 ro h t20_7) fun t21_8 => ifP t21_8 false h (nx + 11) (fun k9 => k9 (e 1) h (nx + 12)) fun t23_10 h11 n12 => ifP t21_8 false h11 n12 (fun k13 => k13 (e 6) h11 (n12 + 1)) fun t24_14 h15 n16 => ifP t21_8 false h15 n16 (fun k17 => bindP (ixSl 1 t23_10 t24_14) fun t25_21 => k17 t25_21 h15 (n16 + 1)) fun t25_18 h19 n20 => ifP t21_8 false h19 n20 (fun k22 => bindP (load1 ro h19 t25_18) fun t26_26 => k22 t26_26 h19 (n20 + 1)) fun t26_23 h24 n25 => bindP (pickV t21_8 (Value.bool true) t26_23) fun t27_27 => bindP (ixSl 1 (e 5) (e 6)) fun t28_28 => bindP (storeN 1 h24 t28_28 t27_27) fun h29 => bindP (intB .add (e 6) (Value.int IntKind.i64 1)) fun t15_30 => Q .normal (puts e [(10, (e 6)), (11, (e 1)), (12, t12_5), (13, t13_6), (16, (e 5)), (17, (e 6)), (18, (e 5)), (19, (e 6)), (20, t20_7), (21, t21_8), (22, t21_8), (23, t23_10), (24, t24_14), (25, t25_18), (26, t26_23), (27, t27_27), (28, t28_28), (14, (e 6)), (15, t15_30), (6, t15_30)]) h29 (n25 + 6)) (Q (.exit 0) (puts e [(10, (e 6)), (11, (e 1)), (12, t12_5), (13, t13_6)]) h (nx + 4))
@[irreducible] def ref07_or (ro : Ro) (v0 v1 : Value) (h : T Obj) (nx : Nat) (K : KV) : Prop := bindP (sliceLitV Try.prog y_s_bool (nx + 1) 0 []) fun r1 => optP h (nx + 1) r1.2 fun h2 => bindP (appendV Try.prog ro h2 (nx + 4) #[y_s_bool, y_s_bool] [r1.1, v0]) fun r3 => loopP (ref07_or_L1 ro) (puts (entE [v0, v1]) [(4, (Value.slice none 0 0)), (7, r1.1), (8, v0), (9, r3.1), (5, r3.1), (6, (Value.int IntKind.i64 0))]) r3.2.1 (r3.2.2 + 2) fun x34 e31 h32 n33 => exP x34 (ref07_or_j1 ro K e31 h32 n33) (fun i35 => beqP (Nat.beq i35 0) (ref07_or_j1 ro K e31 h32 n33) (False)) (∃ h36, Sub h36 h32 ∧ K (e31 4) h36 n33)
theorem ref07_or_eq (ro : Ro) (v0 v1 : Value) (h : T Obj) (nx : Nat) (K : KV) : callPre Try.prog ro (callP Try.prog ro) Try.f72 [v0, v1] h nx K = ref07_or ro v0 v1 h nx K := by kernel_rfl
theorem ref07_or_of {ro : Ro} {v0 v1 : Value} {h : T Obj} {nx : Nat} {K : KV} (hw : ref07_or ro v0 v1 h nx K) : callP Try.prog ro i_ref07_or [v0, v1] h nx K := callP_by (P := Try.prog) (fn := Try.f72) (by kernel_rfl) (by kernel_rfl) (by kernel_rfl) (Eq.mpr (ref07_or_eq ro v0 v1 h nx K) hw)
@[irreducible] def ref07_rep_j2 (ro : Ro) (K : KV) : Env → T Obj → Nat → Prop := fun e h nx => ∃ h2, Sub h2 h ∧ K (e 11) h2 (nx + 2)
@[irreducible] def ref07_rep_L1 (ro : Ro) : PT := fun e h nx Q => bindP (fwdP 7 (e 5)) fun t36_5 => bindP (load1 ro h t36_5) fun t37_6 => bindP (intB .lss (e 12) t37_6) fun t38_7 => ifP t38_7 false h (nx + 5) (fun k8 => bindP (fwdP 7 (e 5)) fun t40_12 => k8 t40_12 h (nx + 6)) fun t40_9 h10 n11 => ifP t38_7 false h10 n11 (fun k13 => bindP (load1 ro h10 t40_9) fun t41_17 => k13 t41_17 h10 (n11 + 1)) fun t41_14 h15 n16 => ifP t38_7 false h15 n16 (fun k18 => bindP (intB .eql t41_14 (Value.int IntKind.i64 (-1))) fun t42_22 => k18 t42_22 h15 (n16 + 1)) fun t42_19 h20 n21 => bindP (pickV t38_7 (Value.bool true) t42_19) fun t43_23 => condP t43_23 (bindP (fwdP 5 (e 5)) fun t47_24 => bindP (load1 ro h20 t47_24) fun t48_25 => bindP (ixSl 1 t48_25 (Value.int IntKind.i64 0)) fun t49_26 => bindP (load1 ro h20 t49_26) fun t50_27 => callP Try.prog ro i_ref07_ends [(e 0), t50_27, (e 2), (e 3)] h20 (n21 + 9) fun t53_28 h29 n30 => callP Try.prog ro i_ref07_or [(e 11), t53_28] h29 (n30 + 4) fun t56_31 h32 n33 => callP Try.prog ro i_ref07_same [t56_31, (e 11)] h32 (n33 + 4) fun t59_34 h35 n36 => condP t59_34 (Q (.exit 2) (puts e [(35, (e 12)), (36, t36_5), (37, t37_6), (38, t38_7), (39, t38_7), (40, t40_9), (41, t41_14), (42, t42_19), (43, t43_23), (46, (e 0)), (47, t47_24), (48, t48_25), (49, t49_26), (50, t50_27), (51, (e 2)), (52, (e 3)), (53, t53_28), (3, t53_28), (54, (e 11)), (55, t53_28), (56, t56_31), (13, t56_31), (57, t56_31), (58, (e 11)), (59, t59_34)]) h35 n36) (bindP (intB .add (e 12) (Value.int IntKind.i64 1)) fun t45_37 => Q .normal (puts e [(35, (e 12)), (36, t36_5), (37, t37_6), (38, t38_7), (39, t38_7), (40, t40_9), (41, t41_14), (42, t42_19), (43, t43_23), (46, (e 0)), (47, t47_24), (48, t48_25), (49, t49_26), (50, t50_27), (51, (e 2)), (52, (e 3)), (53, t53_28), (3, t53_28), (54, (e 11)), (55, t53_28), (56, t56_31), (13, t56_31), (57, t56_31), (58, (e 11)), (59, t59_34), (60, t56_31), (11, t56_31), (44, (e 12)), (45, t45_37), (12, t45_37)]) h35 (n36 + 5))) (Q (.exit 2) (puts e [(35, (e 12)), (36, t36_5), (37, t37_6), (38, t38_7), (39, t38_7), (40, t40_9), (41, t41_14), (42, t42_19), (43, t43_23)]) h20 (n21 + 1))
@[irreducible] def ref07_rep_j1 (ro : Ro) (K : KV) : Env → T Obj → Nat → Prop := fun e h nx => bindP (fwdP 6 (e 5)) fun t33_3 => bindP (load1 ro h t33_3) fun t34_4 => loopP (ref07_rep_L1 ro) (puts e [(32, (e 3)), (11, (e 3)), (33, t33_3), (34, t34_4), (12, t34_4)]) h (nx + 5) fun x41 e38 h39 n40 => exP x41 (ref07_rep_j2 ro K e38 h39 n40) (fun i42 => beqP (Nat.beq i42 2) (ref07_rep_j2 ro K e38 h39 n40) (False)) (∃ h43, Sub h43 h39 ∧ K (e38 8) h43 n40)
@[irreducible] def ref07_rep_L2 (ro : Ro) : PT := fun e h nx Q => bindP (fwdP 6 (e 5)) fun t15_44 => bindP (load1 ro h t15_44) fun t16_45 => bindP (intB .lss (e 9) t16_45) fun t17_46 => condP t17_46 (bindP (fwdP 5 (e 5)) fun t21_47 => bindP (load1 ro h t21_47) fun t22_48 => bindP (ixSl 1 t22_48 (Value.int IntKind.i64 0)) fun t23_49 => bindP (load1 ro h t23_49) fun t24_50 => callP Try.prog ro i_ref07_ends [(e 0), t24_50, (e 2), (e 3)] h (nx + 12) fun t27_51 h52 n53 => callP Try.prog ro i_ref07_same [t27_51, (e 3)] h52 (n53 + 4) fun t30_54 h55 n56 => condP t30_54 (Q (.exit 0) (puts e [(14, (e 9)), (15, t15_44), (16, t16_45), (17, t17_46), (20, (e 0)), (21, t21_47), (22, t22_48), (23, t23_49), (24, t24_50), (25, (e 2)), (26, (e 3)), (27, t27_51), (10, t27_51), (28, t27_51), (29, (e 3)), (30, t30_54)]) h55 n56) (bindP (intB .add (e 9) (Value.int IntKind.i64 1)) fun t19_57 => Q .normal (puts e [(14, (e 9)), (15, t15_44), (16, t16_45), (17, t17_46), (20, (e 0)), (21, t21_47), (22, t22_48), (23, t23_49), (24, t24_50), (25, (e 2)), (26, (e 3)), (27, t27_51), (10, t27_51), (28, t27_51), (29, (e 3)), (30, t30_54), (31, t27_51), (3, t27_51), (18, (e 9)), (19, t19_57), (9, t19_57)]) h55 (n56 + 5))) (Q (.exit 0) (puts e [(14, (e 9)), (15, t15_44), (16, t16_45), (17, t17_46)]) h (nx + 4))
@[irreducible] def ref07_rep (ro : Ro) (v0 v1 v2 v3 : Value) (h : T Obj) (nx : Nat) (K : KV) : Prop := newP h nx (.cells (Value.cells v1) y_api_Node) fun h1 => loopP (ref07_rep_L2 ro) (puts (entE [v0, v1, v2, v3]) [(5, (ptr nx)), (8, (Value.slice none 0 0)), (9, (Value.int IntKind.i64 0))]) h1 (nx + 3) fun x61 e58 h59 n60 => exP x61 (ref07_rep_j1 ro K e58 h59 n60) (fun i62 => beqP (Nat.beq i62 0) (ref07_rep_j1 ro K e58 h59 n60) (False)) (∃ h63, Sub h63 h59 ∧ K (e58 8) h63 n60)
theorem ref07_rep_eq (ro : Ro) (v0 v1 v2 v3 : Value) (h : T Obj) (nx : Nat) (K : KV) : callPre Try.prog ro (callP Try.prog ro) Try.f73 [v0, v1, v2, v3] h nx K = ref07_rep ro v0 v1 v2 v3 h nx K := by kernel_rfl
theorem ref07_rep_of {ro : Ro} {v0 v1 v2 v3 : Value} {h : T Obj} {nx : Nat} {K : KV} (hw : ref07_rep ro v0 v1 v2 v3 h nx K) : callP Try.prog ro i_ref07_rep [v0, v1, v2, v3] h nx K := callP_by (P := Try.prog) (fn := Try.f73) (by kernel_rfl) (by kernel_rfl) (by kernel_rfl) (Eq.mpr (ref07_rep_eq ro v0 v1 v2 v3 h nx K) hw)
@[irreducible] def ref07_same_j1 (ro : Ro) (K : KV) : Env → T Obj → Nat → Prop := fun e h nx => ∃ h1, Sub h1 h ∧ K (Value.bool true) h1 (nx + 1)
@[irreducible] def ref07_same_L1 (ro : Ro) : PT := fun e h nx Q => bindP (lenSl (e 0)) fun t8_2 => bindP (intB .lss (e 5) t8_2) fun t9_3 => condP t9_3 (bindP (ixSl 1 (e 0) (e 5)) fun t14_4 => bindP (load1 ro h t14_4) fun t15_5 => bindP (ixSl 1 (e 1) (e 5)) fun t18_6 => bindP (load1 ro h t18_6) fun t19_7 => bindP (boolB .neq t15_5 t19_7) fun t20_8 => condP t20_8 (Q .ret (puts e [(6, (e 5)), (7, (e 0)), (8, t8_2), (9, t9_3), (12, (e 0)), (13, (e 5)), (14, t14_4), (15, t15_5), (16, (e 1)), (17, (e 5)), (18, t18_6), (19, t19_7), (20, t20_8), (4, (Value.bool false))]) h (nx + 14)) (bindP (intB .add (e 5) (Value.int IntKind.i64 1)) fun t11_9 => Q .normal (puts e [(6, (e 5)), (7, (e 0)), (8, t8_2), (9, t9_3), (12, (e 0)), (13, (e 5)), (14, t14_4), (15, t15_5), (16, (e 1)), (17, (e 5)), (18, t18_6), (19, t19_7), (20, t20_8), (10, (e 5)), (11, t11_9), (5, t11_9)]) h (nx + 16))) (Q (.exit 0) (puts e [(6, (e 5)), (7, (e 0)), (8, t8_2), (9, t9_3)]) h (nx + 4))
@[irreducible] def ref07_same (ro : Ro) (v0 v1 : Value) (h : T Obj) (nx : Nat) (K : KV) : Prop := loopP (ref07_same_L1 ro) (puts (entE [v0, v1]) [(4, (Value.bool false)), (5, (Value.int IntKind.i64 0))]) h (nx + 2) fun x13 e10 h11 n12 => exP x13 (ref07_same_j1 ro K e10 h11 n12) (fun i14 => beqP (Nat.beq i14 0) (ref07_same_j1 ro K e10 h11 n12) (False)) (∃ h15, Sub h15 h11 ∧ K (e10 4) h15 n12)
theorem ref07_same_eq (ro : Ro) (v0 v1 : Value) (h : T Obj) (nx : Nat) (K : KV) : callPre Try.prog ro (callP Try.prog ro) Try.f79 [v0, v1] h nx K = ref07_same ro v0 v1 h nx K := by kernel_rfl
theorem ref07_same_of {ro : Ro} {v0 v1 : Value} {h : T Obj} {nx : Nat} {K : KV} (hw : ref07_same ro v0 v1 h nx K) : callP Try.prog ro i_ref07_same [v0, v1] h nx K := callP_by (P := Try.prog) (fn := Try.f79) (by kernel_rfl) (by kernel_rfl) (by kernel_rfl) (Eq.mpr (ref07_same_eq ro v0 v1 h nx K) hw)
end V
end Go.Proofs.Ytepbdkfkfcckoaa
set_option linter.unusedVariables false
set_option linter.unusedSimpArgs false
namespace Go.Proofs.Ytepbdkfkfcckoaa
namespace V
open PA
attribute [local irreducible] bindP ifP condP newP optP exP beqP
def nodL (n : NodeD) (lv : Value) : List Value := [Value.int .u8 n.op] ++ setL n.s ++ [lv, .int .i64 n.lo, .int .i64 n.hi, .string n.name]
def lenB : Nat := 9223372036854775807
def RNode (ro : Ro) (h : T Obj) (x : List Value) (n : NodeD) : Prop := ∃ lv, x = nodL n lv ∧ ZI ro h lv n.l ∧ n.s < 2 ^ 256 ∧ n.l.length ≤ lenB
theorem RNode.sub {ro : Ro} {h h' : T Obj} (hs : Sub h h') : ∀ x d, RNode ro h x d → RNode ro h' x d := fun x d ⟨lv, h1, h2, h3⟩ => ⟨lv, h1, h2.sub hs, h3⟩
def RTree (ro : Ro) (h : T Obj) (v : Value) (l : List NodeD) : Prop := SlR ro h v 9 (RNode ro h) l
theorem RTree.sub {ro : Ro} {h h' : T Obj} {v : Value} {l : List NodeD} (hs : Sub h h') (hl : RTree ro h v l) : RTree ro h' v l := SlR.sub hs (RNode.sub hs) hl
theorem nodL_ok {n : NodeD} {lv : Value} (h : cellOk lv = true) : (nodL n lv).all cellOk = true := by
  have : (nodL n lv).all cellOk = (cellOk lv && true) := rfl
  rw [this, h]; rfl
theorem nodL_get (n : NodeD) (lv : Value) : (nodL n lv)[0]? = some (.int .u8 n.op) ∧ (nodL n lv)[5]? = some lv ∧ (nodL n lv)[6]? = some (.int .i64 n.lo) ∧ (nodL n lv)[7]? = some (.int .i64 n.hi) ∧ (nodL n lv)[8]? = some (.string n.name) := ⟨rfl, rfl, rfl, rfl, rfl⟩
theorem zer_Node : zer Try.prog y_api_Node = some (.agg (nodL noNode (.slice none 0 0)).toArray) := by kernel_rfl
theorem str_none (s : ByteArray) : strB .neq (.string s) (.string { data := #[] }) = some (.bool (!decide (s.size = 0))) := by
  have h : (s.data.toList == []) = decide (s.size = 0) := by
    have e : s.size = s.data.toList.length := rfl
    rw [e]
    cases s.data.toList <;> simp
  unfold strB
  simp only [strV]
  exact congrArg (fun b => some (Value.bool (!b))) h
def shapeB (n : NodeD) (a b c : Bool) : Bool :=
  if n.op = 1 then !a && (!b && (!c && decide (n.l.length = 0)))
  else if n.op = 2 then a && (!b && (!c && decide (n.l.length = 0)))
  else if n.op = 3 ∨ n.op = 4 then !a && (!b && (!c && decide (2 ≤ n.l.length)))
  else if n.op = 5 then !a && (!c && (decide (n.l.length = 1) && (decide (0 ≤ n.lo) && (decide (n.lo ≤ 4096) && (decide (n.hi = -1) || decide (1 ≤ n.hi) && (decide (n.hi ≤ 4096) && decide (n.lo ≤ n.hi)))))))
  else false
theorem shapeB_eq (n : NodeD) : shapeD n = shapeB n (decide (n.s ≠ 0)) (decide (n.lo ≠ 0 ∨ n.hi ≠ 0)) (decide (n.name.size ≠ 0)) := by
  unfold shapeD shapeB
  have e1 : decide (n.s ≠ 0) = !decide (n.s = 0) := by simp
  have e2 : decide (n.lo ≠ 0 ∨ n.hi ≠ 0) = !(decide (n.lo = 0) && decide (n.hi = 0)) := by by_cases h1 : n.lo = 0 <;> by_cases h2 : n.hi = 0 <;> simp [h1, h2]
  have e3 : decide (n.name.size ≠ 0) = !decide (n.name.size = 0) := by simp
  rw [e1, e2, e3]
  simp [Bool.and_assoc]
set_option maxRecDepth 4000 in
set_option maxHeartbeats 4000000 in
theorem shape_j2 {ro : Ro} {n : NodeD} {lv : Value} {A B C Z : Bool} {h1 : T Obj} {nx p m : Nat} {K : KV} {e : Env} (hn : ZI ro h1 lv n.l) (g : h1.get p = some (.cells (nodL n lv).toArray y_api_Node)) (ho : n.op ≠ 1 ∧ n.op ≠ 2 ∧ n.op ≠ 6) (hT : Z = true ↔ n.op = 3 ∨ n.op = 4)
    (e1 : e 1 = at_ p 0 0) (e3 : e 3 = .bool A) (e4 : e 4 = .bool B) (e5 : e 5 = .bool C) (e23 : e 23 = .int .u8 n.op) (e59 : e 59 = .bool Z) (hm : nx ≤ m) (hK' : ∀ (b : Bool) m, shapeB n A B C = b → nx ≤ m → ∃ h', Sub h' h1 ∧ K (.bool b) h' m) : ref04_shape_j2 ro K e h1 m := by
  obtain ⟨g0, g5, g6, g7, g8⟩ := nodL_get n lv
  have l0 := load1_get (ro := ro) (z := 0) g g0
  have l5 := load1_get (ro := ro) (z := 0) g g5
  have l6 := load1_get (ro := ro) (z := 0) g g6
  have l7 := load1_get (ro := ro) (z := 0) g g7
  have hlen := hn.len
  unfold ref04_shape_j2
  rw [e1, e3, e4, e5, e23, e59]
  cases Z with
  | true =>
    have h34 := hT.1 rfl
    cases A <;> cases B <;> cases C <;> (repeat (first | refine bindP_mk (by simp (disch := first | omega | exact Int.natCast_nonneg _ | assumption) only [BB, B2, ↓reduceIte, Nat.reduceLeDiff, Nat.reduceAdd, CC, l5, hlen] <;> rfl) ?_ | refine newP_mk ?_ | refine optP_mk ?_ | with_reducible first | refine condP_t ?_ | refine condP_f ?_ | refine ifP_tt' ?_ | refine ifP_ff' ?_ | refine ifP_tf' ?_ | refine ifP_ft' ?_ | refine ifP_u' ?_ | refine optP_mk0 ?_))
    all_goals try (exact hK' _ _ (by first | (simp [shapeB, ho, h34]; done) | (simp [shapeB, ho, h34]; omega)) (by omega))
    (first | refine lss_s (fun hb => ?_) (fun hb => ?_) | refine leq_s (fun hb => ?_) (fun hb => ?_) | refine gtr_s (fun hb => ?_) (fun hb => ?_) | refine geq_s (fun hb => ?_) (fun hb => ?_) | refine eql_s (fun hb => ?_) (fun hb => ?_) | refine neq_s (fun hb => ?_) (fun hb => ?_))
    all_goals
      (repeat (first | refine bindP_mk (by simp (disch := first | omega | exact Int.natCast_nonneg _ | assumption) only [BB, B2, ↓reduceIte, Nat.reduceLeDiff, Nat.reduceAdd, CC] <;> rfl) ?_ | refine newP_mk ?_ | refine optP_mk ?_ | with_reducible first | refine condP_t ?_ | refine condP_f ?_ | refine ifP_tt' ?_ | refine ifP_ff' ?_ | refine ifP_tf' ?_ | refine ifP_ft' ?_ | refine ifP_u' ?_ | refine optP_mk0 ?_))
      exact hK' _ _ (by simp [shapeB, ho, h34]; omega) (by omega)
  | false =>
    have h34 : ¬ (n.op = 3 ∨ n.op = 4) := fun h => by cases hT.2 h
    have h3 : n.op ≠ 3 := fun h => h34 (.inl h)
    have h4 : n.op ≠ 4 := fun h => h34 (.inr h)
    refine condP_f ?_
    by_cases h5 : n.op = 5
    · refine eql_t (by omega) (condP_t ?_)
      (repeat (first | refine bindP_mk (by simp (disch := first | omega | exact Int.natCast_nonneg _ | assumption) only [BB, B2, ↓reduceIte, Nat.reduceLeDiff, Nat.reduceAdd, CC, l7] <;> rfl) ?_ | refine newP_mk ?_ | refine optP_mk ?_ | with_reducible first | refine condP_t ?_ | refine condP_f ?_ | refine ifP_tt' ?_ | refine ifP_ff' ?_ | refine ifP_tf' ?_ | refine ifP_ft' ?_ | refine ifP_u' ?_ | refine optP_mk0 ?_))
      have fin : ∀ (b : Bool) m, shapeB n A B C = b → nx ≤ m → ∃ h', Sub h' h1 ∧ K (.bool b) h' m := hK'
      iterate 4 ((all_goals try (first | refine lss_s (fun hb => ?_) (fun hb => ?_) | refine leq_s (fun hb => ?_) (fun hb => ?_) | refine gtr_s (fun hb => ?_) (fun hb => ?_) | refine geq_s (fun hb => ?_) (fun hb => ?_) | refine eql_s (fun hb => ?_) (fun hb => ?_) | refine neq_s (fun hb => ?_) (fun hb => ?_))); (all_goals (repeat (first | refine bindP_mk (by simp (disch := first | omega | exact Int.natCast_nonneg _ | assumption) only [BB, B2, ↓reduceIte, Nat.reduceLeDiff, Nat.reduceAdd, CC, l7, l6] <;> rfl) ?_ | refine newP_mk ?_ | refine optP_mk ?_ | with_reducible first | refine condP_t ?_ | refine condP_f ?_ | refine ifP_tt' ?_ | refine ifP_ff' ?_ | refine ifP_tf' ?_ | refine ifP_ft' ?_ | refine ifP_u' ?_ | refine optP_mk0 ?_))))
      all_goals
        cases A <;> cases C <;> simp only [Bool.not_true, Bool.not_false] <;> (repeat (first | refine bindP_mk (by simp (disch := first | omega | exact Int.natCast_nonneg _ | assumption) only [BB, B2, ↓reduceIte, Nat.reduceLeDiff, Nat.reduceAdd, CC, l5, hlen, l6] <;> rfl) ?_ | refine newP_mk ?_ | refine optP_mk ?_ | with_reducible first | refine condP_t ?_ | refine condP_f ?_ | refine ifP_tt' ?_ | refine ifP_ff' ?_ | refine ifP_tf' ?_ | refine ifP_ft' ?_ | refine ifP_u' ?_ | refine optP_mk0 ?_))
      all_goals try (exact hK' _ _ (by first | (simp [shapeB, ho, h3, h4, h5]; done) | (simp [shapeB, ho, h3, h4, h5]; omega)) (by omega))
      iterate 3 ((all_goals try (first | refine lss_s (fun hb => ?_) (fun hb => ?_) | refine leq_s (fun hb => ?_) (fun hb => ?_) | refine gtr_s (fun hb => ?_) (fun hb => ?_) | refine geq_s (fun hb => ?_) (fun hb => ?_) | refine eql_s (fun hb => ?_) (fun hb => ?_) | refine neq_s (fun hb => ?_) (fun hb => ?_))); (all_goals (repeat (first | refine bindP_mk (by simp (disch := first | omega | exact Int.natCast_nonneg _ | assumption) only [BB, B2, ↓reduceIte, Nat.reduceLeDiff, Nat.reduceAdd, CC, l5, hlen, l6] <;> rfl) ?_ | refine newP_mk ?_ | refine optP_mk ?_ | with_reducible first | refine condP_t ?_ | refine condP_f ?_ | refine ifP_tt' ?_ | refine ifP_ff' ?_ | refine ifP_tf' ?_ | refine ifP_ft' ?_ | refine ifP_u' ?_ | refine optP_mk0 ?_))); (all_goals try (exact hK' _ _ (by first | (simp [shapeB, ho, h3, h4, h5]; done) | (simp [shapeB, ho, h3, h4, h5]; omega)) (by omega))))
    · refine eql_f (by omega) (condP_f ?_)
      refine eql_f (by omega) (condP_f ?_)
      unfold ref04_shape_j1
      exact hK' _ _ (by simp [shapeB, ho, h3, h4, h5]) (by omega)
set_option maxRecDepth 4000 in
set_option maxHeartbeats 4000000 in
theorem ref04_shape_c {ro : Ro} {n : NodeD} {lv : Value} (hs : n.s < 2 ^ 256) (h6 : n.op ≠ 6) {h : T Obj} {nx : Nat} {K : KV} (hf : Fr h nx) (hn : ZI ro h lv n.l) (hK : ∀ nx', nx ≤ nx' → K (.bool (shapeD n)) h nx') : callP Try.prog ro i_ref04_shape [.agg (nodL n lv).toArray] h nx K := by
  apply ref04_shape_of
  unfold ref04_shape
  refine newP_mk ?_
  have hs1 : Sub h (h.upd nx (some (.cells (Value.cells (.agg (nodL n lv).toArray)) y_api_Node))) := (Sub.refl h).new hf (Nat.le_refl _)
  have g : (h.upd nx (some (.cells (Value.cells (.agg (nodL n lv).toArray)) y_api_Node))).get nx = some (.cells (nodL n lv).toArray y_api_Node) := by rw [T.get_upd_same]; rfl
  generalize h.upd nx (some (.cells (Value.cells (.agg (nodL n lv).toArray)) y_api_Node)) = h1 at hs1 g
  obtain ⟨g0, g5, g6, g7, g8⟩ := nodL_get n lv
  have hset : loadA ro h1 4 (at_ nx 1 0) = some (.agg (setL n.s).toArray) := by
    rw [loadA_own, g]
    rfl
  have l0 := load1_get (ro := ro) (z := 0) g g0
  have l5 := load1_get (ro := ro) (z := 0) g g5
  have l6 := load1_get (ro := ro) (z := 0) g g6
  have l7 := load1_get (ro := ro) (z := 0) g g7
  have l8 := load1_get (ro := ro) (z := 0) g g8
  have hlen := hn.len
  have hnm := str_none n.name
  rw [shapeB_eq] at hK
  have hK' : ∀ (b : Bool) m, shapeB n (decide (n.s ≠ 0)) (decide (n.lo ≠ 0 ∨ n.hi ≠ 0)) (decide (n.name.size ≠ 0)) = b → nx ≤ m → ∃ h', Sub h' h1 ∧ K (.bool b) h' m := fun b m e hm => ⟨h, hs1, kb hK e hm⟩
  clear hK
  have hq0 : ∀ {K2 : Value → Prop} {a : Bool}, (a = decide (n.s ≠ 0) → K2 (.bool a)) → True := fun _ => trivial
  rw [ptr_at]
  refine bindP_mk (fwdP_at _ _ _ _) (bindP_mk hset (bindP_mk build_Set0 (bindP_mk plain_Set (bindP_mk (neq_set0 hs) ?_))))
  have ea : (!decide (n.s = 0)) = decide (n.s ≠ 0) := by simp
  have ec : (!decide (n.name.size = 0)) = decide (n.name.size ≠ 0) := by simp
  rw [ea]
  rw [ec] at hnm
  generalize hA : decide (n.s ≠ 0) = A at hK'
  refine bindP_mk (fwdP_at _ _ _ _) (bindP_mk l6 ?_)
  have ho : n.op = 1 ∨ n.op = 2 ∨ n.op = 3 ∨ n.op = 4 ∨ n.op = 5 ∨ (n.op ≠ 1 ∧ n.op ≠ 2 ∧ n.op ≠ 3 ∧ n.op ≠ 4 ∧ n.op ≠ 5) := by omega
  refine neq_s (fun hl0 => ?_) (fun hl0 => ?_)
  rotate_left
  · (repeat (first | refine bindP_mk (by simp (disch := first | omega | exact Int.natCast_nonneg _ | assumption) only [BB, B2, ↓reduceIte, Nat.reduceLeDiff, Nat.reduceAdd, CC, l7] <;> rfl) ?_ | refine newP_mk ?_ | refine optP_mk ?_ | with_reducible first | refine condP_t ?_ | refine condP_f ?_ | refine ifP_tt' ?_ | refine ifP_ff' ?_ | refine ifP_tf' ?_ | refine ifP_ft' ?_ | refine ifP_u' ?_ | refine optP_mk0 ?_))
    refine neq_s (fun hh0 => ?_) (fun hh0 => ?_)
    · rw [decide_eq_true (show n.lo ≠ 0 ∨ n.hi ≠ 0 from .inr hh0)] at hK'
      generalize decide (n.name.size ≠ 0) = C at hnm hK'
      (repeat (first | refine bindP_mk (by simp (disch := first | omega | exact Int.natCast_nonneg _ | assumption) only [BB, B2, ↓reduceIte, Nat.reduceLeDiff, Nat.reduceAdd, CC, l8, hnm, l0] <;> rfl) ?_ | refine newP_mk ?_ | refine optP_mk ?_ | with_reducible first | refine condP_t ?_ | refine condP_f ?_ | refine ifP_tt' ?_ | refine ifP_ff' ?_ | refine ifP_tf' ?_ | refine ifP_ft' ?_ | refine ifP_u' ?_ | refine optP_mk0 ?_))
      rcases ho with ho | ho | ho | ho | ho | ho <;> cases A <;> cases C <;> ((repeat (first | refine bindP_mk (by simp (disch := first | omega | exact Int.natCast_nonneg _ | assumption) only [BB, B2, ↓reduceIte, Nat.reduceLeDiff, Nat.reduceAdd, CC, l5, l6, l7, hlen] <;> rfl) ?_ | refine newP_mk ?_ | refine optP_mk ?_ | with_reducible first | refine condP_t ?_ | refine condP_f ?_ | refine ifP_tt' ?_ | refine ifP_ff' ?_ | refine ifP_tf' ?_ | refine ifP_ft' ?_ | refine ifP_u' ?_ | refine optP_mk0 ?_)); first | exact hK' _ _ (by first | (simp [shapeB, ho]; done) | (simp [shapeB, ho]; omega)) (by omega) | exact shape_j2 (hn.sub hs1) g (by omega) (by simp [ho]) rfl rfl rfl rfl rfl rfl (by omega) hK' | ((first | refine lss_s (fun hb => ?_) (fun hb => ?_) | refine leq_s (fun hb => ?_) (fun hb => ?_) | refine gtr_s (fun hb => ?_) (fun hb => ?_) | refine geq_s (fun hb => ?_) (fun hb => ?_) | refine eql_s (fun hb => ?_) (fun hb => ?_) | refine neq_s (fun hb => ?_) (fun hb => ?_)) <;> (repeat (first | refine bindP_mk (by simp (disch := first | omega | exact Int.natCast_nonneg _ | assumption) only [BB, B2, ↓reduceIte, Nat.reduceLeDiff, Nat.reduceAdd, CC] <;> rfl) ?_ | refine newP_mk ?_ | refine optP_mk ?_ | with_reducible first | refine condP_t ?_ | refine condP_f ?_ | refine ifP_tt' ?_ | refine ifP_ff' ?_ | refine ifP_tf' ?_ | refine ifP_ft' ?_ | refine ifP_u' ?_ | refine optP_mk0 ?_)) <;> exact hK' _ _ (by simp [shapeB, ho, -List.length_eq_zero_iff]; omega) (by omega)))
    · rw [decide_eq_false (show ¬ (n.lo ≠ 0 ∨ n.hi ≠ 0) by omega)] at hK'
      generalize decide (n.name.size ≠ 0) = C at hnm hK'
      (repeat (first | refine bindP_mk (by simp (disch := first | omega | exact Int.natCast_nonneg _ | assumption) only [BB, B2, ↓reduceIte, Nat.reduceLeDiff, Nat.reduceAdd, CC, l8, hnm, l0] <;> rfl) ?_ | refine newP_mk ?_ | refine optP_mk ?_ | with_reducible first | refine condP_t ?_ | refine condP_f ?_ | refine ifP_tt' ?_ | refine ifP_ff' ?_ | refine ifP_tf' ?_ | refine ifP_ft' ?_ | refine ifP_u' ?_ | refine optP_mk0 ?_))
      rcases ho with ho | ho | ho | ho | ho | ho <;> cases A <;> cases C <;> ((repeat (first | refine bindP_mk (by simp (disch := first | omega | exact Int.natCast_nonneg _ | assumption) only [BB, B2, ↓reduceIte, Nat.reduceLeDiff, Nat.reduceAdd, CC, l5, l6, l7, hlen] <;> rfl) ?_ | refine newP_mk ?_ | refine optP_mk ?_ | with_reducible first | refine condP_t ?_ | refine condP_f ?_ | refine ifP_tt' ?_ | refine ifP_ff' ?_ | refine ifP_tf' ?_ | refine ifP_ft' ?_ | refine ifP_u' ?_ | refine optP_mk0 ?_)); first | exact hK' _ _ (by first | (simp [shapeB, ho]; done) | (simp [shapeB, ho]; omega)) (by omega) | exact shape_j2 (hn.sub hs1) g (by omega) (by simp [ho]) rfl rfl rfl rfl rfl rfl (by omega) hK' | ((first | refine lss_s (fun hb => ?_) (fun hb => ?_) | refine leq_s (fun hb => ?_) (fun hb => ?_) | refine gtr_s (fun hb => ?_) (fun hb => ?_) | refine geq_s (fun hb => ?_) (fun hb => ?_) | refine eql_s (fun hb => ?_) (fun hb => ?_) | refine neq_s (fun hb => ?_) (fun hb => ?_)) <;> (repeat (first | refine bindP_mk (by simp (disch := first | omega | exact Int.natCast_nonneg _ | assumption) only [BB, B2, ↓reduceIte, Nat.reduceLeDiff, Nat.reduceAdd, CC] <;> rfl) ?_ | refine newP_mk ?_ | refine optP_mk ?_ | with_reducible first | refine condP_t ?_ | refine condP_f ?_ | refine ifP_tt' ?_ | refine ifP_ff' ?_ | refine ifP_tf' ?_ | refine ifP_ft' ?_ | refine ifP_u' ?_ | refine optP_mk0 ?_)) <;> exact hK' _ _ (by simp [shapeB, ho, -List.length_eq_zero_iff]; omega) (by omega)))
  · rw [decide_eq_true (show n.lo ≠ 0 ∨ n.hi ≠ 0 from .inl hl0)] at hK'
    generalize decide (n.name.size ≠ 0) = C at hnm hK'
    (repeat (first | refine bindP_mk (by simp (disch := first | omega | exact Int.natCast_nonneg _ | assumption) only [BB, B2, ↓reduceIte, Nat.reduceLeDiff, Nat.reduceAdd, CC, l8, hnm, l0] <;> rfl) ?_ | refine newP_mk ?_ | refine optP_mk ?_ | with_reducible first | refine condP_t ?_ | refine condP_f ?_ | refine ifP_tt' ?_ | refine ifP_ff' ?_ | refine ifP_tf' ?_ | refine ifP_ft' ?_ | refine ifP_u' ?_ | refine optP_mk0 ?_))
    rcases ho with ho | ho | ho | ho | ho | ho <;> cases A <;> cases C <;> ((repeat (first | refine bindP_mk (by simp (disch := first | omega | exact Int.natCast_nonneg _ | assumption) only [BB, B2, ↓reduceIte, Nat.reduceLeDiff, Nat.reduceAdd, CC, l5, l6, l7, hlen] <;> rfl) ?_ | refine newP_mk ?_ | refine optP_mk ?_ | with_reducible first | refine condP_t ?_ | refine condP_f ?_ | refine ifP_tt' ?_ | refine ifP_ff' ?_ | refine ifP_tf' ?_ | refine ifP_ft' ?_ | refine ifP_u' ?_ | refine optP_mk0 ?_)); first | exact hK' _ _ (by first | (simp [shapeB, ho]; done) | (simp [shapeB, ho]; omega)) (by omega) | exact shape_j2 (hn.sub hs1) g (by omega) (by simp [ho]) rfl rfl rfl rfl rfl rfl (by omega) hK' | ((first | refine lss_s (fun hb => ?_) (fun hb => ?_) | refine leq_s (fun hb => ?_) (fun hb => ?_) | refine gtr_s (fun hb => ?_) (fun hb => ?_) | refine geq_s (fun hb => ?_) (fun hb => ?_) | refine eql_s (fun hb => ?_) (fun hb => ?_) | refine neq_s (fun hb => ?_) (fun hb => ?_)) <;> (repeat (first | refine bindP_mk (by simp (disch := first | omega | exact Int.natCast_nonneg _ | assumption) only [BB, B2, ↓reduceIte, Nat.reduceLeDiff, Nat.reduceAdd, CC] <;> rfl) ?_ | refine newP_mk ?_ | refine optP_mk ?_ | with_reducible first | refine condP_t ?_ | refine condP_f ?_ | refine ifP_tt' ?_ | refine ifP_ff' ?_ | refine ifP_tf' ?_ | refine ifP_ft' ?_ | refine ifP_u' ?_ | refine optP_mk0 ?_)) <;> exact hK' _ _ (by simp [shapeB, ho, -List.length_eq_zero_iff]; omega) (by omega)))
end V
end Go.Proofs.Ytepbdkfkfcckoaa
set_option linter.unusedVariables false
set_option linter.unusedSimpArgs false
namespace Go.Proofs.Ytepbdkfkfcckoaa
namespace V
open PA
attribute [local irreducible] bindP ifP condP newP optP exP beqP
theorem nd_at {ro : Ro} {h : T Obj} {v : Value} {l : List NodeD} (hl : RTree ro h v l) {a : Int} (h0 : 0 ≤ a) (h1 : a < l.length) : ∃ lv, ZI ro h lv (ndAt l a).l ∧ (ndAt l a).s < 2 ^ 256 ∧ (ndAt l a).l.length ≤ lenB ∧ ixSl 9 v (.int .i64 a) = some (elPtr 9 v a.toNat) ∧ (∀ k, fwdP k (elPtr 9 v a.toNat) = some (elPtrK 9 v a.toNat k)) ∧
    load1 ro h (elPtrK 9 v a.toNat 0) = some (.int .u8 (ndAt l a).op) ∧ load1 ro h (elPtrK 9 v a.toNat 5) = some lv ∧ load1 ro h (elPtrK 9 v a.toNat 6) = some (.int .i64 (ndAt l a).lo) ∧ load1 ro h (elPtrK 9 v a.toNat 7) = some (.int .i64 (ndAt l a).hi) ∧
    loadA ro h 9 (elPtr 9 v a.toNat) = some (.agg (nodL (ndAt l a) lv).toArray) := by
  have hi : a.toNat < l.length := by omega
  obtain ⟨x, ⟨lv, rfl, p1, p2, p3⟩, p4, p5, p6, p7⟩ := SlR.at hl hi
  have e : l[a.toNat] = ndAt l a := by
    unfold ndAt
    rw [List.getD_eq_getElem?_getD, List.getElem?_eq_getElem hi]; rfl
  rw [e] at p1 p2 p3 p5 p7
  obtain ⟨g0, g5, g6, g7, g8⟩ := nodL_get (ndAt l a) lv
  exact ⟨lv, p1, p2, p3, SlR.ixI hl .i64 h0 h1, p6, p7 0 _ g0, p7 5 _ g5, p7 6 _ g6, p7 7 _ g7, p5⟩
theorem mtinOf {t : TypeId} {s b : Nat} (h : (tin Try.prog t).map (fun i => (i.size, i.bytes)) = some (s, b)) : ∃ i, tin Try.prog t = some i ∧ i.size = s ∧ i.bytes = b := by
  cases hi : tin Try.prog t with
  | none => rw [hi] at h; cases h
  | some i =>
    rw [hi] at h
    have : (i.size, i.bytes) = (s, b) := Option.some.inj h
    exact ⟨i, rfl, congrArg Prod.fst this, congrArg Prod.snd this⟩
theorem mlit_int (aid : Nat) (x : Int) : sliceLitV Try.prog y_s_int aid 1 [(0, .int .i64 x)] = some (.slice (some (own aid 1)) 1 1, some (.cells [Value.int .i64 x].toArray y_int)) := by kernel_rfl
theorem mund_ints : und Try.prog y_s_int = some (.slice y_int) := by kernel_rfl
theorem mtin_int : ∃ i, tin Try.prog y_int = some i ∧ i.size = 1 ∧ i.bytes = 8 := mtinOf (by kernel_rfl)
theorem mzer_int : zer Try.prog y_int = some (.int .i64 0) := by kernel_rfl
theorem intsZ_app (l : List Int) (x : Int) : intsZ (l ++ [x]) = intsZ l ++ [[Value.int .i64 x]] := by simp [intsZ]
def Gap (n : Nat) (h h' : T Obj) : Prop := ∀ k, k < n → h.get k = none → h'.get k = none
theorem Gap.refl (n : Nat) (h : T Obj) : Gap n h h := fun _ _ h => h
theorem Gap.trans {n m : Nat} {a b c : T Obj} (h1 : Gap n a b) (h2 : Gap m b c) (hn : n ≤ m) : Gap n a c := fun k hk h => h2 k (by omega) (h1 k hk h)
theorem Gap.new {n k : Nat} {a b : T Obj} {o : Option Obj} (h : Gap n a b) (hk : n ≤ k) : Gap n a (b.upd k o) := fun i hi hn => by
  rw [T.get_upd_ne _ _ (by omega)]; exact h i hi hn
theorem Gap.upd {n k : Nat} {a b : T Obj} {o : Option Obj} {c : Obj} (h : Gap n a b) (hk : b.get k = some c) : Gap n a (b.upd k o) := fun i hi hn => by
  have h1 := h i hi hn
  rw [T.get_upd_ne _ _ (fun e => by subst e; rw [hk] at h1; cases h1)]; exact h1
theorem mapp_lit {P : Program} {ro : Ro} {h : T Obj} {v w : Value} {z nx n1 n2 lo : Nat} {t e : TypeId} {i : TypeInfo} {zv : Value} {l : List (List Value)} {y : List Value} {K : Value × Option Obj → T Obj → Value × T Obj × Nat → Prop} (hlit : sliceLitV P t n1 1 [(0, w)] = some (.slice (some (own n1 z)) 1 1, some (.cells y.toArray e))) (hy : y.length = z) (ho : OwnT h v z e l lo)
    (hu : und P t = some (.slice e)) (hi' : tin P e = some i) (hz : i.size = z) (hz0 : 0 < z) (hzer : zer P e = some zv) (hzs : zv.cells.size = z) (hok : y.all cellOk = true) (hb : (l.length + 1) * i.bytes ≤ big) (hb2 : l.length + 1 ≤ big) (hf : Fr h nx) (hlo : lo ≤ nx) (hn1 : nx ≤ n1) (hn2 : n1 < n2)
    (hK : ∀ h' q h1, OwnT h' (.slice (some (own n2 z)) (l ++ [y]).length (l ++ [y]).length) z e (l ++ [y]) lo → Kp v h h' → Fr h' (n2 + 1) → Gap nx h h' → K q h1 (.slice (some (own n2 z)) (l ++ [y]).length (l ++ [y]).length, h', n2 + 1)) :
    bindP (sliceLitV P t n1 1 [(0, w)]) fun r => optP h n1 r.2 fun h' => bindP (appendV P ro h' n2 #[t, t] [v, r.1]) (K r h') := by
  refine bindP_mk hlit (optP_mk ?_)
  have hs1 : Sub h (h.upd n1 (some (.cells y.toArray e))) := (Sub.refl h).new hf hn1
  have hf1 : Fr (h.upd n1 (some (.cells y.toArray e))) n2 := (hf.mono (show nx ≤ n2 by omega)).upd (Nat.le_refl _) hn2
  have hx1 : Sl ro (h.upd n1 (some (.cells y.toArray e))) (.slice (some (own n1 z)) 1 1) z [y] := Sl.own (l := [y]) (e := e) (f := (0, 0)) (by rw [T.get_upd_same]; simp) (by simpa using hy) (Nat.le_refl _)
  obtain ⟨h', q1, q2, q3, q4, q5⟩ := appendT (P := P) (t := t) (nx := n2) (ho.keepS hs1) hx1 hu hi' hz hz0 hzer hzs (by simp) (by simpa using hok) hb hb2 (by omega) hf1
  refine bindP_mk q1 (hK h' _ _ q2 (fun k o hk hv => q3 k o (hs1 k o hk) hv) q4 fun k hk hn => ?_)
  have h1 : (h.upd n1 (some (.cells y.toArray e))).get k = none := by rw [T.get_upd_ne _ _ (by omega)]; exact hn
  rcases q5 k (by omega) with h2 | h2
  · rw [h2]; exact h1
  · exact h2
theorem mapp_int {ro : Ro} {h : T Obj} {v : Value} {l : List Int} {x : Int} {nx n1 n2 lo : Nat} {K : Value × Option Obj → T Obj → Value × T Obj × Nat → Prop} (ho : OwnT h v 1 y_int (intsZ l) lo) (hb : l.length ≤ 1000000) (hf : Fr h nx) (hlo : lo ≤ nx) (hn1 : nx ≤ n1) (hn2 : n1 < n2)
    (hK : ∀ r h' q h1, OwnT h' r 1 y_int (intsZ (l ++ [x])) lo → Kp v h h' → Fr h' (n2 + 1) → Gap nx h h' → K q h1 (r, h', n2 + 1)) :
    bindP (sliceLitV Try.prog y_s_int n1 1 [(0, .int .i64 x)]) fun r => optP h n1 r.2 fun h' => bindP (appendV Try.prog ro h' n2 #[y_s_int, y_s_int] [v, r.1]) (K r h') := by
  obtain ⟨i, h1, h2, h3⟩ := mtin_int
  have hbig : (1000001 : Nat) * 8 ≤ big := by decide
  refine mapp_lit (z := 1) (mlit_int n1 x) rfl ho mund_ints h1 h2 (by omega) mzer_int rfl rfl (by rw [h3, intsZ_len]; omega) (by rw [intsZ_len]; omega) hf hlo hn1 hn2 fun h' q h1 q1 q2 q3 q4 => ?_
  refine hK _ h' _ _ ?_ q2 q3 q4
  rw [intsZ_app]
  exact q1
theorem kidsD_le {l : List NodeD} {f : Int → List Int → Option (List Int)} {at_ : Int} {B : Nat} (hf : ∀ k s t, f k s = some t → t.length ≤ B) : ∀ (r s t : List Int), s.length ≤ B → kidsD f at_ r s = some t → t.length ≤ B
  | [], s, t, hs, h => by cases h; exact hs
  | k :: r, s, t, hs, h => by
    unfold kidsD at h
    split at h
    · cases h
    · cases hk : f k s with
      | none => rw [hk] at h; cases h
      | some s2 =>
        rw [hk] at h
        exact kidsD_le (l := l) hf r s2 t (hf k s s2 hk) h
theorem walkD_le {l : List NodeD} : ∀ (n : Nat) (a : Int) (s t : List Int), walkD l n a s = some t → t.length ≤ l.length + n
  | 0, a, s, t, h => by cases h
  | n + 1, a, s, t, h => by
    unfold walkD at h
    split at h
    · cases h
    · cases hk : kidsD (walkD l n) a (ndAt l a).l s with
      | none => rw [hk] at h; cases h
      | some s2 =>
        rw [hk] at h
        cases h
        have := kidsD_le (l := l) (B := l.length + n) (fun k s t h => walkD_le n k s t h) _ _ _ (by omega) hk
        simp; omega
theorem kidsD_cons (f : Int → List Int → Option (List Int)) (a k : Int) (r s : List Int) : kidsD f a (k :: r) s = if k < 0 ∨ a ≤ k then none else (f k s).bind fun s => kidsD f a r s := rfl
set_option maxRecDepth 4000 in
set_option maxHeartbeats 2000000 in
theorem ref04_walk_c {ro : Ro} {v : Value} {l : List NodeD} {h0 : T Obj} {lo : Nat} (hl : RTree ro h0 v l) (hlen : l.length ≤ 1024) (hf0 : Fr h0 lo) : ∀ (n : Nat) (a : Int) (s : List Int) (sv : Value) (h : T Obj) (nx : Nat) (K : KV), n ≤ 1024 → 0 ≤ a → a < n → a < l.length → Sub h0 h → Fr h nx → lo ≤ nx → OwnT h sv 1 y_int (intsZ s) lo →
    (∀ t r h' nx', walkD l n a s = some t → nx ≤ nx' → Fr h' nx' → Sub h0 h' → OwnT h' r 1 y_int (intsZ t) lo → K (.tuple #[r, .bool true]) h' nx') → (∀ r h' nx', walkD l n a s = none → nx ≤ nx' → Fr h' nx' → Sub h0 h' → K (.tuple #[r, .bool false]) h' nx') → callP Try.prog ro i_ref04_walk [v, .int .i64 a, sv] h nx K
  | 0, a, s, sv, h, nx, K, _, _, _, _, _, _, _, _, _, _ => by omega
  | n + 1, a, s, sv, h, nx, K, hn, ha0, ha1, ha2, hs, hf, hlo, ho, hok, hno => by
    apply ref04_walk_of
    unfold ref04_walk
    have hsl : lenSl sv = some (.int .i64 s.length) := by
      have := (ho.sl (ro := ro)).len
      rwa [intsZ_len] at this
    have hvl := SlR.len hl
    (repeat (first | refine bindP_mk (by simp (disch := first | omega | exact Int.natCast_nonneg _ | assumption) only [BB, B2, ↓reduceIte, Nat.reduceLeDiff, Nat.reduceAdd, CC, hsl, hvl] <;> rfl) ?_ | refine newP_mk ?_ | refine optP_mk ?_ | with_reducible first | refine condP_t ?_ | refine condP_f ?_ | refine ifP_tt' ?_ | refine ifP_ff' ?_ | refine ifP_tf' ?_ | refine ifP_ft' ?_ | refine ifP_u' ?_ | refine optP_mk0 ?_))
    refine geq_s (fun hg => ?_) (fun hg => ?_)
    · (repeat (first | refine bindP_mk (by simp (disch := first | omega | exact Int.natCast_nonneg _ | assumption) only [BB, B2, ↓reduceIte, Nat.reduceLeDiff, Nat.reduceAdd, CC] <;> rfl) ?_ | refine newP_mk ?_ | refine optP_mk ?_ | with_reducible first | refine condP_t ?_ | refine condP_f ?_ | refine ifP_tt' ?_ | refine ifP_ff' ?_ | refine ifP_tf' ?_ | refine ifP_ft' ?_ | refine ifP_u' ?_ | refine optP_mk0 ?_))
      refine ⟨h, Sub.refl _, hno _ _ _ ?_ (by omega) (hf.mono (by omega)) hs⟩
      unfold walkD
      rw [if_pos (by omega)]
    · (repeat (first | refine bindP_mk (by simp (disch := first | omega | exact Int.natCast_nonneg _ | assumption) only [BB, B2, ↓reduceIte, Nat.reduceLeDiff, Nat.reduceAdd, CC] <;> rfl) ?_ | refine newP_mk ?_ | refine optP_mk ?_ | with_reducible first | refine condP_t ?_ | refine condP_f ?_ | refine ifP_tt' ?_ | refine ifP_ff' ?_ | refine ifP_tf' ?_ | refine ifP_ft' ?_ | refine ifP_u' ?_ | refine optP_mk0 ?_))
      have hwd : walkD l (n + 1) a s = (kidsD (walkD l n) a (ndAt l a).l s).bind fun s => some (s ++ [a]) := by
        conv => lhs; unfold walkD
        rw [if_neg (by omega)]
      rw [hwd] at hok hno
      refine loopP_rule (fun j e h' nx' => ∃ (i : Nat) (s2 : List Int) (sv2 : Value), i + j = (ndAt l a).l.length ∧ nx + 8 ≤ nx' ∧ e 0 = v ∧ e 1 = .int .i64 a ∧ e 2 = sv2 ∧ e 8 = .int .i64 i ∧ Fr h' nx' ∧ Sub h0 h' ∧ OwnT h' sv2 1 y_int (intsZ s2) lo ∧ s2.length ≤ l.length + n ∧ kidsD (walkD l n) a (ndAt l a).l s = kidsD (walkD l n) a ((ndAt l a).l.drop i) s2) ?_ (n := (ndAt l a).l.length)
        ⟨0, s, sv, by omega, by omega, rfl, rfl, rfl, rfl, hf.mono (by omega), hs, ho, by omega, rfl⟩
      rintro j e h' nx' ⟨i, s2, sv2, hij, hnx, e0, e1, e2, e8, hf', hs', ho', hl2, hk⟩ Q' hq hx
      unfold ref04_walk_L1
      rw [e0, e1, e2, e8]
      obtain ⟨lv, z1, z2, z3, z4, z5, z6, z7, _, _, _⟩ := nd_at (hl.sub hs') ha0 ha2
      have z5' := z5 5
      have zl := z1.len
      unfold lenB at z3
      (repeat (first | refine bindP_mk (by simp (disch := first | omega | exact Int.natCast_nonneg _ | assumption) only [BB, B2, ↓reduceIte, Nat.reduceLeDiff, Nat.reduceAdd, CC, z4, z5', z7, zl] <;> rfl) ?_ | refine newP_mk ?_ | refine optP_mk ?_ | with_reducible first | refine condP_t ?_ | refine condP_f ?_ | refine ifP_tt' ?_ | refine ifP_ff' ?_ | refine ifP_tf' ?_ | refine ifP_ft' ?_ | refine ifP_u' ?_ | refine optP_mk0 ?_))
      refine lss_s (fun hi => ?_) (fun hi => ?_)
      · have hi : i < (ndAt l a).l.length := by omega
        have y1 := z1.ix .i64 hi
        have y2 := z1.load hi
        rw [drop_cons hi, kidsD_cons] at hk
        generalize (ndAt l a).l[i] = k at y2 hk
        (repeat (first | refine bindP_mk (by simp (disch := first | omega | exact Int.natCast_nonneg _ | assumption) only [BB, B2, ↓reduceIte, Nat.reduceLeDiff, Nat.reduceAdd, CC, z4, z5', z7, y1, y2] <;> rfl) ?_ | refine newP_mk ?_ | refine optP_mk ?_ | with_reducible first | refine condP_t ?_ | refine condP_f ?_ | refine ifP_tt' ?_ | refine ifP_ff' ?_ | refine ifP_tf' ?_ | refine ifP_ft' ?_ | refine ifP_u' ?_ | refine optP_mk0 ?_))
        have hbad : ∀ (e' : Env) m, kidsD (walkD l n) a (ndAt l a).l s = none → nx ≤ m → Fr h' m → e' 6 = sv2 → e' 7 = .bool false → Q' .ret e' h' m := fun e' m hb hm hfm e6 e7 => by
          refine hx _ _ _ _ (fun e => by cases e) (exP_r ?_)
          rw [e6, e7]
          exact ⟨h', Sub.refl _, hno _ _ _ (by rw [hb]; rfl) (by omega) hfm hs'⟩
        by_cases hkk : k < 0 ∨ a ≤ k
        · rw [if_pos hkk] at hk
          by_cases hk0 : k < 0
          · refine lss_t (by omega) ?_
            (repeat (first | refine bindP_mk (by simp (disch := first | omega | exact Int.natCast_nonneg _ | assumption) only [BB, B2, ↓reduceIte, Nat.reduceLeDiff, Nat.reduceAdd, CC] <;> rfl) ?_ | refine newP_mk ?_ | refine optP_mk ?_ | with_reducible first | refine condP_t ?_ | refine condP_f ?_ | refine ifP_tt' ?_ | refine ifP_ff' ?_ | refine ifP_tf' ?_ | refine ifP_ft' ?_ | refine ifP_u' ?_ | refine optP_mk0 ?_))
            exact hbad _ _ hk (by omega) (hf'.mono (by omega)) rfl rfl
          · refine lss_f (by omega) ?_
            (repeat (first | refine bindP_mk (by simp (disch := first | omega | exact Int.natCast_nonneg _ | assumption) only [BB, B2, ↓reduceIte, Nat.reduceLeDiff, Nat.reduceAdd, CC] <;> rfl) ?_ | refine newP_mk ?_ | refine optP_mk ?_ | with_reducible first | refine condP_t ?_ | refine condP_f ?_ | refine ifP_tt' ?_ | refine ifP_ff' ?_ | refine ifP_tf' ?_ | refine ifP_ft' ?_ | refine ifP_u' ?_ | refine optP_mk0 ?_))
            exact hbad _ _ hk (by omega) (hf'.mono (by omega)) rfl rfl
        · rw [if_neg hkk] at hk
          refine lss_f (by omega) ?_
          (repeat (first | refine bindP_mk (by simp (disch := first | omega | exact Int.natCast_nonneg _ | assumption) only [BB, B2, ↓reduceIte, Nat.reduceLeDiff, Nat.reduceAdd, CC] <;> rfl) ?_ | refine newP_mk ?_ | refine optP_mk ?_ | with_reducible first | refine condP_t ?_ | refine condP_f ?_ | refine ifP_tt' ?_ | refine ifP_ff' ?_ | refine ifP_tf' ?_ | refine ifP_ft' ?_ | refine ifP_u' ?_ | refine optP_mk0 ?_))
          refine ref04_walk_c hl hlen hf0 n k s2 sv2 _ _ _ (by omega) (by omega) (by omega) (by omega) hs' (hf'.mono (by omega)) (by omega) ho' (fun t r h2 n2 ht hn2 hf2 hs2 ho2 => ?_) (fun r h2 n2 ht hn2 hf2 hs2 => ?_)
          · rw [ht] at hk
            refine bindP_mk (show nth 0 (.tuple #[r, .bool true]) = some r from rfl) (bindP_mk (show nth 1 (.tuple #[r, .bool true]) = some (.bool true) from rfl) ?_)
            (repeat (first | refine bindP_mk (by simp (disch := first | omega | exact Int.natCast_nonneg _ | assumption) only [BB, B2, ↓reduceIte, Nat.reduceLeDiff, Nat.reduceAdd, CC] <;> rfl) ?_ | refine newP_mk ?_ | refine optP_mk ?_ | with_reducible first | refine condP_t ?_ | refine condP_f ?_ | refine ifP_tt' ?_ | refine ifP_ff' ?_ | refine ifP_tf' ?_ | refine ifP_ft' ?_ | refine ifP_u' ?_ | refine optP_mk0 ?_))
            exact hq (j - 1) _ _ _ _ (by omega) ⟨i + 1, t, r, by omega, by omega, e0, e1, rfl, rfl, hf2.mono (by omega), hs2, ho2, walkD_le _ _ _ _ ht, hk⟩ (Sub.refl _)
          · rw [ht] at hk
            refine bindP_mk (show nth 0 (.tuple #[r, .bool false]) = some r from rfl) (bindP_mk (show nth 1 (.tuple #[r, .bool false]) = some (.bool false) from rfl) ?_)
            (repeat (first | refine bindP_mk (by simp (disch := first | omega | exact Int.natCast_nonneg _ | assumption) only [BB, B2, ↓reduceIte, Nat.reduceLeDiff, Nat.reduceAdd, CC] <;> rfl) ?_ | refine newP_mk ?_ | refine optP_mk ?_ | with_reducible first | refine condP_t ?_ | refine condP_f ?_ | refine ifP_tt' ?_ | refine ifP_ff' ?_ | refine ifP_tf' ?_ | refine ifP_ft' ?_ | refine ifP_u' ?_ | refine optP_mk0 ?_))
            refine hx _ _ _ _ (fun e => by cases e) (exP_r ?_)
            exact ⟨h2, Sub.refl _, hno _ _ _ (by rw [hk]; rfl) (by omega) (hf2.mono (by omega)) hs2⟩
      · rw [drop_all (by omega)] at hk
        (repeat (first | refine bindP_mk (by simp (disch := first | omega | exact Int.natCast_nonneg _ | assumption) only [BB, B2, ↓reduceIte, Nat.reduceLeDiff, Nat.reduceAdd, CC] <;> rfl) ?_ | refine newP_mk ?_ | refine optP_mk ?_ | with_reducible first | refine condP_t ?_ | refine condP_f ?_ | refine ifP_tt' ?_ | refine ifP_ff' ?_ | refine ifP_tf' ?_ | refine ifP_ft' ?_ | refine ifP_u' ?_ | refine optP_mk0 ?_))
        refine hx _ _ _ _ (fun e => by cases e) (exP_e (beqP_t ?_))
        unfold ref04_walk_j1
        show bindP (sliceLitV Try.prog y_s_int _ 1 [(0, e 1)]) fun r5 => optP h' _ r5.2 fun h6 => bindP (appendV Try.prog ro h6 _ #[y_s_int, y_s_int] [e 2, r5.1]) _
        rw [e1, e2]
        refine mapp_int ho' (by omega) hf' (by omega) (by omega) (by omega) fun r h2 q h3 o1 o2 o3 o4 => ?_
        dsimp only
        exact ⟨h2, Sub.refl _, hok _ _ _ _ (by rw [hk]; rfl) (by omega) (o3.mono (by omega)) (ho'.sub o2 hf0 (Nat.le_refl _) hs') o1⟩
theorem all_snoc {l : List NodeD} {q : NodeD → Bool} {i : Nat} (hi : i < l.length) : (l.take (i + 1)).all q = ((l.take i).all q && q l[i]) := by
  rw [List.take_succ_eq_append_getElem hi, List.all_append]; simp
theorem ndAt_get {l : List NodeD} {i : Nat} (hi : i < l.length) : ndAt l (i : Int) = l[i] := by
  unfold ndAt
  rw [Int.toNat_natCast, List.getD_eq_getElem?_getD, List.getElem?_eq_getElem hi]; rfl
theorem upto_ne {t : List Int} {n i : Nat} (hi : i < t.length) (hn : t.length = n) (h : t[i] ≠ (i : Int)) : (t == upto n) = false := by
  cases hq : t == upto n with
  | false => rfl
  | true =>
    exfalso
    have e : t = upto n := by simpa using hq
    apply h
    have : ∀ (t u : List Int) (e : t = u) (hi : i < t.length), t[i] = u[i]'(by rw [← e]; exact hi) := fun t u e hi => by subst e; rfl
    rw [this t (upto n) e hi]
    simp [upto]
theorem upto_take {t : List Int} {n : Nat} (hn : t.length = n) (h : ∀ i (hi : i < t.length), t[i] = (i : Int)) : (t == upto n) = true := by
  have : t = upto n := by
    refine List.ext_getElem (by simp [upto, hn]) fun i h1 h2 => ?_
    rw [h i h1]
    simp [upto]
  simpa using this
set_option maxRecDepth 4000 in
set_option maxHeartbeats 2000000 in
theorem right4_j1 {ro : Ro} {v : Value} {l : List NodeD} {h : T Obj} {nx m : Nat} {K : KV} {e : Env} (hl : RTree ro h v l) (hf : Fr h nx) (hm : nx ≤ m) (hl1 : 1 ≤ l.length) (hl2 : l.length ≤ 1024) (e0 : e 0 = v) (hr4 : right4 l = (walkD l l.length (l.length - 1) [] == some (upto l.length))) (hK : ∀ nx', nx ≤ nx' → K (.bool (right4 l)) h nx') : ref04_Right_j1 ro K e h m := by
  rw [hr4] at hK
  have hvl := SlR.len hl
  unfold ref04_Right_j1
  rw [e0]
  (repeat (first | refine bindP_mk (by simp (disch := first | omega | exact Int.natCast_nonneg _ | assumption) only [BB, B2, ↓reduceIte, Nat.reduceLeDiff, Nat.reduceAdd, CC, hvl] <;> rfl) ?_ | refine newP_mk ?_ | refine optP_mk ?_ | with_reducible first | refine condP_t ?_ | refine condP_f ?_ | refine ifP_tt' ?_ | refine ifP_ff' ?_ | refine ifP_tf' ?_ | refine ifP_ft' ?_ | refine ifP_u' ?_ | refine optP_mk0 ?_))
  refine ref04_walk_c hl hl2 (hf.mono hm) l.length (l.length - 1) [] (.slice none 0 0) h _ _ (by omega) (by omega) (by omega) (by omega) (Sub.refl _) (hf.mono (by omega)) (by omega) OwnT.nil (fun t r h2 n2 ht hn2 hf2 hs2 ho2 => ?_) (fun r h2 n2 ht hn2 hf2 hs2 => ?_)
  · rw [ht] at hK
    have hrl : lenSl r = some (.int .i64 t.length) := by
      have := (ho2.sl (ro := ro)).len
      rwa [intsZ_len] at this
    refine bindP_mk (show nth 0 (.tuple #[r, .bool true]) = some r from rfl) (bindP_mk (show nth 1 (.tuple #[r, .bool true]) = some (.bool true) from rfl) ?_)
    (repeat (first | refine bindP_mk (by simp (disch := first | omega | exact Int.natCast_nonneg _ | assumption) only [BB, B2, ↓reduceIte, Nat.reduceLeDiff, Nat.reduceAdd, CC, hrl, hvl] <;> rfl) ?_ | refine newP_mk ?_ | refine optP_mk ?_ | with_reducible first | refine condP_t ?_ | refine condP_f ?_ | refine ifP_tt' ?_ | refine ifP_ff' ?_ | refine ifP_tf' ?_ | refine ifP_ft' ?_ | refine ifP_u' ?_ | refine optP_mk0 ?_))
    refine neq_s (fun hb => ?_) (fun hb => ?_)
    · (repeat (first | refine bindP_mk (by simp (disch := first | omega | exact Int.natCast_nonneg _ | assumption) only [BB, B2, ↓reduceIte, Nat.reduceLeDiff, Nat.reduceAdd, CC] <;> rfl) ?_ | refine newP_mk ?_ | refine optP_mk ?_ | with_reducible first | refine condP_t ?_ | refine condP_f ?_ | refine ifP_tt' ?_ | refine ifP_ff' ?_ | refine ifP_tf' ?_ | refine ifP_ft' ?_ | refine ifP_u' ?_ | refine optP_mk0 ?_))
      refine ⟨h, hs2, kb hK ?_ (by omega)⟩
      cases hq : (some t == some (upto l.length)) with
      | false => rfl
      | true =>
        have : t = upto l.length := by simpa using hq
        exfalso
        apply hb
        rw [this]; simp [upto]
    · (repeat (first | refine bindP_mk (by simp (disch := first | omega | exact Int.natCast_nonneg _ | assumption) only [BB, B2, ↓reduceIte, Nat.reduceLeDiff, Nat.reduceAdd, CC] <;> rfl) ?_ | refine newP_mk ?_ | refine optP_mk ?_ | with_reducible first | refine condP_t ?_ | refine condP_f ?_ | refine ifP_tt' ?_ | refine ifP_ff' ?_ | refine ifP_tf' ?_ | refine ifP_ft' ?_ | refine ifP_u' ?_ | refine optP_mk0 ?_))
      have htl : t.length = l.length := by omega
      refine loopP_rule (fun j e h' nx' => ∃ i : Nat, i + j = t.length ∧ nx ≤ nx' ∧ e 4 = r ∧ e 6 = .int .i64 i ∧ h' = h2 ∧ ∀ k (hk : k < t.length), k < i → t[k] = (k : Int)) ?_ (n := t.length) ⟨0, by omega, by omega, rfl, rfl, rfl, fun k _ h => by omega⟩
      rintro j e h' nx' ⟨i, hij, hnx, e4, e6, rfl, hall⟩ Q' hq hx
      unfold ref04_Right_L1
      rw [e4, e6]
      (repeat (first | refine bindP_mk (by simp (disch := first | omega | exact Int.natCast_nonneg _ | assumption) only [BB, B2, ↓reduceIte, Nat.reduceLeDiff, Nat.reduceAdd, CC, hrl] <;> rfl) ?_ | refine newP_mk ?_ | refine optP_mk ?_ | with_reducible first | refine condP_t ?_ | refine condP_f ?_ | refine ifP_tt' ?_ | refine ifP_ff' ?_ | refine ifP_tf' ?_ | refine ifP_ft' ?_ | refine ifP_u' ?_ | refine optP_mk0 ?_))
      refine lss_s (fun hi => ?_) (fun hi => ?_)
      · have hi : i < t.length := by omega
        have hz : ZI ro h' r t := ho2.sl
        have y1 := hz.ix .i64 hi
        have y2 := hz.load hi
        (repeat (first | refine bindP_mk (by simp (disch := first | omega | exact Int.natCast_nonneg _ | assumption) only [BB, B2, ↓reduceIte, Nat.reduceLeDiff, Nat.reduceAdd, CC, y1, y2] <;> rfl) ?_ | refine newP_mk ?_ | refine optP_mk ?_ | with_reducible first | refine condP_t ?_ | refine condP_f ?_ | refine ifP_tt' ?_ | refine ifP_ff' ?_ | refine ifP_tf' ?_ | refine ifP_ft' ?_ | refine ifP_u' ?_ | refine optP_mk0 ?_))
        refine neq_s (fun hne => ?_) (fun hne => ?_)
        · (repeat (first | refine bindP_mk (by simp (disch := first | omega | exact Int.natCast_nonneg _ | assumption) only [BB, B2, ↓reduceIte, Nat.reduceLeDiff, Nat.reduceAdd, CC] <;> rfl) ?_ | refine newP_mk ?_ | refine optP_mk ?_ | with_reducible first | refine condP_t ?_ | refine condP_f ?_ | refine ifP_tt' ?_ | refine ifP_ff' ?_ | refine ifP_tf' ?_ | refine ifP_ft' ?_ | refine ifP_u' ?_ | refine optP_mk0 ?_))
          refine hx _ _ _ _ (fun e => by cases e) (exP_r ?_)
          refine ⟨h, hs2, kb hK ?_ (by omega)⟩
          exact upto_ne hi htl hne
        · (repeat (first | refine bindP_mk (by simp (disch := first | omega | exact Int.natCast_nonneg _ | assumption) only [BB, B2, ↓reduceIte, Nat.reduceLeDiff, Nat.reduceAdd, CC] <;> rfl) ?_ | refine newP_mk ?_ | refine optP_mk ?_ | with_reducible first | refine condP_t ?_ | refine condP_f ?_ | refine ifP_tt' ?_ | refine ifP_ff' ?_ | refine ifP_tf' ?_ | refine ifP_ft' ?_ | refine ifP_u' ?_ | refine optP_mk0 ?_))
          refine hq (j - 1) _ _ _ _ (by omega) ⟨i + 1, by omega, by omega, e4, rfl, rfl, fun k hk hki => ?_⟩ (Sub.refl _)
          by_cases hki2 : k < i
          · exact hall k hk hki2
          · have : k = i := by omega
            subst this; exact hne
      · (repeat (first | refine bindP_mk (by simp (disch := first | omega | exact Int.natCast_nonneg _ | assumption) only [BB, B2, ↓reduceIte, Nat.reduceLeDiff, Nat.reduceAdd, CC] <;> rfl) ?_ | refine newP_mk ?_ | refine optP_mk ?_ | with_reducible first | refine condP_t ?_ | refine condP_f ?_ | refine ifP_tt' ?_ | refine ifP_ff' ?_ | refine ifP_tf' ?_ | refine ifP_ft' ?_ | refine ifP_u' ?_ | refine optP_mk0 ?_))
        refine hx _ _ _ _ (fun e => by cases e) (exP_e (beqP_t ?_))
        unfold ref04_Right_j2
        refine ⟨h, hs2, kb hK ?_ (by omega)⟩
        exact upto_take htl fun k hk => hall k hk (by omega)
  · rw [ht] at hK
    refine bindP_mk (show nth 0 (.tuple #[r, .bool false]) = some r from rfl) (bindP_mk (show nth 1 (.tuple #[r, .bool false]) = some (.bool false) from rfl) ?_)
    (repeat (first | refine bindP_mk (by simp (disch := first | omega | exact Int.natCast_nonneg _ | assumption) only [BB, B2, ↓reduceIte, Nat.reduceLeDiff, Nat.reduceAdd, CC] <;> rfl) ?_ | refine newP_mk ?_ | refine optP_mk ?_ | with_reducible first | refine condP_t ?_ | refine condP_f ?_ | refine ifP_tt' ?_ | refine ifP_ff' ?_ | refine ifP_tf' ?_ | refine ifP_ft' ?_ | refine ifP_u' ?_ | refine optP_mk0 ?_))
    exact ⟨h, hs2, kb hK rfl (by omega)⟩
set_option maxRecDepth 4000 in
set_option maxHeartbeats 2000000 in
theorem ref04_Right_c {ro : Ro} {v : Value} {l : List NodeD} (hop : ∀ n ∈ l, n.op ≠ 6) {h : T Obj} {nx : Nat} {K : KV} (hl : RTree ro h v l) (hf : Fr h nx) (hK : ∀ nx', nx ≤ nx' → K (.bool (right4 l)) h nx') : callP Try.prog ro i_ref04_Right [v] h nx K := by
  apply ref04_Right_of
  unfold ref04_Right
  have hvl := SlR.len hl
  have hK' : ∀ (b : Bool) m, right4 l = b → nx ≤ m → ∃ h2, Sub h2 h ∧ K (.bool b) h2 m := fun b m e hm => ⟨h, Sub.refl _, kb hK e hm⟩
  (repeat (first | refine bindP_mk (by simp (disch := first | omega | exact Int.natCast_nonneg _ | assumption) only [BB, B2, ↓reduceIte, Nat.reduceLeDiff, Nat.reduceAdd, CC, hvl] <;> rfl) ?_ | refine newP_mk ?_ | refine optP_mk ?_ | with_reducible first | refine condP_t ?_ | refine condP_f ?_ | refine ifP_tt' ?_ | refine ifP_ff' ?_ | refine ifP_tf' ?_ | refine ifP_ft' ?_ | refine ifP_u' ?_ | refine optP_mk0 ?_))
  have rest : ∀ m e, nx ≤ m → 1 ≤ l.length → l.length ≤ 1024 → e 0 = v → e 3 = .int .i64 ((0 : Nat) : Int) →
      loopP (ref04_Right_L2 ro) e h m fun x77 e74 h75 n76 => exP x77 (ref04_Right_j1 ro K e74 h75 n76) (fun i78 => beqP (Nat.beq i78 0) (ref04_Right_j1 ro K e74 h75 n76) (False)) (∃ h79, Sub h79 h75 ∧ K (e74 2) h79 n76) := fun m e hm hl1 hl2 e0 e3 => by
    refine loopP_rule (fun j e h' nx' => ∃ i : Nat, i + j = l.length ∧ nx ≤ nx' ∧ e 0 = v ∧ e 3 = .int .i64 i ∧ h' = h ∧ (l.take i).all shapeD = true) ?_ (n := l.length) ⟨0, by omega, hm, e0, e3, rfl, rfl⟩
    rintro j e h' nx' ⟨i, hij, hnx, e0, e3, rfl, hsh⟩ Q' hq hx
    unfold ref04_Right_L2
    rw [e0, e3]
    (repeat (first | refine bindP_mk (by simp (disch := first | omega | exact Int.natCast_nonneg _ | assumption) only [BB, B2, ↓reduceIte, Nat.reduceLeDiff, Nat.reduceAdd, CC, hvl] <;> rfl) ?_ | refine newP_mk ?_ | refine optP_mk ?_ | with_reducible first | refine condP_t ?_ | refine condP_f ?_ | refine ifP_tt' ?_ | refine ifP_ff' ?_ | refine ifP_tf' ?_ | refine ifP_ft' ?_ | refine ifP_u' ?_ | refine optP_mk0 ?_))
    refine lss_s (fun hi => ?_) (fun hi => ?_)
    · have hi : i < l.length := by omega
      obtain ⟨lv, z1, z2, z3, z4, z5, z6, z7, _, _, z8⟩ := nd_at hl (a := (i : Int)) (by omega) (by omega)
      have hon := hop _ (ndAt_mem (l := l) (x := (i : Int)) (by omega))
      have hall := all_snoc (q := shapeD) hi
      rw [hsh, ← ndAt_get hi, Bool.true_and] at hall
      simp only [Int.toNat_natCast] at z4 z8
      (repeat (first | refine bindP_mk (by simp (disch := first | omega | exact Int.natCast_nonneg _ | assumption) only [BB, B2, ↓reduceIte, Nat.reduceLeDiff, Nat.reduceAdd, CC, z4, z8] <;> rfl) ?_ | refine newP_mk ?_ | refine optP_mk ?_ | with_reducible first | refine condP_t ?_ | refine condP_f ?_ | refine ifP_tt' ?_ | refine ifP_ff' ?_ | refine ifP_tf' ?_ | refine ifP_ft' ?_ | refine ifP_u' ?_ | refine optP_mk0 ?_))
      refine ref04_shape_c z2 hon (hf.mono (by omega)) z1 fun n2 hn2 => ?_
      cases hb : shapeD (ndAt l (i : Int)) with
      | true =>
        (repeat (first | refine bindP_mk (by simp (disch := first | omega | exact Int.natCast_nonneg _ | assumption) only [BB, B2, ↓reduceIte, Nat.reduceLeDiff, Nat.reduceAdd, CC] <;> rfl) ?_ | refine newP_mk ?_ | refine optP_mk ?_ | with_reducible first | refine condP_t ?_ | refine condP_f ?_ | refine ifP_tt' ?_ | refine ifP_ff' ?_ | refine ifP_tf' ?_ | refine ifP_ft' ?_ | refine ifP_u' ?_ | refine optP_mk0 ?_))
        exact hq (j - 1) _ _ _ _ (by omega) ⟨i + 1, by omega, by omega, e0, rfl, rfl, by rw [hall, hb]⟩ (Sub.refl _)
      | false =>
        (repeat (first | refine bindP_mk (by simp (disch := first | omega | exact Int.natCast_nonneg _ | assumption) only [BB, B2, ↓reduceIte, Nat.reduceLeDiff, Nat.reduceAdd, CC] <;> rfl) ?_ | refine newP_mk ?_ | refine optP_mk ?_ | with_reducible first | refine condP_t ?_ | refine condP_f ?_ | refine ifP_tt' ?_ | refine ifP_ff' ?_ | refine ifP_tf' ?_ | refine ifP_ft' ?_ | refine ifP_u' ?_ | refine optP_mk0 ?_))
        refine hx _ _ _ _ (fun e => by cases e) (exP_r ?_)
        refine hK' _ _ ?_ (by omega)
        unfold right4
        have : l.all shapeD = false := by
          cases hq2 : l.all shapeD with
          | false => rfl
          | true =>
            rw [List.all_eq_true] at hq2
            rw [hq2 _ (ndAt_mem (l := l) (x := (i : Int)) (by omega))] at hb
            cases hb
        simp [this]
    · (repeat (first | refine bindP_mk (by simp (disch := first | omega | exact Int.natCast_nonneg _ | assumption) only [BB, B2, ↓reduceIte, Nat.reduceLeDiff, Nat.reduceAdd, CC] <;> rfl) ?_ | refine newP_mk ?_ | refine optP_mk ?_ | with_reducible first | refine condP_t ?_ | refine condP_f ?_ | refine ifP_tt' ?_ | refine ifP_ff' ?_ | refine ifP_tf' ?_ | refine ifP_ft' ?_ | refine ifP_u' ?_ | refine optP_mk0 ?_))
      refine hx _ _ _ _ (fun e => by cases e) (exP_e (beqP_t ?_))
      have hsh2 : l.all shapeD = true := by rwa [List.take_of_length_le (by omega)] at hsh
      refine right4_j1 hl hf (by omega) hl1 hl2 e0 ?_ hK
      unfold right4
      rw [hsh2, decide_eq_true hl1, decide_eq_true hl2]; rfl
  refine lss_s (fun h1 => ?_) (fun h1 => ?_)
  · (repeat (first | refine bindP_mk (by simp (disch := first | omega | exact Int.natCast_nonneg _ | assumption) only [BB, B2, ↓reduceIte, Nat.reduceLeDiff, Nat.reduceAdd, CC] <;> rfl) ?_ | refine newP_mk ?_ | refine optP_mk ?_ | with_reducible first | refine condP_t ?_ | refine condP_f ?_ | refine ifP_tt' ?_ | refine ifP_ff' ?_ | refine ifP_tf' ?_ | refine ifP_ft' ?_ | refine ifP_u' ?_ | refine optP_mk0 ?_))
    exact hK' _ _ (by unfold right4; rw [decide_eq_false (by omega)]; rfl) (by omega)
  · (repeat (first | refine bindP_mk (by simp (disch := first | omega | exact Int.natCast_nonneg _ | assumption) only [BB, B2, ↓reduceIte, Nat.reduceLeDiff, Nat.reduceAdd, CC, hvl] <;> rfl) ?_ | refine newP_mk ?_ | refine optP_mk ?_ | with_reducible first | refine condP_t ?_ | refine condP_f ?_ | refine ifP_tt' ?_ | refine ifP_ff' ?_ | refine ifP_tf' ?_ | refine ifP_ft' ?_ | refine ifP_u' ?_ | refine optP_mk0 ?_))
    refine gtr_s (fun h2 => ?_) (fun h2 => ?_)
    · (repeat (first | refine bindP_mk (by simp (disch := first | omega | exact Int.natCast_nonneg _ | assumption) only [BB, B2, ↓reduceIte, Nat.reduceLeDiff, Nat.reduceAdd, CC] <;> rfl) ?_ | refine newP_mk ?_ | refine optP_mk ?_ | with_reducible first | refine condP_t ?_ | refine condP_f ?_ | refine ifP_tt' ?_ | refine ifP_ff' ?_ | refine ifP_tf' ?_ | refine ifP_ft' ?_ | refine ifP_u' ?_ | refine optP_mk0 ?_))
      exact hK' _ _ (by unfold right4; rw [decide_eq_false (show ¬ l.length ≤ 1024 by omega)]; simp) (by omega)
    · (repeat (first | refine bindP_mk (by simp (disch := first | omega | exact Int.natCast_nonneg _ | assumption) only [BB, B2, ↓reduceIte, Nat.reduceLeDiff, Nat.reduceAdd, CC] <;> rfl) ?_ | refine newP_mk ?_ | refine optP_mk ?_ | with_reducible first | refine condP_t ?_ | refine condP_f ?_ | refine ifP_tt' ?_ | refine ifP_ff' ?_ | refine ifP_tf' ?_ | refine ifP_ft' ?_ | refine ifP_u' ?_ | refine optP_mk0 ?_))
      exact rest _ _ (by omega) (by omega) (by omega) rfl rfl
set_option maxRecDepth 4000 in
set_option maxHeartbeats 2000000 in
theorem ref06_Plain_c {ro : Ro} {v : Value} {l : List NodeD} (hlen : l.length ≤ 1000000) {h : T Obj} {nx : Nat} {K : KV} (hl : RTree ro h v l) (hf : Fr h nx) (hK : ∀ nx', nx ≤ nx' → K (.bool (plain6 l)) h nx') : callP Try.prog ro i_ref06_Plain [v] h nx K := by
  apply ref06_Plain_of
  unfold ref06_Plain
  have hvl := SlR.len hl
  refine loopP_rule (fun j e h' nx' => ∃ i : Nat, i + j = l.length ∧ nx ≤ nx' ∧ e 0 = v ∧ e 3 = .int .i64 i ∧ h' = h ∧ (l.take i).all (fun n => decide (n.op ≠ 6)) = true) ?_ (n := l.length) ⟨0, by omega, by omega, rfl, rfl, rfl, rfl⟩
  rintro j e h' nx' ⟨i, hij, hnx, e0, e3, rfl, hsh⟩ Q' hq hx
  unfold ref06_Plain_L1
  rw [e0, e3]
  (repeat (first | refine bindP_mk (by simp (disch := first | omega | exact Int.natCast_nonneg _ | assumption) only [BB, B2, ↓reduceIte, Nat.reduceLeDiff, Nat.reduceAdd, CC, hvl] <;> rfl) ?_ | refine newP_mk ?_ | refine optP_mk ?_ | with_reducible first | refine condP_t ?_ | refine condP_f ?_ | refine ifP_tt' ?_ | refine ifP_ff' ?_ | refine ifP_tf' ?_ | refine ifP_ft' ?_ | refine ifP_u' ?_ | refine optP_mk0 ?_))
  refine lss_s (fun hi => ?_) (fun hi => ?_)
  · have hi : i < l.length := by omega
    obtain ⟨lv, z1, z2, z3, z4, z5, z6, z7, _, _, z8⟩ := nd_at hl (a := (i : Int)) (by omega) (by omega)
    have hall := all_snoc (q := fun n => decide (n.op ≠ 6)) hi
    rw [hsh, ← ndAt_get hi, Bool.true_and] at hall
    simp only [Int.toNat_natCast] at z4 z5 z6
    have z5' := z5 0
    (repeat (first | refine bindP_mk (by simp (disch := first | omega | exact Int.natCast_nonneg _ | assumption) only [BB, B2, ↓reduceIte, Nat.reduceLeDiff, Nat.reduceAdd, CC, z4, z5', z6] <;> rfl) ?_ | refine newP_mk ?_ | refine optP_mk ?_ | with_reducible first | refine condP_t ?_ | refine condP_f ?_ | refine ifP_tt' ?_ | refine ifP_ff' ?_ | refine ifP_tf' ?_ | refine ifP_ft' ?_ | refine ifP_u' ?_ | refine optP_mk0 ?_))
    refine eql_s (fun h6 => ?_) (fun h6 => ?_)
    · (repeat (first | refine bindP_mk (by simp (disch := first | omega | exact Int.natCast_nonneg _ | assumption) only [BB, B2, ↓reduceIte, Nat.reduceLeDiff, Nat.reduceAdd, CC] <;> rfl) ?_ | refine newP_mk ?_ | refine optP_mk ?_ | with_reducible first | refine condP_t ?_ | refine condP_f ?_ | refine ifP_tt' ?_ | refine ifP_ff' ?_ | refine ifP_tf' ?_ | refine ifP_ft' ?_ | refine ifP_u' ?_ | refine optP_mk0 ?_))
      refine hx _ _ _ _ (fun e => by cases e) (exP_r ?_)
      refine ⟨h', Sub.refl _, kb hK ?_ (by omega)⟩
      unfold plain6
      have : l.all (fun n => decide (n.op ≠ 6)) = false := by
        cases hq2 : l.all (fun n => decide (n.op ≠ 6)) with
        | false => rfl
        | true =>
          rw [List.all_eq_true] at hq2
          have := hq2 _ (ndAt_mem (l := l) (x := (i : Int)) (by omega))
          simp only [decide_eq_true_eq] at this
          exact absurd (by omega) this
      rw [this]; rfl
    · (repeat (first | refine bindP_mk (by simp (disch := first | omega | exact Int.natCast_nonneg _ | assumption) only [BB, B2, ↓reduceIte, Nat.reduceLeDiff, Nat.reduceAdd, CC] <;> rfl) ?_ | refine newP_mk ?_ | refine optP_mk ?_ | with_reducible first | refine condP_t ?_ | refine condP_f ?_ | refine ifP_tt' ?_ | refine ifP_ff' ?_ | refine ifP_tf' ?_ | refine ifP_ft' ?_ | refine ifP_u' ?_ | refine optP_mk0 ?_))
      exact hq (j - 1) _ _ _ _ (by omega) ⟨i + 1, by omega, by omega, e0, rfl, rfl, by rw [hall]; exact decide_eq_true (by omega)⟩ (Sub.refl _)
  · (repeat (first | refine bindP_mk (by simp (disch := first | omega | exact Int.natCast_nonneg _ | assumption) only [BB, B2, ↓reduceIte, Nat.reduceLeDiff, Nat.reduceAdd, CC] <;> rfl) ?_ | refine newP_mk ?_ | refine optP_mk ?_ | with_reducible first | refine condP_t ?_ | refine condP_f ?_ | refine ifP_tt' ?_ | refine ifP_ff' ?_ | refine ifP_tf' ?_ | refine ifP_ft' ?_ | refine ifP_u' ?_ | refine optP_mk0 ?_))
    refine hx _ _ _ _ (fun e => by cases e) (exP_e (beqP_t ?_))
    have hsh2 : l.all (fun n => decide (n.op ≠ 6)) = true := by rwa [List.take_of_length_le (by omega)] at hsh
    have hp : plain6 l = right4 l := by unfold plain6; rw [hsh2]; rfl
    unfold ref06_Plain_j1
    show callP Try.prog ro i_ref04_Right [e 0] _ _ _
    rw [e0]
    rw [List.all_eq_true] at hsh2
    refine ref04_Right_c (fun n hn => by simpa using hsh2 n hn) hl (hf.mono (by omega)) fun n2 hn2 => ?_
    rw [hp] at hK
    exact ⟨h', Sub.refl _, hK _ (by omega)⟩
end V
end Go.Proofs.Ytepbdkfkfcckoaa
set_option linter.unusedVariables false
set_option linter.unusedSimpArgs false
namespace Go.Proofs.Ytepbdkfkfcckoaa
namespace V
open PA
attribute [local irreducible] bindP ifP condP newP optP exP beqP
theorem head_get {l : List Int} (h : 0 < l.length) : l[0] = l.headD 0 := by
  cases l with
  | nil => simp at h
  | cons x r => rfl
set_option maxRecDepth 4000 in
set_option maxHeartbeats 2000000 in
theorem ref08_counted_c {ro : Ro} {v lv : Value} {l : List NodeD} {n : NodeD} {h : T Obj} {nx : Nat} {K : KV} (hl : RTree ro h v l) (hn : ZI ro h lv n.l) (hne : 0 < n.l.length) (hk0 : 0 ≤ n.l.headD 0) (hk1 : n.l.headD 0 < l.length) (hf : Fr h nx) (hK : ∀ nx', nx ≤ nx' → K (.bool (countedD l n)) h nx') : callP Try.prog ro i_ref08_counted [v, .agg (nodL n lv).toArray] h nx K := by
  apply ref08_counted_of
  unfold ref08_counted
  refine newP_mk ?_
  have hs1 : Sub h (h.upd nx (some (.cells (Value.cells (.agg (nodL n lv).toArray)) y_api_Node))) := (Sub.refl h).new hf (Nat.le_refl _)
  have g : (h.upd nx (some (.cells (Value.cells (.agg (nodL n lv).toArray)) y_api_Node))).get nx = some (.cells (nodL n lv).toArray y_api_Node) := by rw [T.get_upd_same]; rfl
  generalize h.upd nx (some (.cells (Value.cells (.agg (nodL n lv).toArray)) y_api_Node)) = h1 at hs1 g
  obtain ⟨g0, g5, g6, g7, g8⟩ := nodL_get n lv
  have l5 := load1_get (ro := ro) (z := 0) g g5
  have l6 := load1_get (ro := ro) (z := 0) g g6
  have l7 := load1_get (ro := ro) (z := 0) g g7
  have hK' : ∀ (b : Bool) m, countedD l n = b → nx ≤ m → ∃ h', Sub h' h1 ∧ K (.bool b) h' m := fun b m e hm => ⟨h, hs1, kb hK e hm⟩
  have hhd := head_get hne
  have y1 := (hn.sub hs1).ix .i64 hne
  have y2 := (hn.sub hs1).load hne
  rw [hhd] at y2
  unfold countedD at hK'
  generalize n.l.headD 0 = k at *
  obtain ⟨lv2, z1, z2, z3, z4, z5, z6, z7, _, _, z8⟩ := nd_at (hl.sub hs1) hk0 hk1
  have z5' := z5 0
  have y1' : ixSl 1 lv (.int .i64 0) = some (elPtr 1 lv 0) := y1
  (repeat (first | refine bindP_mk (by simp (disch := first | omega | exact Int.natCast_nonneg _ | assumption) only [BB, B2, ↓reduceIte, Nat.reduceLeDiff, Nat.reduceAdd, CC, l5, y1', y2, z4, z5', z6] <;> rfl) ?_ | refine newP_mk ?_ | refine optP_mk ?_ | with_reducible first | refine condP_t ?_ | refine condP_f ?_ | refine ifP_tt' ?_ | refine ifP_ff' ?_ | refine ifP_tf' ?_ | refine ifP_ft' ?_ | refine ifP_u' ?_ | refine optP_mk0 ?_))
  refine eql_s (fun h2 => ?_) (fun h2 => ?_)
  · (repeat (first | refine bindP_mk (by simp (disch := first | omega | exact Int.natCast_nonneg _ | assumption) only [BB, B2, ↓reduceIte, Nat.reduceLeDiff, Nat.reduceAdd, CC, l6] <;> rfl) ?_ | refine newP_mk ?_ | refine optP_mk ?_ | with_reducible first | refine condP_t ?_ | refine condP_f ?_ | refine ifP_tt' ?_ | refine ifP_ff' ?_ | refine ifP_tf' ?_ | refine ifP_ft' ?_ | refine ifP_u' ?_ | refine optP_mk0 ?_))
    refine geq_s (fun hb => ?_) (fun hb => ?_)
    · (repeat (first | refine bindP_mk (by simp (disch := first | omega | exact Int.natCast_nonneg _ | assumption) only [BB, B2, ↓reduceIte, Nat.reduceLeDiff, Nat.reduceAdd, CC, l7] <;> rfl) ?_ | refine newP_mk ?_ | refine optP_mk ?_ | with_reducible first | refine condP_t ?_ | refine condP_f ?_ | refine ifP_tt' ?_ | refine ifP_ff' ?_ | refine ifP_tf' ?_ | refine ifP_ft' ?_ | refine ifP_u' ?_ | refine optP_mk0 ?_))
      refine geq_s (fun hc => ?_) (fun hc => ?_)
      · (repeat (first | refine bindP_mk (by simp (disch := first | omega | exact Int.natCast_nonneg _ | assumption) only [BB, B2, ↓reduceIte, Nat.reduceLeDiff, Nat.reduceAdd, CC] <;> rfl) ?_ | refine newP_mk ?_ | refine optP_mk ?_ | with_reducible first | refine condP_t ?_ | refine condP_f ?_ | refine ifP_tt' ?_ | refine ifP_ff' ?_ | refine ifP_tf' ?_ | refine ifP_ft' ?_ | refine ifP_u' ?_ | refine optP_mk0 ?_))
        refine hK' _ _ ?_ (by omega)
        rw [decide_eq_true (show (ndAt l k).op = 2 by omega), decide_eq_true hb, decide_eq_true hc]; rfl
      · (repeat (first | refine bindP_mk (by simp (disch := first | omega | exact Int.natCast_nonneg _ | assumption) only [BB, B2, ↓reduceIte, Nat.reduceLeDiff, Nat.reduceAdd, CC] <;> rfl) ?_ | refine newP_mk ?_ | refine optP_mk ?_ | with_reducible first | refine condP_t ?_ | refine condP_f ?_ | refine ifP_tt' ?_ | refine ifP_ff' ?_ | refine ifP_tf' ?_ | refine ifP_ft' ?_ | refine ifP_u' ?_ | refine optP_mk0 ?_))
        refine hK' _ _ ?_ (by omega)
        rw [decide_eq_false (show ¬ 2 ≤ n.hi by omega)]; simp
    · (repeat (first | refine bindP_mk (by simp (disch := first | omega | exact Int.natCast_nonneg _ | assumption) only [BB, B2, ↓reduceIte, Nat.reduceLeDiff, Nat.reduceAdd, CC] <;> rfl) ?_ | refine newP_mk ?_ | refine optP_mk ?_ | with_reducible first | refine condP_t ?_ | refine condP_f ?_ | refine ifP_tt' ?_ | refine ifP_ff' ?_ | refine ifP_tf' ?_ | refine ifP_ft' ?_ | refine ifP_u' ?_ | refine optP_mk0 ?_))
      refine hK' _ _ ?_ (by omega)
      rw [decide_eq_false (show ¬ 1 ≤ n.lo by omega)]; simp
  · (repeat (first | refine bindP_mk (by simp (disch := first | omega | exact Int.natCast_nonneg _ | assumption) only [BB, B2, ↓reduceIte, Nat.reduceLeDiff, Nat.reduceAdd, CC] <;> rfl) ?_ | refine newP_mk ?_ | refine optP_mk ?_ | with_reducible first | refine condP_t ?_ | refine condP_f ?_ | refine ifP_tt' ?_ | refine ifP_ff' ?_ | refine ifP_tf' ?_ | refine ifP_ft' ?_ | refine ifP_u' ?_ | refine optP_mk0 ?_))
    refine hK' _ _ ?_ (by omega)
    rw [decide_eq_false (show ¬ (ndAt l k).op = 2 by omega)]; rfl
def bad8 (l : List NodeD) (n : NodeD) : Bool := decide (n.op = 5) && ((decide (n.lo ≠ 0) || decide (n.hi ≠ -1)) && !countedD l n)
theorem plain_kids {l : List NodeD} (h : plain6 l = true) {x : Int} (h0 : 0 ≤ x) (h1 : x < l.length) (h5 : (ndAt l x).op = 5) : 0 < (ndAt l x).l.length ∧ 0 ≤ (ndAt l x).l.headD 0 ∧ (ndAt l x).l.headD 0 < l.length := by
  unfold plain6 at h
  simp only [Bool.and_eq_true] at h
  have hs := shape_at h.2 (x := x) (by omega)
  unfold shapeD at hs
  simp only [h5] at hs
  simp only [Nat.reduceEqDiff, or_self, if_false, if_true, Bool.and_eq_true, decide_eq_true_eq] at hs
  have hl := hs.2.2.1
  have hk := kids_lt h.2 h0 h1 ((ndAt l x).l.headD 0) (by rw [one_len hl]; simp)
  exact ⟨by omega, by omega, by omega⟩
set_option maxRecDepth 4000 in
set_option maxHeartbeats 2000000 in
theorem ref08_Right_c {ro : Ro} {v : Value} {l : List NodeD} (hlen : l.length ≤ 1000000) {h : T Obj} {nx : Nat} {K : KV} (hl : RTree ro h v l) (hf : Fr h nx) (hK : ∀ nx', nx ≤ nx' → K (.bool (right8 l)) h nx') : callP Try.prog ro i_ref08_Right [v] h nx K := by
  apply ref08_Right_of
  unfold ref08_Right
  have hvl := SlR.len hl
  refine ref06_Plain_c hlen hl (hf.mono (by omega)) fun n1 hn1 => ?_
  have hr8 : right8 l = (plain6 l && l.all fun n => !bad8 l n) := rfl
  rw [hr8] at hK
  cases hp : plain6 l with
  | false =>
    rw [hp] at hK
    (repeat (first | refine bindP_mk (by simp (disch := first | omega | exact Int.natCast_nonneg _ | assumption) only [BB, B2, ↓reduceIte, Nat.reduceLeDiff, Nat.reduceAdd, CC] <;> rfl) ?_ | refine newP_mk ?_ | refine optP_mk ?_ | with_reducible first | refine condP_t ?_ | refine condP_f ?_ | refine ifP_tt' ?_ | refine ifP_ff' ?_ | refine ifP_tf' ?_ | refine ifP_ft' ?_ | refine ifP_u' ?_ | refine optP_mk0 ?_))
    exact ⟨h, Sub.refl _, hK _ (by omega)⟩
  | true =>
    rw [hp, Bool.true_and] at hK
    (repeat (first | refine bindP_mk (by simp (disch := first | omega | exact Int.natCast_nonneg _ | assumption) only [BB, B2, ↓reduceIte, Nat.reduceLeDiff, Nat.reduceAdd, CC] <;> rfl) ?_ | refine newP_mk ?_ | refine optP_mk ?_ | with_reducible first | refine condP_t ?_ | refine condP_f ?_ | refine ifP_tt' ?_ | refine ifP_ff' ?_ | refine ifP_tf' ?_ | refine ifP_ft' ?_ | refine ifP_u' ?_ | refine optP_mk0 ?_))
    refine loopP_rule (fun j e h' nx' => ∃ i : Nat, i + j = l.length ∧ nx ≤ nx' ∧ e 0 = v ∧ e 3 = .int .i64 i ∧ Sub h h' ∧ Fr h' nx' ∧ (l.take i).all (fun n => !bad8 l n) = true) ?_ (n := l.length) ⟨0, by omega, by omega, rfl, rfl, Sub.refl _, hf.mono (by omega), rfl⟩
    rintro j e h' nx' ⟨i, hij, hnx, e0, e3, hs', hf', hsh⟩ Q' hq hx
    unfold ref08_Right_L1
    rw [e0, e3]
    (repeat (first | refine bindP_mk (by simp (disch := first | omega | exact Int.natCast_nonneg _ | assumption) only [BB, B2, ↓reduceIte, Nat.reduceLeDiff, Nat.reduceAdd, CC, hvl] <;> rfl) ?_ | refine newP_mk ?_ | refine optP_mk ?_ | with_reducible first | refine condP_t ?_ | refine condP_f ?_ | refine ifP_tt' ?_ | refine ifP_ff' ?_ | refine ifP_tf' ?_ | refine ifP_ft' ?_ | refine ifP_u' ?_ | refine optP_mk0 ?_))
    refine lss_s (fun hi => ?_) (fun hi => ?_)
    · have hi : i < l.length := by omega
      obtain ⟨lv, z1, z2, z3, z4, z5, z6, z7, _, _, z8⟩ := nd_at (hl.sub hs') (a := (i : Int)) (by omega) (by omega)
      have hall := all_snoc (q := fun n => !bad8 l n) hi
      have hbad : bad8 l (ndAt l (i : Int)) = true → (l.all fun n => !bad8 l n) = false := fun hb => by
        cases hq2 : l.all (fun n => !bad8 l n) with
        | false => rfl
        | true =>
          rw [List.all_eq_true] at hq2
          have := hq2 _ (ndAt_mem (l := l) (x := (i : Int)) (by omega))
          rw [hb] at this; cases this
      rw [hsh, ← ndAt_get hi, Bool.true_and] at hall
      have hkid := plain_kids hp (x := (i : Int)) (by omega) (by omega)
      simp only [Int.toNat_natCast] at z4 z8
      have hbe : bad8 l (ndAt l (i : Int)) = (decide ((ndAt l (i : Int)).op = 5) && ((decide ((ndAt l (i : Int)).lo ≠ 0) || decide ((ndAt l (i : Int)).hi ≠ -1)) && !countedD l (ndAt l (i : Int)))) := rfl
      generalize ndAt l (i : Int) = n at *
      (repeat (first | refine bindP_mk (by simp (disch := first | omega | exact Int.natCast_nonneg _ | assumption) only [BB, B2, ↓reduceIte, Nat.reduceLeDiff, Nat.reduceAdd, CC, z4, z8] <;> rfl) ?_ | refine newP_mk ?_ | refine optP_mk ?_ | with_reducible first | refine condP_t ?_ | refine condP_f ?_ | refine ifP_tt' ?_ | refine ifP_ff' ?_ | refine ifP_tf' ?_ | refine ifP_ft' ?_ | refine ifP_u' ?_ | refine optP_mk0 ?_))
      refine local_mk (n := 9) (x := nodL n lv) zer_Node rfl rfl rfl (nodL_ok z1.ok) hf' (by omega) fun h2 hs2 hf2 g2 _ => ?_
      obtain ⟨g0, g5, g6, g7, g8⟩ := nodL_get n lv
      have l0 := load1_get (ro := ro) (z := 0) g2 g0
      have l6 := load1_get (ro := ro) (z := 0) g2 g6
      have l7 := load1_get (ro := ro) (z := 0) g2 g7
      have lA := loadA_all (ro := ro) (z := 0) (n := 9) g2 rfl
      have hnext : ∀ (e' : Env) m, bad8 l n = false → nx ≤ m → Fr h2 m → e' 0 = v → e' 3 = .int .i64 ((i : Int) + 1) → Q' .normal e' h2 m := fun e' m hb hm hfm q0 q3 =>
        hq (j - 1) _ _ _ _ (by omega) ⟨i + 1, by omega, hm, q0, q3, hs'.trans hs2, hfm, by rw [hall, hb]; rfl⟩ (Sub.refl _)
      have hcnt : ∀ m (e' : Env) (K2 : Value → T Obj → Nat → Prop), n.op = 5 → (∀ n2, m ≤ n2 → K2 (.bool (countedD l n)) h2 n2) → nx' + 9 ≤ m → callP Try.prog ro i_ref08_counted [v, .agg (nodL n lv).toArray] h2 m K2 := fun m e' K2 h5 hk hm =>
        ref08_counted_c (hl.sub (hs'.trans hs2)) (z1.sub hs2) (hkid h5).1 (hkid h5).2.1 (hkid h5).2.2 (hf2.mono (by omega)) hk
      have hend : ∀ m (e' : Env), n.op = 5 → (n.lo ≠ 0 ∨ n.hi ≠ -1) → countedD l n = false → nx ≤ m → e' 2 = .bool false → Q' .ret e' h2 m := fun m e' h5 hd hc hm q2 => by
        refine hx _ _ _ _ (fun e => by cases e) (exP_r ?_)
        rw [q2]
        refine ⟨h, hs'.trans hs2, kb hK ?_ hm⟩
        refine hbad ?_
        rw [hbe, hc, decide_eq_true h5]
        rcases hd with hd | hd <;> simp [hd]
      (repeat (first | refine bindP_mk (by simp (disch := first | omega | exact Int.natCast_nonneg _ | assumption) only [BB, B2, ↓reduceIte, Nat.reduceLeDiff, Nat.reduceAdd, CC, l0] <;> rfl) ?_ | refine newP_mk ?_ | refine optP_mk ?_ | with_reducible first | refine condP_t ?_ | refine condP_f ?_ | refine ifP_tt' ?_ | refine ifP_ff' ?_ | refine ifP_tf' ?_ | refine ifP_ft' ?_ | refine ifP_u' ?_ | refine optP_mk0 ?_))
      refine eql_s (fun h5 => ?_) (fun h5 => ?_)
      · have h5 : n.op = 5 := by omega
        (repeat (first | refine bindP_mk (by simp (disch := first | omega | exact Int.natCast_nonneg _ | assumption) only [BB, B2, ↓reduceIte, Nat.reduceLeDiff, Nat.reduceAdd, CC, l6] <;> rfl) ?_ | refine newP_mk ?_ | refine optP_mk ?_ | with_reducible first | refine condP_t ?_ | refine condP_f ?_ | refine ifP_tt' ?_ | refine ifP_ff' ?_ | refine ifP_tf' ?_ | refine ifP_ft' ?_ | refine ifP_u' ?_ | refine optP_mk0 ?_))
        refine neq_s (fun hlo => ?_) (fun hlo => ?_)
        · (repeat (first | refine bindP_mk (by simp (disch := first | omega | exact Int.natCast_nonneg _ | assumption) only [BB, B2, ↓reduceIte, Nat.reduceLeDiff, Nat.reduceAdd, CC, l7, lA] <;> rfl) ?_ | refine newP_mk ?_ | refine optP_mk ?_ | with_reducible first | refine condP_t ?_ | refine condP_f ?_ | refine ifP_tt' ?_ | refine ifP_ff' ?_ | refine ifP_tf' ?_ | refine ifP_ft' ?_ | refine ifP_u' ?_ | refine optP_mk0 ?_))
          refine hcnt _ e _ h5 (fun n2 hn2 => ?_) (by omega)
          cases hc : countedD l n with
          | true =>
            (repeat (first | refine bindP_mk (by simp (disch := first | omega | exact Int.natCast_nonneg _ | assumption) only [BB, B2, ↓reduceIte, Nat.reduceLeDiff, Nat.reduceAdd, CC] <;> rfl) ?_ | refine newP_mk ?_ | refine optP_mk ?_ | with_reducible first | refine condP_t ?_ | refine condP_f ?_ | refine ifP_tt' ?_ | refine ifP_ff' ?_ | refine ifP_tf' ?_ | refine ifP_ft' ?_ | refine ifP_u' ?_ | refine optP_mk0 ?_))
            refine hnext _ _ ?_ (by omega) (hf2.mono (by omega)) e0 rfl
            rw [hbe, hc]; simp
          | false =>
            (repeat (first | refine bindP_mk (by simp (disch := first | omega | exact Int.natCast_nonneg _ | assumption) only [BB, B2, ↓reduceIte, Nat.reduceLeDiff, Nat.reduceAdd, CC] <;> rfl) ?_ | refine newP_mk ?_ | refine optP_mk ?_ | with_reducible first | refine condP_t ?_ | refine condP_f ?_ | refine ifP_tt' ?_ | refine ifP_ff' ?_ | refine ifP_tf' ?_ | refine ifP_ft' ?_ | refine ifP_u' ?_ | refine optP_mk0 ?_))
            exact hend _ _ h5 (.inl hlo) hc (by omega) rfl
        · (repeat (first | refine bindP_mk (by simp (disch := first | omega | exact Int.natCast_nonneg _ | assumption) only [BB, B2, ↓reduceIte, Nat.reduceLeDiff, Nat.reduceAdd, CC, l7] <;> rfl) ?_ | refine newP_mk ?_ | refine optP_mk ?_ | with_reducible first | refine condP_t ?_ | refine condP_f ?_ | refine ifP_tt' ?_ | refine ifP_ff' ?_ | refine ifP_tf' ?_ | refine ifP_ft' ?_ | refine ifP_u' ?_ | refine optP_mk0 ?_))
          refine neq_s (fun hhi => ?_) (fun hhi => ?_)
          · (repeat (first | refine bindP_mk (by simp (disch := first | omega | exact Int.natCast_nonneg _ | assumption) only [BB, B2, ↓reduceIte, Nat.reduceLeDiff, Nat.reduceAdd, CC, l7, lA] <;> rfl) ?_ | refine newP_mk ?_ | refine optP_mk ?_ | with_reducible first | refine condP_t ?_ | refine condP_f ?_ | refine ifP_tt' ?_ | refine ifP_ff' ?_ | refine ifP_tf' ?_ | refine ifP_ft' ?_ | refine ifP_u' ?_ | refine optP_mk0 ?_))
            refine hcnt _ e _ h5 (fun n2 hn2 => ?_) (by omega)
            cases hc : countedD l n with
            | true =>
              (repeat (first | refine bindP_mk (by simp (disch := first | omega | exact Int.natCast_nonneg _ | assumption) only [BB, B2, ↓reduceIte, Nat.reduceLeDiff, Nat.reduceAdd, CC] <;> rfl) ?_ | refine newP_mk ?_ | refine optP_mk ?_ | with_reducible first | refine condP_t ?_ | refine condP_f ?_ | refine ifP_tt' ?_ | refine ifP_ff' ?_ | refine ifP_tf' ?_ | refine ifP_ft' ?_ | refine ifP_u' ?_ | refine optP_mk0 ?_))
              refine hnext _ _ ?_ (by omega) (hf2.mono (by omega)) e0 rfl
              rw [hbe, hc]; simp
            | false =>
              (repeat (first | refine bindP_mk (by simp (disch := first | omega | exact Int.natCast_nonneg _ | assumption) only [BB, B2, ↓reduceIte, Nat.reduceLeDiff, Nat.reduceAdd, CC] <;> rfl) ?_ | refine newP_mk ?_ | refine optP_mk ?_ | with_reducible first | refine condP_t ?_ | refine condP_f ?_ | refine ifP_tt' ?_ | refine ifP_ff' ?_ | refine ifP_tf' ?_ | refine ifP_ft' ?_ | refine ifP_u' ?_ | refine optP_mk0 ?_))
              exact hend _ _ h5 (.inr hhi) hc (by omega) rfl
          · (repeat (first | refine bindP_mk (by simp (disch := first | omega | exact Int.natCast_nonneg _ | assumption) only [BB, B2, ↓reduceIte, Nat.reduceLeDiff, Nat.reduceAdd, CC] <;> rfl) ?_ | refine newP_mk ?_ | refine optP_mk ?_ | with_reducible first | refine condP_t ?_ | refine condP_f ?_ | refine ifP_tt' ?_ | refine ifP_ff' ?_ | refine ifP_tf' ?_ | refine ifP_ft' ?_ | refine ifP_u' ?_ | refine optP_mk0 ?_))
            refine hnext _ _ ?_ (by omega) (hf2.mono (by omega)) e0 rfl
            rw [hbe, decide_eq_false (show ¬ n.lo ≠ 0 by omega), decide_eq_false (show ¬ n.hi ≠ -1 by omega)]; simp
      · (repeat (first | refine bindP_mk (by simp (disch := first | omega | exact Int.natCast_nonneg _ | assumption) only [BB, B2, ↓reduceIte, Nat.reduceLeDiff, Nat.reduceAdd, CC] <;> rfl) ?_ | refine newP_mk ?_ | refine optP_mk ?_ | with_reducible first | refine condP_t ?_ | refine condP_f ?_ | refine ifP_tt' ?_ | refine ifP_ff' ?_ | refine ifP_tf' ?_ | refine ifP_ft' ?_ | refine ifP_u' ?_ | refine optP_mk0 ?_))
        refine hnext _ _ ?_ (by omega) (hf2.mono (by omega)) e0 rfl
        rw [hbe, decide_eq_false (show ¬ n.op = 5 by omega)]; rfl
    · (repeat (first | refine bindP_mk (by simp (disch := first | omega | exact Int.natCast_nonneg _ | assumption) only [BB, B2, ↓reduceIte, Nat.reduceLeDiff, Nat.reduceAdd, CC] <;> rfl) ?_ | refine newP_mk ?_ | refine optP_mk ?_ | with_reducible first | refine condP_t ?_ | refine condP_f ?_ | refine ifP_tt' ?_ | refine ifP_ff' ?_ | refine ifP_tf' ?_ | refine ifP_ft' ?_ | refine ifP_u' ?_ | refine optP_mk0 ?_))
      refine hx _ _ _ _ (fun e => by cases e) (exP_e (beqP_t ?_))
      unfold ref08_Right_j1
      refine ⟨h, hs', kb hK ?_ (by omega)⟩
      rwa [List.take_of_length_le (by omega)] at hsh
end V
end Go.Proofs.Ytepbdkfkfcckoaa
set_option linter.unusedVariables false
set_option linter.unusedSimpArgs false
namespace Go.Proofs.Ytepbdkfkfcckoaa
namespace V
open PA
attribute [local irreducible] bindP ifP condP newP optP exP beqP
def blC (l : List Bool) : List (List Value) := l.map fun b : Bool => [Value.bool b]
theorem blC_len (l : List Bool) : (blC l).length = l.length := by simp [blC]
theorem blC_get {l : List Bool} {i : Nat} (hi : i < l.length) : (blC l)[i]? = some [.bool l[i]] := by simp [blC, hi]
theorem blC_flat (l : List Bool) : (blC l).flatten = l.map Value.bool := by
  induction l with
  | nil => rfl
  | cons b r ih => simp only [blC, List.map_cons, List.flatten_cons] at ih ⊢; rw [ih]; rfl
def ZB (ro : Ro) (h : T Obj) (v : Value) (l : List Bool) : Prop := Sl ro h v 1 (blC l)
section
variable {ro : Ro} {h h' : T Obj} {v : Value} {l : List Bool}
theorem ZB.sub (hs : Sub h h') (hl : ZB ro h v l) : ZB ro h' v l := Sl.sub hs hl
theorem ZB.len (hl : ZB ro h v l) : lenSl v = some (.int .i64 l.length) := by have := Sl.len hl; rwa [blC_len] at this
theorem ZB.ix (hl : ZB ro h v l) (k : IntKind) {i : Nat} (hi : i < l.length) : ixSl 1 v (.int k (i : Int)) = some (elPtr 1 v i) := Sl.ix hl k (by rw [blC_len]; exact hi)
theorem ZB.load (hl : ZB ro h v l) {i : Nat} (hi : i < l.length) : load1 ro h (elPtr 1 v i) = some (.bool l[i]) := Sl.load1 hl (blC_get hi)
end
theorem putB {h : T Obj} {v : Value} {l : List Bool} {lo i : Nat} {b : Bool} (ho : OwnT h v 1 y_bool (blC l) lo) (hi : i < l.length) : ∃ h', storeN 1 h (elPtr 1 v i) (.bool b) = some h' ∧ OwnT h' v 1 y_bool (blC (l.set i b)) lo ∧ Kp v h h' ∧ ∀ n, Fr h n → Fr h' n := by
  rcases ho with ⟨_, h1⟩ | ⟨id, h1, rfl, h2, h3⟩
  · have := congrArg List.length h1
    rw [blC_len, List.length_nil] at this
    omega
  · have hel : elPtr 1 (.slice (some (own id 1)) (blC l).length (blC l).length) i = at_ id (0 + i * 1) 0 := rfl
    rw [blC_flat] at h3
    have hst := store1_own (z := 0) (off := 0 + i * 1) (v := .bool b) h3 (by rw [List.length_map]; omega) rfl rfl
    refine ⟨_, by rw [hel]; exact hst, .inr ⟨id, h1, ?_, ?_, ?_⟩, fun k o hk hne => ?_, fun n hf => hf.upd (Nat.le_refl _) (hf.lt' h3)⟩
    · rw [blC_len, blC_len, List.length_set]
    · intro x hx
      unfold blC at hx
      obtain ⟨b, _, rfl⟩ := List.mem_map.1 hx
      rfl
    · show (h.upd id _).get id = _
      rw [T.get_upd_same, blC_flat, List.map_set, show 0 + i * 1 = i by omega]
    · rw [T.get_upd_ne _ _ (fun e => hne (by rw [e]; rfl))]; exact hk
theorem und_blS : und Try.prog y_s_bool = some (.slice y_bool) := by kernel_rfl
theorem tin_bl : ∃ i, tin Try.prog y_bool = some i ∧ i.size = 1 ∧ i.bytes = 1 := mtinOf (by kernel_rfl)
theorem zer_bl : zer Try.prog y_bool = some (.bool false) := by kernel_rfl
theorem zerosV_bl : ∀ n : Nat, zerosV [.bool false] n = List.replicate n (Value.bool false)
  | 0 => rfl
  | n + 1 => by
    have := zerosV_bl n
    simp only [zerosV, this, List.replicate_succ]; rfl
theorem make_bl {aid n : Nat} (h0 : 1 ≤ n) (h1 : n ≤ 1000001) : makeV Try.prog y_s_bool aid (.int .i64 (n : Int)) (.int .i64 (n : Int)) = some (.slice (some (own aid 1)) n n, some (.cells (List.replicate n (Value.bool false)).toArray y_bool)) := by
  obtain ⟨i, g1, g2, g3⟩ := tin_bl
  have hb : Nat.ble (n * 1) big = true := Nat.ble_eq_true_of_le (by unfold big; omega)
  have e1 : decide ((0 : Int) ≤ (n : Int)) = true := by simp
  have e2 : decide ((n : Int) ≤ (n : Int)) = true := by simp
  have e3 : decide ((n : Int) ≤ 70368744177664) = true := by simp; omega
  have hz : zrow Try.prog y_bool n = some (List.replicate n (Value.bool false)) := by
    obtain ⟨m, rfl⟩ : ∃ m, n = m + 1 := ⟨n - 1, by omega⟩
    have hs : siz Try.prog y_bool = some 1 := by kernel_rfl
    unfold zrow
    simp only [zer_bl, hs, Option.bind_some]
    have h3 : Nat.beq (Value.cells (.bool false)).size 1 = true := rfl
    have h4 : Nat.blt 0 1 = true := rfl
    rw [h3, h4]
    simp only
    rw [← zerosV_bl]; rfl
  unfold makeV
  simp only [und_blS, e1, e2, g1, Option.bind_some, g3, Int.toNat_natCast, hb, e3, hz, g2]
theorem ref07_places_c {ro : Ro} {s : ByteArray} (hw : (bts s).length ≤ 1000000) {h : T Obj} {nx : Nat} {K : KV} (hf : Fr h nx) (hK : ∀ r h' nx', nx ≤ nx' → Sub h h' → Fr h' nx' → OwnT h' r 1 y_bool (blC (noneL (bts s))) nx → K r h' nx') : callP Try.prog ro i_ref07_places [.string s] h nx K := by
  apply ref07_places_of
  unfold ref07_places
  have hls := lenStr_bts s
  (repeat (first | refine bindP_mk (by simp (disch := first | omega | exact Int.natCast_nonneg _ | assumption) only [BB, B2, ↓reduceIte, Nat.reduceLeDiff, Nat.reduceAdd, CC, hls] <;> rfl) ?_ | refine newP_mk ?_ | refine optP_mk ?_ | with_reducible first | refine condP_t ?_ | refine condP_f ?_ | refine ifP_tt' ?_ | refine ifP_ff' ?_ | refine ifP_tf' ?_ | refine ifP_ft' ?_ | refine ifP_u' ?_ | refine optP_mk0 ?_))
  have hmk := make_bl (aid := nx + 4) (n := (bts s).length + 1) (by omega) (by omega)
  refine bindP_mk (by rw [← hmk]; rfl) ?_
  refine optP_mk ?_
  refine ⟨_, Sub.refl _, hK _ _ _ (by omega) ((Sub.refl h).new hf (by omega)) ((hf.mono (show nx ≤ nx + 6 by omega)).upd (Nat.le_refl _) (by omega)) (.inr ⟨nx + 4, by omega, ?_, ?_, ?_⟩)⟩
  · rw [blC_len]; simp [noneL]
  · intro x hx
    unfold blC at hx
    obtain ⟨b, _, rfl⟩ := List.mem_map.1 hx
    rfl
  · rw [T.get_upd_same, blC_flat]
    unfold noneL
    rw [List.map_replicate]
theorem oneL_len {s : Nat} {w : List Nat} {x : List Bool} (hx : x.length = w.length + 1) : (oneL s w x).length = w.length + 1 := (one_goes s w x hx).1
def oneK (s : Nat) (w : List Nat) (x : List Bool) (k : Nat) : List Bool := (oneL s w x).take (k + 1) ++ List.replicate (w.length - k) false
theorem oneK_zero {s : Nat} {w : List Nat} {x : List Bool} : oneK s w x 0 = noneL w := by
  unfold oneK oneL noneL
  simp [List.replicate_succ]
theorem oneK_all {s : Nat} {w : List Nat} {x : List Bool} (hx : x.length = w.length + 1) : oneK s w x w.length = oneL s w x := by
  unfold oneK
  rw [List.take_of_length_le (by rw [oneL_len hx]; omega)]; simp
theorem oneK_len {s : Nat} {w : List Nat} {x : List Bool} (hx : x.length = w.length + 1) {k : Nat} (hk : k ≤ w.length) : (oneK s w x k).length = w.length + 1 := by
  unfold oneK
  rw [List.length_append, List.length_take, oneL_len hx, List.length_replicate]
  omega
theorem oneK_step {s : Nat} {w : List Nat} {x : List Bool} (hx : x.length = w.length + 1) {k : Nat} (hk : k < w.length) : oneK s w x (k + 1) = if (x[k] && s.testBit w[k]) = true then (oneK s w x k).set (k + 1) true else oneK s w x k := by
  have hl := oneL_len (s := s) hx
  have hg : (oneL s w x)[k + 1]'(by omega) = (x[k] && s.testBit w[k]) := by unfold oneL; simp
  unfold oneK
  rw [List.take_succ_eq_append_getElem (show k + 1 < (oneL s w x).length by omega), hg]
  have e : w.length - k = (w.length - (k + 1)) + 1 := by omega
  rw [e, List.replicate_succ]
  have ht : ((oneL s w x).take (k + 1)).length = k + 1 := by rw [List.length_take]; omega
  split
  · rename_i hb
    rw [hb, List.set_append_right _ _ (by omega), ht, Nat.sub_self]
    simp
  · rename_i hb
    have : (x[k] && s.testBit w[k]) = false := by simpa using hb
    rw [this]
    simp
set_option maxRecDepth 4000 in
set_option maxHeartbeats 2000000 in
theorem ref07_one_c {ro : Ro} {s : ByteArray} {m : Nat} {x : List Bool} {xv : Value} (hm : m < 2 ^ 256) (hw : (bts s).length ≤ 1000000) (hx : x.length = (bts s).length + 1) {h : T Obj} {nx : Nat} {K : KV} (hf : Fr h nx) (hxv : ZB ro h xv x)
    (hK : ∀ r h' nx', nx ≤ nx' → Sub h h' → Fr h' nx' → ZB ro h' r (oneL m (bts s) x) → K r h' nx') : callP Try.prog ro i_ref07_one [setV m, .string s, xv] h nx K := by
  apply ref07_one_of
  unfold ref07_one
  refine param_mk hf (Nat.le_refl _) fun h1 hs1 hf1 g1 _ => ?_
  refine ref07_places_c hw (hf1.mono (by omega)) fun r h2 n2 hn2 hs2 hf2 ho => ?_
  rw [← oneK_zero (s := m) (x := x)] at ho
  have hls := lenStr_bts s
  refine loopP_rule (fun j e h' nx' => ∃ k : Nat, k + j = (bts s).length ∧ n2 ≤ nx' ∧ e 1 = .string s ∧ e 2 = xv ∧ e 3 = ptr nx ∧ e 7 = r ∧ e 8 = .int .i64 k ∧ Fr h' nx' ∧ Sub h1 h' ∧ OwnT h' r 1 y_bool (blC (oneK m (bts s) x k)) (nx + 4)) ?_ (n := (bts s).length) ⟨0, by omega, by omega, rfl, rfl, rfl, rfl, rfl, hf2.mono (by omega), hs2, ho⟩
  rintro j e h' nx' ⟨k, hkj, hnx, e1, e2, e3, e7, e8, hf', hs', ho'⟩ Q' hq hx'
  unfold ref07_one_L1
  rw [e1, e2, e3, e7, e8]
  (repeat (first | refine bindP_mk (by simp (disch := first | omega | exact Int.natCast_nonneg _ | assumption) only [BB, B2, ↓reduceIte, Nat.reduceLeDiff, Nat.reduceAdd, CC, hls] <;> rfl) ?_ | refine newP_mk ?_ | refine optP_mk ?_ | with_reducible first | refine condP_t ?_ | refine condP_f ?_ | refine ifP_tt' ?_ | refine ifP_ff' ?_ | refine ifP_tf' ?_ | refine ifP_ft' ?_ | refine ifP_u' ?_ | refine optP_mk0 ?_))
  refine lss_s (fun hi => ?_) (fun hi => ?_)
  · have hi : k < (bts s).length := by omega
    have y1 := (hxv.sub (hs1.trans hs')).ix .i64 (show k < x.length by omega)
    have y2 := (hxv.sub (hs1.trans hs')).load (show k < x.length by omega)
    have y3 := ixStr_bts (k := .i64) hi
    have g1' := hs' _ _ g1
    have lA := loadA_all (ro := ro) (z := 0) (n := 4) (l := setL m) g1' rfl
    have hstep := oneK_step (s := m) hx hi
    have hnext : ∀ (e' : Env) h3 n, nx' ≤ n → OwnT h3 r 1 y_bool (blC (oneK m (bts s) x (k + 1))) (nx + 4) → Fr h3 n → Sub h1 h3 → e' 1 = .string s → e' 2 = xv → e' 3 = ptr nx → e' 7 = r → e' 8 = .int .i64 k → ref07_one_j2 ro Q' e' h3 n := fun e' h3 n hn ho3 hf3 hs3 q1 q2 q3 q7 q8 => by
      unfold ref07_one_j2
      rw [q8]
      (repeat (first | refine bindP_mk (by simp (disch := first | omega | exact Int.natCast_nonneg _ | assumption) only [BB, B2, ↓reduceIte, Nat.reduceLeDiff, Nat.reduceAdd, CC] <;> rfl) ?_ | refine newP_mk ?_ | refine optP_mk ?_ | with_reducible first | refine condP_t ?_ | refine condP_f ?_ | refine ifP_tt' ?_ | refine ifP_ff' ?_ | refine ifP_tf' ?_ | refine ifP_ft' ?_ | refine ifP_u' ?_ | refine optP_mk0 ?_))
      exact hq (j - 1) _ _ _ _ (by omega) ⟨k + 1, by omega, by omega, q1, q2, q3, q7, rfl, hf3.mono (by omega), hs3, ho3⟩ (Sub.refl _)
    have hb256 := bts_lt (s := s) _ (List.getElem_mem hi)
    generalize (bts s)[k] = b at y3 hstep hb256
    (repeat (first | refine bindP_mk (by simp (disch := first | omega | exact Int.natCast_nonneg _ | assumption) only [BB, B2, ↓reduceIte, Nat.reduceLeDiff, Nat.reduceAdd, CC, y1, y2] <;> rfl) ?_ | refine newP_mk ?_ | refine optP_mk ?_ | with_reducible first | refine condP_t ?_ | refine condP_f ?_ | refine ifP_tt' ?_ | refine ifP_ff' ?_ | refine ifP_tf' ?_ | refine ifP_ft' ?_ | refine ifP_u' ?_ | refine optP_mk0 ?_))
    cases hxk : x[k] with
    | true =>
      rw [hxk] at hstep
      (repeat (first | refine bindP_mk (by simp (disch := first | omega | exact Int.natCast_nonneg _ | assumption) only [BB, B2, ↓reduceIte, Nat.reduceLeDiff, Nat.reduceAdd, CC, lA, y3] <;> rfl) ?_ | refine newP_mk ?_ | refine optP_mk ?_ | with_reducible first | refine condP_t ?_ | refine condP_f ?_ | refine ifP_tt' ?_ | refine ifP_ff' ?_ | refine ifP_tf' ?_ | refine ifP_ft' ?_ | refine ifP_u' ?_ | refine optP_mk0 ?_))
      refine ref01_Has_c hb256 (hf'.mono (by omega)) fun n3 hn3 => ?_
      cases hbt : m.testBit b with
      | true =>
        rw [hbt] at hstep
        (repeat (first | refine bindP_mk (by simp (disch := first | omega | exact Int.natCast_nonneg _ | assumption) only [BB, B2, ↓reduceIte, Nat.reduceLeDiff, Nat.reduceAdd, CC] <;> rfl) ?_ | refine newP_mk ?_ | refine optP_mk ?_ | with_reducible first | refine condP_t ?_ | refine condP_f ?_ | refine ifP_tt' ?_ | refine ifP_ff' ?_ | refine ifP_tf' ?_ | refine ifP_ft' ?_ | refine ifP_u' ?_ | refine optP_mk0 ?_))
        have y4 := (ho'.sl (ro := ro)).ix .i64 (i := k + 1) (by rw [blC_len, oneK_len hx (by omega)]; omega)
        obtain ⟨h3, w1, w2, w3, w4⟩ := putB (b := true) ho' (i := k + 1) (by rw [oneK_len hx (by omega)]; omega)
        refine bindP_mk y4 (bindP_mk w1 ?_)
        rw [if_pos (show (true && true) = true from rfl)] at hstep
        exact hnext _ _ _ (by omega) (by rw [hstep]; exact w2) (w4 _ (hf'.mono (by omega))) (ho'.sub w3 hf1 (by omega) hs') e1 e2 e3 e7 e8
      | false =>
        rw [hbt] at hstep
        (repeat (first | refine bindP_mk (by simp (disch := first | omega | exact Int.natCast_nonneg _ | assumption) only [BB, B2, ↓reduceIte, Nat.reduceLeDiff, Nat.reduceAdd, CC] <;> rfl) ?_ | refine newP_mk ?_ | refine optP_mk ?_ | with_reducible first | refine condP_t ?_ | refine condP_f ?_ | refine ifP_tt' ?_ | refine ifP_ff' ?_ | refine ifP_tf' ?_ | refine ifP_ft' ?_ | refine ifP_u' ?_ | refine optP_mk0 ?_))
        rw [if_neg (show ¬ (true && false) = true by decide)] at hstep
        exact hnext _ _ _ (by omega) (by rw [hstep]; exact ho') (hf'.mono (by omega)) hs' e1 e2 e3 e7 e8
    | false =>
      rw [hxk] at hstep
      (repeat (first | refine bindP_mk (by simp (disch := first | omega | exact Int.natCast_nonneg _ | assumption) only [BB, B2, ↓reduceIte, Nat.reduceLeDiff, Nat.reduceAdd, CC] <;> rfl) ?_ | refine newP_mk ?_ | refine optP_mk ?_ | with_reducible first | refine condP_t ?_ | refine condP_f ?_ | refine ifP_tt' ?_ | refine ifP_ff' ?_ | refine ifP_tf' ?_ | refine ifP_ft' ?_ | refine ifP_u' ?_ | refine optP_mk0 ?_))
      rw [if_neg (show ¬ (false && m.testBit b) = true by simp)] at hstep
      exact hnext _ _ _ (by omega) (by rw [hstep]; exact ho') (hf'.mono (by omega)) hs' e1 e2 e3 e7 e8
  · (repeat (first | refine bindP_mk (by simp (disch := first | omega | exact Int.natCast_nonneg _ | assumption) only [BB, B2, ↓reduceIte, Nat.reduceLeDiff, Nat.reduceAdd, CC] <;> rfl) ?_ | refine newP_mk ?_ | refine optP_mk ?_ | with_reducible first | refine condP_t ?_ | refine condP_f ?_ | refine ifP_tt' ?_ | refine ifP_ff' ?_ | refine ifP_tf' ?_ | refine ifP_ft' ?_ | refine ifP_u' ?_ | refine optP_mk0 ?_))
    refine hx' _ _ _ _ (fun e => by cases e) (exP_e (beqP_t ?_))
    unfold ref07_one_j1
    show ∃ h5, Sub h5 h' ∧ K (e 7) h5 _
    rw [e7]
    have : k = (bts s).length := by omega
    subst this
    rw [oneK_all hx] at ho'
    exact ⟨h', Sub.refl _, hK _ _ _ (by omega) (hs1.trans hs') (hf'.mono (by omega)) ho'.sl⟩
def orK (a b : List Bool) (k : Nat) : List Bool := (orL a b).take k ++ a.drop k
theorem orK_step {a b : List Bool} (hl : a.length = b.length) {k : Nat} (hk : k < a.length) : orK a b (k + 1) = (orK a b k).set k (a[k] || b[k]'(by omega)) ∧ (orK a b k)[k]? = some a[k] := by
  have ho := orL_len (x := a) (y := b) (n := a.length) rfl hl.symm
  have hg : (orL a b)[k]'(by omega) = (a[k] || b[k]'(by omega)) := by unfold orL; simp
  have ht : ((orL a b).take k).length = k := by rw [List.length_take]; omega
  unfold orK
  rw [List.take_succ_eq_append_getElem (show k < (orL a b).length by omega), hg, List.drop_eq_getElem_cons hk]
  refine ⟨?_, ?_⟩
  · rw [List.set_append_right _ _ (by omega), ht, Nat.sub_self, List.set_cons_zero, List.append_assoc, List.singleton_append]
  · rw [List.getElem?_append_right (by omega), ht, Nat.sub_self]
    simp
theorem orK_len {a b : List Bool} (hl : a.length = b.length) (k : Nat) : (orK a b k).length = a.length := by
  have ho := orL_len (x := a) (y := b) (n := a.length) rfl hl.symm
  unfold orK
  rw [List.length_append, List.length_take, List.length_drop]
  omega
theorem orK_all {a b : List Bool} (hl : a.length = b.length) : orK a b a.length = orL a b := by
  have ho := orL_len (x := a) (y := b) (n := a.length) rfl hl.symm
  unfold orK
  rw [List.take_of_length_le (by omega)]; simp
theorem lit_bl0 (aid : Nat) : sliceLitV Try.prog y_s_bool aid 0 [] = some (.slice (some (own aid 1)) 0 0, some (.cells #[] y_bool)) := by kernel_rfl
theorem blC_ok (l : List Bool) : (blC l).flatten.all cellOk = true := by
  rw [blC_flat, List.all_eq_true]
  intro x hx
  obtain ⟨b, _, rfl⟩ := List.mem_map.1 hx
  rfl
set_option maxRecDepth 4000 in
set_option maxHeartbeats 2000000 in
theorem ref07_or_c {ro : Ro} {a b : List Bool} {av bv : Value} (hl : a.length = b.length) (hb : a.length ≤ 1000001) {h : T Obj} {nx : Nat} {K : KV} (hf : Fr h nx) (ha : ZB ro h av a) (hbv : ZB ro h bv b)
    (hK : ∀ r h' nx', nx ≤ nx' → Sub h h' → Fr h' nx' → ZB ro h' r (orL a b) → K r h' nx') : callP Try.prog ro i_ref07_or [av, bv] h nx K := by
  apply ref07_or_of
  unfold ref07_or
  refine bindP_mk (lit_bl0 _) (optP_mk ?_)
  generalize hh1 : h.upd (nx + 1) (some (.cells #[] y_bool)) = h1
  have hs1 : Sub h h1 := by rw [← hh1]; exact (Sub.refl h).new hf (by omega)
  have hf1 : Fr h1 (nx + 4) := by rw [← hh1]; exact (hf.mono (by omega)).upd (Nat.le_refl _) (by omega)
  have ho1 : OwnT h1 (.slice (some (own (nx + 1) 1)) 0 0) 1 y_bool (blC []) (nx + 1) := .inr ⟨nx + 1, Nat.le_refl _, rfl, by simp [blC], by rw [← hh1]; exact T.get_upd_same _ _ _⟩
  obtain ⟨i, t1, t2, t3⟩ := tin_bl
  obtain ⟨r, h2, n2, q1, q2, q3, q4, q5, q6⟩ := append_any (ro := ro) (P := Try.prog) (t := y_s_bool) (nx := nx + 4) ho1 (ha.sub hs1) und_blS t1 (by omega) (by omega) zer_bl rfl (blC_ok a) (by rw [t3, blC_len, blC_len]; simp only [List.length_nil]; unfold big; omega) (by rw [blC_len, blC_len]; simp only [List.length_nil]; unfold big; omega) (by omega) hf1
  have hs2 : Sub h h2 := ho1.sub q3 hf (by omega) hs1
  have hbl : ∀ h', Sub h h' → lenSl bv = some (.int .i64 b.length) := fun _ _ => hbv.len
  have hbl := hbv.len
  have ho2 : OwnT h2 r 1 y_bool (blC (orK a b 0)) (nx + 1) := by
    have e : orK a b 0 = a := by simp [orK]
    rw [e]
    simpa [blC] using q2
  refine bindP_mk q1 ?_
  dsimp only
  refine loopP_rule (fun j e h' nx' => ∃ k : Nat, k + j = b.length ∧ n2 ≤ nx' ∧ e 1 = bv ∧ e 5 = r ∧ e 6 = .int .i64 k ∧ Fr h' nx' ∧ Sub h h' ∧ OwnT h' r 1 y_bool (blC (orK a b k)) (nx + 1)) ?_ (n := b.length) ⟨0, by omega, by omega, rfl, rfl, rfl, q5.mono (by omega), hs2, ho2⟩
  rintro j e h' nx' ⟨k, hkj, hnx, e1, e5, e6, hf', hs', ho'⟩ Q' hq hx
  unfold ref07_or_L1
  rw [e1, e5, e6]
  (repeat (first | refine bindP_mk (by simp (disch := first | omega | exact Int.natCast_nonneg _ | assumption) only [BB, B2, ↓reduceIte, Nat.reduceLeDiff, Nat.reduceAdd, CC, hbl] <;> rfl) ?_ | refine newP_mk ?_ | refine optP_mk ?_ | with_reducible first | refine condP_t ?_ | refine condP_f ?_ | refine ifP_tt' ?_ | refine ifP_ff' ?_ | refine ifP_tf' ?_ | refine ifP_ft' ?_ | refine ifP_u' ?_ | refine optP_mk0 ?_))
  refine lss_s (fun hi => ?_) (fun hi => ?_)
  · have hi : k < b.length := by omega
    obtain ⟨s1, s2⟩ := orK_step hl (show k < a.length by omega)
    have sl := orK_len hl k
    have y1 := (ho'.sl (ro := ro)).ix .i64 (i := k) (by rw [blC_len]; omega)
    have y2 : load1 ro h' (elPtr 1 r k) = some (.bool (a[k]'(by omega))) := by
      have hg := blC_get (l := orK a b k) (i := k) (by omega)
      have := (ho'.sl (ro := ro)).load1 hg
      rw [this]
      rw [List.getElem?_eq_getElem (by omega)] at s2
      rw [Option.some.inj s2]
    have y3 := (hbv.sub hs').ix .i64 hi
    have y4 := (hbv.sub hs').load hi
    have hfin : ∀ (e' : Env) (c : Bool) h3 n, (orK a b k).set k c = orK a b (k + 1) → storeN 1 h' (elPtr 1 r k) (.bool c) = some h3 → nx' ≤ n → e' 1 = bv → e' 5 = r → e' 6 = .int .i64 ((k : Int) + 1) → Q' .normal e' h3 n := fun e' c h3 n hc hst hn p1 p5 p6 => by
      obtain ⟨h4, w1, w2, w3, w4⟩ := putB (b := c) ho' (i := k) (by omega)
      rw [hst] at w1
      cases w1
      rw [hc] at w2
      exact hq (j - 1) _ _ _ _ (by omega) ⟨k + 1, by omega, by omega, p1, p5, p6, w4 _ (hf'.mono (by omega)), ho'.sub w3 hf (by omega) hs', w2⟩ (Sub.refl _)
    (repeat (first | refine bindP_mk (by simp (disch := first | omega | exact Int.natCast_nonneg _ | assumption) only [BB, B2, ↓reduceIte, Nat.reduceLeDiff, Nat.reduceAdd, CC, y1, y2] <;> rfl) ?_ | refine newP_mk ?_ | refine optP_mk ?_ | with_reducible first | refine condP_t ?_ | refine condP_f ?_ | refine ifP_tt' ?_ | refine ifP_ff' ?_ | refine ifP_tf' ?_ | refine ifP_ft' ?_ | refine ifP_u' ?_ | refine optP_mk0 ?_))
    generalize a[k] = ak at *
    generalize b[k] = bk at *
    obtain ⟨h4, w1, -, -, -⟩ := putB (b := ak || bk) ho' (i := k) (by omega)
    cases ak with
    | true =>
      (repeat (first | refine bindP_mk (by simp (disch := first | omega | exact Int.natCast_nonneg _ | assumption) only [BB, B2, ↓reduceIte, Nat.reduceLeDiff, Nat.reduceAdd, CC, y1] <;> rfl) ?_ | refine newP_mk ?_ | refine optP_mk ?_ | with_reducible first | refine condP_t ?_ | refine condP_f ?_ | refine ifP_tt' ?_ | refine ifP_ff' ?_ | refine ifP_tf' ?_ | refine ifP_ft' ?_ | refine ifP_u' ?_ | refine optP_mk0 ?_))
      refine bindP_mk w1 ?_
      (repeat (first | refine bindP_mk (by simp (disch := first | omega | exact Int.natCast_nonneg _ | assumption) only [BB, B2, ↓reduceIte, Nat.reduceLeDiff, Nat.reduceAdd, CC] <;> rfl) ?_ | refine newP_mk ?_ | refine optP_mk ?_ | with_reducible first | refine condP_t ?_ | refine condP_f ?_ | refine ifP_tt' ?_ | refine ifP_ff' ?_ | refine ifP_tf' ?_ | refine ifP_ft' ?_ | refine ifP_u' ?_ | refine optP_mk0 ?_))
      exact hfin _ _ _ _ s1.symm w1 (by omega) e1 e5 rfl
    | false =>
      rw [Bool.false_or] at s1 w1
      (repeat (first | refine bindP_mk (by simp (disch := first | omega | exact Int.natCast_nonneg _ | assumption) only [BB, B2, ↓reduceIte, Nat.reduceLeDiff, Nat.reduceAdd, CC, y3, y4, y1] <;> rfl) ?_ | refine newP_mk ?_ | refine optP_mk ?_ | with_reducible first | refine condP_t ?_ | refine condP_f ?_ | refine ifP_tt' ?_ | refine ifP_ff' ?_ | refine ifP_tf' ?_ | refine ifP_ft' ?_ | refine ifP_u' ?_ | refine optP_mk0 ?_))
      refine bindP_mk w1 ?_
      (repeat (first | refine bindP_mk (by simp (disch := first | omega | exact Int.natCast_nonneg _ | assumption) only [BB, B2, ↓reduceIte, Nat.reduceLeDiff, Nat.reduceAdd, CC] <;> rfl) ?_ | refine newP_mk ?_ | refine optP_mk ?_ | with_reducible first | refine condP_t ?_ | refine condP_f ?_ | refine ifP_tt' ?_ | refine ifP_ff' ?_ | refine ifP_tf' ?_ | refine ifP_ft' ?_ | refine ifP_u' ?_ | refine optP_mk0 ?_))
      exact hfin _ _ _ _ s1.symm w1 (by omega) e1 e5 rfl
  · (repeat (first | refine bindP_mk (by simp (disch := first | omega | exact Int.natCast_nonneg _ | assumption) only [BB, B2, ↓reduceIte, Nat.reduceLeDiff, Nat.reduceAdd, CC] <;> rfl) ?_ | refine newP_mk ?_ | refine optP_mk ?_ | with_reducible first | refine condP_t ?_ | refine condP_f ?_ | refine ifP_tt' ?_ | refine ifP_ff' ?_ | refine ifP_tf' ?_ | refine ifP_ft' ?_ | refine ifP_u' ?_ | refine optP_mk0 ?_))
    refine hx _ _ _ _ (fun e => by cases e) (exP_e (beqP_t ?_))
    unfold ref07_or_j1
    show ∃ h4, Sub h4 h' ∧ K (e 5) h4 _
    rw [e5]
    have : k = a.length := by omega
    subst this
    rw [orK_all hl] at ho'
    exact ⟨h', Sub.refl _, hK _ _ _ (by omega) hs' (hf'.mono (by omega)) ho'.sl⟩
set_option maxRecDepth 4000 in
set_option maxHeartbeats 2000000 in
theorem ref07_same_c {ro : Ro} {a b : List Bool} {av bv : Value} (hl : a.length = b.length) (hb : a.length ≤ 1000001) {h : T Obj} {nx : Nat} {K : KV} (ha : ZB ro h av a) (hbv : ZB ro h bv b)
    (hK : ∀ nx', nx ≤ nx' → K (.bool (decide (a = b))) h nx') : callP Try.prog ro i_ref07_same [av, bv] h nx K := by
  apply ref07_same_of
  unfold ref07_same
  have hal := ha.len
  refine loopP_rule (fun j e h' nx' => ∃ k : Nat, k + j = a.length ∧ nx ≤ nx' ∧ e 0 = av ∧ e 1 = bv ∧ e 5 = .int .i64 k ∧ h' = h ∧ ∀ i, i < k → a[i]? = b[i]?) ?_ (n := a.length) ⟨0, by omega, by omega, rfl, rfl, rfl, rfl, fun i hi => by omega⟩
  rintro j e h' nx' ⟨k, hkj, hnx, e0, e1, e5, rfl, hall⟩ Q' hq hx
  unfold ref07_same_L1
  rw [e0, e1, e5]
  (repeat (first | refine bindP_mk (by simp (disch := first | omega | exact Int.natCast_nonneg _ | assumption) only [BB, B2, ↓reduceIte, Nat.reduceLeDiff, Nat.reduceAdd, CC, hal] <;> rfl) ?_ | refine newP_mk ?_ | refine optP_mk ?_ | with_reducible first | refine condP_t ?_ | refine condP_f ?_ | refine ifP_tt' ?_ | refine ifP_ff' ?_ | refine ifP_tf' ?_ | refine ifP_ft' ?_ | refine ifP_u' ?_ | refine optP_mk0 ?_))
  refine lss_s (fun hi => ?_) (fun hi => ?_)
  · have hi : k < a.length := by omega
    have y1 := ha.ix .i64 hi
    have y2 := ha.load hi
    have y3 := hbv.ix .i64 (show k < b.length by omega)
    have y4 := hbv.load (show k < b.length by omega)
    (repeat (first | refine bindP_mk (by simp (disch := first | omega | exact Int.natCast_nonneg _ | assumption) only [BB, B2, ↓reduceIte, Nat.reduceLeDiff, Nat.reduceAdd, CC, y1, y2, y3, y4] <;> rfl) ?_ | refine newP_mk ?_ | refine optP_mk ?_ | with_reducible first | refine condP_t ?_ | refine condP_f ?_ | refine ifP_tt' ?_ | refine ifP_ff' ?_ | refine ifP_tf' ?_ | refine ifP_ft' ?_ | refine ifP_u' ?_ | refine optP_mk0 ?_))
    by_cases hab : a[k] = b[k]
    · have hq1 : (!(a[k] == b[k])) = false := by rw [hab]; simp
      rw [hq1]
      (repeat (first | refine bindP_mk (by simp (disch := first | omega | exact Int.natCast_nonneg _ | assumption) only [BB, B2, ↓reduceIte, Nat.reduceLeDiff, Nat.reduceAdd, CC] <;> rfl) ?_ | refine newP_mk ?_ | refine optP_mk ?_ | with_reducible first | refine condP_t ?_ | refine condP_f ?_ | refine ifP_tt' ?_ | refine ifP_ff' ?_ | refine ifP_tf' ?_ | refine ifP_ft' ?_ | refine ifP_u' ?_ | refine optP_mk0 ?_))
      refine hq (j - 1) _ _ _ _ (by omega) ⟨k + 1, by omega, by omega, e0, e1, rfl, rfl, fun i hik => ?_⟩ (Sub.refl _)
      by_cases hi2 : i < k
      · exact hall i hi2
      · have : i = k := by omega
        subst this
        rw [List.getElem?_eq_getElem hi, List.getElem?_eq_getElem (show i < b.length by omega), hab]
    · have hq1 : (!(a[k] == b[k])) = true := by simpa using hab
      rw [hq1]
      (repeat (first | refine bindP_mk (by simp (disch := first | omega | exact Int.natCast_nonneg _ | assumption) only [BB, B2, ↓reduceIte, Nat.reduceLeDiff, Nat.reduceAdd, CC] <;> rfl) ?_ | refine newP_mk ?_ | refine optP_mk ?_ | with_reducible first | refine condP_t ?_ | refine condP_f ?_ | refine ifP_tt' ?_ | refine ifP_ff' ?_ | refine ifP_tf' ?_ | refine ifP_ft' ?_ | refine ifP_u' ?_ | refine optP_mk0 ?_))
      refine hx _ _ _ _ (fun e => by cases e) (exP_r ?_)
      refine ⟨h', Sub.refl _, kb hK (decide_eq_false fun e => hab ?_) (by omega)⟩
      subst e; rfl
  · (repeat (first | refine bindP_mk (by simp (disch := first | omega | exact Int.natCast_nonneg _ | assumption) only [BB, B2, ↓reduceIte, Nat.reduceLeDiff, Nat.reduceAdd, CC] <;> rfl) ?_ | refine newP_mk ?_ | refine optP_mk ?_ | with_reducible first | refine condP_t ?_ | refine condP_f ?_ | refine ifP_tt' ?_ | refine ifP_ff' ?_ | refine ifP_tf' ?_ | refine ifP_ft' ?_ | refine ifP_u' ?_ | refine optP_mk0 ?_))
    refine hx _ _ _ _ (fun e => by cases e) (exP_e (beqP_t ?_))
    unfold ref07_same_j1
    refine ⟨h', Sub.refl _, kb hK (decide_eq_true ?_) (by omega)⟩
    refine List.ext_getElem? fun i => ?_
    by_cases hi2 : i < k
    · exact hall i hi2
    · rw [List.getElem?_eq_none (by omega), List.getElem?_eq_none (by omega)]
end V
end Go.Proofs.Ytepbdkfkfcckoaa
set_option linter.unusedVariables false
set_option linter.unusedSimpArgs false
namespace Go.Proofs.Ytepbdkfkfcckoaa
namespace V
open PA
attribute [local irreducible] bindP ifP condP newP optP exP beqP
theorem rep1_succ (f : List Bool → List Bool) (n : Nat) (x : List Bool) : rep1 f (n + 1) x = if f x = x then x else rep1 f n (f x) := rfl
theorem rep2_succ (f : List Bool → List Bool) (hi : Int) (m : Nat) (i : Int) (x out : List Bool) : rep2 f hi (m + 1) i x out = if i < hi ∨ hi = -1 then (if orL out (f x) = out then out else rep2 f hi m (i + 1) (f x) (orL out (f x))) else out := rfl
def EndsC (ro : Ro) (h0 : T Obj) (v : Value) (s : ByteArray) (k : Int) (f : List Bool → List Bool) : Prop := ∀ (x : List Bool) (xv : Value) (h : T Obj) (nx : Nat) (K : KV), x.length = (bts s).length + 1 → Sub h0 h → Fr h nx → ZB ro h xv x →
  (∀ r h' nx', nx ≤ nx' → Sub h h' → Fr h' nx' → ZB ro h' r (f x) → K r h' nx') → callP Try.prog ro i_ref07_ends [v, .int .i64 k, .string s, xv] h nx K
set_option maxRecDepth 4000 in
set_option maxHeartbeats 2000000 in
theorem rep_j1 {ro : Ro} {s : ByteArray} {v lv yv : Value} {n : NodeD} {k : Int} {f : List Bool → List Bool} {y : List Bool} {h0 h : T Obj} {nx p n0 : Nat} {K : KV} {e : Env} (hw : (bts s).length ≤ 1000000) (hkid : EndsC ro h0 v s k f) (hlen : ∀ x, x.length = (bts s).length + 1 → (f x).length = (bts s).length + 1) (hlo : 0 ≤ n.lo) (hlo2 : n.lo ≤ 4096)
    (hs : Sub h0 h) (hf : Fr h nx) (hn0 : n0 ≤ nx) (g : h.get p = some (.cells (nodL n lv).toArray y_api_Node)) (hn : ZI ro h0 lv n.l) (hl1 : n.l = [k]) (hy : y.length = (bts s).length + 1) (hyv : ZB ro h yv y) (e0 : e 0 = v) (e2 : e 2 = .string s) (e3 : e 3 = yv) (e5 : e 5 = ptr p)
    (hK : ∀ r h' nx', n0 ≤ nx' → Sub h h' → Fr h' nx' → ZB ro h' r (rep2 f n.hi (falses y + 1) n.lo y y) → K r h' nx') : ref07_rep_j1 ro K e h nx := by
  unfold ref07_rep_j1
  rw [e3, e5]
  obtain ⟨g0, g5, g6, g7, g8⟩ := nodL_get n lv
  have l6 := load1_get (ro := ro) (z := 0) g g6
  (repeat (first | refine bindP_mk (by simp (disch := first | omega | exact Int.natCast_nonneg _ | assumption) only [BB, B2, ↓reduceIte, Nat.reduceLeDiff, Nat.reduceAdd, CC, l6] <;> rfl) ?_ | refine newP_mk ?_ | refine optP_mk ?_ | with_reducible first | refine condP_t ?_ | refine condP_f ?_ | refine ifP_tt' ?_ | refine ifP_ff' ?_ | refine ifP_tf' ?_ | refine ifP_ft' ?_ | refine ifP_u' ?_ | refine optP_mk0 ?_))
  generalize hZ : rep2 f n.hi (falses y + 1) n.lo y y = Z at hK
  have hfl : falses y ≤ 1000001 := by unfold falses; exact Nat.le_trans List.count_le_length (by omega)
  refine loopP_rule (fun m e h' nx' => ∃ (i : Int) (c o : List Bool) (cv ov : Value), n0 ≤ nx' ∧ e 0 = v ∧ e 2 = .string s ∧ e 3 = cv ∧ e 5 = ptr p ∧ e 11 = ov ∧ e 12 = .int .i64 i ∧ Sub h h' ∧ Fr h' nx' ∧ c.length = (bts s).length + 1 ∧ o.length = (bts s).length + 1 ∧ ZB ro h' cv c ∧ ZB ro h' ov o ∧ 0 ≤ i ∧ i + m ≤ n.lo + (falses y + 1) ∧ falses o < m ∧
      Z = rep2 f n.hi m i c o) ?_ (n := falses y + 1)
    ⟨n.lo, y, y, yv, yv, by omega, e0, e2, e3, e5, rfl, rfl, Sub.refl _, hf.mono (by omega), hy, hy, hyv, hyv, hlo, by omega, Nat.lt_succ_self _, hZ.symm⟩
  rintro m e h' nx' ⟨i, c, o, cv, ov, hnx, e0, e2, e3, e5, e11, e12, hs', hf', hc, ho, hcv, hov, hi0, him, hfo, hr⟩ Q' hq hx
  unfold ref07_rep_L1
  rw [e0, e2, e3, e5, e11, e12]
  have g' := hs' _ _ g
  have l5 := load1_get (ro := ro) (z := 0) g' g5
  have l7 := load1_get (ro := ro) (z := 0) g' g7
  have hz := hn.sub (hs.trans hs')
  have y1 := hz.ix .i64 (i := 0) (by rw [hl1]; simp)
  have y2 := hz.load (i := 0) (by rw [hl1]; simp)
  have y3 : n.l[0]'(by rw [hl1]; simp) = k := by simp [hl1]
  rw [y3] at y2
  have y1' : ixSl 1 lv (.int .i64 0) = some (elPtr 1 lv 0) := y1
  obtain ⟨m, rfl⟩ : ∃ m', m = m' + 1 := ⟨m - 1, by omega⟩
  rw [rep2_succ] at hr
  have hend : ∀ (e' : Env) h2 n2, (if i < n.hi ∨ n.hi = -1 then (if orL o (f c) = o then o else rep2 f n.hi m (i + 1) (f c) (orL o (f c))) else o) = o → Sub h' h2 → Fr h2 n2 → n0 ≤ n2 → e' 11 = ov → Q' (.exit 2) e' h2 n2 := fun e' h2 n2 hq2 hs2 hf2 hn2 q11 => by
    refine hx _ _ _ _ (fun e => by cases e) (exP_e (beqP_t ?_))
    unfold ref07_rep_j2
    show ∃ h3, Sub h3 h2 ∧ K (e' 11) h3 _
    rw [q11]
    rw [hq2] at hr
    exact ⟨h2, Sub.refl _, hK _ _ _ (by omega) (hs'.trans hs2) (hf2.mono (by omega)) (by rw [hr]; exact hov.sub hs2)⟩
  by_cases hcond : i < n.hi ∨ n.hi = -1
  · rw [if_pos hcond] at hr hend
    have hgo : ∀ (e' : Env) h2 n2 r r2, orL o (f c) ≠ o → Sub h' h2 → Fr h2 n2 → n0 ≤ n2 → ZB ro h2 r (f c) → ZB ro h2 r2 (orL o (f c)) → e' 0 = v → e' 2 = .string s → e' 3 = r → e' 5 = ptr p → e' 11 = r2 → e' 12 = .int .i64 (i + 1) → Q' .normal e' h2 n2 := fun e' h2 n2 r r2 hne hs2 hf2 hn2 z1 z2 q0 q2 q3 q5 q11 q12 => by
      rw [if_neg hne] at hr
      have hfc := hlen c hc
      have hlt := (falses_or (x := o) (y := f c) (by rw [ho, hfc])).2 hne
      exact hq m _ _ _ _ (by omega) ⟨i + 1, f c, orL o (f c), r, r2, hn2, q0, q2, q3, q5, q11, q12, hs'.trans hs2, hf2, hfc, orL_len ho hfc, z1, z2, by omega, by omega, by omega, hr⟩ (Sub.refl _)
    have hcall : ∀ n3 (K3 : KV), nx' ≤ n3 → (∀ r h2 n2, n3 ≤ n2 → Sub h' h2 → Fr h2 n2 → ZB ro h2 r (f c) → K3 r h2 n2) → callP Try.prog ro i_ref07_ends [v, .int .i64 k, .string s, cv] h' n3 K3 := fun n3 K3 hn3 hk3 => hkid c cv h' n3 K3 hc (hs.trans hs') (hf'.mono hn3) hcv hk3
    have hfc := hlen c hc
    have hbo : o.length ≤ 1000001 := by omega
    have tail : ∀ n3 (K3 : Value → Value → Value → T Obj → Nat → Prop), nx' ≤ n3 → (∀ r r2 h2 n2, n3 ≤ n2 → Sub h' h2 → Fr h2 n2 → ZB ro h2 r (f c) → ZB ro h2 r2 (orL o (f c)) → K3 r r2 (.bool (decide (orL o (f c) = o))) h2 n2) →
        callP Try.prog ro i_ref07_ends [v, .int .i64 k, .string s, cv] h' n3 fun t53 h29 n30 => callP Try.prog ro i_ref07_or [ov, t53] h29 (n30 + 4) fun t56 h32 n33 => callP Try.prog ro i_ref07_same [t56, ov] h32 (n33 + 4) fun t59 h35 n36 => K3 t53 t56 t59 h35 n36 := fun n3 K3 hn3 hk3 => by
      refine hcall n3 _ hn3 fun r h2 n2 hn2 hs2 hf2 z1 => ?_
      refine ref07_or_c (a := o) (b := f c) (by omega) hbo (hf2.mono (by omega)) (hov.sub hs2) z1 fun r2 h3 n3 hn3 hs3 hf3 z2 => ?_
      refine ref07_same_c (a := orL o (f c)) (b := o) (by rw [orL_len rfl (by omega)]) (by rw [orL_len (n := o.length) rfl (by omega)]; exact hbo) z2 (hov.sub (hs2.trans hs3)) fun n4 hn4 => ?_
      exact hk3 r r2 h3 n4 (by omega) (hs2.trans hs3) (hf3.mono (by omega)) (z1.sub hs3) z2
    have e0' := e0
    (repeat (first | refine bindP_mk (by simp (disch := first | omega | exact Int.natCast_nonneg _ | assumption) only [BB, B2, ↓reduceIte, Nat.reduceLeDiff, Nat.reduceAdd, CC, l7] <;> rfl) ?_ | refine newP_mk ?_ | refine optP_mk ?_ | with_reducible first | refine condP_t ?_ | refine condP_f ?_ | refine ifP_tt' ?_ | refine ifP_ff' ?_ | refine ifP_tf' ?_ | refine ifP_ft' ?_ | refine ifP_u' ?_ | refine optP_mk0 ?_))
    refine lss_s (fun hih => ?_) (fun hih => ?_)
    rotate_left
    · (repeat (first | refine bindP_mk (by simp (disch := first | omega | exact Int.natCast_nonneg _ | assumption) only [BB, B2, ↓reduceIte, Nat.reduceLeDiff, Nat.reduceAdd, CC, l7, l5, y1', y2] <;> rfl) ?_ | refine newP_mk ?_ | refine optP_mk ?_ | with_reducible first | refine condP_t ?_ | refine condP_f ?_ | refine ifP_tt' ?_ | refine ifP_ff' ?_ | refine ifP_tf' ?_ | refine ifP_ft' ?_ | refine ifP_u' ?_ | refine optP_mk0 ?_))
      refine tail _ (fun t53 t56 t59 h35 n36 => condP t59 _ _) (by omega) fun r r2 h2 n2 hn2 hs2 hf2 z1 z2 => ?_
      by_cases hso : orL o (f c) = o
      · rw [decide_eq_true hso]
        (repeat (first | refine bindP_mk (by simp (disch := first | omega | exact Int.natCast_nonneg _ | assumption) only [BB, B2, ↓reduceIte, Nat.reduceLeDiff, Nat.reduceAdd, CC] <;> rfl) ?_ | refine newP_mk ?_ | refine optP_mk ?_ | with_reducible first | refine condP_t ?_ | refine condP_f ?_ | refine ifP_tt' ?_ | refine ifP_ff' ?_ | refine ifP_tf' ?_ | refine ifP_ft' ?_ | refine ifP_u' ?_ | refine optP_mk0 ?_))
        exact hend _ _ _ (by rw [if_pos hso]) hs2 hf2 (by omega) e11
      · rw [decide_eq_false hso]
        (repeat (first | refine bindP_mk (by simp (disch := first | omega | exact Int.natCast_nonneg _ | assumption) only [BB, B2, ↓reduceIte, Nat.reduceLeDiff, Nat.reduceAdd, CC] <;> rfl) ?_ | refine newP_mk ?_ | refine optP_mk ?_ | with_reducible first | refine condP_t ?_ | refine condP_f ?_ | refine ifP_tt' ?_ | refine ifP_ff' ?_ | refine ifP_tf' ?_ | refine ifP_ft' ?_ | refine ifP_u' ?_ | refine optP_mk0 ?_))
        exact hgo _ _ _ r r2 hso hs2 (hf2.mono (by omega)) (by omega) z1 z2 e0 e2 rfl e5 rfl rfl
    · (repeat (first | refine bindP_mk (by simp (disch := first | omega | exact Int.natCast_nonneg _ | assumption) only [BB, B2, ↓reduceIte, Nat.reduceLeDiff, Nat.reduceAdd, CC, l5, y1', y2] <;> rfl) ?_ | refine newP_mk ?_ | refine optP_mk ?_ | with_reducible first | refine condP_t ?_ | refine condP_f ?_ | refine ifP_tt' ?_ | refine ifP_ff' ?_ | refine ifP_tf' ?_ | refine ifP_ft' ?_ | refine ifP_u' ?_ | refine optP_mk0 ?_))
      refine tail _ (fun t53 t56 t59 h35 n36 => condP t59 _ _) (by omega) fun r r2 h2 n2 hn2 hs2 hf2 z1 z2 => ?_
      by_cases hso : orL o (f c) = o
      · rw [decide_eq_true hso]
        (repeat (first | refine bindP_mk (by simp (disch := first | omega | exact Int.natCast_nonneg _ | assumption) only [BB, B2, ↓reduceIte, Nat.reduceLeDiff, Nat.reduceAdd, CC] <;> rfl) ?_ | refine newP_mk ?_ | refine optP_mk ?_ | with_reducible first | refine condP_t ?_ | refine condP_f ?_ | refine ifP_tt' ?_ | refine ifP_ff' ?_ | refine ifP_tf' ?_ | refine ifP_ft' ?_ | refine ifP_u' ?_ | refine optP_mk0 ?_))
        exact hend _ _ _ (by rw [if_pos hso]) hs2 hf2 (by omega) e11
      · rw [decide_eq_false hso]
        (repeat (first | refine bindP_mk (by simp (disch := first | omega | exact Int.natCast_nonneg _ | assumption) only [BB, B2, ↓reduceIte, Nat.reduceLeDiff, Nat.reduceAdd, CC] <;> rfl) ?_ | refine newP_mk ?_ | refine optP_mk ?_ | with_reducible first | refine condP_t ?_ | refine condP_f ?_ | refine ifP_tt' ?_ | refine ifP_ff' ?_ | refine ifP_tf' ?_ | refine ifP_ft' ?_ | refine ifP_u' ?_ | refine optP_mk0 ?_))
        exact hgo _ _ _ r r2 hso hs2 (hf2.mono (by omega)) (by omega) z1 z2 e0 e2 rfl e5 rfl rfl
  · rw [if_neg hcond] at hend
    (repeat (first | refine bindP_mk (by simp (disch := first | omega | exact Int.natCast_nonneg _ | assumption) only [BB, B2, ↓reduceIte, Nat.reduceLeDiff, Nat.reduceAdd, CC, l7] <;> rfl) ?_ | refine newP_mk ?_ | refine optP_mk ?_ | with_reducible first | refine condP_t ?_ | refine condP_f ?_ | refine ifP_tt' ?_ | refine ifP_ff' ?_ | refine ifP_tf' ?_ | refine ifP_ft' ?_ | refine ifP_u' ?_ | refine optP_mk0 ?_))
    exact hend _ _ _ rfl (Sub.refl _) (hf'.mono (by omega)) (by omega) e11
set_option maxRecDepth 4000 in
set_option maxHeartbeats 2000000 in
theorem ref07_rep_c {ro : Ro} {s : ByteArray} {v lv xv : Value} {n : NodeD} {k : Int} {f : List Bool → List Bool} {x : List Bool} {h0 h : T Obj} {nx : Nat} {K : KV} (hw : (bts s).length ≤ 1000000) (hkid : EndsC ro h0 v s k f) (hlen : ∀ x, x.length = (bts s).length + 1 → (f x).length = (bts s).length + 1) (hlo : 0 ≤ n.lo) (hlo2 : n.lo ≤ 4096)
    (hs : Sub h0 h) (hf : Fr h nx) (hn : ZI ro h0 lv n.l) (hl1 : n.l = [k]) (hx1 : x.length = (bts s).length + 1) (hxv : ZB ro h xv x)
    (hK : ∀ r h' nx', nx ≤ nx' → Sub h h' → Fr h' nx' → ZB ro h' r (repL f n.lo n.hi x) → K r h' nx') : callP Try.prog ro i_ref07_rep [v, .agg (nodL n lv).toArray, .string s, xv] h nx K := by
  apply ref07_rep_of
  unfold ref07_rep
  refine param_mk hf (Nat.le_refl _) fun h1 hs1 hf1 g1 _ => ?_
  have g1 : h1.get nx = some (.cells (nodL n lv).toArray y_api_Node) := g1
  unfold repL at hK
  obtain ⟨g0, g5, g6, g7, g8⟩ := nodL_get n lv
  refine loopP_rule (fun m e h' nx' => ∃ (i : Int) (c : List Bool) (cv : Value), nx ≤ nx' ∧ e 0 = v ∧ e 2 = .string s ∧ e 3 = cv ∧ e 5 = ptr nx ∧ e 9 = .int .i64 i ∧ Sub h1 h' ∧ Fr h' nx' ∧ c.length = (bts s).length + 1 ∧ ZB ro h' cv c ∧ 0 ≤ i ∧ i + m = n.lo ∧
      rep1 f n.lo.toNat x = rep1 f m c) ?_ (n := n.lo.toNat)
    ⟨0, x, xv, by omega, rfl, rfl, rfl, rfl, rfl, Sub.refl _, hf1.mono (by omega), hx1, hxv.sub hs1, by omega, by omega, rfl⟩
  rintro m e h' nx' ⟨i, c, cv, hnx, e0, e2, e3, e5, e9, hs', hf', hc, hcv, hi0, him, hr⟩ Q' hq hx
  unfold ref07_rep_L2
  rw [e0, e2, e3, e5, e9]
  have g' := hs' _ _ g1
  have l5 := load1_get (ro := ro) (z := 0) g' g5
  have l6 := load1_get (ro := ro) (z := 0) g' g6
  have hz := hn.sub (hs.trans (hs1.trans hs'))
  have y1 := hz.ix .i64 (i := 0) (by rw [hl1]; simp)
  have y2 := hz.load (i := 0) (by rw [hl1]; simp)
  have y3 : n.l[0]'(by rw [hl1]; simp) = k := by simp [hl1]
  rw [y3] at y2
  have y1' : ixSl 1 lv (.int .i64 0) = some (elPtr 1 lv 0) := y1
  clear y3
  have hend : ∀ (e' : Env) h2 n2, rep1 f m c = c → Sub h' h2 → Fr h2 n2 → nx ≤ n2 → e' 0 = v → e' 2 = .string s → e' 3 = cv → e' 5 = ptr nx → Q' (.exit 0) e' h2 n2 := fun e' h2 n2 hq2 hs2 hf2 hn2 q0 q2 q3 q5 => by
    refine hx _ _ _ _ (fun e => by cases e) (exP_e (beqP_t ?_))
    rw [hr, hq2] at hK
    exact rep_j1 (n0 := nx) hw hkid hlen hlo hlo2 (hs.trans (hs1.trans (hs'.trans hs2))) hf2 hn2 (hs2 _ _ g') hn hl1 hc (hcv.sub hs2) q0 q2 q3 q5 fun r h3 n3 hn3 hs3 hf3 z3 => hK r h3 n3 hn3 (hs1.trans (hs'.trans (hs2.trans hs3))) hf3 z3
  cases m with
  | zero =>
    (repeat (first | refine bindP_mk (by simp (disch := first | omega | exact Int.natCast_nonneg _ | assumption) only [BB, B2, ↓reduceIte, Nat.reduceLeDiff, Nat.reduceAdd, CC, l6] <;> rfl) ?_ | refine newP_mk ?_ | refine optP_mk ?_ | with_reducible first | refine condP_t ?_ | refine condP_f ?_ | refine ifP_tt' ?_ | refine ifP_ff' ?_ | refine ifP_tf' ?_ | refine ifP_ft' ?_ | refine ifP_u' ?_ | refine optP_mk0 ?_))
    exact hend _ _ _ rfl (Sub.refl _) (hf'.mono (by omega)) (by omega) e0 e2 e3 e5
  | succ m =>
    rw [rep1_succ] at hr hend
    have hfc := hlen c hc
    (repeat (first | refine bindP_mk (by simp (disch := first | omega | exact Int.natCast_nonneg _ | assumption) only [BB, B2, ↓reduceIte, Nat.reduceLeDiff, Nat.reduceAdd, CC, l6, l5, y1', y2] <;> rfl) ?_ | refine newP_mk ?_ | refine optP_mk ?_ | with_reducible first | refine condP_t ?_ | refine condP_f ?_ | refine ifP_tt' ?_ | refine ifP_ff' ?_ | refine ifP_tf' ?_ | refine ifP_ft' ?_ | refine ifP_u' ?_ | refine optP_mk0 ?_))
    refine hkid c cv h' _ _ hc (hs.trans (hs1.trans hs')) (hf'.mono (by omega)) hcv fun r h2 n2 hn2 hs2 hf2 z1 => ?_
    refine ref07_same_c (a := f c) (b := c) (by omega) (by omega) z1 (hcv.sub hs2) fun n3 hn3 => ?_
    by_cases hso : f c = c
    · rw [decide_eq_true hso]
      (repeat (first | refine bindP_mk (by simp (disch := first | omega | exact Int.natCast_nonneg _ | assumption) only [BB, B2, ↓reduceIte, Nat.reduceLeDiff, Nat.reduceAdd, CC] <;> rfl) ?_ | refine newP_mk ?_ | refine optP_mk ?_ | with_reducible first | refine condP_t ?_ | refine condP_f ?_ | refine ifP_tt' ?_ | refine ifP_ff' ?_ | refine ifP_tf' ?_ | refine ifP_ft' ?_ | refine ifP_u' ?_ | refine optP_mk0 ?_))
      exact hend _ _ _ (by rw [if_pos hso]) hs2 (hf2.mono (by omega)) (by omega) e0 e2 e3 e5
    · rw [decide_eq_false hso]
      rw [if_neg hso] at hr
      (repeat (first | refine bindP_mk (by simp (disch := first | omega | exact Int.natCast_nonneg _ | assumption) only [BB, B2, ↓reduceIte, Nat.reduceLeDiff, Nat.reduceAdd, CC] <;> rfl) ?_ | refine newP_mk ?_ | refine optP_mk ?_ | with_reducible first | refine condP_t ?_ | refine condP_f ?_ | refine ifP_tt' ?_ | refine ifP_ff' ?_ | refine ifP_tf' ?_ | refine ifP_ft' ?_ | refine ifP_u' ?_ | refine optP_mk0 ?_))
      exact hq m _ _ _ _ (by omega) ⟨i + 1, f c, r, by omega, e0, e2, rfl, e5, rfl, hs'.trans hs2, hf2.mono (by omega), hfc, z1, by omega, by omega, hr⟩ (Sub.refl _)
theorem ends_len {l : List NodeD} (hlo : ∀ n ∈ l, 0 ≤ n.lo) {w : List Nat} {n : Nat} {a : Int} {x : List Bool} (hx : x.length = w.length + 1) : (endsD l w n a x).length = w.length + 1 := (ends_goes hlo n a x hx).1
set_option maxRecDepth 4000 in
set_option maxHeartbeats 4000000 in
theorem ref07_ends_c {ro : Ro} {v : Value} {l : List NodeD} {s : ByteArray} {h0 : T Obj} (hl : RTree ro h0 v l) (hp : right4 l = true) (hlo : ∀ n ∈ l, 0 ≤ n.lo) (hw : (bts s).length ≤ 1000000) : ∀ (n : Nat) (a : Int), 0 ≤ a → a < n → a < l.length → EndsC ro h0 v s a (endsD l (bts s) n a)
  | 0, a, _, _, _ => by omega
  | n + 1, a, ha0, ha1, ha2 => by
    intro x xv h nx K hx1 hs hf hxv hK
    apply ref07_ends_of
    unfold ref07_ends
    obtain ⟨lv, z1, z2, z3, z4, z5, z6, z7, _, _, z8⟩ := nd_at (hl.sub hs) ha0 ha2
    obtain ⟨lv0, z10, _⟩ := nd_at hl ha0 ha2
    have hkids := kids_lt hp ha0 ha2
    have hsh := shape_at hp (x := a) (by omega)
    have ih : ∀ k ∈ (ndAt l a).l, EndsC ro h0 v s k (endsD l (bts s) n k) := fun k hk => ref07_ends_c hl hp hlo hw n k (hkids k hk).1 (by have := (hkids k hk).2; omega) (by have := (hkids k hk).2; omega)
    have hel : ∀ k x, x.length = (bts s).length + 1 → (endsD l (bts s) n k x).length = (bts s).length + 1 := fun k x hx => ends_len hlo hx
    have hE : endsD l (bts s) (n + 1) a x = if (ndAt l a).op = 2 then oneL (ndAt l a).s (bts s) x
      else if (ndAt l a).op = 3 then (ndAt l a).l.foldl (fun y k => endsD l (bts s) n k y) x
      else if (ndAt l a).op = 4 then (ndAt l a).l.foldl (fun y k => orL y (endsD l (bts s) n k x)) (noneL (bts s))
      else if (ndAt l a).op = 5 then repL (endsD l (bts s) n ((ndAt l a).l.headD 0)) (ndAt l a).lo (ndAt l a).hi x
      else x := rfl
    rw [hE] at hK
    clear hE
    generalize ndAt l a = nd at *
    (repeat (first | refine bindP_mk (by simp (disch := first | omega | exact Int.natCast_nonneg _ | assumption) only [BB, B2, ↓reduceIte, Nat.reduceLeDiff, Nat.reduceAdd, CC, z4, z8] <;> rfl) ?_ | refine newP_mk ?_ | refine optP_mk ?_ | with_reducible first | refine condP_t ?_ | refine condP_f ?_ | refine ifP_tt' ?_ | refine ifP_ff' ?_ | refine ifP_tf' ?_ | refine ifP_ft' ?_ | refine ifP_u' ?_ | refine optP_mk0 ?_))
    refine local_mk (n := 9) (x := nodL nd lv) zer_Node rfl rfl rfl (nodL_ok z1.ok) hf (by omega) fun h1 hs1 hf1 g1 _ => ?_
    obtain ⟨g0, g5, g6, g7, g8⟩ := nodL_get nd lv
    have l0 := load1_get (ro := ro) (z := 0) g1 g0
    have lA := loadA_all (ro := ro) (z := 0) (n := 9) g1 rfl
    unfold lenB at z3
    have hset : loadA ro h1 4 (at_ (nx + 5) 1 0) = some (setV nd.s) := by
      rw [loadA_own, g1]
      rfl
    by_cases o2 : nd.op = 2
    · rw [if_pos o2] at hK
      (repeat (first | refine bindP_mk (by simp (disch := first | omega | exact Int.natCast_nonneg _ | assumption) only [BB, B2, ↓reduceIte, Nat.reduceLeDiff, Nat.reduceAdd, CC, l0, hset] <;> rfl) ?_ | refine newP_mk ?_ | refine optP_mk ?_ | with_reducible first | refine condP_t ?_ | refine condP_f ?_ | refine ifP_tt' ?_ | refine ifP_ff' ?_ | refine ifP_tf' ?_ | refine ifP_ft' ?_ | refine ifP_u' ?_ | refine optP_mk0 ?_))
      refine ref07_one_c z2 hw hx1 (hf1.mono (by omega)) (hxv.sub hs1) fun r h2 n2 hn2 hs2 hf2 z => ?_
      exact ⟨h2, Sub.refl _, hK _ _ _ (by omega) (hs1.trans hs2) (hf2.mono (by omega)) z⟩
    · rw [if_neg o2] at hK
      by_cases o3 : nd.op = 3
      · rw [if_pos o3] at hK
        (repeat (first | refine bindP_mk (by simp (disch := first | omega | exact Int.natCast_nonneg _ | assumption) only [BB, B2, ↓reduceIte, Nat.reduceLeDiff, Nat.reduceAdd, CC, l0] <;> rfl) ?_ | refine newP_mk ?_ | refine optP_mk ?_ | with_reducible first | refine condP_t ?_ | refine condP_f ?_ | refine ifP_tt' ?_ | refine ifP_ff' ?_ | refine ifP_tf' ?_ | refine ifP_ft' ?_ | refine ifP_u' ?_ | refine optP_mk0 ?_))
        refine loopP_rule (fun m e h' nx' => ∃ (i : Nat) (c : List Bool) (cv : Value), i + m = nd.l.length ∧ nx ≤ nx' ∧ e 0 = v ∧ e 2 = .string s ∧ e 3 = cv ∧ e 9 = at_ (nx + 5) 0 0 ∧ e 10 = .int .i64 i ∧ Sub h1 h' ∧ Fr h' nx' ∧ c.length = (bts s).length + 1 ∧ ZB ro h' cv c ∧
            nd.l.foldl (fun y k => endsD l (bts s) n k y) x = (nd.l.drop i).foldl (fun y k => endsD l (bts s) n k y) c) ?_ (n := nd.l.length)
          ⟨0, x, xv, by omega, by omega, rfl, rfl, rfl, rfl, rfl, Sub.refl _, hf1.mono (by omega), hx1, hxv.sub hs1, rfl⟩
        rintro m e h' nx' ⟨i, c, cv, him, hnx, e0, e2, e3, e9, e10, hs', hf', hc, hcv, hr⟩ Q' hq hx
        unfold ref07_ends_L1
        rw [e0, e2, e3, e9, e10]
        have l5 := load1_get (ro := ro) (z := 0) (hs' _ _ g1) g5
        have zl := z1.len
        (repeat (first | refine bindP_mk (by simp (disch := first | omega | exact Int.natCast_nonneg _ | assumption) only [BB, B2, ↓reduceIte, Nat.reduceLeDiff, Nat.reduceAdd, CC, l5, zl] <;> rfl) ?_ | refine newP_mk ?_ | refine optP_mk ?_ | with_reducible first | refine condP_t ?_ | refine condP_f ?_ | refine ifP_tt' ?_ | refine ifP_ff' ?_ | refine ifP_tf' ?_ | refine ifP_ft' ?_ | refine ifP_u' ?_ | refine optP_mk0 ?_))
        refine lss_s (fun hi => ?_) (fun hi => ?_)
        · have hi : i < nd.l.length := by omega
          have y1 := (z1.sub (hs1.trans hs')).ix .i64 hi
          have y2 := (z1.sub (hs1.trans hs')).load hi
          rw [drop_cons hi, List.foldl_cons] at hr
          have ihk := ih nd.l[i] (List.getElem_mem _)
          generalize nd.l[i] = k at *
          (repeat (first | refine bindP_mk (by simp (disch := first | omega | exact Int.natCast_nonneg _ | assumption) only [BB, B2, ↓reduceIte, Nat.reduceLeDiff, Nat.reduceAdd, CC, l5, y1, y2] <;> rfl) ?_ | refine newP_mk ?_ | refine optP_mk ?_ | with_reducible first | refine condP_t ?_ | refine condP_f ?_ | refine ifP_tt' ?_ | refine ifP_ff' ?_ | refine ifP_tf' ?_ | refine ifP_ft' ?_ | refine ifP_u' ?_ | refine optP_mk0 ?_))
          refine ihk c cv h' _ _ hc (hs.trans (hs1.trans hs')) (hf'.mono (by omega)) hcv fun r h2 n2 hn2 hs2 hf2 z => ?_
          (repeat (first | refine bindP_mk (by simp (disch := first | omega | exact Int.natCast_nonneg _ | assumption) only [BB, B2, ↓reduceIte, Nat.reduceLeDiff, Nat.reduceAdd, CC] <;> rfl) ?_ | refine newP_mk ?_ | refine optP_mk ?_ | with_reducible first | refine condP_t ?_ | refine condP_f ?_ | refine ifP_tt' ?_ | refine ifP_ff' ?_ | refine ifP_tf' ?_ | refine ifP_ft' ?_ | refine ifP_u' ?_ | refine optP_mk0 ?_))
          exact hq (m - 1) _ _ _ _ (by omega) ⟨i + 1, _, r, by omega, by omega, e0, e2, rfl, e9, rfl, hs'.trans hs2, hf2.mono (by omega), hel k c hc, z, hr⟩ (Sub.refl _)
        · rw [drop_all (by omega)] at hr
          (repeat (first | refine bindP_mk (by simp (disch := first | omega | exact Int.natCast_nonneg _ | assumption) only [BB, B2, ↓reduceIte, Nat.reduceLeDiff, Nat.reduceAdd, CC] <;> rfl) ?_ | refine newP_mk ?_ | refine optP_mk ?_ | with_reducible first | refine condP_t ?_ | refine condP_f ?_ | refine ifP_tt' ?_ | refine ifP_ff' ?_ | refine ifP_tf' ?_ | refine ifP_ft' ?_ | refine ifP_u' ?_ | refine optP_mk0 ?_))
          refine hx _ _ _ _ (fun e => by cases e) (exP_e (beqP_t ?_))
          unfold ref07_ends_j1
          show ∃ h6, Sub h6 h' ∧ K (e 3) h6 _
          rw [e3]
          exact ⟨h', Sub.refl _, hK _ _ _ (by omega) (hs1.trans hs') (hf'.mono (by omega)) (by rw [hr]; exact hcv)⟩
      · rw [if_neg o3] at hK
        by_cases o4 : nd.op = 4
        · rw [if_pos o4] at hK
          (repeat (first | refine bindP_mk (by simp (disch := first | omega | exact Int.natCast_nonneg _ | assumption) only [BB, B2, ↓reduceIte, Nat.reduceLeDiff, Nat.reduceAdd, CC, l0] <;> rfl) ?_ | refine newP_mk ?_ | refine optP_mk ?_ | with_reducible first | refine condP_t ?_ | refine condP_f ?_ | refine ifP_tt' ?_ | refine ifP_ff' ?_ | refine ifP_tf' ?_ | refine ifP_ft' ?_ | refine ifP_u' ?_ | refine optP_mk0 ?_))
          refine ref07_places_c hw (hf1.mono (by omega)) fun r0 h2 n2 hn2 hs2 hf2 zo => ?_
          refine loopP_rule (fun m e h' nx' => ∃ (i : Nat) (c : List Bool) (cv : Value), i + m = nd.l.length ∧ nx ≤ nx' ∧ e 0 = v ∧ e 2 = .string s ∧ e 3 = xv ∧ e 9 = at_ (nx + 5) 0 0 ∧ e 11 = cv ∧ e 12 = .int .i64 i ∧ Sub h1 h' ∧ Fr h' nx' ∧ c.length = (bts s).length + 1 ∧ ZB ro h' cv c ∧
              nd.l.foldl (fun y k => orL y (endsD l (bts s) n k x)) (noneL (bts s)) = (nd.l.drop i).foldl (fun y k => orL y (endsD l (bts s) n k x)) c) ?_ (n := nd.l.length)
            ⟨0, _, r0, by omega, by omega, rfl, rfl, rfl, rfl, rfl, rfl, hs2, hf2.mono (by omega), by simp [noneL], zo.sl, rfl⟩
          rintro m e h' nx' ⟨i, c, cv, him, hnx, e0, e2, e3, e9, e11, e12, hs', hf', hc, hcv, hr⟩ Q' hq hx
          unfold ref07_ends_L2
          rw [e0, e2, e3, e9, e11, e12]
          have l5 := load1_get (ro := ro) (z := 0) (hs' _ _ g1) g5
          have zl := z1.len
          (repeat (first | refine bindP_mk (by simp (disch := first | omega | exact Int.natCast_nonneg _ | assumption) only [BB, B2, ↓reduceIte, Nat.reduceLeDiff, Nat.reduceAdd, CC, l5, zl] <;> rfl) ?_ | refine newP_mk ?_ | refine optP_mk ?_ | with_reducible first | refine condP_t ?_ | refine condP_f ?_ | refine ifP_tt' ?_ | refine ifP_ff' ?_ | refine ifP_tf' ?_ | refine ifP_ft' ?_ | refine ifP_u' ?_ | refine optP_mk0 ?_))
          refine lss_s (fun hi => ?_) (fun hi => ?_)
          · have hi : i < nd.l.length := by omega
            have y1 := (z1.sub (hs1.trans hs')).ix .i64 hi
            have y2 := (z1.sub (hs1.trans hs')).load hi
            rw [drop_cons hi, List.foldl_cons] at hr
            have ihk := ih nd.l[i] (List.getElem_mem _)
            generalize nd.l[i] = k at *
            (repeat (first | refine bindP_mk (by simp (disch := first | omega | exact Int.natCast_nonneg _ | assumption) only [BB, B2, ↓reduceIte, Nat.reduceLeDiff, Nat.reduceAdd, CC, l5, y1, y2] <;> rfl) ?_ | refine newP_mk ?_ | refine optP_mk ?_ | with_reducible first | refine condP_t ?_ | refine condP_f ?_ | refine ifP_tt' ?_ | refine ifP_ff' ?_ | refine ifP_tf' ?_ | refine ifP_ft' ?_ | refine ifP_u' ?_ | refine optP_mk0 ?_))
            refine ihk x xv h' _ _ hx1 (hs.trans (hs1.trans hs')) (hf'.mono (by omega)) (hxv.sub (hs1.trans hs')) fun r h3 n3 hn3 hs3 hf3 z => ?_
            have hlk := hel k x hx1
            refine ref07_or_c (a := c) (b := endsD l (bts s) n k x) (by omega) (by omega) (hf3.mono (by omega)) (hcv.sub hs3) z fun r2 h4 n4 hn4 hs4 hf4 z4 => ?_
            (repeat (first | refine bindP_mk (by simp (disch := first | omega | exact Int.natCast_nonneg _ | assumption) only [BB, B2, ↓reduceIte, Nat.reduceLeDiff, Nat.reduceAdd, CC] <;> rfl) ?_ | refine newP_mk ?_ | refine optP_mk ?_ | with_reducible first | refine condP_t ?_ | refine condP_f ?_ | refine ifP_tt' ?_ | refine ifP_ff' ?_ | refine ifP_tf' ?_ | refine ifP_ft' ?_ | refine ifP_u' ?_ | refine optP_mk0 ?_))
            exact hq (m - 1) _ _ _ _ (by omega) ⟨i + 1, _, r2, by omega, by omega, e0, e2, e3, e9, rfl, rfl, hs'.trans (hs3.trans hs4), hf4.mono (by omega), orL_len hc hlk, z4, hr⟩ (Sub.refl _)
          · rw [drop_all (by omega)] at hr
            (repeat (first | refine bindP_mk (by simp (disch := first | omega | exact Int.natCast_nonneg _ | assumption) only [BB, B2, ↓reduceIte, Nat.reduceLeDiff, Nat.reduceAdd, CC] <;> rfl) ?_ | refine newP_mk ?_ | refine optP_mk ?_ | with_reducible first | refine condP_t ?_ | refine condP_f ?_ | refine ifP_tt' ?_ | refine ifP_ff' ?_ | refine ifP_tf' ?_ | refine ifP_ft' ?_ | refine ifP_u' ?_ | refine optP_mk0 ?_))
            refine hx _ _ _ _ (fun e => by cases e) (exP_e (beqP_t ?_))
            unfold ref07_ends_j2
            show ∃ h6, Sub h6 h' ∧ K (e 11) h6 _
            rw [e11]
            exact ⟨h', Sub.refl _, hK _ _ _ (by omega) (hs1.trans hs') (hf'.mono (by omega)) (by rw [hr]; exact hcv)⟩
        · rw [if_neg o4] at hK
          by_cases o5 : nd.op = 5
          · rw [if_pos o5] at hK
            unfold shapeD at hsh
            simp only [o5, Nat.reduceEqDiff, or_self, if_false, if_true, Bool.and_eq_true, decide_eq_true_eq] at hsh
            have hl1 := one_len hsh.2.2.1
            have ihk := ih (nd.l.headD 0) (by rw [hl1]; simp)
            generalize nd.l.headD 0 = k at *
            (repeat (first | refine bindP_mk (by simp (disch := first | omega | exact Int.natCast_nonneg _ | assumption) only [BB, B2, ↓reduceIte, Nat.reduceLeDiff, Nat.reduceAdd, CC, l0, lA] <;> rfl) ?_ | refine newP_mk ?_ | refine optP_mk ?_ | with_reducible first | refine condP_t ?_ | refine condP_f ?_ | refine ifP_tt' ?_ | refine ifP_ff' ?_ | refine ifP_tf' ?_ | refine ifP_ft' ?_ | refine ifP_u' ?_ | refine optP_mk0 ?_))
            refine ref07_rep_c (h0 := h1) hw (fun x xv h nx K a1 a2 a3 a4 a5 => ihk x xv h nx K a1 (hs.trans (hs1.trans a2)) a3 a4 a5) (fun x hx => hel k x hx) hsh.2.2.2.1 hsh.2.2.2.2.1 (Sub.refl _) (hf1.mono (by omega)) (z1.sub hs1) hl1 hx1 (hxv.sub hs1) fun r h2 n2 hn2 hs2 hf2 z => ?_
            exact ⟨h2, Sub.refl _, hK _ _ _ (by omega) (hs1.trans hs2) (hf2.mono (by omega)) z⟩
          · rw [if_neg o5] at hK
            (repeat (first | refine bindP_mk (by simp (disch := first | omega | exact Int.natCast_nonneg _ | assumption) only [BB, B2, ↓reduceIte, Nat.reduceLeDiff, Nat.reduceAdd, CC, l0] <;> rfl) ?_ | refine newP_mk ?_ | refine optP_mk ?_ | with_reducible first | refine condP_t ?_ | refine condP_f ?_ | refine ifP_tt' ?_ | refine ifP_ff' ?_ | refine ifP_tf' ?_ | refine ifP_ft' ?_ | refine ifP_u' ?_ | refine optP_mk0 ?_))
            unfold ref07_ends_j1
            exact ⟨h1, Sub.refl _, hK _ _ _ (by omega) hs1 (hf1.mono (by omega)) (hxv.sub hs1)⟩
end V
end Go.Proofs.Ytepbdkfkfcckoaa
set_option linter.unusedVariables false
set_option linter.unusedSimpArgs false
namespace Go.Proofs.Ytepbdkfkfcckoaa
namespace V
def posAt (P : List PosD) (i : Int) : PosD := P.getD i.toNat dummy
def bothG (x : Int) (a : List Int) (f : List Int → List Int) : List Int → List Int
  | [] => x :: a
  | y :: b => if x < y then x :: f (y :: b) else if x = y then y :: f b else y :: bothG x a f b
def bothD : List Int → List Int → List Int
  | [], b => b
  | x :: a, b => bothG x a (bothD a) b
structure InfD where
  null : Bool
  first : List Int
  last : List Int
def noInf (b : Bool) : InfD := ⟨b, [], []⟩
def linkD (P : List PosD) (from_ to : List Int) : List PosD := from_.foldl (fun P i => P.modify i.toNat fun p => { p with next := bothD p.next to }) P
def thenI (x y : InfD) : InfD := ⟨x.null && y.null, if x.null then bothD x.first y.first else x.first, if y.null then bothD x.last y.last else y.last⟩
def orI (x y : InfD) : InfD := ⟨x.null || y.null, bothD x.first y.first, bothD x.last y.last⟩
def catD : List InfD → InfD → List PosD → InfD × List PosD
  | [], x, P => (x, P)
  | y :: r, x, P => catD r (thenI x y) (linkD P x.last y.first)
def putD (P : List PosD) (s : Nat) (lo hi rule : Int) : InfD × List PosD := (⟨false, [(P.length : Int)], [(P.length : Int)]⟩, P ++ [⟨s, lo, hi, rule, false, []⟩])
def kidsI (f : Int → List PosD → InfD × List PosD) : List Int → List PosD → List InfD × List PosD
  | [], P => ([], P)
  | k :: r, P => ((f k P).1 :: (kidsI f r (f k P).2).1, (kidsI f r (f k P).2).2)
def nodeD (l : List NodeD) (rule : Int) : Nat → Int → List PosD → InfD × List PosD
  | 0, _, P => (noInf true, P)
  | n + 1, a, P =>
    if (ndAt l a).op = 1 then (noInf true, P)
    else if (ndAt l a).op = 2 then putD P (ndAt l a).s 1 1 rule
    else if (ndAt l a).op = 5 ∧ (ndAt l a).hi ≠ -1 then putD P (ndAt l ((ndAt l a).l.headD 0)).s (ndAt l a).lo (ndAt l a).hi rule
    else
      let r := kidsI (nodeD l rule n) (ndAt l a).l P
      if (ndAt l a).op = 3 then catD r.1 (noInf true) r.2
      else
        let x := r.1.foldl orI (noInf (decide ((ndAt l a).op = 5)))
        if (ndAt l a).op = 5 then (x, linkD r.2 x.last x.first) else (x, r.2)
def setLast (P : List PosD) (l : List Int) : List PosD := l.foldl (fun P i => P.modify i.toNat fun p => { p with last := true }) P
def ofL : List (List NodeD) → Nat → List Int → List PosD → Option GlD
  | [], _, F, P => some ⟨F, P⟩
  | t :: r, k, F, P =>
    let x := nodeD t k t.length (t.length - 1) P
    let P2 := setLast x.2 x.1.last
    if 512 < P2.length then none else ofL r (k + 1) (bothD F x.1.first) P2
theorem bothD_nil (b : List Int) : bothD [] b = b := rfl
theorem bothD_nil' (a : List Int) : bothD a [] = a := by cases a <;> rfl
theorem bothD_cons (x y : Int) (a b : List Int) : bothD (x :: a) (y :: b) = if x < y then x :: bothD a (y :: b) else if x = y then y :: bothD a b else y :: bothD (x :: a) b := rfl
theorem mem_both (q : Int) : ∀ (n : Nat) (a b : List Int), a.length + b.length ≤ n → (q ∈ bothD a b ↔ q ∈ a ∨ q ∈ b)
  | _, [], b, _ => by rw [bothD_nil]; simp
  | _, x :: a, [], _ => by rw [bothD_nil']; simp
  | 0, x :: a, y :: b, h => by simp at h
  | n + 1, x :: a, y :: b, h => by
    rw [bothD_cons]
    simp only [List.length_cons] at h
    split
    · rw [List.mem_cons, mem_both q n a (y :: b) (by simp; omega)]; simp [or_assoc]
    · split
      · rename_i e
        subst e
        rw [List.mem_cons, mem_both q n a b (by omega)]; simp
        constructor
        · rintro (h | h | h) <;> simp [h]
        · rintro ((h | h) | h | h) <;> simp [h]
      · rw [List.mem_cons, mem_both q n (x :: a) b (by simp; omega)]; simp
        constructor
        · rintro (h | (h | h) | h) <;> simp [h]
        · rintro ((h | h) | h | h) <;> simp [h]
theorem in_both {q : Int} {a b : List Int} : q ∈ bothD a b ↔ q ∈ a ∨ q ∈ b := mem_both q _ a b (Nat.le_refl _)
theorem rz_both {m : Int} : ∀ (n : Nat) (a b : List Int) (k : Int), a.length + b.length ≤ n → rz k m a = true → rz k m b = true → rz k m (bothD a b) = true
  | _, [], b, k, _, _, h => by rw [bothD_nil]; exact h
  | _, x :: a, [], k, _, h, _ => by rw [bothD_nil']; exact h
  | 0, x :: a, y :: b, k, h, _, _ => by simp at h
  | n + 1, x :: a, y :: b, k, h, h1, h2 => by
    rw [bothD_cons]
    simp only [List.length_cons] at h
    have g1 := h1
    have g2 := h2
    rw [rz_cons] at h1 h2
    simp only [Bool.and_eq_true, decide_eq_true_eq] at h1 h2
    split
    · rw [rz_cons]
      simp only [Bool.and_eq_true, decide_eq_true_eq]
      exact ⟨h1.1, h1.2.1, rz_both n a (y :: b) x (by simp; omega) h1.2.2 (by rw [rz_cons]; simp only [Bool.and_eq_true, decide_eq_true_eq]; exact ⟨by omega, h2.2⟩)⟩
    · split
      · rename_i e
        subst e
        rw [rz_cons]
        simp only [Bool.and_eq_true, decide_eq_true_eq]
        exact ⟨h1.1, h1.2.1, rz_both n a b x (by omega) h1.2.2 h2.2.2⟩
      · rw [rz_cons]
        simp only [Bool.and_eq_true, decide_eq_true_eq]
        exact ⟨h2.1, h2.2.1, rz_both n (x :: a) b y (by simp; omega) (by rw [rz_cons]; simp only [Bool.and_eq_true, decide_eq_true_eq]; exact ⟨by omega, h1.2⟩) h2.2.2⟩
theorem rz_bothI {k m : Int} {a b : List Int} (h1 : rz k m a = true) (h2 : rz k m b = true) : rz k m (bothD a b) = true := rz_both _ a b k (Nat.le_refl _) h1 h2
theorem rz_le : ∀ {l : List Int} {a m n : Int}, m ≤ n → rz a m l = true → rz a n l = true
  | [], a, m, n, _, h => rfl
  | y :: r, a, m, n, hb, h => by
    rw [rz_cons] at h ⊢
    simp only [Bool.and_eq_true, decide_eq_true_eq] at h ⊢
    exact ⟨h.1, by omega, rz_le hb h.2.2⟩
theorem rz_in {l : List Int} {a b m n : Int} (h : rz a m l = true) (h1 : b ≤ a) (h2 : m ≤ n) : rz b n l = true := rz_le h2 (rz_mono h1 h)
theorem link_spec {to : List Int} : ∀ (from_ : List Int) (k m : Int) (P : List PosD), -1 ≤ k → rz k m from_ = true → m ≤ P.length → (linkD P from_ to).length = P.length ∧
    ∀ i : Nat, (linkD P from_ to)[i]? = (P[i]?).map fun p => if (i : Int) ∈ from_ then { p with next := bothD p.next to } else p
  | [], k, m, P, _, _, _ => ⟨rfl, fun i => by unfold linkD; cases h : P[i]? <;> simp [h]⟩
  | x :: r, k, m, P, hk, h, hm => by
    rw [rz_cons] at h
    simp only [Bool.and_eq_true, decide_eq_true_eq] at h
    obtain ⟨h1, h2⟩ := link_spec (to := to) r x m (P.modify x.toNat fun p => { p with next := bothD p.next to }) (by omega) h.2.2 (by simpa using hm)
    refine ⟨by simpa [linkD] using h1, fun i => ?_⟩
    have e : linkD P (x :: r) to = linkD (P.modify x.toNat fun p => { p with next := bothD p.next to }) r to := rfl
    rw [e, h2, List.getElem?_modify]
    by_cases hi : x.toNat = i
    · have hx : (i : Int) = x := by omega
      have hn : ¬ (i : Int) ∈ r := fun hr => by have := (rz_mem h.2.2 _ hr).1; omega
      cases P[i]? with
      | none => rfl
      | some p => rw [hx] at hn; simp [hn, hx, hi]
    · have hx : ¬ (i : Int) = x := by omega
      cases P[i]? with
      | none => rfl
      | some p => simp [hx, hi]
theorem link_at {P : List PosD} {from_ to : List Int} {k m : Int} (hk : -1 ≤ k) (h : rz k m from_ = true) (hm : m ≤ P.length) {q : Int} (h0 : 0 ≤ q) (h1 : q < P.length) : posAt (linkD P from_ to) q = if q ∈ from_ then { posAt P q with next := bothD (posAt P q).next to } else posAt P q := by
  have := (link_spec (to := to) from_ k m P hk h hm).2 q.toNat
  rw [Int.toNat_of_nonneg h0, List.getElem?_eq_getElem (show q.toNat < P.length by omega)] at this
  unfold posAt
  rw [List.getD_eq_getElem?_getD, this, List.getD_eq_getElem?_getD, List.getElem?_eq_getElem (show q.toNat < P.length by omega)]
  rfl
def seg (w : List Nat) (P : List PosD) (q : Int) (i j : Nat) : Prop := i < j ∧ (posAt P q).lo ≤ (j : Int) - i ∧ (j : Int) - i ≤ (posAt P q).hi ∧ ∀ k, i ≤ k → k < j → ∃ b, w[k]? = some b ∧ (posAt P q).s.testBit b = true
inductive Way (w : List Nat) (P : List PosD) (F : List Int) (i : Nat) : Int → Nat → Prop where
  | first {q : Int} {j : Nat} : q ∈ F → seg w P q i j → Way w P F i q j
  | step {p q : Int} {k j : Nat} : Way w P F i p k → q ∈ (posAt P p).next → seg w P q k j → Way w P F i q j
structure LOk (w : List Nat) (P : List PosD) (a c : Int) (x : InfD) (M : Nat → Nat → Prop) : Prop where
  le : 0 ≤ a ∧ a ≤ c ∧ c ≤ P.length
  first : rz (a - 1) c x.first = true
  last : rz (a - 1) c x.last = true
  next : ∀ q, a ≤ q → q < c → rz (a - 1) c (posAt P q).next = true
  lang : ∀ i j, M i j ↔ (x.null = true ∧ i = j) ∨ ∃ q ∈ x.last, Way w P x.first i q j
theorem seg_eq {w : List Nat} {P P' : List PosD} {q : Int} {i j : Nat} (h : (posAt P q).s = (posAt P' q).s ∧ (posAt P q).lo = (posAt P' q).lo ∧ (posAt P q).hi = (posAt P' q).hi) : seg w P q i j ↔ seg w P' q i j := by
  unfold seg
  rw [h.1, h.2.1, h.2.2]
theorem way_in {w : List Nat} {P : List PosD} {F : List Int} {a c : Int} (hF : rz (a - 1) c F = true) (hn : ∀ q, a ≤ q → q < c → rz (a - 1) c (posAt P q).next = true) {i : Nat} {q : Int} {j : Nat} (h : Way w P F i q j) : a ≤ q ∧ q < c ∧ i < j := by
  induction h with
  | first h1 h2 => have := rz_mem hF _ h1; exact ⟨by omega, this.2, h2.1⟩
  | step h1 h2 h3 ih => have := rz_mem (hn _ ih.1 ih.2.1) _ h2; exact ⟨by omega, this.2, by have := h3.1; omega⟩
theorem way_same {w : List Nat} {P P' : List PosD} {F : List Int} {a c : Int} (hF : rz (a - 1) c F = true) (hn : ∀ q, a ≤ q → q < c → rz (a - 1) c (posAt P q).next = true) (he : ∀ q, a ≤ q → q < c → posAt P' q = posAt P q) {i : Nat} {q : Int} {j : Nat} (h : Way w P F i q j) : Way w P' F i q j := by
  induction h with
  | first h1 h2 => have := rz_mem hF _ h1; exact .first h1 ((seg_eq (by rw [he _ (by omega) this.2]; exact ⟨rfl, rfl, rfl⟩)).1 h2)
  | step h1 h2 h3 ih =>
    have hp := way_in hF hn h1
    have := rz_mem (hn _ hp.1 hp.2.1) _ h2
    exact .step ih (by rw [he _ hp.1 hp.2.1]; exact h2) ((seg_eq (by rw [he _ (by omega) this.2]; exact ⟨rfl, rfl, rfl⟩)).1 h3)
theorem LOk.keep {w : List Nat} {P P' : List PosD} {a c : Int} {x : InfD} {M : Nat → Nat → Prop} (h : LOk w P a c x M) (hl : c ≤ P'.length) (he : ∀ q, a ≤ q → q < c → posAt P' q = posAt P q) : LOk w P' a c x M := by
  refine ⟨⟨h.le.1, h.le.2.1, hl⟩, h.first, h.last, fun q h1 h2 => by rw [he q h1 h2]; exact h.next q h1 h2, fun i j => ?_⟩
  rw [h.lang]
  constructor
  · rintro (h1 | ⟨q, h1, h2⟩)
    · exact .inl h1
    · exact .inr ⟨q, h1, way_same h.first h.next he h2⟩
  · rintro (h1 | ⟨q, h1, h2⟩)
    · exact .inl h1
    · exact .inr ⟨q, h1, way_same h.first (fun q h1 h2 => by rw [he q h1 h2]; exact h.next q h1 h2) (fun q h1 h2 => (he q h1 h2).symm) h2⟩
theorem LOk.none {w : List Nat} {P : List PosD} {a : Int} (h0 : 0 ≤ a) (h1 : a ≤ P.length) (b : Bool) : LOk w P a a (noInf b) (fun i j => b = true ∧ i = j) :=
  ⟨⟨h0, Int.le_refl _, h1⟩, rfl, rfl, fun q h1 h2 => by omega, fun i j => by simp [noInf]⟩
theorem LOk.lang_eq {w : List Nat} {P : List PosD} {a c : Int} {x : InfD} {M M' : Nat → Nat → Prop} (h : LOk w P a c x M) (he : ∀ i j, M' i j ↔ M i j) : LOk w P a c x M' :=
  ⟨h.le, h.first, h.last, h.next, fun i j => by rw [he, h.lang]⟩
theorem LOk.or {w : List Nat} {P : List PosD} {a b c : Int} {x y : InfD} {M N : Nat → Nat → Prop} (hx : LOk w P a b x M) (hy : LOk w P b c y N) : LOk w P a c (orI x y) (fun i j => M i j ∨ N i j) := by
  have l1 := hx.le
  have l2 := hy.le
  have f1 : rz (a - 1) c (orI x y).first = true := rz_bothI (rz_in hx.first (by omega) (by omega)) (rz_in hy.first (by omega) (by omega))
  have n1 : ∀ q, a ≤ q → q < c → rz (a - 1) c (posAt P q).next = true := fun q h1 h2 => by
    by_cases hq : q < b
    · exact rz_in (hx.next q h1 hq) (by omega) (by omega)
    · exact rz_in (hy.next q (by omega) h2) (by omega) (by omega)
  have wx : ∀ {i : Nat} {q : Int} {j : Nat}, Way w P x.first i q j → Way w P (orI x y).first i q j := fun h => by
    induction h with
    | first h1 h2 => exact .first (in_both.2 (.inl h1)) h2
    | step h1 h2 h3 ih => exact .step ih h2 h3
  have wy : ∀ {i : Nat} {q : Int} {j : Nat}, Way w P y.first i q j → Way w P (orI x y).first i q j := fun h => by
    induction h with
    | first h1 h2 => exact .first (in_both.2 (.inr h1)) h2
    | step h1 h2 h3 ih => exact .step ih h2 h3
  have wo : ∀ {i : Nat} {q : Int} {j : Nat}, Way w P (orI x y).first i q j → Way w P x.first i q j ∨ Way w P y.first i q j := fun h => by
    induction h with
    | first h1 h2 =>
      rcases in_both.1 h1 with h1 | h1
      · exact .inl (.first h1 h2)
      · exact .inr (.first h1 h2)
    | step h1 h2 h3 ih =>
      rcases ih with ih | ih
      · exact .inl (.step ih h2 h3)
      · exact .inr (.step ih h2 h3)
  refine ⟨⟨l1.1, by omega, l2.2.2⟩, f1, rz_bothI (rz_in hx.last (by omega) (by omega)) (rz_in hy.last (by omega) (by omega)), n1, fun i j => ?_⟩
  rw [hx.lang, hy.lang]
  constructor
  · rintro ((h | ⟨q, h1, h2⟩) | (h | ⟨q, h1, h2⟩))
    · exact .inl ⟨by simp [orI, h.1], h.2⟩
    · exact .inr ⟨q, in_both.2 (.inl h1), wx h2⟩
    · exact .inl ⟨by simp [orI, h.1], h.2⟩
    · exact .inr ⟨q, in_both.2 (.inr h1), wy h2⟩
  · rintro (h | ⟨q, h1, h2⟩)
    · have : x.null = true ∨ y.null = true := by simpa [orI] using h.1
      rcases this with e | e
      · exact .inl (.inl ⟨e, h.2⟩)
      · exact .inr (.inl ⟨e, h.2⟩)
    · rcases wo h2 with h2 | h2
      · have g := way_in hx.first hx.next h2
        rcases in_both.1 h1 with h1 | h1
        · exact .inl (.inr ⟨q, h1, h2⟩)
        · have := rz_mem hy.last _ h1; omega
      · have g := way_in hy.first hy.next h2
        rcases in_both.1 h1 with h1 | h1
        · have := rz_mem hx.last _ h1; omega
        · exact .inr (.inr ⟨q, h1, h2⟩)
theorem LOk.then {w : List Nat} {P : List PosD} {a b c : Int} {x y : InfD} {M N : Nat → Nat → Prop} (hx : LOk w P a b x M) (hy : LOk w P b c y N) : LOk w (linkD P x.last y.first) a c (thenI x y) (fun i j => ∃ k, M i k ∧ N k j) := by
  have l1 := hx.le
  have l2 := hy.le
  have hlen := (link_spec (to := y.first) x.last (a - 1) b P (by omega) hx.last (by omega)).1
  have hat : ∀ q, a ≤ q → q < c → posAt (linkD P x.last y.first) q = if q ∈ x.last then { posAt P q with next := bothD (posAt P q).next y.first } else posAt P q := fun q h1 h2 => link_at (by omega) hx.last (by omega) (by omega) (by omega)
  have hsg : ∀ {q : Int} {i j : Nat}, a ≤ q → q < c → (seg w (linkD P x.last y.first) q i j ↔ seg w P q i j) := fun h1 h2 => seg_eq (by rw [hat _ h1 h2]; split <;> exact ⟨rfl, rfl, rfl⟩)
  have hin : ∀ {p q : Int}, a ≤ p → p < c → (q ∈ (posAt (linkD P x.last y.first) p).next ↔ q ∈ (posAt P p).next ∨ p ∈ x.last ∧ q ∈ y.first) := fun {p q} h1 h2 => by
    rw [hat p h1 h2]
    split
    · rename_i h
      simp only [in_both, h, true_and]
    · rename_i h
      simp [h]
  have hno : ∀ {p : Int}, b ≤ p → ¬ p ∈ x.last := fun {p} h1 h2 => by have := rz_mem hx.last _ h2; omega
  have f1 : rz (a - 1) c (thenI x y).first = true := by
    unfold thenI
    simp only
    split
    · exact rz_bothI (rz_in hx.first (by omega) (by omega)) (rz_in hy.first (by omega) (by omega))
    · exact rz_in hx.first (by omega) (by omega)
  have n1 : ∀ q, a ≤ q → q < c → rz (a - 1) c (posAt (linkD P x.last y.first) q).next = true := fun q h1 h2 => by
    have hb : rz (a - 1) c (posAt P q).next = true := by
      by_cases hq : q < b
      · exact rz_in (hx.next q h1 hq) (by omega) (by omega)
      · exact rz_in (hy.next q (by omega) h2) (by omega) (by omega)
    rw [hat q h1 h2]
    split
    · exact rz_bothI hb (rz_in hy.first (by omega) (by omega))
    · exact hb
  have mx : ∀ {q : Int}, q ∈ x.first → q ∈ (thenI x y).first := fun {q} h => by
    unfold thenI
    simp only
    split
    · exact in_both.2 (.inl h)
    · exact h
  have my : ∀ {q : Int}, x.null = true → q ∈ y.first → q ∈ (thenI x y).first := fun {q} e h => by
    unfold thenI
    simp only [e, if_true]
    exact in_both.2 (.inr h)
  have mf : ∀ {q : Int}, q ∈ (thenI x y).first → q ∈ x.first ∨ x.null = true ∧ q ∈ y.first := fun {q} h => by
    unfold thenI at h
    simp only at h
    split at h
    · rename_i e
      rcases in_both.1 h with h | h
      · exact .inl h
      · exact .inr ⟨e, h⟩
    · exact .inl h
  have wx : ∀ {i : Nat} {q : Int} {j : Nat}, Way w P x.first i q j → Way w (linkD P x.last y.first) (thenI x y).first i q j := fun h => by
    induction h with
    | first h1 h2 => have := rz_mem hx.first _ h1; exact .first (mx h1) ((hsg (by omega) (by omega)).2 h2)
    | step h1 h2 h3 ih =>
      have g := way_in hx.first hx.next h1
      have := rz_mem (hx.next _ g.1 g.2.1) _ h2
      exact .step ih ((hin (by omega) (by omega)).2 (.inl h2)) ((hsg (by omega) (by omega)).2 h3)
  have wy : ∀ {i k : Nat} {q : Int} {j : Nat}, M i k → Way w P y.first k q j → Way w (linkD P x.last y.first) (thenI x y).first i q j := fun {i k} {q j} hm h => by
    induction h with
    | @first q j h1 h2 =>
      have := rz_mem hy.first _ h1
      rcases (hx.lang i k).1 hm with ⟨e, rfl⟩ | ⟨p, h3, h4⟩
      · exact .first (my e h1) ((hsg (by omega) (by omega)).2 h2)
      · have g := way_in hx.first hx.next h4
        exact .step (wx h4) ((hin (by omega) (by omega)).2 (.inr ⟨h3, h1⟩)) ((hsg (by omega) (by omega)).2 h2)
    | step h1 h2 h3 ih =>
      have g := way_in hy.first hy.next h1
      have := rz_mem (hy.next _ g.1 g.2.1) _ h2
      exact .step ih ((hin (by omega) (by omega)).2 (.inl h2)) ((hsg (by omega) (by omega)).2 h3)
  have wo : ∀ {i : Nat} {q : Int} {j : Nat}, Way w (linkD P x.last y.first) (thenI x y).first i q j → (q < b ∧ Way w P x.first i q j) ∨ (b ≤ q ∧ ∃ k, M i k ∧ Way w P y.first k q j) := fun {i q j} h => by
    induction h with
    | @first q j h1 h2 =>
      rcases mf h1 with h1 | ⟨e, h1⟩
      · have := rz_mem hx.first _ h1
        exact .inl ⟨this.2, .first h1 ((hsg (by omega) (by omega)).1 h2)⟩
      · have := rz_mem hy.first _ h1
        exact .inr ⟨by omega, i, (hx.lang i i).2 (.inl ⟨e, rfl⟩), .first h1 ((hsg (by omega) (by omega)).1 h2)⟩
    | @step p q k j h1 h2 h3 ih =>
      have g := way_in f1 n1 h1
      rcases ih with ⟨h4, h5⟩ | ⟨h4, k2, h5, h6⟩
      · rcases (hin g.1 g.2.1).1 h2 with h2 | ⟨h2, h7⟩
        · have := rz_mem (hx.next _ g.1 h4) _ h2
          exact .inl ⟨this.2, .step h5 h2 ((hsg (by omega) (by omega)).1 h3)⟩
        · have := rz_mem hy.first _ h7
          exact .inr ⟨by omega, k, (hx.lang i k).2 (.inr ⟨p, h2, h5⟩), .first h7 ((hsg (by omega) (by omega)).1 h3)⟩
      · rcases (hin g.1 g.2.1).1 h2 with h2 | ⟨h2, h7⟩
        · have := rz_mem (hy.next _ h4 g.2.1) _ h2
          exact .inr ⟨by omega, k2, h5, .step h6 h2 ((hsg (by omega) (by omega)).1 h3)⟩
        · exact absurd h2 (hno h4)
  refine ⟨⟨l1.1, by omega, by omega⟩, f1, ?_, n1, fun i j => ?_⟩
  · unfold thenI
    simp only
    split
    · exact rz_bothI (rz_in hx.last (by omega) (by omega)) (rz_in hy.last (by omega) (by omega))
    · exact rz_in hy.last (by omega) (by omega)
  · have ml : ∀ q, q ∈ (thenI x y).last ↔ q ∈ y.last ∨ y.null = true ∧ q ∈ x.last := fun q => by
      unfold thenI
      simp only
      split
      · rename_i e
        rw [in_both]; simp [e]; exact Or.comm
      · rename_i e
        simp [e]
    constructor
    · rintro ⟨k, h1, h2⟩
      rcases (hy.lang k j).1 h2 with ⟨e, rfl⟩ | ⟨q, h3, h4⟩
      · rcases (hx.lang i k).1 h1 with ⟨e2, rfl⟩ | ⟨q, h3, h4⟩
        · exact .inl ⟨by simp [thenI, e, e2], rfl⟩
        · exact .inr ⟨q, (ml q).2 (.inr ⟨e, h3⟩), wx h4⟩
      · exact .inr ⟨q, (ml q).2 (.inl h3), wy h1 h4⟩
    · rintro (⟨e, rfl⟩ | ⟨q, h1, h2⟩)
      · have : x.null = true ∧ y.null = true := by simpa [thenI] using e
        exact ⟨i, (hx.lang i i).2 (.inl ⟨this.1, rfl⟩), (hy.lang i i).2 (.inl ⟨this.2, rfl⟩)⟩
      · rcases wo h2 with ⟨h3, h4⟩ | ⟨h3, k, h4, h5⟩
        · rcases (ml q).1 h1 with h1 | ⟨e, h1⟩
          · have := rz_mem hy.last _ h1; omega
          · exact ⟨j, (hx.lang i j).2 (.inr ⟨q, h1, h4⟩), (hy.lang j j).2 (.inl ⟨e, rfl⟩)⟩
        · rcases (ml q).1 h1 with h1 | ⟨e, h1⟩
          · exact ⟨k, h4, (hy.lang k j).2 (.inr ⟨q, h1, h5⟩)⟩
          · have := rz_mem hx.last _ h1; omega
theorem LOk.star {w : List Nat} {P : List PosD} {a c : Int} {x : InfD} {M : Nat → Nat → Prop} (hx : LOk w P a c x M) (he : x.null = true) : LOk w (linkD P x.last x.first) a c x (fun i j => ∃ m, powR M m i j) := by
  have l1 := hx.le
  have hlen := (link_spec (to := x.first) x.last (a - 1) c P (by omega) hx.last (by omega)).1
  have hat : ∀ q, a ≤ q → q < c → posAt (linkD P x.last x.first) q = if q ∈ x.last then { posAt P q with next := bothD (posAt P q).next x.first } else posAt P q := fun q h1 h2 => link_at (by omega) hx.last (by omega) (by omega) (by omega)
  have hsg : ∀ {q : Int} {i j : Nat}, a ≤ q → q < c → (seg w (linkD P x.last x.first) q i j ↔ seg w P q i j) := fun h1 h2 => seg_eq (by rw [hat _ h1 h2]; split <;> exact ⟨rfl, rfl, rfl⟩)
  have hin : ∀ {p q : Int}, a ≤ p → p < c → (q ∈ (posAt (linkD P x.last x.first) p).next ↔ q ∈ (posAt P p).next ∨ p ∈ x.last ∧ q ∈ x.first) := fun {p q} h1 h2 => by
    rw [hat p h1 h2]
    split
    · rename_i h
      simp only [in_both, h, true_and]
    · rename_i h
      simp [h]
  have n1 : ∀ q, a ≤ q → q < c → rz (a - 1) c (posAt (linkD P x.last x.first) q).next = true := fun q h1 h2 => by
    rw [hat q h1 h2]
    split
    · exact rz_bothI (hx.next q h1 h2) hx.first
    · exact hx.next q h1 h2
  -- from a way behind some rounds to one by the links
  have w1 : ∀ {i k : Nat} {q : Int} {j : Nat}, (i = k ∨ ∃ p ∈ x.last, Way w (linkD P x.last x.first) x.first i p k) → Way w P x.first k q j → Way w (linkD P x.last x.first) x.first i q j := fun {i k q j} h0 h => by
    induction h with
    | first h1 h2 =>
      have := rz_mem hx.first _ h1
      rcases h0 with rfl | ⟨p, h3, h4⟩
      · exact .first h1 ((hsg (by omega) (by omega)).2 h2)
      · have g := way_in hx.first n1 h4
        exact .step h4 ((hin g.1 g.2.1).2 (.inr ⟨h3, h1⟩)) ((hsg (by omega) (by omega)).2 h2)
    | step h1 h2 h3 ih =>
      have g := way_in hx.first hx.next h1
      have := rz_mem (hx.next _ g.1 g.2.1) _ h2
      exact .step ih ((hin g.1 g.2.1).2 (.inl h2)) ((hsg (by omega) (by omega)).2 h3)
  have w2 : ∀ (m : Nat) {i k : Nat}, powR M m i k → i = k ∨ ∃ p ∈ x.last, Way w (linkD P x.last x.first) x.first i p k := fun m => by
    induction m with
    | zero => intro i k h; exact .inl h
    | succ m ih =>
      rintro i k ⟨k1, h1, h2⟩
      rcases (hx.lang k1 k).1 h2 with ⟨_, rfl⟩ | ⟨q, h3, h4⟩
      · exact ih h1
      · exact .inr ⟨q, h3, w1 (ih h1) h4⟩
  have wo : ∀ {i : Nat} {q : Int} {j : Nat}, Way w (linkD P x.last x.first) x.first i q j → ∃ m k, powR M m i k ∧ Way w P x.first k q j := fun {i q j} h => by
    induction h with
    | first h1 h2 => have := rz_mem hx.first _ h1; exact ⟨0, i, rfl, .first h1 ((hsg (by omega) (by omega)).1 h2)⟩
    | @step p q k j h1 h2 h3 ih =>
      have g := way_in hx.first n1 h1
      obtain ⟨m, k1, h4, h5⟩ := ih
      rcases (hin g.1 g.2.1).1 h2 with h2 | ⟨h2, h6⟩
      · have := rz_mem (hx.next _ g.1 g.2.1) _ h2
        exact ⟨m, k1, h4, .step h5 h2 ((hsg (by omega) (by omega)).1 h3)⟩
      · have := rz_mem hx.first _ h6
        exact ⟨m + 1, k, ⟨k1, h4, (hx.lang k1 k).2 (.inr ⟨p, h2, h5⟩)⟩, .first h6 ((hsg (by omega) (by omega)).1 h3)⟩
  refine ⟨⟨l1.1, l1.2.1, by omega⟩, hx.first, hx.last, n1, fun i j => ?_⟩
  constructor
  · rintro ⟨m, h⟩
    rcases w2 m h with rfl | h
    · exact .inl ⟨he, rfl⟩
    · exact .inr h
  · rintro (⟨_, rfl⟩ | ⟨q, h1, h2⟩)
    · exact ⟨0, rfl⟩
    · obtain ⟨m, k, h3, h4⟩ := wo h2
      exact ⟨m + 1, k, h3, (hx.lang k j).2 (.inr ⟨q, h1, h4⟩)⟩
theorem LOk.put {w : List Nat} {P : List PosD} {s : Nat} {lo hi rule : Int} : LOk w (putD P s lo hi rule).2 P.length (putD P s lo hi rule).2.length (putD P s lo hi rule).1 (fun i j => i < j ∧ lo ≤ (j : Int) - i ∧ (j : Int) - i ≤ hi ∧ ∀ k, i ≤ k → k < j → ∃ b, w[k]? = some b ∧ s.testBit b = true) := by
  have hat : posAt (P ++ [⟨s, lo, hi, rule, false, []⟩]) (P.length : Int) = ⟨s, lo, hi, rule, false, []⟩ := by
    unfold posAt
    rw [List.getD_eq_getElem?_getD]; simp
  have hsg : ∀ {i j : Nat}, seg w (P ++ [⟨s, lo, hi, rule, false, []⟩]) (P.length : Int) i j ↔ i < j ∧ lo ≤ (j : Int) - i ∧ (j : Int) - i ≤ hi ∧ ∀ k, i ≤ k → k < j → ∃ b, w[k]? = some b ∧ s.testBit b = true := by
    intro i j
    unfold seg
    rw [hat]
  have hr : rz ((P.length : Int) - 1) ((P ++ [(⟨s, lo, hi, rule, false, []⟩ : PosD)]).length : Nat) [(P.length : Int)] = true := by
    rw [rz_cons]
    simp only [Bool.and_eq_true, decide_eq_true_eq, List.length_append, List.length_singleton]
    exact ⟨by omega, by omega, rfl⟩
  refine ⟨⟨by omega, by simp [putD]; omega, Int.le_refl _⟩, hr, hr, fun q h1 h2 => ?_, fun i j => ?_⟩
  · have : q = P.length := by simp [putD] at h2; omega
    subst this
    unfold putD
    simp only
    rw [hat]; rfl
  · unfold putD
    simp only
    rw [← hsg]
    constructor
    · intro h
      exact .inr ⟨P.length, by simp, .first (by simp) h⟩
    · rintro (h | ⟨q, h1, h2⟩)
      · exact absurd h.1 (by decide)
      · rw [List.mem_singleton] at h1
        subst h1
        cases h2 with
        | first h3 h4 => exact h4
        | @step p q k j h3 h4 h5 =>
          have g := way_in (a := P.length) (c := (P ++ [(⟨s, lo, hi, rule, false, []⟩ : PosD)]).length) hr (fun q h1 h2 => by
            have : q = P.length := by simp at h2; omega
            subst this; rw [hat]; rfl) h3
          have : p = P.length := by simp at g; omega
          subst this
          rw [hat] at h4
          cases h4
end V
end Go.Proofs.Ytepbdkfkfcckoaa
set_option linter.unusedVariables false
set_option linter.unusedSimpArgs false
namespace Go.Proofs.Ytepbdkfkfcckoaa
namespace V
def plOk (rule : Int) (p : PosD) : Prop := p.s ≠ 0 ∧ 1 ≤ p.lo ∧ p.lo ≤ p.hi ∧ p.hi ≤ 4096 ∧ p.rule = rule ∧ p.last = false
theorem posAt_app {P Q : List PosD} {q : Int} (h1 : q.toNat < P.length) : posAt (P ++ Q) q = posAt P q := by
  unfold posAt
  rw [List.getD_eq_getElem?_getD, List.getD_eq_getElem?_getD, List.getElem?_append_left h1]
structure Grow (rule : Int) (P P' : List PosD) : Prop where
  le : P.length ≤ P'.length
  old : ∀ q : Int, 0 ≤ q → q < P.length → posAt P' q = posAt P q
  new : ∀ q : Int, P.length ≤ q → q < P'.length → plOk rule (posAt P' q)
theorem Grow.refl (rule : Int) (P : List PosD) : Grow rule P P := ⟨Nat.le_refl _, fun _ _ _ => rfl, fun q h1 h2 => by omega⟩
theorem Grow.trans {rule : Int} {P P' P'' : List PosD} (h : Grow rule P P') (g : Grow rule P' P'') : Grow rule P P'' :=
  ⟨Nat.le_trans h.le g.le, fun q h0 h1 => by rw [g.old q h0 (by have := h.le; omega), h.old q h0 h1], fun q h0 h1 => by
    by_cases hq : q < P'.length
    · rw [g.old q (by omega) hq]; exact h.new q h0 hq
    · exact g.new q (by omega) h1⟩
theorem Grow.link {rule : Int} {P P' : List PosD} (h : Grow rule P P') {from_ to : List Int} {m : Int} (hr : rz ((P.length : Int) - 1) m from_ = true) (hm : m ≤ P'.length) : Grow rule P (linkD P' from_ to) := by
  have hl := (link_spec (to := to) from_ _ m P' (by omega) hr hm).1
  have hle := h.le
  refine ⟨by omega, fun q h0 h1 => ?_, fun q h0 h1 => ?_⟩
  · rw [link_at (by omega) hr hm h0 (by omega), if_neg (fun e => by have := rz_mem hr _ e; omega)]
    exact h.old q h0 h1
  · rw [link_at (by omega) hr hm (by omega) (by omega)]
    have := h.new q h0 (by omega)
    split <;> exact this
theorem Grow.put {rule : Int} {P : List PosD} {s : Nat} {lo hi : Int} (h1 : s ≠ 0) (h2 : 1 ≤ lo) (h3 : lo ≤ hi) (h4 : hi ≤ 4096) : Grow rule P (putD P s lo hi rule).2 := by
  unfold putD
  simp only
  refine ⟨by simp, fun q h0 h1 => posAt_app (by omega), fun q h0 h9 => ?_⟩
  have : q = P.length := by simp at h9; omega
  subst this
  have : posAt (P ++ [⟨s, lo, hi, rule, false, []⟩]) (P.length : Int) = ⟨s, lo, hi, rule, false, []⟩ := by
    unfold posAt
    rw [List.getD_eq_getElem?_getD]; simp
  rw [this]
  exact ⟨h1, h2, h3, h4, rfl, rfl⟩
inductive Row (w : List Nat) (P : List PosD) : Int → Int → List InfD → List (Nat → Nat → Prop) → Prop where
  | nil {a : Int} : Row w P a a [] []
  | cons {a b c : Int} {x : InfD} {xs : List InfD} {M : Nat → Nat → Prop} {Ms : List (Nat → Nat → Prop)} : LOk w P a b x M → Row w P b c xs Ms → Row w P a c (x :: xs) (M :: Ms)
theorem Row.le {w : List Nat} {P : List PosD} {a c : Int} {xs : List InfD} {Ms : List (Nat → Nat → Prop)} (h : Row w P a c xs Ms) : a ≤ c := by
  induction h with
  | nil => omega
  | cons h1 h2 ih => have := h1.le; omega
theorem Row.keep {w : List Nat} {P P' : List PosD} {a c : Int} {xs : List InfD} {Ms : List (Nat → Nat → Prop)} (h : Row w P a c xs Ms) (hl : P.length ≤ P'.length) (he : ∀ q, a ≤ q → q < c → posAt P' q = posAt P q) : Row w P' a c xs Ms := by
  induction h with
  | nil => exact .nil
  | cons h1 h2 ih =>
    have l1 := h1.le
    have l2 := h2.le
    exact .cons (h1.keep (by omega) fun q g1 g2 => he q g1 (by omega)) (ih fun q g1 g2 => he q (by omega) g2)
theorem cat_ok {w : List Nat} {rule : Int} {P0 : List PosD} : ∀ (xs : List InfD) (Ms : List (Nat → Nat → Prop)) (x : InfD) (P : List PosD) (b c : Int) (M : Nat → Nat → Prop), LOk w P P0.length b x M → Row w P b c xs Ms → Grow rule P0 P → c = P.length →
    LOk w (catD xs x P).2 P0.length c (catD xs x P).1 (fun i j => ∃ k, M i k ∧ seqR Ms k j) ∧ Grow rule P0 (catD xs x P).2 ∧ c = (catD xs x P).2.length
  | [], Ms, x, P, b, c, M, hx, hr, hg, hc => by
    cases hr
    exact ⟨hx.lang_eq fun i j => ⟨fun ⟨k, h1, h2⟩ => by cases h2; exact h1, fun h => ⟨j, h, rfl⟩⟩, hg, hc⟩
  | y :: xs, Ms, x, P, b, c, M, hx, hr, hg, hc => by
    cases hr with
    | @cons _ b2 _ _ _ N Ms h1 h2 =>
      have l1 := hx.le
      have l2 := h1.le
      have hle := h2.le
      have hlen := (link_spec (to := y.first) x.last ((P0.length : Int) - 1) b P (by omega) hx.last (by omega)).1
      have hoth : ∀ q, b2 ≤ q → q < c → posAt (linkD P x.last y.first) q = posAt P q := fun q g1 g2 => by
        rw [link_at (k := (P0.length : Int) - 1) (m := b) (by omega) hx.last (by omega) (by omega) (by omega), if_neg]
        intro hm
        have := rz_mem hx.last _ hm
        omega
      obtain ⟨r1, r2, r3⟩ := cat_ok (rule := rule) (P0 := P0) xs Ms (thenI x y) (linkD P x.last y.first) b2 c _ (hx.then h1) (h2.keep (by omega) hoth) (hg.link (m := b) hx.last (by omega)) (by omega)
      refine ⟨r1.lang_eq fun i j => ?_, r2, r3⟩
      constructor
      · rintro ⟨k, g1, k2, g2, g3⟩; exact ⟨k2, ⟨k, g1, g2⟩, g3⟩
      · rintro ⟨k2, ⟨k, g1, g2⟩, g3⟩; exact ⟨k, g1, k2, g2, g3⟩
theorem ors_ok {w : List Nat} {P : List PosD} {a : Int} : ∀ (xs : List InfD) (Ms : List (Nat → Nat → Prop)) (x : InfD) (b c : Int) (M : Nat → Nat → Prop), LOk w P a b x M → Row w P b c xs Ms → LOk w P a c (xs.foldl orI x) (fun i j => M i j ∨ ∃ N ∈ Ms, N i j)
  | [], Ms, x, b, c, M, hx, hr => by
    cases hr
    exact hx.lang_eq fun i j => by simp
  | y :: xs, Ms, x, b, c, M, hx, hr => by
    cases hr with
    | cons h1 h2 =>
      exact (ors_ok xs _ (orI x y) _ c _ (hx.or h1) h2).lang_eq fun i j => by simp [or_assoc]
theorem kids_ok {w : List Nat} {rule : Int} {f : Int → List PosD → InfD × List PosD} {M : Int → Nat → Nat → Prop} : ∀ (ks : List Int) (P : List PosD), (∀ k ∈ ks, ∀ P, Grow rule P (f k P).2 ∧ LOk w (f k P).2 P.length (f k P).2.length (f k P).1 (M k)) →
    Grow rule P (kidsI f ks P).2 ∧ Row w (kidsI f ks P).2 P.length (kidsI f ks P).2.length (kidsI f ks P).1 (ks.map fun k => M k)
  | [], P, _ => ⟨Grow.refl _ _, .nil⟩
  | k :: r, P, h => by
    obtain ⟨h1, h2⟩ := h k (by simp) P
    obtain ⟨h3, h4⟩ := kids_ok r (f k P).2 fun k hk => h k (by simp [hk])
    refine ⟨h1.trans h3, .cons (h2.keep (by have := h3.le; simp only [kidsI]; omega) fun q g1 g2 => h3.old q (by omega) g2) h4⟩
theorem pow_one (s : Nat) (w : List Nat) : ∀ (m i j : Nat), powR (oneR s w) m i j ↔ j = i + m ∧ ∀ k, i ≤ k → k < j → ∃ b, w[k]? = some b ∧ s.testBit b = true
  | 0, i, j => by
    constructor
    · rintro rfl
      exact ⟨rfl, fun k h1 h2 => by omega⟩
    · rintro ⟨h, _⟩
      exact h.symm
  | m + 1, i, j => by
    constructor
    · rintro ⟨k, h1, h2, b, h3, h4⟩
      obtain ⟨rfl, h5⟩ := (pow_one s w m i k).1 h1
      refine ⟨by omega, fun k2 g1 g2 => ?_⟩
      by_cases hk : k2 < i + m
      · exact h5 k2 g1 hk
      · have : k2 = i + m := by omega
        subst this
        exact ⟨b, h3, h4⟩
    · rintro ⟨rfl, h⟩
      exact ⟨i + m, (pow_one s w m i _).2 ⟨rfl, fun k g1 g2 => h k g1 (by omega)⟩, by unfold oneR; exact ⟨by omega, h (i + m) (by omega) (by omega)⟩⟩
theorem pow_or {M : Nat → Nat → Prop} : ∀ (m i j : Nat), powR (fun i j => (True ∧ i = j) ∨ M i j) m i j → ∃ n, powR M n i j
  | 0, i, j, h => ⟨0, h⟩
  | m + 1, i, j, ⟨k, h1, h2⟩ => by
    obtain ⟨n, h3⟩ := pow_or m i k h1
    rcases h2 with ⟨_, rfl⟩ | h2
    · exact ⟨n, h3⟩
    · exact ⟨n + 1, k, h3, h2⟩
theorem pow_imp {M N : Nat → Nat → Prop} (h : ∀ i j, M i j → N i j) : ∀ (m i j : Nat), powR M m i j → powR N m i j
  | 0, i, j, e => e
  | m + 1, i, j, ⟨k, h1, h2⟩ => ⟨k, pow_imp h m i k h1, h k j h2⟩
theorem mean_succ (l : List NodeD) (w : List Nat) (n : Nat) (a : Int) : meanD l w (n + 1) a = if (ndAt l a).op = 2 then oneR (ndAt l a).s w else if (ndAt l a).op = 3 then seqR ((ndAt l a).l.map fun k => meanD l w n k) else if (ndAt l a).op = 4 then fun i j => ∃ k ∈ (ndAt l a).l, meanD l w n k i j
    else if (ndAt l a).op = 5 then repR (meanD l w n ((ndAt l a).l.headD 0)) (ndAt l a).lo (ndAt l a).hi else fun i j => i = j := by
  funext i j
  conv => lhs; unfold meanD
  by_cases o2 : (ndAt l a).op = 2
  · simp only [if_pos o2]
  · by_cases o3 : (ndAt l a).op = 3
    · simp only [if_neg o2, if_pos o3]
    · by_cases o4 : (ndAt l a).op = 4
      · simp only [if_neg o2, if_neg o3, if_pos o4]
      · by_cases o5 : (ndAt l a).op = 5
        · simp only [if_neg o2, if_neg o3, if_neg o4, if_pos o5]
        · simp only [if_neg o2, if_neg o3, if_neg o4, if_neg o5]
theorem node_ok {l : List NodeD} (hr : right8 l = true) (w : List Nat) (rule : Int) : ∀ (n : Nat) (a : Int), 0 ≤ a → a < n → a < l.length → ∀ P, Grow rule P (nodeD l rule n a P).2 ∧ LOk w (nodeD l rule n a P).2 P.length (nodeD l rule n a P).2.length (nodeD l rule n a P).1 (meanD l w n a)
  | 0, a, h0, h1, _, _ => by omega
  | n + 1, a, h0, h1, h2, P => by
    have hr8 := hr
    unfold right8 plain6 at hr
    simp only [Bool.and_eq_true, List.all_eq_true, decide_eq_true_eq] at hr
    obtain ⟨⟨hnr, h4⟩, hc⟩ := hr
    have hk := kids_lt h4 h0 h2
    have hsh := shape_at h4 (x := a) (by omega)
    have hcn := hc _ (ndAt_mem (l := l) (x := a) (by omega))
    have hop := hnr _ (ndAt_mem (l := l) (x := a) (by omega))
    have ih : ∀ k ∈ (ndAt l a).l, ∀ P, Grow rule P (nodeD l rule n k P).2 ∧ LOk w (nodeD l rule n k P).2 P.length (nodeD l rule n k P).2.length (nodeD l rule n k P).1 (meanD l w n k) := fun k hk2 P => node_ok hr8 w rule n k (hk k hk2).1 (by have := (hk k hk2).2; omega) (by have := (hk k hk2).2; omega) P
    have hkids := kids_ok (w := w) (rule := rule) (f := nodeD l rule n) (M := fun k => meanD l w n k) (ndAt l a).l P ih
    rw [mean_succ]
    unfold nodeD
    by_cases o1 : (ndAt l a).op = 1
    · simp only [o1, if_true]
      exact ⟨Grow.refl _ _, (LOk.none (by omega) (Int.le_refl _) true).lang_eq fun i j => by simp⟩
    · rw [if_neg o1]
      by_cases o2 : (ndAt l a).op = 2
      · rw [if_pos o2, if_pos o2]
        have hs : (ndAt l a).s ≠ 0 := by
          unfold shapeD at hsh
          rw [if_neg o1, if_pos o2] at hsh
          simp only [Bool.and_eq_true, decide_eq_true_eq] at hsh
          exact hsh.1
        refine ⟨Grow.put hs (by omega) (by omega) (by omega), LOk.put.lang_eq fun i j => ?_⟩
        have := pow_one (ndAt l a).s w 1 i j
        constructor
        · intro h
          obtain ⟨g1, g2⟩ := this.1 ⟨i, rfl, h⟩
          exact ⟨by omega, by omega, by omega, g2⟩
        · rintro ⟨g1, g2, g3, g4⟩
          obtain ⟨k, rfl, g6⟩ := this.2 ⟨by omega, g4⟩
          exact g6
      · rw [if_neg o2, if_neg o2]
        by_cases o5 : (ndAt l a).op = 5 ∧ (ndAt l a).hi ≠ -1
        · rw [if_pos o5, if_neg (show ¬ (ndAt l a).op = 3 by omega), if_neg (show ¬ (ndAt l a).op = 4 by omega), if_pos o5.1]
          unfold shapeD at hsh
          rw [if_neg o1, if_neg o2, if_neg (by omega), if_pos o5.1] at hsh
          simp only [Bool.and_eq_true, Bool.or_eq_true, decide_eq_true_eq] at hsh
          obtain ⟨_, _, hl1, _, _, hb⟩ := hsh
          have hcd : countedD l (ndAt l a) = true := by
            cases hq : countedD l (ndAt l a) with
            | true => rfl
            | false => rw [hq] at hcn; simp [o5.1, o5.2] at hcn
          unfold countedD at hcd
          simp only [Bool.and_eq_true, decide_eq_true_eq] at hcd
          obtain ⟨k2, klo, khi⟩ := hcd
          have hkm : (ndAt l a).l.headD 0 ∈ (ndAt l a).l := by rw [one_len hl1]; simp
          obtain ⟨hk1, hk3⟩ := hk _ hkm
          generalize hkk : (ndAt l a).l.headD 0 = kk at *
          have hsk := shape_at h4 (x := kk) (by omega)
          have hs : (ndAt l kk).s ≠ 0 := by
            unfold shapeD at hsk
            rw [if_neg (by omega), if_pos k2] at hsk
            simp only [Bool.and_eq_true, decide_eq_true_eq] at hsk
            exact hsk.1
          have hb' : (ndAt l a).lo ≤ (ndAt l a).hi ∧ (ndAt l a).hi ≤ 4096 := by omega
          refine ⟨Grow.put hs klo hb'.1 hb'.2, LOk.put.lang_eq fun i j => ?_⟩
          have hme : ∀ i j, meanD l w n kk i j ↔ oneR (ndAt l kk).s w i j := fun i j => by
            cases n with
            | zero => omega
            | succ n => rw [mean_succ, if_pos k2]
          have hmf : meanD l w n kk = oneR (ndAt l kk).s w := by funext i j; exact propext (hme i j)
          rw [hmf]
          unfold repR
          constructor
          · rintro ⟨m, g1, g2, g3⟩
            obtain ⟨rfl, g4⟩ := (pow_one _ w m i j).1 g3
            exact ⟨by omega, by omega, by omega, g4⟩
          · rintro ⟨g1, g2, g3, g4⟩
            exact ⟨j - i, by omega, by right; omega, (pow_one _ w _ i j).2 ⟨by omega, g4⟩⟩
        · rw [if_neg o5]
          simp only
          by_cases o3 : (ndAt l a).op = 3
          · rw [if_pos o3, if_pos o3]
            have hne := LOk.none (w := w) (P := (kidsI (nodeD l rule n) (ndAt l a).l P).2) (a := P.length) (by omega) (by have := hkids.1.le; omega) true
            obtain ⟨r1, r2, r3⟩ := cat_ok (rule := rule) (P0 := P) _ _ (noInf true) _ _ _ _ hne hkids.2 hkids.1 rfl
            rw [r3] at r1
            refine ⟨r2, r1.lang_eq fun i j => ?_⟩
            constructor
            · intro h; exact ⟨i, ⟨rfl, rfl⟩, h⟩
            · rintro ⟨k, ⟨_, rfl⟩, h⟩; exact h
          · rw [if_neg o3, if_neg o3]
            have hne := LOk.none (w := w) (P := (kidsI (nodeD l rule n) (ndAt l a).l P).2) (a := P.length) (by omega) (by have := hkids.1.le; omega) (decide ((ndAt l a).op = 5))
            have hor := ors_ok _ _ _ _ _ _ hne hkids.2
            by_cases p5 : (ndAt l a).op = 5
            · rw [if_pos p5, if_neg (show ¬ (ndAt l a).op = 4 by omega), if_pos p5]
              simp only [p5, decide_true] at hor ⊢
              have hhi : (ndAt l a).hi = -1 := by
                by_cases e : (ndAt l a).hi = -1
                · exact e
                · exact absurd ⟨p5, e⟩ o5
              have hlo : (ndAt l a).lo = 0 := by
                unfold shapeD at hsh
                unfold countedD at hcn
                by_cases e : (ndAt l a).lo = 0
                · exact e
                · rw [hhi] at hcn
                  simp [p5, e] at hcn
              have hl1 : (ndAt l a).l.length = 1 := by
                unfold shapeD at hsh
                rw [if_neg o1, if_neg o2, if_neg (by omega), if_pos p5] at hsh
                simp only [Bool.and_eq_true, decide_eq_true_eq] at hsh
                exact hsh.2.2.1
              have hnul : ((kidsI (nodeD l rule n) (ndAt l a).l P).1.foldl orI (noInf true)).null = true := by
                have : ∀ (xs : List InfD) (x : InfD), x.null = true → (xs.foldl orI x).null = true := fun xs => by
                  induction xs with
                  | nil => intro x h; exact h
                  | cons y xs ih => intro x h; exact ih _ (by simp [orI, h])
                exact this _ _ rfl
              have hst := hor.star hnul
              have hg2 := hkids.1.link (from_ := ((kidsI (nodeD l rule n) (ndAt l a).l P).1.foldl orI (noInf true)).last) (to := ((kidsI (nodeD l rule n) (ndAt l a).l P).1.foldl orI (noInf true)).first) (m := (kidsI (nodeD l rule n) (ndAt l a).l P).2.length) hor.last (Int.le_refl _)
              have hlen := (link_spec (to := ((kidsI (nodeD l rule n) (ndAt l a).l P).1.foldl orI (noInf true)).first) _ _ _ (kidsI (nodeD l rule n) (ndAt l a).l P).2 (by omega) hor.last (Int.le_refl _)).1
              refine ⟨hg2, ?_⟩
              rw [hlen]
              refine hst.lang_eq fun i j => ?_
              have hmap : ((ndAt l a).l.map fun k => meanD l w n k) = [meanD l w n ((ndAt l a).l.headD 0)] := by
                conv => lhs; rw [one_len hl1]
                rfl
              rw [hhi, hlo, hmap]
              unfold repR
              constructor
              · rintro ⟨m, _, _, g⟩
                exact ⟨m, pow_imp (fun i j h => .inr ⟨_, by simp, h⟩) m i j g⟩
              · rintro ⟨m, g⟩
                have g' : powR (fun i j => (True ∧ i = j) ∨ meanD l w n ((ndAt l a).l.headD 0) i j) m i j := pow_imp (fun i j h => by
                  rcases h with h | ⟨N, hN, h⟩
                  · exact .inl ⟨trivial, h.2⟩
                  · rw [List.mem_singleton] at hN; subst hN; exact .inr h) m i j g
                obtain ⟨m2, g2⟩ := pow_or m i j g'
                exact ⟨m2, Nat.zero_le _, .inl rfl, g2⟩
            · rw [if_neg p5, if_neg p5]
              have p4 : (ndAt l a).op = 4 := by
                unfold shapeD at hsh
                rw [if_neg o1, if_neg o2] at hsh
                by_cases e : (ndAt l a).op = 3 ∨ (ndAt l a).op = 4
                · omega
                · rw [if_neg e, if_neg p5] at hsh; cases hsh
              rw [if_pos p4]
              refine ⟨hkids.1, hor.lang_eq fun i j => ?_⟩
              simp only [p5, decide_false, Bool.false_eq_true, false_and, false_or, List.mem_map]
              constructor
              · rintro ⟨k, h1, h2⟩
                exact ⟨_, ⟨k, h1, rfl⟩, h2⟩
              · rintro ⟨N, ⟨k, h1, rfl⟩, h2⟩
                exact ⟨k, h1, h2⟩
end V
end Go.Proofs.Ytepbdkfkfcckoaa