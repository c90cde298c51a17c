/- Texts laid one behind the other: G, PA, CA, PB, NB, BT, AA, AJ, AK, BA, BM, BD, BE, BF, BG.
   No condition. -/
import Derived.Test.YtmmdcdjkmakgpaaProg
import Derived.KernelRfl
import Derived.Test.YtmmdcdjkmakgpaaRows
import Derived.OpenShut
import Derived.ChangeMaps5
import Derived.Test.YtmmdcdjkmakgpaaQD3
set_option linter.unusedVariables false
set_option linter.unusedSimpArgs false
set_option linter.unusedVariables false
set_option linter.unusedSimpArgs false
namespace Go.Proofs.Ytmmdcdjkmakgpaa
namespace V
attribute [local irreducible] callPre callP bindP
abbrev i_law11_AutoGoes : FuncId := 4
abbrev i_auto_Of : FuncId := 10
abbrev i_law11_few : FuncId := 11
abbrev i_law11_shown : FuncId := 13
abbrev i_auto_Codes : FuncId := 15
abbrev i_ref11_Codes : FuncId := 16
abbrev i_ref11_Right : FuncId := 17
abbrev i_law11_code : FuncId := 18
abbrev i_ref10_Rule : FuncId := 19
abbrev i_ref10_Step : FuncId := 20
abbrev i_ref09_Right : FuncId := 23
abbrev i_glush_Right : FuncId := 24
abbrev i_split_Of : FuncId := 25
abbrev i_split_First : FuncId := 26
abbrev i_auto_builder_code : FuncId := 27
abbrev i_ref02_Right : FuncId := 34
abbrev i_ref11_state : FuncId := 35
abbrev i_law11_digit : FuncId := 36
abbrev i_ref10_Right : FuncId := 37
abbrev i_ref10_rule : FuncId := 38
abbrev i_ref10_step : FuncId := 39
abbrev i_ref09_rises : FuncId := 45
abbrev i_glush_rises : FuncId := 46
abbrev i_slices_ContainsFunc_api_Pos_api_Pos : FuncId := 47
abbrev i_glush_Right_1 : FuncId := 48
abbrev i_glush_may : FuncId := 49
abbrev i_split_cut : FuncId := 50
abbrev i_auto_builder_digits : FuncId := 51
abbrev i_auto_builder_goes : FuncId := 52
abbrev i_ref01_Has : FuncId := 56
abbrev i_ref11_rises : FuncId := 69
abbrev i_ref11_move : FuncId := 70
abbrev i_ref10_ripe : FuncId := 71
abbrev i_ref10_enters : FuncId := 72
abbrev i_ref10_stays : FuncId := 73
abbrev i_slices_IndexFunc_api_Pos_api_Pos : FuncId := 81
abbrev i_bset_Has : FuncId := 82
abbrev i_auto_builder_find : FuncId := 83
abbrev i_ref11_in : FuncId := 87
abbrev i_ref10_in : FuncId := 98
abbrev i_auto_key : FuncId := 101
abbrev y_int : TypeId := 3
abbrev y_bool : TypeId := 4
abbrev y_uint8 : TypeId := 5
abbrev y_string : TypeId := 9
abbrev y_s_int : TypeId := 22
abbrev y_s_api_Pos : TypeId := 23
abbrev y_api_Glush : TypeId := 25
abbrev y_api_Split : TypeId := 28
abbrev y_s_a2_int : TypeId := 29
abbrev y_s_api_State : TypeId := 30
abbrev y_api_Auto : TypeId := 32
abbrev y_s_api_Held : TypeId := 42
abbrev y_api_Config : TypeId := 44
abbrev y_s_s_api_Move : TypeId := 45
abbrev y_api_State : TypeId := 47
abbrev y_s_uint8 : TypeId := 49
abbrev y_api_Move : TypeId := 51
abbrev y_s_api_Move : TypeId := 52
abbrev y_api_Held : TypeId := 55
abbrev y_uint64 : TypeId := 56
abbrev y_api_Set : TypeId := 58
abbrev y_api_Pos : TypeId := 60
abbrev y_a2_int : TypeId := 65
abbrev y_map_int_int : TypeId := 71
abbrev y_map_string_int : TypeId := 72
abbrev y_map_int_bool : TypeId := 73
abbrev y_auto_builder : TypeId := 75
abbrev y_s_api_Set : TypeId := 76
abbrev y_map_int_uint8 : TypeId := 108
abbrev y_map_split_pair_uint8 : TypeId := 145
abbrev y_split_pair : TypeId := 147
@[irreducible] def auto_Of_j2 (ro : Ro) (K : KV) : Env → T Obj → Nat → Prop := fun e h nx => bindP (nilCk (e 4)) fun t121_44 => bindP (fwdP 4 t121_44) fun t122_45 => bindP (loadA ro h 259 t122_45) fun t123_46 => bindP (storeN 259 h (e 2) t123_46) fun h47 => bindP (loadA ro h47 259 (e 2)) fun r48 => ∃ h49, Sub h49 h47 ∧ K (.tuple #[r48, (Value.int IntKind.i64 0)]) h49 (nx + 6)
@[irreducible] def auto_Of_j3 (ro : Ro) (Q : KE) : Env → T Obj → Nat → Prop := fun e h nx => bindP (intB .add (e 8) (Value.int IntKind.i64 1)) fun t96_56 => Q .normal (puts e [(95, (e 8)), (96, t96_56), (8, t96_56)]) h (nx + 3)
@[irreducible] def auto_Of_L2 (ro : Ro) : PT := fun e h nx Q => bindP (intB .lss (e 108) (e 107)) fun t109_68 => condP t109_68 (callP Try.prog ro i_auto_builder_code [(e 4), (e 8), (e 108)] h (nx + 7) fun t114_69 h70 n71 => bindP (intB .neq t114_69 (Value.int IntKind.i64 0)) fun t116_72 => condP t116_72 (bindP (buildV Try.prog y_api_Auto []) fun t117_73 => bindP (storeN 259 h70 (e 2) t117_73) fun h74 => Q .ret (puts e [(109, t109_68), (110, (e 108)), (9, (e 108)), (111, (e 4)), (112, (e 8)), (113, (e 108)), (114, t114_69), (10, t114_69), (115, t114_69), (116, t116_72), (117, t117_73), (118, t114_69), (3, t114_69)]) h74 (n71 + 7)) (bindP (intB .add (e 108) (Value.int IntKind.i64 1)) fun t119_75 => Q .normal (puts e [(109, t109_68), (110, (e 108)), (9, (e 108)), (111, (e 4)), (112, (e 8)), (113, (e 108)), (114, t114_69), (10, t114_69), (115, t114_69), (116, t116_72), (119, t119_75), (108, t119_75)]) h70 (n71 + 5))) (Q (.exit 4) (puts e [(109, t109_68)]) h (nx + 1))
@[irreducible] def auto_Of_L1 (ro : Ro) : PT := fun e h nx Q => bindP (nilCk (e 4)) fun t89_50 => bindP (fwdP 4 t89_50) fun t90_51 => bindP (fwdP 258 t90_51) fun t91_52 => bindP (load1 ro h t91_52) fun t92_53 => bindP (lenSl t92_53) fun t93_54 => bindP (intB .lss (e 8) t93_54) fun t94_55 => condP t94_55 (bindP (nilCk (e 4)) fun t98_57 => bindP (fwdP 4 t98_57) fun t99_58 => bindP (fwdP 258 t99_58) fun t100_59 => bindP (load1 ro h t100_59) fun t101_60 => bindP (ixSl 4 t101_60 (e 8)) fun t103_61 => bindP (fwdP 1 t103_61) fun t104_62 => bindP (load1 ro h t104_62) fun t105_63 => bindP (lenSl t105_63) fun t106_64 => callP Try.prog ro i_auto_Codes [t106_64] h (nx + 19) fun t107_65 h66 n67 => loopP (auto_Of_L2 ro) (puts e [(87, (e 8)), (88, (e 4)), (89, t89_50), (90, t90_51), (91, t91_52), (92, t92_53), (93, t93_54), (94, t94_55), (97, (e 4)), (98, t98_57), (99, t99_58), (100, t100_59), (101, t101_60), (102, (e 8)), (103, t103_61), (104, t104_62), (105, t105_63), (106, t106_64), (107, t107_65), (108, (Value.int IntKind.i64 0))]) h66 (n67 + 1) fun x79 e76 h77 n78 => exP x79 (auto_Of_j3 ro Q e76 h77 n78) (fun i80 => beqP (Nat.beq i80 4) (auto_Of_j3 ro Q e76 h77 n78) (beqP (Nat.beq i80 3) (auto_Of_j3 ro Q e76 h77 n78) (Q (.exit i80) e76 h77 n78))) (Q .ret e76 h77 n78)) (Q (.exit 2) (puts e [(87, (e 8)), (88, (e 4)), (89, t89_50), (90, t90_51), (91, t91_52), (92, t92_53), (93, t93_54), (94, t94_55)]) h (nx + 8))
@[irreducible] def auto_Of_j1 (ro : Ro) (K : KV) : Env → T Obj → Nat → Prop := fun e h nx => callP Try.prog ro i_split_Of [(e 5)] h (nx + 3) fun t68_20 h21 n22 => bindP (nilCk (e 4)) fun t69_23 => bindP (fwdP 4 t69_23) fun t70_24 => bindP (fwdP 0 t70_24) fun t71_25 => bindP (storeN 257 h21 t71_25 t68_20) fun h26 => bindP (nilCk (e 4)) fun t74_27 => bindP (fwdP 4 t74_27) fun t75_28 => bindP (fwdP 0 t75_28) fun t76_29 => bindP (loadA ro h26 257 t76_29) fun t77_30 => callP Try.prog ro i_split_First [t77_30] h26 (n22 + 11) fun t78_31 h32 n33 => bindP (nilCk (e 4)) fun t79_34 => bindP (fwdP 3 t79_34) fun t80_35 => bindP (storeN 1 h32 t80_35 t78_31) fun h36 => bindP (buildV Try.prog y_api_State []) fun t82_37 => bindP (sliceLitV Try.prog y_s_api_State (n33 + 5) 1 [(0, t82_37)]) fun r38 => optP h36 (n33 + 5) r38.2 fun h39 => bindP (nilCk (e 4)) fun t84_40 => bindP (fwdP 4 t84_40) fun t85_41 => bindP (fwdP 258 t85_41) fun t86_42 => bindP (storeN 1 h39 t86_42 r38.1) fun h43 => loopP (auto_Of_L1 ro) (puts e [(66, (e 4)), (67, (e 5)), (68, t68_20), (69, t69_23), (70, t70_24), (71, t71_25), (72, (e 4)), (73, (e 4)), (74, t74_27), (75, t75_28), (76, t76_29), (77, t77_30), (78, t78_31), (79, t79_34), (80, t80_35), (81, (e 4)), (82, t82_37), (83, r38.1), (84, t84_40), (85, t85_41), (86, t86_42), (8, (Value.int IntKind.i64 0))]) h43 (n33 + 11) fun x84 e81 h82 n83 => exP x84 (auto_Of_j2 ro K e81 h82 n83) (fun i85 => beqP (Nat.beq i85 2) (auto_Of_j2 ro K e81 h82 n83) (False)) (bindP (loadA ro h82 259 (e81 2)) fun r86 => ∃ h87, Sub h87 h82 ∧ K (.tuple #[r86, (e81 3)]) h87 n83)
@[irreducible] def auto_Of_j4 (ro : Ro) (Q : KE) : Env → T Obj → Nat → Prop := fun e h nx => bindP (intB .add (e 25) (Value.int IntKind.i64 1)) fun t65_92 => Q .normal (puts e [(65, t65_92), (25, t65_92)]) h (nx + 2)
@[irreducible] def auto_Of_L3 (ro : Ro) : PT := fun e h nx Q => bindP (intB .lss (e 25) (e 24)) fun t26_91 => condP t26_91 (bindP (ixSl 9 (e 23) (e 25)) fun t28_93 => bindP (loadA ro h 9 t28_93) fun t29_94 => bindP (zer Try.prog y_api_Pos) fun z95 => newP h (nx + 4) (.cells z95.cells y_api_Pos) fun h96 => bindP (storeN 9 h96 (ptr (nx + 4)) t29_94) fun h97 => bindP (fwdP 0 (ptr (nx + 4))) fun t31_98 => bindP (loadA ro h97 4 t31_98) fun t32_99 => bindP (sliceLitV Try.prog y_s_api_Set (nx + 10) 1 [(0, t32_99)]) fun r100 => optP h97 (nx + 10) r100.2 fun h101 => bindP (appendV Try.prog ro h101 (nx + 12) #[y_s_api_Set, y_s_api_Set] [(e 5), r100.1]) fun r102 => bindP (fwdP 5 (ptr (nx + 4))) fun t35_103 => bindP (load1 ro r102.2.1 t35_103) fun t36_104 => bindP (intB .gtr t36_104 (Value.int IntKind.i64 1)) fun t37_105 => condP t37_105 (bindP (nilCk (e 4)) fun t39_106 => bindP (fwdP 2 t39_106) fun t40_107 => bindP (load1 ro r102.2.1 t40_107) fun t41_108 => bindP (nilCk (e 4)) fun t44_109 => bindP (fwdP 4 t44_109) fun t45_110 => bindP (fwdP 257 t45_110) fun t46_111 => bindP (load1 ro r102.2.1 t46_111) fun t47_112 => bindP (lenSl t47_112) fun t48_113 => bindP (mapPutV Try.prog r102.2.1 y_map_int_int t41_108 (e 25) t48_113) fun h114 => bindP (nilCk (e 4)) fun t51_115 => bindP (fwdP 4 t51_115) fun t52_116 => bindP (fwdP 257 t52_116) fun t53_117 => bindP (load1 ro h114 t53_117) fun t54_118 => bindP (fwdP 4 (ptr (nx + 4))) fun t55_119 => bindP (load1 ro h114 t55_119) fun t56_120 => bindP (fwdP 5 (ptr (nx + 4))) fun t57_121 => bindP (load1 ro h114 t57_121) fun t58_122 => bindP (buildV Try.prog y_a2_int [(0, t56_120), (1, t58_122)]) fun t59_123 => bindP (sliceLitV Try.prog y_s_a2_int (r102.2.2 + 27) 1 [(0, t59_123)]) fun r124 => optP h114 (r102.2.2 + 27) r124.2 fun h125 => bindP (appendV Try.prog ro h125 (r102.2.2 + 33) #[y_s_a2_int, y_s_a2_int] [t54_118, r124.1]) fun r126 => bindP (nilCk (e 4)) fun t62_127 => bindP (fwdP 4 t62_127) fun t63_128 => bindP (fwdP 257 t63_128) fun t64_129 => bindP (storeN 1 r126.2.1 t64_129 r126.1) fun h130 => auto_Of_j4 ro Q (puts e [(26, t26_91), (27, (e 25)), (28, t28_93), (29, t29_94), (7, (ptr (nx + 4))), (6, (e 25)), (30, (e 5)), (31, t31_98), (32, t32_99), (33, r100.1), (34, r102.1), (5, r102.1), (35, t35_103), (36, t36_104), (37, t37_105), (38, (e 4)), (39, t39_106), (40, t40_107), (41, t41_108), (42, (e 25)), (43, (e 4)), (44, t44_109), (45, t45_110), (46, t46_111), (47, t47_112), (48, t48_113), (49, (e 4)), (50, (e 4)), (51, t51_115), (52, t52_116), (53, t53_117), (54, t54_118), (55, t55_119), (56, t56_120), (57, t57_121), (58, t58_122), (59, t59_123), (60, r124.1), (61, r126.1), (62, t62_127), (63, t63_128), (64, t64_129)]) h130 r126.2.2) (auto_Of_j4 ro Q (puts e [(26, t26_91), (27, (e 25)), (28, t28_93), (29, t29_94), (7, (ptr (nx + 4))), (6, (e 25)), (30, (e 5)), (31, t31_98), (32, t32_99), (33, r100.1), (34, r102.1), (5, r102.1), (35, t35_103), (36, t36_104), (37, t37_105)]) r102.2.1 (r102.2.2 + 4))) (Q (.exit 0) (puts e [(26, t26_91)]) h (nx + 1))
@[irreducible] def auto_Of (ro : Ro) (v0 : Value) (h : T Obj) (nx : Nat) (K : KV) : Prop := newP h nx (.cells (Value.cells v0) y_api_Glush) fun h1 => bindP (zer Try.prog y_api_Auto) fun z2 => newP h1 (nx + 1) (.cells z2.cells y_api_Auto) fun h3 => bindP (loadA ro h3 2 (ptr nx)) fun t11_4 => callP Try.prog ro i_glush_Right [t11_4] h3 (nx + 5) fun t12_5 h6 n7 => bindP (unV .not t12_5) fun t13_8 => condP t13_8 (bindP (buildV Try.prog y_api_Auto []) fun t14_9 => bindP (storeN 259 h6 (ptr (nx + 1)) t14_9) fun h10 => bindP (loadA ro h10 259 (ptr (nx + 1))) fun r11 => ∃ h12, Sub h12 h10 ∧ K (.tuple #[r11, (Value.int IntKind.i64 1)]) h12 (n7 + 4)) (bindP (loadA ro h6 2 (ptr nx)) fun t15_13 => newP h6 (n7 + 2) (.map #[] 0) fun h14 => newP h14 (n7 + 3) (.map #[] 0) fun h15 => newP h15 (n7 + 4) (.map #[] 0) fun h16 => newP h16 (n7 + 5) (.map #[] 0) fun h17 => bindP (buildV Try.prog y_auto_builder [(0, t15_13), (1, (.map (some (n7 + 2)))), (4, (.map (some (n7 + 3)))), (5, (.map (some (n7 + 4)))), (6, (.map (some (n7 + 5))))]) fun t20_18 => newP h17 (n7 + 7) (.cells (Value.cells t20_18) y_auto_builder) fun h19 => bindP (fwdP 1 (ptr nx)) fun t22_88 => bindP (load1 ro h19 t22_88) fun t23_89 => bindP (lenSl t23_89) fun t24_90 => loopP (auto_Of_L3 ro) (puts (entE [v0]) [(1, (ptr nx)), (2, (ptr (nx + 1))), (3, (Value.int IntKind.i64 0)), (11, t11_4), (12, t12_5), (13, t13_8), (15, t15_13), (16, (.map (some (n7 + 2)))), (17, (.map (some (n7 + 3)))), (18, (.map (some (n7 + 4)))), (19, (.map (some (n7 + 5)))), (20, t20_18), (21, (ptr (n7 + 7))), (4, (ptr (n7 + 7))), (5, (Value.slice none 0 0)), (22, t22_88), (23, t23_89), (24, t24_90), (25, (Value.int IntKind.i64 0))]) h19 (n7 + 14) fun x134 e131 h132 n133 => exP x134 (auto_Of_j1 ro K e131 h132 n133) (fun i135 => beqP (Nat.beq i135 0) (auto_Of_j1 ro K e131 h132 n133) (False)) (bindP (loadA ro h132 259 (e131 2)) fun r136 => ∃ h137, Sub h137 h132 ∧ K (.tuple #[r136, (e131 3)]) h137 n133))
theorem auto_Of_eq (ro : Ro) (v0 : Value) (h : T Obj) (nx : Nat) (K : KV) : callPre Try.prog ro (callP Try.prog ro) Try.f10 [v0] h nx K = auto_Of ro v0 h nx K := by kernel_rfl
theorem auto_Of_of {ro : Ro} {v0 : Value} {h : T Obj} {nx : Nat} {K : KV} (hw : auto_Of ro v0 h nx K) : callP Try.prog ro i_auto_Of [v0] h nx K := callP_by (P := Try.prog) (fn := Try.f10) (by kernel_rfl) (by kernel_rfl) (by kernel_rfl) (Eq.mpr (auto_Of_eq ro v0 h nx K) hw)
@[irreducible] def law11_few (ro : Ro) (v0 : Value) (h : T Obj) (nx : Nat) (K : KV) : Prop := newP h nx (.cells (Value.cells v0) y_api_Glush) fun h1 => bindP (zer Try.prog y_api_Glush) fun z2 => newP h1 (nx + 1) (.cells z2.cells y_api_Glush) fun h3 => bindP (fwdP 1 (ptr nx)) fun t3_4 => bindP (load1 ro h3 t3_4) fun t4_5 => bindP (lenSl t4_5) fun t5_6 => bindP (intB .gtr t5_6 (Value.int IntKind.i64 40)) fun t6_7 => condP t6_7 (bindP (buildV Try.prog y_api_Glush []) fun t7_8 => bindP (storeN 2 h3 (ptr (nx + 1)) t7_8) fun h9 => bindP (loadA ro h9 2 (ptr (nx + 1))) fun r10 => ∃ h11, Sub h11 h9 ∧ K r10 h11 (nx + 8)) (bindP (loadA ro h3 2 (ptr nx)) fun t8_12 => bindP (storeN 2 h3 (ptr (nx + 1)) t8_12) fun h13 => bindP (loadA ro h13 2 (ptr (nx + 1))) fun r14 => ∃ h15, Sub h15 h13 ∧ K r14 h15 (nx + 8))
theorem law11_few_eq (ro : Ro) (v0 : Value) (h : T Obj) (nx : Nat) (K : KV) : callPre Try.prog ro (callP Try.prog ro) Try.f11 [v0] h nx K = law11_few ro v0 h nx K := by kernel_rfl
theorem law11_few_of {ro : Ro} {v0 : Value} {h : T Obj} {nx : Nat} {K : KV} (hw : law11_few ro v0 h nx K) : callP Try.prog ro i_law11_few [v0] h nx K := callP_by (P := Try.prog) (fn := Try.f11) (by kernel_rfl) (by kernel_rfl) (by kernel_rfl) (Eq.mpr (law11_few_eq ro v0 h nx K) hw)
@[irreducible] def auto_Codes_j1 (ro : Ro) (K : KV) : Env → T Obj → Nat → Prop := fun e h nx => ∃ h13, Sub h13 h ∧ K (e 3) h13 (nx + 2)
@[irreducible] def auto_Codes_L1 (ro : Ro) : PT := fun e h nx Q => bindP (intB .lss (e 11) (e 10)) fun t12_14 => condP t12_14 (bindP (intB .mul (e 3) (Value.int IntKind.i64 3)) fun t14_15 => bindP (intB .add (e 11) (Value.int IntKind.i64 1)) fun t15_16 => Q .normal (puts e [(12, t12_14), (13, (e 3)), (14, t14_15), (3, t14_15), (15, t15_16), (11, t15_16)]) h (nx + 6)) (Q (.exit 0) (puts e [(12, t12_14)]) h (nx + 1))
@[irreducible] def auto_Codes (ro : Ro) (v0 : Value) (h : T Obj) (nx : Nat) (K : KV) : Prop := bindP (intB .lss v0 (Value.int IntKind.i64 0)) fun t5_1 => ifP t5_1 false h (nx + 4) (fun k2 => k2 v0 h (nx + 5)) fun t7_3 h4 n5 => ifP t5_1 false h4 n5 (fun k6 => bindP (intB .gtr t7_3 (Value.int IntKind.i64 3)) fun t8_10 => k6 t8_10 h4 (n5 + 1)) fun t8_7 h8 n9 => bindP (pickV t5_1 (Value.bool true) t8_7) fun t9_11 => condP t9_11 (∃ h12, Sub h12 h8 ∧ K (Value.int IntKind.i64 0) h12 (n9 + 2)) (loopP (auto_Codes_L1 ro) (puts (entE [v0]) [(2, (Value.int IntKind.i64 0)), (4, v0), (5, t5_1), (6, t5_1), (7, t7_3), (8, t8_7), (9, t9_11), (3, (Value.int IntKind.i64 1)), (10, v0), (11, (Value.int IntKind.i64 0))]) h8 (n9 + 4) fun x20 e17 h18 n19 => exP x20 (auto_Codes_j1 ro K e17 h18 n19) (fun i21 => beqP (Nat.beq i21 0) (auto_Codes_j1 ro K e17 h18 n19) (False)) (∃ h22, Sub h22 h18 ∧ K (e17 2) h22 n19))
theorem auto_Codes_eq (ro : Ro) (v0 : Value) (h : T Obj) (nx : Nat) (K : KV) : callPre Try.prog ro (callP Try.prog ro) Try.f15 [v0] h nx K = auto_Codes ro v0 h nx K := by kernel_rfl
theorem auto_Codes_of {ro : Ro} {v0 : Value} {h : T Obj} {nx : Nat} {K : KV} (hw : auto_Codes ro v0 h nx K) : callP Try.prog ro i_auto_Codes [v0] h nx K := callP_by (P := Try.prog) (fn := Try.f15) (by kernel_rfl) (by kernel_rfl) (by kernel_rfl) (Eq.mpr (auto_Codes_eq ro v0 h nx K) hw)
@[irreducible] def ref11_Codes_j1 (ro : Ro) (K : KV) : Env → T Obj → Nat → Prop := fun e h nx => ∃ h13, Sub h13 h ∧ K (e 3) h13 (nx + 2)
@[irreducible] def ref11_Codes_L1 (ro : Ro) : PT := fun e h nx Q => bindP (intB .lss (e 4) (e 0)) fun t13_14 => condP t13_14 (bindP (intB .mul (e 3) (Value.int IntKind.i64 3)) fun t17_15 => bindP (intB .add (e 4) (Value.int IntKind.i64 1)) fun t15_16 => Q .normal (puts e [(11, (e 4)), (12, (e 0)), (13, t13_14), (16, (e 3)), (17, t17_15), (3, t17_15), (14, (e 4)), (15, t15_16), (4, t15_16)]) h (nx + 9)) (Q (.exit 0) (puts e [(11, (e 4)), (12, (e 0)), (13, t13_14)]) h (nx + 3))
@[irreducible] def ref11_Codes (ro : Ro) (v0 : Value) (h : T Obj) (nx : Nat) (K : KV) : Prop := bindP (intB .lss v0 (Value.int IntKind.i64 0)) fun t6_1 => ifP t6_1 false h (nx + 4) (fun k2 => k2 v0 h (nx + 5)) fun t8_3 h4 n5 => ifP t6_1 false h4 n5 (fun k6 => bindP (intB .gtr t8_3 (Value.int IntKind.i64 3)) fun t9_10 => k6 t9_10 h4 (n5 + 1)) fun t9_7 h8 n9 => bindP (pickV t6_1 (Value.bool true) t9_7) fun t10_11 => condP t10_11 (∃ h12, Sub h12 h8 ∧ K (Value.int IntKind.i64 0) h12 (n9 + 2)) (loopP (ref11_Codes_L1 ro) (puts (entE [v0]) [(2, (Value.int IntKind.i64 0)), (5, v0), (6, t6_1), (7, t6_1), (8, t8_3), (9, t9_7), (10, t10_11), (3, (Value.int IntKind.i64 1)), (4, (Value.int IntKind.i64 0))]) h8 (n9 + 3) fun x20 e17 h18 n19 => exP x20 (ref11_Codes_j1 ro K e17 h18 n19) (fun i21 => beqP (Nat.beq i21 0) (ref11_Codes_j1 ro K e17 h18 n19) (False)) (∃ h22, Sub h22 h18 ∧ K (e17 2) h22 n19))
theorem ref11_Codes_eq (ro : Ro) (v0 : Value) (h : T Obj) (nx : Nat) (K : KV) : callPre Try.prog ro (callP Try.prog ro) Try.f16 [v0] h nx K = ref11_Codes ro v0 h nx K := by kernel_rfl
theorem ref11_Codes_of {ro : Ro} {v0 : Value} {h : T Obj} {nx : Nat} {K : KV} (hw : ref11_Codes ro v0 h nx K) : callP Try.prog ro i_ref11_Codes [v0] h nx K := callP_by (P := Try.prog) (fn := Try.f16) (by kernel_rfl) (by kernel_rfl) (by kernel_rfl) (Eq.mpr (ref11_Codes_eq ro v0 h nx K) hw)
@[irreducible] def glush_Right (ro : Ro) (v0 : Value) (h : T Obj) (nx : Nat) (K : KV) : Prop := newP h nx (.cells (Value.cells v0) y_api_Glush) fun h1 => bindP (fwdP 1 (ptr nx)) fun t3_2 => bindP (load1 ro h1 t3_2) fun t4_3 => bindP (lenSl t4_3) fun t5_4 => bindP (intB .gtr t5_4 (Value.int IntKind.i64 512)) fun t6_5 => ifP t6_5 false h1 (nx + 7) (fun k6 => bindP (fwdP 0 (ptr nx)) fun t8_10 => k6 t8_10 h1 (nx + 8)) fun t8_7 h8 n9 => ifP t6_5 false h8 n9 (fun k11 => bindP (load1 ro h8 t8_7) fun t9_15 => k11 t9_15 h8 (n9 + 1)) fun t9_12 h13 n14 => ifP t6_5 false h13 n14 (fun k16 => bindP (fwdP 1 (ptr nx)) fun t10_20 => k16 t10_20 h13 (n14 + 1)) fun t10_17 h18 n19 => ifP t6_5 false h18 n19 (fun k21 => bindP (load1 ro h18 t10_17) fun t11_25 => k21 t11_25 h18 (n19 + 1)) fun t11_22 h23 n24 => ifP t6_5 false h23 n24 (fun k26 => bindP (lenSl t11_22) fun t12_30 => k26 t12_30 h23 (n24 + 1)) fun t12_27 h28 n29 => ifP t6_5 false h28 n29 (fun k31 => callP Try.prog ro i_glush_rises [t9_12, t12_27] h28 (n29 + 1) fun t13_35 h36 n37 => k31 t13_35 h36 n37) fun t13_32 h33 n34 => ifP t6_5 false h33 n34 (fun k38 => bindP (unV .not t13_32) fun t14_42 => k38 t14_42 h33 (n34 + 1)) fun t14_39 h40 n41 => bindP (pickV t6_5 (Value.bool true) t14_39) fun t15_43 => condP t15_43 (∃ h44, Sub h44 h40 ∧ K (Value.bool false) h44 (n41 + 2)) (bindP (fwdP 1 (ptr nx)) fun t16_45 => bindP (load1 ro h40 t16_45) fun t17_46 => callP Try.prog ro i_slices_ContainsFunc_api_Pos_api_Pos [t17_46, (.func (.func i_glush_Right_1) #[] #[(ptr nx)])] h40 (n41 + 5) fun t19_47 h48 n49 => bindP (unV .not t19_47) fun t20_50 => ∃ h51, Sub h51 h48 ∧ K t20_50 h51 (n49 + 2))
theorem glush_Right_eq (ro : Ro) (v0 : Value) (h : T Obj) (nx : Nat) (K : KV) : callPre Try.prog ro (callP Try.prog ro) Try.f24 [v0] h nx K = glush_Right ro v0 h nx K := by kernel_rfl
theorem glush_Right_of {ro : Ro} {v0 : Value} {h : T Obj} {nx : Nat} {K : KV} (hw : glush_Right ro v0 h nx K) : callP Try.prog ro i_glush_Right [v0] h nx K := callP_by (P := Try.prog) (fn := Try.f24) (by kernel_rfl) (by kernel_rfl) (by kernel_rfl) (Eq.mpr (glush_Right_eq ro v0 h nx K) hw)
@[irreducible] def split_Of_j1 (ro : Ro) (K : KV) : Env → T Obj → Nat → Prop := fun e h nx => bindP (loadA ro h 257 (e 3)) fun t17_7 => bindP (storeN 257 h (e 2) t17_7) fun h8 => bindP (loadA ro h8 257 (e 2)) fun r9 => ∃ h10, Sub h10 h8 ∧ K r9 h10 (nx + 2)
@[irreducible] def split_Of_L1 (ro : Ro) : PT := fun e h nx Q => bindP (intB .lss (e 9) (e 8)) fun t10_12 => condP t10_12 (bindP (ixSl 4 (e 7) (e 9)) fun t11_13 => bindP (loadA ro h 4 t11_13) fun t12_14 => bindP (zer Try.prog y_api_Set) fun z15 => newP h (nx + 3) (.cells z15.cells y_api_Set) fun h16 => bindP (storeN 4 h16 (ptr (nx + 3)) t12_14) fun h17 => bindP (loadA ro h17 257 (e 3)) fun t13_18 => bindP (loadA ro h17 4 (ptr (nx + 3))) fun t14_19 => callP Try.prog ro i_split_cut [t13_18, t14_19] h17 (nx + 8) fun t15_20 h21 n22 => bindP (storeN 257 h21 (e 3) t15_20) fun h23 => bindP (intB .add (e 9) (Value.int IntKind.i64 1)) fun t16_24 => Q .normal (puts e [(10, t10_12), (11, t11_13), (12, t12_14), (5, (ptr (nx + 3))), (13, t13_18), (14, t14_19), (15, t15_20), (16, t16_24), (9, t16_24)]) h23 (n22 + 3)) (Q (.exit 0) (puts e [(10, t10_12)]) h (nx + 1))
@[irreducible] def split_Of (ro : Ro) (v0 : Value) (h : T Obj) (nx : Nat) (K : KV) : Prop := bindP (zer Try.prog y_api_Split) fun z1 => newP h nx (.cells z1.cells y_api_Split) fun h2 => bindP (buildV Try.prog y_api_Split [(1, (Value.int IntKind.i64 1))]) fun t6_3 => bindP (zer Try.prog y_api_Split) fun z4 => newP h2 (nx + 2) (.cells z4.cells y_api_Split) fun h5 => bindP (storeN 257 h5 (ptr (nx + 2)) t6_3) fun h6 => bindP (lenSl v0) fun t8_11 => loopP (split_Of_L1 ro) (puts (entE [v0]) [(2, (ptr nx)), (6, t6_3), (3, (ptr (nx + 2))), (7, v0), (8, t8_11), (9, (Value.int IntKind.i64 0))]) h6 (nx + 7) fun x28 e25 h26 n27 => exP x28 (split_Of_j1 ro K e25 h26 n27) (fun i29 => beqP (Nat.beq i29 0) (split_Of_j1 ro K e25 h26 n27) (False)) (bindP (loadA ro h26 257 (e25 2)) fun r30 => ∃ h31, Sub h31 h26 ∧ K r30 h31 n27)
theorem split_Of_eq (ro : Ro) (v0 : Value) (h : T Obj) (nx : Nat) (K : KV) : callPre Try.prog ro (callP Try.prog ro) Try.f25 [v0] h nx K = split_Of ro v0 h nx K := by kernel_rfl
theorem split_Of_of {ro : Ro} {v0 : Value} {h : T Obj} {nx : Nat} {K : KV} (hw : split_Of ro v0 h nx K) : callP Try.prog ro i_split_Of [v0] h nx K := callP_by (P := Try.prog) (fn := Try.f25) (by kernel_rfl) (by kernel_rfl) (by kernel_rfl) (Eq.mpr (split_Of_eq ro v0 h nx K) hw)
@[irreducible] def split_First_j1 (ro : Ro) (K : KV) : Env → T Obj → Nat → Prop := fun e h nx => ∃ h26, Sub h26 h ∧ K (e 3) h26 (nx + 2)
@[irreducible] def split_First_j2 (ro : Ro) (Q : KE) : Env → T Obj → Nat → Prop := fun e h nx => bindP (intB .sub (e 4) (Value.int IntKind.i64 1)) fun t20_28 => Q .normal (puts e [(19, (e 4)), (20, t20_28), (4, t20_28)]) h (nx + 3)
@[irreducible] def split_First_L1 (ro : Ro) : PT := fun e h nx Q => bindP (intB .geq (e 4) (Value.int IntKind.i64 0)) fun t18_27 => condP t18_27 (bindP (fwdP 0 (e 1)) fun t22_29 => bindP (ixArr 256 1 t22_29 (e 4)) fun t23_30 => bindP (load1 ro h t23_30) fun t24_31 => bindP (convI .i64 t24_31) fun t25_32 => bindP (fwdP 256 (e 1)) fun t27_33 => bindP (load1 ro h t27_33) fun t28_34 => bindP (intB .lss t25_32 t28_34) fun t29_35 => condP t29_35 (bindP (convI .u8 (e 4)) fun t33_36 => bindP (ixSl 1 (e 3) t25_32) fun t34_37 => bindP (storeN 1 h t34_37 t33_36) fun h38 => split_First_j2 ro Q (puts e [(17, (e 4)), (18, t18_27), (21, (e 4)), (22, t22_29), (23, t23_30), (24, t24_31), (25, t25_32), (5, t25_32), (26, t25_32), (27, t27_33), (28, t28_34), (29, t29_35), (30, (e 3)), (31, t25_32), (32, (e 4)), (33, t33_36), (34, t34_37)]) h38 (nx + 18)) (split_First_j2 ro Q (puts e [(17, (e 4)), (18, t18_27), (21, (e 4)), (22, t22_29), (23, t23_30), (24, t24_31), (25, t25_32), (5, t25_32), (26, t25_32), (27, t27_33), (28, t28_34), (29, t29_35)]) h (nx + 12))) (Q (.exit 0) (puts e [(17, (e 4)), (18, t18_27)]) h (nx + 2))
@[irreducible] def split_First (ro : Ro) (v0 : Value) (h : T Obj) (nx : Nat) (K : KV) : Prop := newP h nx (.cells (Value.cells v0) y_api_Split) fun h1 => bindP (fwdP 256 (ptr nx)) fun t6_2 => bindP (load1 ro h1 t6_2) fun t7_3 => bindP (intB .lss t7_3 (Value.int IntKind.i64 1)) fun t8_4 => ifP t8_4 false h1 (nx + 6) (fun k5 => bindP (fwdP 256 (ptr nx)) fun t10_9 => k5 t10_9 h1 (nx + 7)) fun t10_6 h7 n8 => ifP t8_4 false h7 n8 (fun k10 => bindP (load1 ro h7 t10_6) fun t11_14 => k10 t11_14 h7 (n8 + 1)) fun t11_11 h12 n13 => ifP t8_4 false h12 n13 (fun k15 => bindP (intB .gtr t11_11 (Value.int IntKind.i64 256)) fun t12_19 => k15 t12_19 h12 (n13 + 1)) fun t12_16 h17 n18 => bindP (pickV t8_4 (Value.bool true) t12_16) fun t13_20 => condP t13_20 (∃ h21, Sub h21 h17 ∧ K (Value.slice none 0 0) h21 (n18 + 2)) (bindP (fwdP 256 (ptr nx)) fun t14_22 => bindP (load1 ro h17 t14_22) fun t15_23 => bindP (makeV Try.prog y_s_uint8 (n18 + 3) t15_23 t15_23) fun r24 => optP h17 (n18 + 3) r24.2 fun h25 => loopP (split_First_L1 ro) (puts (entE [v0]) [(1, (ptr nx)), (2, (Value.slice none 0 0)), (6, t6_2), (7, t7_3), (8, t8_4), (9, t8_4), (10, t10_6), (11, t11_11), (12, t12_16), (13, t13_20), (14, t14_22), (15, t15_23), (16, r24.1), (3, r24.1), (4, (Value.int IntKind.i64 255))]) h25 (n18 + 6) fun x42 e39 h40 n41 => exP x42 (split_First_j1 ro K e39 h40 n41) (fun i43 => beqP (Nat.beq i43 0) (split_First_j1 ro K e39 h40 n41) (False)) (∃ h44, Sub h44 h40 ∧ K (e39 2) h44 n41))
theorem split_First_eq (ro : Ro) (v0 : Value) (h : T Obj) (nx : Nat) (K : KV) : callPre Try.prog ro (callP Try.prog ro) Try.f26 [v0] h nx K = split_First ro v0 h nx K := by kernel_rfl
theorem split_First_of {ro : Ro} {v0 : Value} {h : T Obj} {nx : Nat} {K : KV} (hw : split_First ro v0 h nx K) : callP Try.prog ro i_split_First [v0] h nx K := callP_by (P := Try.prog) (fn := Try.f26) (by kernel_rfl) (by kernel_rfl) (by kernel_rfl) (Eq.mpr (split_First_eq ro v0 h nx K) hw)
@[irreducible] def auto_builder_code_j3 (ro : Ro) (K : KV) : Env → T Obj → Nat → Prop := fun e h nx => bindP (nilCk (e 0)) fun t150_22 => bindP (fwdP 4 t150_22) fun t151_23 => bindP (fwdP 258 t151_23) fun t152_24 => bindP (load1 ro h t152_24) fun t153_25 => bindP (nilCk (e 0)) fun t156_26 => bindP (fwdP 4 t156_26) fun t157_27 => bindP (fwdP 258 t157_27) fun t158_28 => bindP (load1 ro h t158_28) fun t159_29 => bindP (ixSl 4 t159_29 (e 1)) fun t161_30 => bindP (fwdP 2 t161_30) fun t162_31 => bindP (load1 ro h t162_31) fun t163_32 => bindP (sliceLitV Try.prog y_s_int (nx + 16) 1 [(0, (e 9))]) fun r33 => optP h (nx + 16) r33.2 fun h34 => bindP (appendV Try.prog ro h34 (nx + 21) #[y_s_int, y_s_int] [t163_32, r33.1]) fun r35 => (sameV t152_24 h34 r35.2.1) ∧ (bindP (ixSl 4 t153_25 (e 1)) fun t167_36 => bindP (fwdP 2 t167_36) fun t168_37 => bindP (storeN 1 r35.2.1 t168_37 r35.1) fun h38 => bindP (nilCk (e 0)) fun t170_39 => bindP (fwdP 4 t170_39) fun t171_40 => bindP (fwdP 258 t171_40) fun t172_41 => bindP (load1 ro h38 t172_41) fun t173_42 => bindP (nilCk (e 0)) fun t176_43 => bindP (fwdP 4 t176_43) fun t177_44 => bindP (fwdP 258 t177_44) fun t178_45 => bindP (load1 ro h38 t178_45) fun t179_46 => bindP (ixSl 4 t179_46 (e 1)) fun t181_47 => bindP (fwdP 3 t181_47) fun t182_48 => bindP (load1 ro h38 t182_48) fun t183_49 => bindP (sliceLitV Try.prog y_s_s_api_Move (r35.2.2 + 16) 1 [(0, (e 19))]) fun r50 => optP h38 (r35.2.2 + 16) r50.2 fun h51 => bindP (appendV Try.prog ro h51 (r35.2.2 + 21) #[y_s_s_api_Move, y_s_s_api_Move] [t183_49, r50.1]) fun r52 => (sameV t172_41 h51 r52.2.1) ∧ (bindP (ixSl 4 t173_42 (e 1)) fun t187_53 => bindP (fwdP 3 t187_53) fun t188_54 => bindP (storeN 1 r52.2.1 t188_54 r52.1) fun h55 => ∃ h56, Sub h56 h55 ∧ K (Value.int IntKind.i64 0) h56 (r52.2.2 + 1)))
@[irreducible] def auto_builder_code_L1 (ro : Ro) : PT := fun e h nx Q => bindP (intB .lss (e 131) (e 130)) fun t132_61 => condP t132_61 (bindP (ixSl 1 (e 129) (e 131)) fun t133_62 => bindP (load1 ro h t133_62) fun t134_63 => callP Try.prog ro i_auto_builder_goes [(e 0), t134_63] h (nx + 7) fun t138_64 h65 n66 => bindP (nth 0 t138_64) fun t139_67 => bindP (nth 1 t138_64) fun t140_68 => bindP (zer Try.prog y_api_Move) fun z69 => newP h65 (n66 + 3) (.cells z69.cells y_api_Move) fun h70 => bindP (storeN 2 h70 (ptr (n66 + 3)) t139_67) fun h71 => bindP (intB .neq t140_68 (Value.int IntKind.i64 0)) fun t142_72 => condP t142_72 (Q .ret (puts e [(132, t132_61), (133, t133_62), (134, t134_63), (21, t134_63), (136, (e 0)), (137, t134_63), (138, t138_64), (135, t138_64), (139, t139_67), (140, t140_68), (22, (ptr (n66 + 3))), (23, t140_68), (141, t140_68), (142, t142_72), (143, t140_68), (6, t140_68)]) h71 (n66 + 10)) (bindP (loadA ro h71 2 (ptr (n66 + 3))) fun t145_73 => bindP (sliceLitV Try.prog y_s_api_Move (n66 + 10) 1 [(0, t145_73)]) fun r74 => optP h71 (n66 + 10) r74.2 fun h75 => bindP (appendV Try.prog ro h75 (n66 + 12) #[y_s_api_Move, y_s_api_Move] [(e 19), r74.1]) fun r76 => bindP (intB .add (e 131) (Value.int IntKind.i64 1)) fun t148_77 => Q .normal (puts e [(132, t132_61), (133, t133_62), (134, t134_63), (21, t134_63), (136, (e 0)), (137, t134_63), (138, t138_64), (135, t138_64), (139, t139_67), (140, t140_68), (22, (ptr (n66 + 3))), (23, t140_68), (141, t140_68), (142, t142_72), (144, (e 19)), (145, t145_73), (146, r74.1), (147, r76.1), (19, r76.1), (148, t148_77), (131, t148_77)]) r76.2.1 (r76.2.2 + 3))) (Q (.exit 6) (puts e [(132, t132_61)]) h (nx + 1))
@[irreducible] def auto_builder_code_j2 (ro : Ro) (K : KV) : Env → T Obj → Nat → Prop := fun e h nx => bindP (nilCk (e 0)) fun t127_57 => bindP (fwdP 3 t127_57) fun t128_58 => bindP (load1 ro h t128_58) fun t129_59 => bindP (lenSl t129_59) fun t130_60 => loopP (auto_builder_code_L1 ro) (puts e [(19, (Value.slice none 0 0)), (126, (e 0)), (127, t127_57), (128, t128_58), (129, t129_59), (130, t130_60), (131, (Value.int IntKind.i64 0))]) h (nx + 7) fun x81 e78 h79 n80 => exP x81 (auto_builder_code_j3 ro K e78 h79 n80) (fun i82 => beqP (Nat.beq i82 6) (auto_builder_code_j3 ro K e78 h79 n80) (False)) (∃ h83, Sub h83 h79 ∧ K (e78 6) h83 n80)
@[irreducible] def auto_builder_code_j4 (ro : Ro) (Q : KE) : Env → T Obj → Nat → Prop := fun e h nx => bindP (intB .add (e 65) (Value.int IntKind.i64 1)) fun t125_88 => Q .normal (puts e [(125, t125_88), (65, t125_88)]) h (nx + 2)
@[irreducible] def auto_builder_code_j5 (ro : Ro) (Q : KE) : Env → T Obj → Nat → Prop := fun e h nx => bindP (fwdP 7 (e 14)) fun t111_127 => bindP (load1 ro h t111_127) fun t112_128 => ifP t112_128 true h (nx + 3) (fun k129 => k129 (e 9) h (nx + 4)) fun t114_130 h131 n132 => ifP t112_128 true h131 n132 (fun k133 => bindP (intB .lss t114_130 (Value.int IntKind.i64 0)) fun t115_137 => k133 t115_137 h131 (n132 + 1)) fun t115_134 h135 n136 => ifP t112_128 true h135 n136 (fun k138 => k138 t115_134 h135 (n136 + 1)) fun t116_139 h140 n141 => ifP t116_139 false h140 n141 (fun k142 => bindP (fwdP 6 (e 14)) fun t117_146 => k142 t117_146 h140 (n141 + 1)) fun t117_143 h144 n145 => ifP t116_139 false h144 n145 (fun k147 => bindP (load1 ro h144 t117_143) fun t118_151 => k147 t118_151 h144 (n145 + 1)) fun t118_148 h149 n150 => ifP t116_139 false h149 n150 (fun k152 => k152 (e 9) h149 (n150 + 1)) fun t119_153 h154 n155 => ifP t116_139 false h154 n155 (fun k156 => bindP (intB .lss t118_148 t119_153) fun t120_160 => k156 t120_160 h154 (n155 + 1)) fun t120_157 h158 n159 => ifP t112_128 true h158 n159 (fun k161 => bindP (pickV t116_139 (Value.bool true) t120_157) fun t121_165 => k161 t121_165 h158 (n159 + 1)) fun t121_162 h163 n164 => bindP (pickV t112_128 t121_162 (Value.bool false)) fun t122_166 => condP t122_166 (bindP (fwdP 6 (e 14)) fun t123_167 => bindP (load1 ro h163 t123_167) fun t124_168 => auto_builder_code_j4 ro Q (puts e [(111, t111_127), (112, t112_128), (113, t112_128), (114, t114_130), (115, t115_134), (116, t116_139), (117, t117_143), (118, t118_148), (119, t119_153), (120, t120_157), (121, t121_162), (122, t122_166), (123, t123_167), (124, t124_168), (9, t124_168)]) h163 (n164 + 4)) (auto_builder_code_j4 ro Q (puts e [(111, t111_127), (112, t112_128), (113, t112_128), (114, t114_130), (115, t115_134), (116, t116_139), (117, t117_143), (118, t118_148), (119, t119_153), (120, t120_157), (121, t121_162), (122, t122_166)]) h163 (n164 + 1))
@[irreducible] def auto_builder_code_L3 (ro : Ro) : PT := fun e h nx Q => bindP (intB .lss (e 101) (e 100)) fun t102_172 => condP t102_172 (bindP (ixSl 1 (e 99) (e 101)) fun t103_173 => bindP (load1 ro h t103_173) fun t104_174 => bindP (nilCk (e 0)) fun t106_175 => bindP (fwdP 264 t106_175) fun t107_176 => bindP (load1 ro h t107_176) fun t108_177 => bindP (mapPutV Try.prog h y_map_int_bool t108_177 t104_174 (Value.bool true)) fun h178 => bindP (intB .add (e 101) (Value.int IntKind.i64 1)) fun t110_179 => Q .normal (puts e [(102, t102_172), (103, t103_173), (104, t104_174), (18, t104_174), (105, (e 0)), (106, t106_175), (107, t107_176), (108, t108_177), (109, t104_174), (110, t110_179), (101, t110_179)]) h178 (nx + 12)) (Q (.exit 4) (puts e [(102, t102_172)]) h (nx + 1))
@[irreducible] def auto_builder_code_L2 (ro : Ro) : PT := fun e h nx Q => bindP (intB .lss (e 65) (e 64)) fun t66_87 => condP t66_87 (bindP (ixSl 1 (e 63) (e 65)) fun t67_89 => bindP (load1 ro h t67_89) fun t68_90 => bindP (nilCk (e 0)) fun t70_91 => bindP (fwdP 0 t70_91) fun t71_92 => bindP (fwdP 1 t71_92) fun t72_93 => bindP (load1 ro h t72_93) fun t73_94 => bindP (ixSl 9 t73_94 t68_90) fun t75_95 => bindP (loadA ro h 9 t75_95) fun t76_96 => bindP (zer Try.prog y_api_Pos) fun z97 => newP h (nx + 12) (.cells z97.cells y_api_Pos) fun h98 => bindP (storeN 9 h98 (ptr (nx + 12)) t76_96) fun h99 => bindP (lookV Try.prog h99 y_map_int_uint8 (e 8) t68_90 true) fun t80_100 => bindP (nth 0 t80_100) fun t81_101 => bindP (nth 1 t80_100) fun t82_102 => bindP (nilCk (e 0)) fun t84_103 => bindP (fwdP 265 t84_103) fun t85_104 => bindP (load1 ro h99 t85_104) fun t86_105 => ifP t82_102 true h99 (nx + 29) (fun k106 => k106 t81_101 h99 (nx + 30)) fun t90_107 h108 n109 => ifP t82_102 true h108 n109 (fun k110 => bindP (intB .neq t90_107 (Value.int IntKind.u8 1)) fun t91_114 => k110 t91_114 h108 (n109 + 1)) fun t91_111 h112 n113 => bindP (pickV t82_102 t91_111 (Value.bool false)) fun t92_115 => bindP (mapPutV Try.prog h112 y_map_int_bool t86_105 t68_90 t92_115) fun h116 => ifP t82_102 true h116 (n113 + 4) (fun k117 => k117 t81_101 h116 (n113 + 5)) fun t95_118 h119 n120 => ifP t82_102 true h119 n120 (fun k121 => bindP (intB .eql t95_118 (Value.int IntKind.u8 0)) fun t96_125 => k121 t96_125 h119 (n120 + 1)) fun t96_122 h123 n124 => bindP (pickV t82_102 t96_122 (Value.bool false)) fun t97_126 => condP t97_126 (auto_builder_code_j4 ro Q (puts e [(66, t66_87), (67, t67_89), (68, t68_90), (13, t68_90), (69, (e 0)), (70, t70_91), (71, t71_92), (72, t72_93), (73, t73_94), (74, t68_90), (75, t75_95), (76, t76_96), (14, (ptr (nx + 12))), (78, (e 8)), (79, t68_90), (80, t80_100), (77, t80_100), (81, t81_101), (82, t82_102), (15, t81_101), (16, t82_102), (83, (e 0)), (84, t84_103), (85, t85_104), (86, t86_105), (87, t68_90), (88, t82_102), (89, t82_102), (90, t90_107), (91, t91_111), (92, t92_115), (93, t82_102), (94, t82_102), (95, t95_118), (96, t96_122), (97, t97_126)]) h123 (n124 + 1)) (bindP (fwdP 8 (ptr (nx + 12))) fun t98_169 => bindP (load1 ro h123 t98_169) fun t99_170 => bindP (lenSl t99_170) fun t100_171 => loopP (auto_builder_code_L3 ro) (puts e [(66, t66_87), (67, t67_89), (68, t68_90), (13, t68_90), (69, (e 0)), (70, t70_91), (71, t71_92), (72, t72_93), (73, t73_94), (74, t68_90), (75, t75_95), (76, t76_96), (14, (ptr (nx + 12))), (78, (e 8)), (79, t68_90), (80, t80_100), (77, t80_100), (81, t81_101), (82, t82_102), (15, t81_101), (16, t82_102), (83, (e 0)), (84, t84_103), (85, t85_104), (86, t86_105), (87, t68_90), (88, t82_102), (89, t82_102), (90, t90_107), (91, t91_111), (92, t92_115), (93, t82_102), (94, t82_102), (95, t95_118), (96, t96_122), (97, t97_126), (98, t98_169), (99, t99_170), (100, t100_171), (101, (Value.int IntKind.i64 0))]) h123 (n124 + 5) fun x183 e180 h181 n182 => exP x183 (auto_builder_code_j5 ro Q e180 h181 n182) (fun i184 => beqP (Nat.beq i184 4) (auto_builder_code_j5 ro Q e180 h181 n182) (beqP (Nat.beq i184 3) (auto_builder_code_j4 ro Q e180 h181 n182) (Q (.exit i184) e180 h181 n182))) (Q .ret e180 h181 n182))) (Q (.exit 2) (puts e [(66, t66_87)]) h (nx + 1))
@[irreducible] def auto_builder_code_j1 (ro : Ro) (K : KV) : Env → T Obj → Nat → Prop := fun e h nx => bindP (fwdP 0 (e 7)) fun t62_84 => bindP (load1 ro h t62_84) fun t63_85 => bindP (lenSl t63_85) fun t64_86 => loopP (auto_builder_code_L2 ro) (puts e [(62, t62_84), (63, t63_85), (64, t64_86), (65, (Value.int IntKind.i64 0))]) h (nx + 4) fun x188 e185 h186 n187 => exP x188 (auto_builder_code_j2 ro K e185 h186 n187) (fun i189 => beqP (Nat.beq i189 2) (auto_builder_code_j2 ro K e185 h186 n187) (False)) (∃ h190, Sub h190 h186 ∧ K (e185 6) h190 n187)
@[irreducible] def auto_builder_code_L4 (ro : Ro) : PT := fun e h nx Q => bindP (intB .lss (e 52) (e 51)) fun t53_197 => condP t53_197 (bindP (ixSl 1 (e 50) (e 52)) fun t54_198 => bindP (load1 ro h t54_198) fun t55_199 => bindP (nilCk (e 0)) fun t57_200 => bindP (fwdP 264 t57_200) fun t58_201 => bindP (load1 ro h t58_201) fun t59_202 => bindP (mapPutV Try.prog h y_map_int_bool t59_202 t55_199 (Value.bool true)) fun h203 => bindP (intB .add (e 52) (Value.int IntKind.i64 1)) fun t61_204 => Q .normal (puts e [(53, t53_197), (54, t54_198), (55, t55_199), (11, t55_199), (56, (e 0)), (57, t57_200), (58, t58_201), (59, t59_202), (60, t55_199), (61, t61_204), (52, t61_204)]) h203 (nx + 12)) (Q (.exit 0) (puts e [(53, t53_197)]) h (nx + 1))
@[irreducible] def auto_builder_code (ro : Ro) (v0 v1 v2 : Value) (h : T Obj) (nx : Nat) (K : KV) : Prop := bindP (nilCk v0) fun t25_1 => bindP (fwdP 4 t25_1) fun t26_2 => bindP (fwdP 258 t26_2) fun t27_3 => bindP (load1 ro h t27_3) fun t28_4 => bindP (ixSl 4 t28_4 v1) fun t30_5 => bindP (loadA ro h 4 t30_5) fun t31_6 => bindP (zer Try.prog y_api_State) fun z7 => newP h (nx + 9) (.cells z7.cells y_api_State) fun h8 => bindP (storeN 4 h8 (ptr (nx + 9)) t31_6) fun h9 => bindP (loadA ro h9 4 (ptr (nx + 9))) fun t33_10 => callP Try.prog ro i_auto_builder_digits [v0, t33_10, v2] h9 (nx + 15) fun t35_11 h12 n13 => bindP (nilCk v0) fun t37_14 => bindP (fwdP 264 t37_14) fun t38_15 => bindP (load1 ro h12 t38_15) fun t39_16 => bindP (und Try.prog y_map_int_bool) fun _ => bindP (clearV h12 t39_16) fun h17 => bindP (nilCk v0) fun t41_18 => bindP (fwdP 265 t41_18) fun t42_19 => bindP (load1 ro h17 t42_19) fun t43_20 => bindP (und Try.prog y_map_int_bool) fun _ => bindP (clearV h17 t43_20) fun h21 => bindP (intB .eql v1 (Value.int IntKind.i64 0)) fun t45_191 => condP t45_191 (bindP (nilCk v0) fun t47_192 => bindP (fwdP 0 t47_192) fun t48_193 => bindP (fwdP 0 t48_193) fun t49_194 => bindP (load1 ro h21 t49_194) fun t50_195 => bindP (lenSl t50_195) fun t51_196 => loopP (auto_builder_code_L4 ro) (puts (entE [v0, v1, v2]) [(6, (Value.int IntKind.i64 0)), (24, v0), (25, t25_1), (26, t26_2), (27, t27_3), (28, t28_4), (29, v1), (30, t30_5), (31, t31_6), (7, (ptr (nx + 9))), (32, v0), (33, t33_10), (34, v2), (35, t35_11), (8, t35_11), (36, v0), (37, t37_14), (38, t38_15), (39, t39_16), (40, v0), (41, t41_18), (42, t42_19), (43, t43_20), (9, (Value.int IntKind.i64 (-1))), (44, v1), (45, t45_191), (46, v0), (47, t47_192), (48, t48_193), (49, t49_194), (50, t50_195), (51, t51_196), (52, (Value.int IntKind.i64 0))]) h21 (n13 + 21) fun x208 e205 h206 n207 => exP x208 (auto_builder_code_j1 ro K e205 h206 n207) (fun i209 => beqP (Nat.beq i209 0) (auto_builder_code_j1 ro K e205 h206 n207) (False)) (∃ h210, Sub h210 h206 ∧ K (e205 6) h210 n207)) (auto_builder_code_j1 ro K (puts (entE [v0, v1, v2]) [(6, (Value.int IntKind.i64 0)), (24, v0), (25, t25_1), (26, t26_2), (27, t27_3), (28, t28_4), (29, v1), (30, t30_5), (31, t31_6), (7, (ptr (nx + 9))), (32, v0), (33, t33_10), (34, v2), (35, t35_11), (8, t35_11), (36, v0), (37, t37_14), (38, t38_15), (39, t39_16), (40, v0), (41, t41_18), (42, t42_19), (43, t43_20), (9, (Value.int IntKind.i64 (-1))), (44, v1), (45, t45_191)]) h21 (n13 + 14))
theorem auto_builder_code_eq (ro : Ro) (v0 v1 v2 : Value) (h : T Obj) (nx : Nat) (K : KV) : callPre Try.prog ro (callP Try.prog ro) Try.f27 [v0, v1, v2] h nx K = auto_builder_code ro v0 v1 v2 h nx K := by kernel_rfl
theorem auto_builder_code_of {ro : Ro} {v0 v1 v2 : Value} {h : T Obj} {nx : Nat} {K : KV} (hw : auto_builder_code ro v0 v1 v2 h nx K) : callP Try.prog ro i_auto_builder_code [v0, v1, v2] h nx K := callP_by (P := Try.prog) (fn := Try.f27) (by kernel_rfl) (by kernel_rfl) (by kernel_rfl) (Eq.mpr (auto_builder_code_eq ro v0 v1 v2 h nx K) hw)
@[irreducible] def ref02_Right_j1 (ro : Ro) (K : KV) : Env → T Obj → Nat → Prop := fun e h nx => bindP (fwdP 256 (e 1)) fun t26_2 => bindP (load1 ro h t26_2) fun t27_3 => bindP (intB .eql (e 3) t27_3) fun t28_4 => ∃ h5, Sub h5 h ∧ K t28_4 h5 (nx + 5)
@[irreducible] def ref02_Right_j2 (ro : Ro) (Q : KE) : Env → T Obj → Nat → Prop := fun e h nx => bindP (intB .add (e 4) (Value.int IntKind.i64 1)) fun t8_7 => Q .normal (puts e [(7, (e 4)), (8, t8_7), (4, t8_7)]) h (nx + 3)
@[irreducible] def ref02_Right_L1 (ro : Ro) : PT := fun e h nx Q => bindP (intB .lss (e 4) (Value.int IntKind.i64 256)) fun t6_6 => condP t6_6 (bindP (fwdP 0 (e 1)) fun t10_8 => bindP (ixArr 256 1 t10_8 (e 4)) fun t11_9 => bindP (load1 ro h t11_9) fun t12_10 => bindP (convI .i64 t12_10) fun t13_11 => bindP (intB .gtr t13_11 (e 3)) fun t15_12 => condP t15_12 (Q .ret (puts e [(5, (e 4)), (6, t6_6), (9, (e 4)), (10, t10_8), (11, t11_9), (12, t12_10), (13, t13_11), (14, (e 3)), (15, t15_12), (2, (Value.bool false))]) h (nx + 10)) (bindP (fwdP 0 (e 1)) fun t17_13 => bindP (ixArr 256 1 t17_13 (e 4)) fun t18_14 => bindP (load1 ro h t18_14) fun t19_15 => bindP (convI .i64 t19_15) fun t20_16 => bindP (intB .eql t20_16 (e 3)) fun t22_17 => condP t22_17 (bindP (intB .add (e 3) (Value.int IntKind.i64 1)) fun t24_18 => ref02_Right_j2 ro Q (puts e [(5, (e 4)), (6, t6_6), (9, (e 4)), (10, t10_8), (11, t11_9), (12, t12_10), (13, t13_11), (14, (e 3)), (15, t15_12), (16, (e 4)), (17, t17_13), (18, t18_14), (19, t19_15), (20, t20_16), (21, (e 3)), (22, t22_17), (23, (e 3)), (24, t24_18), (3, t24_18)]) h (nx + 19)) (ref02_Right_j2 ro Q (puts e [(5, (e 4)), (6, t6_6), (9, (e 4)), (10, t10_8), (11, t11_9), (12, t12_10), (13, t13_11), (14, (e 3)), (15, t15_12), (16, (e 4)), (17, t17_13), (18, t18_14), (19, t19_15), (20, t20_16), (21, (e 3)), (22, t22_17)]) h (nx + 16)))) (Q (.exit 0) (puts e [(5, (e 4)), (6, t6_6)]) h (nx + 2))
@[irreducible] def ref02_Right (ro : Ro) (v0 : Value) (h : T Obj) (nx : Nat) (K : KV) : Prop := newP h nx (.cells (Value.cells v0) y_api_Split) fun h1 => loopP (ref02_Right_L1 ro) (puts (entE [v0]) [(1, (ptr nx)), (2, (Value.bool false)), (3, (Value.int IntKind.i64 0)), (4, (Value.int IntKind.i64 0))]) h1 (nx + 4) fun x22 e19 h20 n21 => exP x22 (ref02_Right_j1 ro K e19 h20 n21) (fun i23 => beqP (Nat.beq i23 0) (ref02_Right_j1 ro K e19 h20 n21) (False)) (∃ h24, Sub h24 h20 ∧ K (e19 2) h24 n21)
theorem ref02_Right_eq (ro : Ro) (v0 : Value) (h : T Obj) (nx : Nat) (K : KV) : callPre Try.prog ro (callP Try.prog ro) Try.f34 [v0] h nx K = ref02_Right ro v0 h nx K := by kernel_rfl
theorem ref02_Right_of {ro : Ro} {v0 : Value} {h : T Obj} {nx : Nat} {K : KV} (hw : ref02_Right ro v0 h nx K) : callP Try.prog ro i_ref02_Right [v0] h nx K := callP_by (P := Try.prog) (fn := Try.f34) (by kernel_rfl) (by kernel_rfl) (by kernel_rfl) (Eq.mpr (ref02_Right_eq ro v0 h nx K) hw)
@[irreducible] def glush_rises_j1 (ro : Ro) (K : KV) : Env → T Obj → Nat → Prop := fun e h nx => ∃ h1, Sub h1 h ∧ K (Value.bool true) h1 (nx + 1)
@[irreducible] def glush_rises_L1 (ro : Ro) : PT := fun e h nx Q => bindP (intB .lss (e 10) (e 9)) fun t11_3 => condP t11_3 (bindP (ixSl 1 (e 8) (e 10)) fun t12_4 => bindP (load1 ro h t12_4) fun t13_5 => bindP (intB .leq t13_5 (e 5)) fun t16_6 => ifP t16_6 false h (nx + 8) (fun k7 => k7 t13_5 h (nx + 9)) fun t18_8 h9 n10 => ifP t16_6 false h9 n10 (fun k11 => k11 (e 1) h9 (n10 + 1)) fun t19_12 h13 n14 => ifP t16_6 false h13 n14 (fun k15 => bindP (intB .geq t18_8 t19_12) fun t20_19 => k15 t20_19 h13 (n14 + 1)) fun t20_16 h17 n18 => bindP (pickV t16_6 (Value.bool true) t20_16) fun t21_20 => condP t21_20 (Q .ret (puts e [(11, t11_3), (12, t12_4), (13, t13_5), (7, t13_5), (14, t13_5), (15, (e 5)), (16, t16_6), (17, t16_6), (18, t18_8), (19, t19_12), (20, t20_16), (21, t21_20), (4, (Value.bool false))]) h17 (n18 + 2)) (bindP (intB .add (e 10) (Value.int IntKind.i64 1)) fun t23_21 => Q .normal (puts e [(11, t11_3), (12, t12_4), (13, t13_5), (7, t13_5), (14, t13_5), (15, (e 5)), (16, t16_6), (17, t16_6), (18, t18_8), (19, t19_12), (20, t20_16), (21, t21_20), (22, t13_5), (5, t13_5), (23, t23_21), (10, t23_21)]) h17 (n18 + 5))) (Q (.exit 0) (puts e [(11, t11_3)]) h (nx + 1))
@[irreducible] def glush_rises (ro : Ro) (v0 v1 : Value) (h : T Obj) (nx : Nat) (K : KV) : Prop := bindP (lenSl v0) fun t9_2 => loopP (glush_rises_L1 ro) (puts (entE [v0, v1]) [(4, (Value.bool false)), (5, (Value.int IntKind.i64 (-1))), (8, v0), (9, t9_2), (10, (Value.int IntKind.i64 0))]) h (nx + 5) fun x25 e22 h23 n24 => exP x25 (glush_rises_j1 ro K e22 h23 n24) (fun i26 => beqP (Nat.beq i26 0) (glush_rises_j1 ro K e22 h23 n24) (False)) (∃ h27, Sub h27 h23 ∧ K (e22 4) h27 n24)
theorem glush_rises_eq (ro : Ro) (v0 v1 : Value) (h : T Obj) (nx : Nat) (K : KV) : callPre Try.prog ro (callP Try.prog ro) Try.f46 [v0, v1] h nx K = glush_rises ro v0 v1 h nx K := by kernel_rfl
theorem glush_rises_of {ro : Ro} {v0 v1 : Value} {h : T Obj} {nx : Nat} {K : KV} (hw : glush_rises ro v0 v1 h nx K) : callP Try.prog ro i_glush_rises [v0, v1] h nx K := callP_by (P := Try.prog) (fn := Try.f46) (by kernel_rfl) (by kernel_rfl) (by kernel_rfl) (Eq.mpr (glush_rises_eq ro v0 v1 h nx K) hw)
@[irreducible] def slices_ContainsFunc_api_Pos_api_Pos (ro : Ro) (v0 v1 : Value) (h : T Obj) (nx : Nat) (K : KV) : Prop := callP Try.prog ro i_slices_IndexFunc_api_Pos_api_Pos [v0, v1] h (nx + 4) fun t7_1 h2 n3 => bindP (intB .geq t7_1 (Value.int IntKind.i64 0)) fun t8_4 => ∃ h5, Sub h5 h2 ∧ K t8_4 h5 (n3 + 2)
theorem slices_ContainsFunc_api_Pos_api_Pos_eq (ro : Ro) (v0 v1 : Value) (h : T Obj) (nx : Nat) (K : KV) : callPre Try.prog ro (callP Try.prog ro) Try.f47 [v0, v1] h nx K = slices_ContainsFunc_api_Pos_api_Pos ro v0 v1 h nx K := by kernel_rfl
theorem slices_ContainsFunc_api_Pos_api_Pos_of {ro : Ro} {v0 v1 : Value} {h : T Obj} {nx : Nat} {K : KV} (hw : slices_ContainsFunc_api_Pos_api_Pos ro v0 v1 h nx K) : callP Try.prog ro i_slices_ContainsFunc_api_Pos_api_Pos [v0, v1] h nx K := callP_by (P := Try.prog) (fn := Try.f47) (by kernel_rfl) (by kernel_rfl) (by kernel_rfl) (Eq.mpr (slices_ContainsFunc_api_Pos_api_Pos_eq ro v0 v1 h nx K) hw)
@[irreducible] def glush_Right_1 (ro : Ro) (v0 v1 : Value) (h : T Obj) (nx : Nat) (K : KV) : Prop := newP h nx (.cells (Value.cells v0) y_api_Pos) fun h1 => bindP (loadA ro h1 9 (ptr nx)) fun t4_2 => bindP (fwdP 1 v1) fun t5_3 => bindP (load1 ro h1 t5_3) fun t6_4 => bindP (lenSl t6_4) fun t7_5 => callP Try.prog ro i_glush_may [t4_2, t7_5] h1 (nx + 7) fun t8_6 h7 n8 => bindP (unV .not t8_6) fun t9_9 => ∃ h10, Sub h10 h7 ∧ K t9_9 h10 (n8 + 2)
theorem glush_Right_1_eq (ro : Ro) (v0 v1 : Value) (h : T Obj) (nx : Nat) (K : KV) : callPre Try.prog ro (callP Try.prog ro) Try.f48 [v0, v1] h nx K = glush_Right_1 ro v0 v1 h nx K := by kernel_rfl
theorem glush_Right_1_of {ro : Ro} {v0 v1 : Value} {h : T Obj} {nx : Nat} {K : KV} (hw : glush_Right_1 ro v0 v1 h nx K) : callP Try.prog ro i_glush_Right_1 [v0, v1] h nx K := callP_by (P := Try.prog) (fn := Try.f48) (by kernel_rfl) (by kernel_rfl) (by kernel_rfl) (Eq.mpr (glush_Right_1_eq ro v0 v1 h nx K) hw)
@[irreducible] def glush_may (ro : Ro) (v0 v1 : Value) (h : T Obj) (nx : Nat) (K : KV) : Prop := newP h nx (.cells (Value.cells v0) y_api_Pos) fun h1 => bindP (fwdP 0 (ptr nx)) fun t5_2 => bindP (loadA ro h1 4 t5_2) fun t6_3 => bindP (buildV Try.prog y_api_Set []) fun t7_4 => bindP (plainTy Try.prog 20 y_api_Set) fun ks5 => bindP (aggB ks5 .neq t6_3 t7_4) fun t8_6 => ifP t8_6 true h1 (nx + 7) (fun k7 => bindP (fwdP 4 (ptr nx)) fun t10_11 => k7 t10_11 h1 (nx + 8)) fun t10_8 h9 n10 => ifP t8_6 true h9 n10 (fun k12 => bindP (load1 ro h9 t10_8) fun t11_16 => k12 t11_16 h9 (n10 + 1)) fun t11_13 h14 n15 => ifP t8_6 true h14 n15 (fun k17 => bindP (intB .geq t11_13 (Value.int IntKind.i64 1)) fun t12_21 => k17 t12_21 h14 (n15 + 1)) fun t12_18 h19 n20 => bindP (pickV t8_6 t12_18 (Value.bool false)) fun t13_22 => ifP t13_22 true h19 (n20 + 2) (fun k23 => bindP (fwdP 4 (ptr nx)) fun t15_27 => k23 t15_27 h19 (n20 + 3)) fun t15_24 h25 n26 => ifP t13_22 true h25 n26 (fun k28 => bindP (load1 ro h25 t15_24) fun t16_32 => k28 t16_32 h25 (n26 + 1)) fun t16_29 h30 n31 => ifP t13_22 true h30 n31 (fun k33 => bindP (fwdP 5 (ptr nx)) fun t17_37 => k33 t17_37 h30 (n31 + 1)) fun t17_34 h35 n36 => ifP t13_22 true h35 n36 (fun k38 => bindP (load1 ro h35 t17_34) fun t18_42 => k38 t18_42 h35 (n36 + 1)) fun t18_39 h40 n41 => ifP t13_22 true h40 n41 (fun k43 => bindP (intB .leq t16_29 t18_39) fun t19_47 => k43 t19_47 h40 (n41 + 1)) fun t19_44 h45 n46 => bindP (pickV t13_22 t19_44 (Value.bool false)) fun t20_48 => ifP t20_48 true h45 (n46 + 2) (fun k49 => bindP (fwdP 5 (ptr nx)) fun t22_53 => k49 t22_53 h45 (n46 + 3)) fun t22_50 h51 n52 => ifP t20_48 true h51 n52 (fun k54 => bindP (load1 ro h51 t22_50) fun t23_58 => k54 t23_58 h51 (n52 + 1)) fun t23_55 h56 n57 => ifP t20_48 true h56 n57 (fun k59 => bindP (intB .leq t23_55 (Value.int IntKind.i64 4096)) fun t24_63 => k59 t24_63 h56 (n57 + 1)) fun t24_60 h61 n62 => bindP (pickV t20_48 t24_60 (Value.bool false)) fun t25_64 => ifP t25_64 true h61 (n62 + 2) (fun k65 => bindP (fwdP 6 (ptr nx)) fun t27_69 => k65 t27_69 h61 (n62 + 3)) fun t27_66 h67 n68 => ifP t25_64 true h67 n68 (fun k70 => bindP (load1 ro h67 t27_66) fun t28_74 => k70 t28_74 h67 (n68 + 1)) fun t28_71 h72 n73 => ifP t25_64 true h72 n73 (fun k75 => bindP (intB .geq t28_71 (Value.int IntKind.i64 0)) fun t29_79 => k75 t29_79 h72 (n73 + 1)) fun t29_76 h77 n78 => bindP (pickV t25_64 t29_76 (Value.bool false)) fun t30_80 => ifP t30_80 true h77 (n78 + 2) (fun k81 => bindP (fwdP 6 (ptr nx)) fun t32_85 => k81 t32_85 h77 (n78 + 3)) fun t32_82 h83 n84 => ifP t30_80 true h83 n84 (fun k86 => bindP (load1 ro h83 t32_82) fun t33_90 => k86 t33_90 h83 (n84 + 1)) fun t33_87 h88 n89 => ifP t30_80 true h88 n89 (fun k91 => bindP (intB .lss t33_87 (Value.int IntKind.i64 512)) fun t34_95 => k91 t34_95 h88 (n89 + 1)) fun t34_92 h93 n94 => bindP (pickV t30_80 t34_92 (Value.bool false)) fun t35_96 => ifP t35_96 true h93 (n94 + 2) (fun k97 => bindP (fwdP 8 (ptr nx)) fun t37_101 => k97 t37_101 h93 (n94 + 3)) fun t37_98 h99 n100 => ifP t35_96 true h99 n100 (fun k102 => bindP (load1 ro h99 t37_98) fun t38_106 => k102 t38_106 h99 (n100 + 1)) fun t38_103 h104 n105 => ifP t35_96 true h104 n105 (fun k107 => k107 v1 h104 (n105 + 1)) fun t39_108 h109 n110 => ifP t35_96 true h109 n110 (fun k111 => callP Try.prog ro i_glush_rises [t38_103, t39_108] h109 (n110 + 1) fun t40_115 h116 n117 => k111 t40_115 h116 n117) fun t40_112 h113 n114 => bindP (pickV t35_96 t40_112 (Value.bool false)) fun t41_118 => ∃ h119, Sub h119 h113 ∧ K t41_118 h119 (n114 + 2)
theorem glush_may_eq (ro : Ro) (v0 v1 : Value) (h : T Obj) (nx : Nat) (K : KV) : callPre Try.prog ro (callP Try.prog ro) Try.f49 [v0, v1] h nx K = glush_may ro v0 v1 h nx K := by kernel_rfl
theorem glush_may_of {ro : Ro} {v0 v1 : Value} {h : T Obj} {nx : Nat} {K : KV} (hw : glush_may ro v0 v1 h nx K) : callP Try.prog ro i_glush_may [v0, v1] h nx K := callP_by (P := Try.prog) (fn := Try.f49) (by kernel_rfl) (by kernel_rfl) (by kernel_rfl) (Eq.mpr (glush_may_eq ro v0 v1 h nx K) hw)
@[irreducible] def split_cut_j1 (ro : Ro) (K : KV) : Env → T Obj → Nat → Prop := fun e h nx => bindP (lenV Try.prog h y_map_split_pair_uint8 (e 6)) fun t44_8 => bindP (fwdP 256 (e 5)) fun t45_9 => bindP (storeN 1 h t45_9 t44_8) fun h10 => bindP (loadA ro h10 257 (e 5)) fun t46_11 => bindP (storeN 257 h10 (e 4) t46_11) fun h12 => bindP (loadA ro h12 257 (e 4)) fun r13 => ∃ h14, Sub h14 h12 ∧ K r13 h14 (nx + 6)
@[irreducible] def split_cut_j2 (ro : Ro) (Q : KE) : Env → T Obj → Nat → Prop := fun e h nx => bindP (intB .add (e 12) (Value.int IntKind.i64 1)) fun t42_16 => Q .normal (puts e [(42, t42_16), (12, t42_16)]) h (nx + 2)
@[irreducible] def split_cut_j3 (ro : Ro) (Q : KE) : Env → T Obj → Nat → Prop := fun e h nx => bindP (fwdP 0 (e 5)) fun t40_33 => bindP (ixArr 256 1 t40_33 (e 7)) fun t41_34 => bindP (storeN 1 h t41_34 (e 9)) fun h35 => split_cut_j2 ro Q (puts e [(38, (e 7)), (39, (e 9)), (40, t40_33), (41, t41_34)]) h35 (nx + 5)
@[irreducible] def split_cut_L1 (ro : Ro) : PT := fun e h nx Q => bindP (intB .lss (e 12) (Value.int IntKind.i64 256)) fun t13_15 => condP t13_15 (bindP (fwdP 0 (e 2)) fun t16_17 => bindP (ixArr 256 1 t16_17 (e 12)) fun t17_18 => bindP (load1 ro h t17_18) fun t18_19 => bindP (loadA ro h 4 (e 3)) fun t19_20 => bindP (convI .u8 (e 12)) fun t21_21 => callP Try.prog ro i_bset_Has [t19_20, t21_21] h (nx + 14) fun t22_22 h23 n24 => (sameV t17_18 h h23) ∧ (bindP (buildV Try.prog y_split_pair [(0, t18_19), (1, t22_22)]) fun t23_25 => bindP (zer Try.prog y_split_pair) fun z26 => newP h23 (nx + 12) (.cells z26.cells y_split_pair) fun h27 => bindP (storeN 2 h27 (ptr (nx + 12)) t23_25) fun h28 => bindP (loadA ro h28 2 (ptr (nx + 12))) fun t26_29 => bindP (lookV Try.prog h28 y_map_split_pair_uint8 (e 6) t26_29 true) fun t27_30 => bindP (nth 0 t27_30) fun t28_31 => bindP (nth 1 t27_30) fun t29_32 => bindP (unV .not t29_32) fun t31_36 => condP t31_36 (bindP (lenV Try.prog h28 y_map_split_pair_uint8 (e 6)) fun t33_37 => bindP (convI .u8 t33_37) fun t34_38 => bindP (loadA ro h28 2 (ptr (nx + 12))) fun t36_39 => bindP (mapPutV Try.prog h28 y_map_split_pair_uint8 (e 6) t36_39 t34_38) fun h40 => split_cut_j3 ro Q (puts e [(13, t13_15), (14, (e 12)), (7, (e 12)), (15, (e 12)), (16, t16_17), (17, t17_18), (18, t18_19), (19, t19_20), (20, (e 12)), (21, t21_21), (22, t22_22), (23, t23_25), (8, (ptr (nx + 12))), (25, (e 6)), (26, t26_29), (27, t27_30), (24, t27_30), (28, t28_31), (29, t29_32), (9, t28_31), (10, t29_32), (30, t29_32), (31, t31_36), (32, (e 6)), (33, t33_37), (34, t34_38), (9, t34_38), (35, (e 6)), (36, t36_39), (37, t34_38)]) h40 (n24 + 18)) (split_cut_j3 ro Q (puts e [(13, t13_15), (14, (e 12)), (7, (e 12)), (15, (e 12)), (16, t16_17), (17, t17_18), (18, t18_19), (19, t19_20), (20, (e 12)), (21, t21_21), (22, t22_22), (23, t23_25), (8, (ptr (nx + 12))), (25, (e 6)), (26, t26_29), (27, t27_30), (24, t27_30), (28, t28_31), (29, t29_32), (9, t28_31), (10, t29_32), (30, t29_32), (31, t31_36)]) h28 (n24 + 10)))) (Q (.exit 0) (puts e [(13, t13_15)]) h (nx + 1))
@[irreducible] def split_cut (ro : Ro) (v0 v1 : Value) (h : T Obj) (nx : Nat) (K : KV) : Prop := newP h nx (.cells (Value.cells v0) y_api_Split) fun h1 => newP h1 (nx + 1) (.cells (Value.cells v1) y_api_Set) fun h2 => bindP (zer Try.prog y_api_Split) fun z3 => newP h2 (nx + 2) (.cells z3.cells y_api_Split) fun h4 => bindP (zer Try.prog y_api_Split) fun z5 => newP h4 (nx + 3) (.cells z5.cells y_api_Split) fun h6 => newP h6 (nx + 4) (.map #[] 0) fun h7 => loopP (split_cut_L1 ro) (puts (entE [v0, v1]) [(2, (ptr nx)), (3, (ptr (nx + 1))), (4, (ptr (nx + 2))), (5, (ptr (nx + 3))), (11, (.map (some (nx + 4)))), (6, (.map (some (nx + 4)))), (12, (Value.int IntKind.i64 0))]) h7 (nx + 7) fun x44 e41 h42 n43 => exP x44 (split_cut_j1 ro K e41 h42 n43) (fun i45 => beqP (Nat.beq i45 0) (split_cut_j1 ro K e41 h42 n43) (False)) (bindP (loadA ro h42 257 (e41 4)) fun r46 => ∃ h47, Sub h47 h42 ∧ K r46 h47 n43)
theorem split_cut_eq (ro : Ro) (v0 v1 : Value) (h : T Obj) (nx : Nat) (K : KV) : callPre Try.prog ro (callP Try.prog ro) Try.f50 [v0, v1] h nx K = split_cut ro v0 v1 h nx K := by kernel_rfl
theorem split_cut_of {ro : Ro} {v0 v1 : Value} {h : T Obj} {nx : Nat} {K : KV} (hw : split_cut ro v0 v1 h nx K) : callP Try.prog ro i_split_cut [v0, v1] h nx K := callP_by (P := Try.prog) (fn := Try.f50) (by kernel_rfl) (by kernel_rfl) (by kernel_rfl) (Eq.mpr (split_cut_eq ro v0 v1 h nx K) hw)
@[irreducible] def auto_builder_digits_j1 (ro : Ro) (K : KV) : Env → T Obj → Nat → Prop := fun e h nx => ∃ h3, Sub h3 h ∧ K (e 7) h3 (nx + 2)
@[irreducible] def auto_builder_digits_j2 (ro : Ro) (Q : KE) : Env → T Obj → Nat → Prop := fun e h nx => bindP (intB .add (e 16) (Value.int IntKind.i64 1)) fun t37_8 => Q .normal (puts e [(37, t37_8), (16, t37_8)]) h (nx + 2)
@[irreducible] def auto_builder_digits_L1 (ro : Ro) : PT := fun e h nx Q => bindP (intB .lss (e 16) (e 15)) fun t17_7 => condP t17_7 (bindP (ixSl 1 (e 14) (e 16)) fun t18_9 => bindP (load1 ro h t18_9) fun t19_10 => bindP (nilCk (e 0)) fun t22_11 => bindP (fwdP 2 t22_11) fun t23_12 => bindP (load1 ro h t23_12) fun t24_13 => bindP (lookV Try.prog h y_map_int_int t24_13 t19_10 true) fun t26_14 => bindP (nth 0 t26_14) fun t27_15 => bindP (nth 1 t26_14) fun t28_16 => condP t28_16 (bindP (convI .u8 (e 2)) fun t33_17 => bindP (intB .rem t33_17 (Value.int IntKind.u8 3)) fun t34_18 => bindP (mapPutV Try.prog h y_map_int_uint8 (e 7) t19_10 t34_18) fun h19 => bindP (intB .quo (e 2) (Value.int IntKind.i64 3)) fun t36_20 => auto_builder_digits_j2 ro Q (puts e [(17, t17_7), (18, t18_9), (19, t19_10), (9, t19_10), (21, (e 0)), (22, t22_11), (23, t23_12), (24, t24_13), (25, t19_10), (26, t26_14), (20, t26_14), (27, t27_15), (28, t28_16), (10, t27_15), (11, t28_16), (29, t28_16), (30, (e 7)), (31, t19_10), (32, (e 2)), (33, t33_17), (34, t34_18), (35, (e 2)), (36, t36_20), (2, t36_20)]) h19 (nx + 25)) (auto_builder_digits_j2 ro Q (puts e [(17, t17_7), (18, t18_9), (19, t19_10), (9, t19_10), (21, (e 0)), (22, t22_11), (23, t23_12), (24, t24_13), (25, t19_10), (26, t26_14), (20, t26_14), (27, t27_15), (28, t28_16), (10, t27_15), (11, t28_16), (29, t28_16)]) h (nx + 16))) (Q (.exit 0) (puts e [(17, t17_7)]) h (nx + 1))
@[irreducible] def auto_builder_digits (ro : Ro) (v0 v1 v2 : Value) (h : T Obj) (nx : Nat) (K : KV) : Prop := newP h nx (.cells (Value.cells v1) y_api_State) fun h1 => newP h1 (nx + 2) (.map #[] 0) fun h2 => bindP (fwdP 0 (ptr nx)) fun t13_4 => bindP (load1 ro h2 t13_4) fun t14_5 => bindP (lenSl t14_5) fun t15_6 => loopP (auto_builder_digits_L1 ro) (puts (entE [v0, v1, v2]) [(4, (ptr nx)), (6, (Value.map none)), (12, (.map (some (nx + 2)))), (7, (.map (some (nx + 2)))), (13, t13_4), (14, t14_5), (15, t15_6), (16, (Value.int IntKind.i64 0))]) h2 (nx + 8) fun x24 e21 h22 n23 => exP x24 (auto_builder_digits_j1 ro K e21 h22 n23) (fun i25 => beqP (Nat.beq i25 0) (auto_builder_digits_j1 ro K e21 h22 n23) (False)) (∃ h26, Sub h26 h22 ∧ K (e21 6) h26 n23)
theorem auto_builder_digits_eq (ro : Ro) (v0 v1 v2 : Value) (h : T Obj) (nx : Nat) (K : KV) : callPre Try.prog ro (callP Try.prog ro) Try.f51 [v0, v1, v2] h nx K = auto_builder_digits ro v0 v1 v2 h nx K := by kernel_rfl
theorem auto_builder_digits_of {ro : Ro} {v0 v1 v2 : Value} {h : T Obj} {nx : Nat} {K : KV} (hw : auto_builder_digits ro v0 v1 v2 h nx K) : callP Try.prog ro i_auto_builder_digits [v0, v1, v2] h nx K := callP_by (P := Try.prog) (fn := Try.f51) (by kernel_rfl) (by kernel_rfl) (by kernel_rfl) (Eq.mpr (auto_builder_digits_eq ro v0 v1 v2 h nx K) hw)
@[irreducible] def auto_builder_goes_j1 (ro : Ro) (K : KV) : Env → T Obj → Nat → Prop := fun e h nx => bindP (lenSl (e 6)) fun t92_7 => bindP (intB .eql t92_7 (Value.int IntKind.i64 0)) fun t93_8 => condP t93_8 (bindP (loadA ro h 2 (e 7)) fun t94_9 => bindP (storeN 2 h (e 4) t94_9) fun h10 => bindP (loadA ro h10 2 (e 4)) fun r11 => ∃ h12, Sub h12 h10 ∧ K (.tuple #[r11, (Value.int IntKind.i64 0)]) h12 (nx + 6)) (callP Try.prog ro i_auto_builder_find [(e 0), (e 6)] h (nx + 7) fun t98_13 h14 n15 => bindP (nth 0 t98_13) fun t99_16 => bindP (nth 1 t98_13) fun t100_17 => bindP (fwdP 0 (e 7)) fun t101_18 => bindP (storeN 1 h14 t101_18 t99_16) fun h19 => bindP (loadA ro h19 2 (e 7)) fun t102_20 => bindP (storeN 2 h19 (e 4) t102_20) fun h21 => bindP (loadA ro h21 2 (e 4)) fun r22 => ∃ h23, Sub h23 h21 ∧ K (.tuple #[r22, t100_17]) h23 (n15 + 10))
@[irreducible] def auto_builder_goes_j2 (ro : Ro) (Q : KE) : Env → T Obj → Nat → Prop := fun e h nx => bindP (intB .add (e 21) (Value.int IntKind.i64 1)) fun t90_30 => Q .normal (puts e [(90, t90_30), (21, t90_30)]) h (nx + 2)
@[irreducible] def auto_builder_goes_j4 (ro : Ro) (Q : KE) : Env → T Obj → Nat → Prop := fun e h nx => bindP (fwdP 1 (e 7)) fun t84_128 => bindP (load1 ro h t84_128) fun t85_129 => bindP (sliceLitV Try.prog y_s_uint8 (nx + 3) 1 [(0, (e 12))]) fun r130 => optP h (nx + 3) r130.2 fun h131 => bindP (appendV Try.prog ro h131 (nx + 5) #[y_s_uint8, y_s_uint8] [t85_129, r130.1]) fun r132 => bindP (fwdP 1 (e 7)) fun t89_133 => bindP (storeN 1 r132.2.1 t89_133 r132.1) fun h134 => auto_builder_goes_j2 ro Q (puts e [(84, t84_128), (85, t85_129), (86, (e 12)), (87, r130.1), (88, r132.1), (89, t89_133)]) h134 (r132.2.2 + 2)
@[irreducible] def auto_builder_goes_j3 (ro : Ro) (Q : KE) : Env → T Obj → Nat → Prop := fun e h nx => bindP (nilCk (e 0)) fun t71_135 => bindP (fwdP 265 t71_135) fun t72_136 => bindP (load1 ro h t72_136) fun t73_137 => bindP (lookV Try.prog h y_map_int_bool t73_137 (e 8) false) fun t75_138 => ifP t75_138 true h (nx + 7) (fun k139 => k139 (e 0) h (nx + 8)) fun t77_140 h141 n142 => ifP t75_138 true h141 n142 (fun k143 => bindP (nilCk t77_140) fun t78_147 => k143 t78_147 h141 (n142 + 1)) fun t78_144 h145 n146 => ifP t75_138 true h145 n146 (fun k148 => bindP (fwdP 264 t78_144) fun t79_152 => k148 t79_152 h145 (n146 + 1)) fun t79_149 h150 n151 => ifP t75_138 true h150 n151 (fun k153 => bindP (load1 ro h150 t79_149) fun t80_157 => k153 t80_157 h150 (n151 + 1)) fun t80_154 h155 n156 => ifP t75_138 true h155 n156 (fun k158 => k158 (e 8) h155 (n156 + 1)) fun t81_159 h160 n161 => ifP t75_138 true h160 n161 (fun k162 => bindP (lookV Try.prog h160 y_map_int_bool t80_154 t81_159 false) fun t82_166 => k162 t82_166 h160 (n161 + 1)) fun t82_163 h164 n165 => bindP (pickV t75_138 t82_163 (Value.bool false)) fun t83_167 => condP t83_167 (auto_builder_goes_j4 ro Q (puts e [(70, (e 0)), (71, t71_135), (72, t72_136), (73, t73_137), (74, (e 8)), (75, t75_138), (76, t75_138), (77, t77_140), (78, t78_144), (79, t79_149), (80, t80_154), (81, t81_159), (82, t82_163), (83, t83_167), (12, (Value.int IntKind.u8 2))]) h164 (n165 + 2)) (auto_builder_goes_j4 ro Q (puts e [(70, (e 0)), (71, t71_135), (72, t72_136), (73, t73_137), (74, (e 8)), (75, t75_138), (76, t75_138), (77, t77_140), (78, t78_144), (79, t79_149), (80, t80_154), (81, t81_159), (82, t82_163), (83, t83_167)]) h164 (n165 + 1))
@[irreducible] def auto_builder_goes_L1 (ro : Ro) : PT := fun e h nx Q => bindP (intB .lss (e 21) (e 20)) fun t22_29 => condP t22_29 (bindP (ixSl 9 (e 19) (e 21)) fun t24_31 => bindP (loadA ro h 9 t24_31) fun t25_32 => bindP (zer Try.prog y_api_Pos) fun z33 => newP h (nx + 4) (.cells z33.cells y_api_Pos) fun h34 => bindP (storeN 9 h34 (ptr (nx + 4)) t25_32) fun h35 => bindP (fwdP 0 (ptr (nx + 4))) fun t26_36 => bindP (loadA ro h35 4 t26_36) fun t27_37 => callP Try.prog ro i_bset_Has [t27_37, (e 1)] h35 (nx + 11) fun t29_38 h39 n40 => bindP (unV .not t29_38) fun t30_41 => ifP t30_41 false h39 (n40 + 2) (fun k42 => k42 (e 0) h39 (n40 + 3)) fun t32_43 h44 n45 => ifP t30_41 false h44 n45 (fun k46 => bindP (nilCk t32_43) fun t33_50 => k46 t33_50 h44 (n45 + 1)) fun t33_47 h48 n49 => ifP t30_41 false h48 n49 (fun k51 => bindP (fwdP 264 t33_47) fun t34_55 => k51 t34_55 h48 (n49 + 1)) fun t34_52 h53 n54 => ifP t30_41 false h53 n54 (fun k56 => bindP (load1 ro h53 t34_52) fun t35_60 => k56 t35_60 h53 (n54 + 1)) fun t35_57 h58 n59 => ifP t30_41 false h58 n59 (fun k61 => k61 (e 21) h58 (n59 + 1)) fun t36_62 h63 n64 => ifP t30_41 false h63 n64 (fun k65 => bindP (lookV Try.prog h63 y_map_int_bool t35_57 t36_62 false) fun t37_69 => k65 t37_69 h63 (n64 + 1)) fun t37_66 h67 n68 => ifP t30_41 false h67 n68 (fun k70 => bindP (unV .not t37_66) fun t38_74 => k70 t38_74 h67 (n68 + 1)) fun t38_71 h72 n73 => ifP t30_41 false h72 n73 (fun k75 => k75 t38_71 h72 (n73 + 1)) fun t39_76 h77 n78 => ifP t39_76 true h77 n78 (fun k79 => k79 (e 0) h77 (n78 + 1)) fun t40_80 h81 n82 => ifP t39_76 true h81 n82 (fun k83 => bindP (nilCk t40_80) fun t41_87 => k83 t41_87 h81 (n82 + 1)) fun t41_84 h85 n86 => ifP t39_76 true h85 n86 (fun k88 => bindP (fwdP 265 t41_84) fun t42_92 => k88 t42_92 h85 (n86 + 1)) fun t42_89 h90 n91 => ifP t39_76 true h90 n91 (fun k93 => bindP (load1 ro h90 t42_89) fun t43_97 => k93 t43_97 h90 (n91 + 1)) fun t43_94 h95 n96 => ifP t39_76 true h95 n96 (fun k98 => k98 (e 21) h95 (n96 + 1)) fun t44_99 h100 n101 => ifP t39_76 true h100 n101 (fun k102 => bindP (lookV Try.prog h100 y_map_int_bool t43_94 t44_99 false) fun t45_106 => k102 t45_106 h100 (n101 + 1)) fun t45_103 h104 n105 => ifP t39_76 true h104 n105 (fun k107 => bindP (unV .not t45_103) fun t46_111 => k107 t46_111 h104 (n105 + 1)) fun t46_108 h109 n110 => ifP t30_41 false h109 n110 (fun k112 => bindP (pickV t39_76 t46_108 (Value.bool false)) fun t47_116 => k112 t47_116 h109 (n110 + 1)) fun t47_113 h114 n115 => bindP (pickV t30_41 (Value.bool true) t47_113) fun t48_117 => condP t48_117 (auto_builder_goes_j2 ro Q (puts e [(22, t22_29), (23, (e 21)), (24, t24_31), (25, t25_32), (9, (ptr (nx + 4))), (8, (e 21)), (26, t26_36), (27, t27_37), (28, (e 1)), (29, t29_38), (30, t30_41), (31, t30_41), (32, t32_43), (33, t33_47), (34, t34_52), (35, t35_57), (36, t36_62), (37, t37_66), (38, t38_71), (39, t39_76), (40, t40_80), (41, t41_84), (42, t42_89), (43, t43_94), (44, t44_99), (45, t45_103), (46, t46_108), (47, t47_113), (48, t48_117)]) h114 (n115 + 1)) (bindP (sliceLitV Try.prog y_s_int (n115 + 3) 1 [(0, (e 21))]) fun r118 => optP h114 (n115 + 3) r118.2 fun h119 => bindP (appendV Try.prog ro h119 (n115 + 5) #[y_s_int, y_s_int] [(e 6), r118.1]) fun r120 => bindP (nilCk (e 0)) fun t55_121 => bindP (fwdP 2 t55_121) fun t56_122 => bindP (load1 ro r120.2.1 t56_122) fun t57_123 => bindP (lookV Try.prog r120.2.1 y_map_int_int t57_123 (e 21) true) fun t59_124 => bindP (nth 0 t59_124) fun t60_125 => bindP (nth 1 t59_124) fun t61_126 => bindP (unV .not t61_126) fun t63_127 => condP t63_127 (auto_builder_goes_j2 ro Q (puts e [(22, t22_29), (23, (e 21)), (24, t24_31), (25, t25_32), (9, (ptr (nx + 4))), (8, (e 21)), (26, t26_36), (27, t27_37), (28, (e 1)), (29, t29_38), (30, t30_41), (31, t30_41), (32, t32_43), (33, t33_47), (34, t34_52), (35, t35_57), (36, t36_62), (37, t37_66), (38, t38_71), (39, t39_76), (40, t40_80), (41, t41_84), (42, t42_89), (43, t43_94), (44, t44_99), (45, t45_103), (46, t46_108), (47, t47_113), (48, t48_117), (49, (e 6)), (50, (e 21)), (51, r118.1), (52, r120.1), (6, r120.1), (54, (e 0)), (55, t55_121), (56, t56_122), (57, t57_123), (58, (e 21)), (59, t59_124), (53, t59_124), (60, t60_125), (61, t61_126), (10, t60_125), (11, t61_126), (62, t61_126), (63, t63_127)]) r120.2.1 (r120.2.2 + 14)) (bindP (nilCk (e 0)) fun t65_168 => bindP (fwdP 265 t65_168) fun t66_169 => bindP (load1 ro r120.2.1 t66_169) fun t67_170 => bindP (lookV Try.prog r120.2.1 y_map_int_bool t67_170 (e 21) false) fun t69_171 => condP t69_171 (auto_builder_goes_j3 ro Q (puts e [(22, t22_29), (23, (e 21)), (24, t24_31), (25, t25_32), (9, (ptr (nx + 4))), (8, (e 21)), (26, t26_36), (27, t27_37), (28, (e 1)), (29, t29_38), (30, t30_41), (31, t30_41), (32, t32_43), (33, t33_47), (34, t34_52), (35, t35_57), (36, t36_62), (37, t37_66), (38, t38_71), (39, t39_76), (40, t40_80), (41, t41_84), (42, t42_89), (43, t43_94), (44, t44_99), (45, t45_103), (46, t46_108), (47, t47_113), (48, t48_117), (49, (e 6)), (50, (e 21)), (51, r118.1), (52, r120.1), (6, r120.1), (54, (e 0)), (55, t55_121), (56, t56_122), (57, t57_123), (58, (e 21)), (59, t59_124), (53, t59_124), (60, t60_125), (61, t61_126), (10, t60_125), (11, t61_126), (62, t61_126), (63, t63_127), (12, (Value.int IntKind.u8 3)), (64, (e 0)), (65, t65_168), (66, t66_169), (67, t67_170), (68, (e 21)), (69, t69_171), (12, (Value.int IntKind.u8 1))]) r120.2.1 (r120.2.2 + 22)) (auto_builder_goes_j3 ro Q (puts e [(22, t22_29), (23, (e 21)), (24, t24_31), (25, t25_32), (9, (ptr (nx + 4))), (8, (e 21)), (26, t26_36), (27, t27_37), (28, (e 1)), (29, t29_38), (30, t30_41), (31, t30_41), (32, t32_43), (33, t33_47), (34, t34_52), (35, t35_57), (36, t36_62), (37, t37_66), (38, t38_71), (39, t39_76), (40, t40_80), (41, t41_84), (42, t42_89), (43, t43_94), (44, t44_99), (45, t45_103), (46, t46_108), (47, t47_113), (48, t48_117), (49, (e 6)), (50, (e 21)), (51, r118.1), (52, r120.1), (6, r120.1), (54, (e 0)), (55, t55_121), (56, t56_122), (57, t57_123), (58, (e 21)), (59, t59_124), (53, t59_124), (60, t60_125), (61, t61_126), (10, t60_125), (11, t61_126), (62, t61_126), (63, t63_127), (12, (Value.int IntKind.u8 3)), (64, (e 0)), (65, t65_168), (66, t66_169), (67, t67_170), (68, (e 21)), (69, t69_171)]) r120.2.1 (r120.2.2 + 21))))) (Q (.exit 0) (puts e [(22, t22_29)]) h (nx + 1))
@[irreducible] def auto_builder_goes (ro : Ro) (v0 v1 : Value) (h : T Obj) (nx : Nat) (K : KV) : Prop := bindP (zer Try.prog y_api_Move) fun z1 => newP h nx (.cells z1.cells y_api_Move) fun h2 => bindP (buildV Try.prog y_api_Move [(0, (Value.int IntKind.i64 (-1)))]) fun t14_3 => bindP (zer Try.prog y_api_Move) fun z4 => newP h2 (nx + 4) (.cells z4.cells y_api_Move) fun h5 => bindP (storeN 2 h5 (ptr (nx + 4)) t14_3) fun h6 => bindP (nilCk v0) fun t16_24 => bindP (fwdP 0 t16_24) fun t17_25 => bindP (fwdP 1 t17_25) fun t18_26 => bindP (load1 ro h6 t18_26) fun t19_27 => bindP (lenSl t19_27) fun t20_28 => loopP (auto_builder_goes_L1 ro) (puts (entE [v0, v1]) [(4, (ptr nx)), (5, (Value.int IntKind.i64 0)), (6, (Value.slice none 0 0)), (14, t14_3), (7, (ptr (nx + 4))), (15, v0), (16, t16_24), (17, t17_25), (18, t18_26), (19, t19_27), (20, t20_28), (21, (Value.int IntKind.i64 0))]) h6 (nx + 13) fun x175 e172 h173 n174 => exP x175 (auto_builder_goes_j1 ro K e172 h173 n174) (fun i176 => beqP (Nat.beq i176 0) (auto_builder_goes_j1 ro K e172 h173 n174) (False)) (bindP (loadA ro h173 2 (e172 4)) fun r177 => ∃ h178, Sub h178 h173 ∧ K (.tuple #[r177, (e172 5)]) h178 n174)
theorem auto_builder_goes_eq (ro : Ro) (v0 v1 : Value) (h : T Obj) (nx : Nat) (K : KV) : callPre Try.prog ro (callP Try.prog ro) Try.f52 [v0, v1] h nx K = auto_builder_goes ro v0 v1 h nx K := by kernel_rfl
theorem auto_builder_goes_of {ro : Ro} {v0 v1 : Value} {h : T Obj} {nx : Nat} {K : KV} (hw : auto_builder_goes ro v0 v1 h nx K) : callP Try.prog ro i_auto_builder_goes [v0, v1] h nx K := callP_by (P := Try.prog) (fn := Try.f52) (by kernel_rfl) (by kernel_rfl) (by kernel_rfl) (Eq.mpr (auto_builder_goes_eq ro v0 v1 h nx K) hw)
@[irreducible] def ref01_Has (ro : Ro) (v0 v1 : Value) (h : T Obj) (nx : Nat) (K : KV) : Prop := newP h nx (.cells (Value.cells v0) y_api_Set) fun h1 => bindP (intB .quo v1 (Value.int IntKind.u8 64)) fun t6_2 => bindP (ixArr 4 1 (ptr nx) t6_2) fun t7_3 => bindP (load1 ro h1 t7_3) fun t8_4 => bindP (intB .rem v1 (Value.int IntKind.u8 64)) fun t10_5 => bindP (intB .shr t8_4 t10_5) fun t11_6 => bindP (intB .rem t11_6 (Value.int IntKind.u64 2)) fun t12_7 => bindP (intB .eql t12_7 (Value.int IntKind.u64 1)) fun t13_8 => ∃ h9, Sub h9 h1 ∧ K t13_8 h9 (nx + 12)
theorem ref01_Has_eq (ro : Ro) (v0 v1 : Value) (h : T Obj) (nx : Nat) (K : KV) : callPre Try.prog ro (callP Try.prog ro) Try.f56 [v0, v1] h nx K = ref01_Has ro v0 v1 h nx K := by kernel_rfl
theorem ref01_Has_of {ro : Ro} {v0 v1 : Value} {h : T Obj} {nx : Nat} {K : KV} (hw : ref01_Has ro v0 v1 h nx K) : callP Try.prog ro i_ref01_Has [v0, v1] h nx K := callP_by (P := Try.prog) (fn := Try.f56) (by kernel_rfl) (by kernel_rfl) (by kernel_rfl) (Eq.mpr (ref01_Has_eq ro v0 v1 h nx K) hw)
@[irreducible] def slices_IndexFunc_api_Pos_api_Pos_j1 (ro : Ro) (K : KV) : Env → T Obj → Nat → Prop := fun e h nx => ∃ h1, Sub h1 h ∧ K (Value.int IntKind.i64 (-1)) h1 (nx + 1)
@[irreducible] def slices_IndexFunc_api_Pos_api_Pos_L1 (ro : Ro) : PT := fun e h nx Q => bindP (intB .lss (e 8) (e 7)) fun t9_3 => condP t9_3 (bindP (ixSl 9 (e 0) (e 8)) fun t14_4 => bindP (loadA ro h 9 t14_4) fun t15_5 => callF (callP Try.prog ro) (e 1) [t15_5] h (nx + 9) fun t16_6 h7 n8 => condP t16_6 (Q .ret (puts e [(9, t9_3), (10, (e 8)), (5, (e 8)), (11, (e 1)), (12, (e 0)), (13, (e 8)), (14, t14_4), (15, t15_5), (16, t16_6), (17, (e 8)), (4, (e 8))]) h7 (n8 + 2)) (bindP (intB .add (e 8) (Value.int IntKind.i64 1)) fun t18_9 => Q .normal (puts e [(9, t9_3), (10, (e 8)), (5, (e 8)), (11, (e 1)), (12, (e 0)), (13, (e 8)), (14, t14_4), (15, t15_5), (16, t16_6), (18, t18_9), (8, t18_9)]) h7 (n8 + 2))) (Q (.exit 0) (puts e [(9, t9_3)]) h (nx + 1))
@[irreducible] def slices_IndexFunc_api_Pos_api_Pos (ro : Ro) (v0 v1 : Value) (h : T Obj) (nx : Nat) (K : KV) : Prop := bindP (lenSl v0) fun t7_2 => loopP (slices_IndexFunc_api_Pos_api_Pos_L1 ro) (puts (entE [v0, v1]) [(4, (Value.int IntKind.i64 0)), (6, v0), (7, t7_2), (8, (Value.int IntKind.i64 0))]) h (nx + 4) fun x13 e10 h11 n12 => exP x13 (slices_IndexFunc_api_Pos_api_Pos_j1 ro K e10 h11 n12) (fun i14 => beqP (Nat.beq i14 0) (slices_IndexFunc_api_Pos_api_Pos_j1 ro K e10 h11 n12) (False)) (∃ h15, Sub h15 h11 ∧ K (e10 4) h15 n12)
theorem slices_IndexFunc_api_Pos_api_Pos_eq (ro : Ro) (v0 v1 : Value) (h : T Obj) (nx : Nat) (K : KV) : callPre Try.prog ro (callP Try.prog ro) Try.f81 [v0, v1] h nx K = slices_IndexFunc_api_Pos_api_Pos ro v0 v1 h nx K := by kernel_rfl
theorem slices_IndexFunc_api_Pos_api_Pos_of {ro : Ro} {v0 v1 : Value} {h : T Obj} {nx : Nat} {K : KV} (hw : slices_IndexFunc_api_Pos_api_Pos ro v0 v1 h nx K) : callP Try.prog ro i_slices_IndexFunc_api_Pos_api_Pos [v0, v1] h nx K := callP_by (P := Try.prog) (fn := Try.f81) (by kernel_rfl) (by kernel_rfl) (by kernel_rfl) (Eq.mpr (slices_IndexFunc_api_Pos_api_Pos_eq ro v0 v1 h nx K) hw)
@[irreducible] def bset_Has (ro : Ro) (v0 v1 : Value) (h : T Obj) (nx : Nat) (K : KV) : Prop := newP h nx (.cells (Value.cells v0) y_api_Set) fun h1 => bindP (intB .quo v1 (Value.int IntKind.u8 64)) fun t6_2 => bindP (ixArr 4 1 (ptr nx) t6_2) fun t7_3 => bindP (load1 ro h1 t7_3) fun t8_4 => bindP (intB .rem v1 (Value.int IntKind.u8 64)) fun t10_5 => bindP (intB .shr t8_4 t10_5) fun t11_6 => bindP (intB .and t11_6 (Value.int IntKind.u64 1)) fun t12_7 => bindP (intB .eql t12_7 (Value.int IntKind.u64 1)) fun t13_8 => ∃ h9, Sub h9 h1 ∧ K t13_8 h9 (nx + 12)
theorem bset_Has_eq (ro : Ro) (v0 v1 : Value) (h : T Obj) (nx : Nat) (K : KV) : callPre Try.prog ro (callP Try.prog ro) Try.f82 [v0, v1] h nx K = bset_Has ro v0 v1 h nx K := by kernel_rfl
theorem bset_Has_of {ro : Ro} {v0 v1 : Value} {h : T Obj} {nx : Nat} {K : KV} (hw : bset_Has ro v0 v1 h nx K) : callP Try.prog ro i_bset_Has [v0, v1] h nx K := callP_by (P := Try.prog) (fn := Try.f82) (by kernel_rfl) (by kernel_rfl) (by kernel_rfl) (Eq.mpr (bset_Has_eq ro v0 v1 h nx K) hw)
@[irreducible] def auto_builder_find_j1 (ro : Ro) (K : KV) : Env → T Obj → Nat → Prop := fun e h nx => bindP (lenSl (e 8)) fun t49_11 => bindP (intB .gtr t49_11 (Value.int IntKind.i64 3)) fun t50_12 => condP t50_12 (∃ h13, Sub h13 h ∧ K (.tuple #[(Value.int IntKind.i64 0), (Value.int IntKind.i64 110)]) h13 (nx + 6)) (bindP (nilCk (e 0)) fun t53_14 => bindP (fwdP 4 t53_14) fun t54_15 => bindP (fwdP 258 t54_15) fun t55_16 => bindP (load1 ro h t55_16) fun t56_17 => bindP (lenSl t56_17) fun t57_18 => bindP (intB .geq t57_18 (Value.int IntKind.i64 256)) fun t58_19 => condP t58_19 (∃ h20, Sub h20 h ∧ K (.tuple #[(Value.int IntKind.i64 0), (Value.int IntKind.i64 3)]) h20 (nx + 14)) (bindP (nilCk (e 0)) fun t60_21 => bindP (fwdP 4 t60_21) fun t61_22 => bindP (fwdP 258 t61_22) fun t62_23 => bindP (load1 ro h t62_23) fun t63_24 => bindP (lenSl t63_24) fun t64_25 => bindP (nilCk (e 0)) fun t66_26 => bindP (fwdP 263 t66_26) fun t67_27 => bindP (load1 ro h t67_27) fun t68_28 => callP Try.prog ro i_auto_key [(e 1)] h (nx + 27) fun t70_29 h30 n31 => (sameV t67_27 h h30) ∧ (bindP (mapPutV Try.prog h30 y_map_string_int t68_28 t70_29 t64_25) fun h32 => bindP (nilCk (e 0)) fun t74_33 => bindP (fwdP 4 t74_33) fun t75_34 => bindP (fwdP 258 t75_34) fun t76_35 => bindP (load1 ro h32 t76_35) fun t77_36 => bindP (buildV Try.prog y_api_State [(0, (e 1)), (1, (e 8))]) fun t80_37 => bindP (sliceLitV Try.prog y_s_api_State (n31 + 9) 1 [(0, t80_37)]) fun r38 => optP h32 (n31 + 9) r38.2 fun h39 => bindP (appendV Try.prog ro h39 (n31 + 11) #[y_s_api_State, y_s_api_State] [t77_36, r38.1]) fun r40 => bindP (nilCk (e 0)) fun t83_41 => bindP (fwdP 4 t83_41) fun t84_42 => bindP (fwdP 258 t84_42) fun t85_43 => bindP (storeN 1 r40.2.1 t85_43 r40.1) fun h44 => ∃ h45, Sub h45 h44 ∧ K (.tuple #[t64_25, (Value.int IntKind.i64 0)]) h45 (r40.2.2 + 7))))
@[irreducible] def auto_builder_find_j2 (ro : Ro) (Q : KE) : Env → T Obj → Nat → Prop := fun e h nx => bindP (intB .add (e 28) (Value.int IntKind.i64 1)) fun t46_48 => Q .normal (puts e [(46, t46_48), (28, t46_48)]) h (nx + 2)
@[irreducible] def auto_builder_find_L1 (ro : Ro) : PT := fun e h nx Q => bindP (intB .lss (e 28) (e 27)) fun t29_47 => condP t29_47 (bindP (ixSl 1 (e 26) (e 28)) fun t30_49 => bindP (load1 ro h t30_49) fun t31_50 => bindP (nilCk (e 0)) fun t34_51 => bindP (fwdP 2 t34_51) fun t35_52 => bindP (load1 ro h t35_52) fun t36_53 => bindP (lookV Try.prog h y_map_int_int t36_53 t31_50 true) fun t38_54 => bindP (nth 0 t38_54) fun t39_55 => bindP (nth 1 t38_54) fun t40_56 => condP t40_56 (bindP (sliceLitV Try.prog y_s_int (nx + 18) 1 [(0, t39_55)]) fun r57 => optP h (nx + 18) r57.2 fun h58 => bindP (appendV Try.prog ro h58 (nx + 20) #[y_s_int, y_s_int] [(e 8), r57.1]) fun r59 => auto_builder_find_j2 ro Q (puts e [(29, t29_47), (30, t30_49), (31, t31_50), (10, t31_50), (33, (e 0)), (34, t34_51), (35, t35_52), (36, t36_53), (37, t31_50), (38, t38_54), (32, t38_54), (39, t39_55), (40, t40_56), (11, t39_55), (12, t40_56), (41, t40_56), (42, (e 8)), (43, t39_55), (44, r57.1), (45, r59.1), (8, r59.1)]) r59.2.1 (r59.2.2 + 1)) (auto_builder_find_j2 ro Q (puts e [(29, t29_47), (30, t30_49), (31, t31_50), (10, t31_50), (33, (e 0)), (34, t34_51), (35, t35_52), (36, t36_53), (37, t31_50), (38, t38_54), (32, t38_54), (39, t39_55), (40, t40_56), (11, t39_55), (12, t40_56), (41, t40_56)]) h (nx + 16))) (Q (.exit 0) (puts e [(29, t29_47)]) h (nx + 1))
@[irreducible] def auto_builder_find (ro : Ro) (v0 v1 : Value) (h : T Obj) (nx : Nat) (K : KV) : Prop := bindP (nilCk v0) fun t16_1 => bindP (fwdP 263 t16_1) fun t17_2 => bindP (load1 ro h t17_2) fun t18_3 => callP Try.prog ro i_auto_key [v1] h (nx + 14) fun t20_4 h5 n6 => (sameV t17_2 h h5) ∧ (bindP (lookV Try.prog h5 y_map_string_int t18_3 t20_4 true) fun t21_7 => bindP (nth 0 t21_7) fun t22_8 => bindP (nth 1 t21_7) fun t23_9 => condP t23_9 (∃ h10, Sub h10 h5 ∧ K (.tuple #[t22_8, (Value.int IntKind.i64 0)]) h10 (n6 + 4)) (bindP (lenSl v1) fun t27_46 => loopP (auto_builder_find_L1 ro) (puts (entE [v0, v1]) [(4, (Value.int IntKind.i64 0)), (5, (Value.int IntKind.i64 0)), (15, v0), (16, t16_1), (17, t17_2), (18, t18_3), (19, v1), (20, t20_4), (21, t21_7), (14, t21_7), (22, t22_8), (23, t23_9), (6, t22_8), (7, t23_9), (24, t23_9), (8, (Value.slice none 0 0)), (26, v1), (27, t27_46), (28, (Value.int IntKind.i64 0))]) h5 (n6 + 5) fun x63 e60 h61 n62 => exP x63 (auto_builder_find_j1 ro K e60 h61 n62) (fun i64 => beqP (Nat.beq i64 0) (auto_builder_find_j1 ro K e60 h61 n62) (False)) (∃ h65, Sub h65 h61 ∧ K (.tuple #[(e60 4), (e60 5)]) h65 n62)))
theorem auto_builder_find_eq (ro : Ro) (v0 v1 : Value) (h : T Obj) (nx : Nat) (K : KV) : callPre Try.prog ro (callP Try.prog ro) Try.f83 [v0, v1] h nx K = auto_builder_find ro v0 v1 h nx K := by kernel_rfl
theorem auto_builder_find_of {ro : Ro} {v0 v1 : Value} {h : T Obj} {nx : Nat} {K : KV} (hw : auto_builder_find ro v0 v1 h nx K) : callP Try.prog ro i_auto_builder_find [v0, v1] h nx K := callP_by (P := Try.prog) (fn := Try.f83) (by kernel_rfl) (by kernel_rfl) (by kernel_rfl) (Eq.mpr (auto_builder_find_eq ro v0 v1 h nx K) hw)
@[irreducible] def auto_key_j1 (ro : Ro) (K : KV) : Env → T Obj → Nat → Prop := fun e h nx => bindP (convV Try.prog ro h (nx + 1) y_s_uint8 y_string (e 3)) fun r5 => optP h (nx + 1) r5.2 fun h6 => ∃ h7, Sub h7 h6 ∧ K r5.1 h7 (nx + 3)
@[irreducible] def auto_key_L1 (ro : Ro) : PT := fun e h nx Q => bindP (intB .lss (e 12) (e 11)) fun t13_9 => condP t13_9 (bindP (ixSl 1 (e 10) (e 12)) fun t14_10 => bindP (load1 ro h t14_10) fun t15_11 => bindP (intB .shr t15_11 (Value.int IntKind.u64 8)) fun t18_12 => bindP (convI .u8 t18_12) fun t19_13 => bindP (convI .u8 t15_11) fun t21_14 => bindP (sliceLitV Try.prog y_s_uint8 (nx + 10) 2 [(0, t19_13), (1, t21_14)]) fun r15 => optP h (nx + 10) r15.2 fun h16 => bindP (appendV Try.prog ro h16 (nx + 12) #[y_s_uint8, y_s_uint8] [(e 3), r15.1]) fun r17 => bindP (intB .add (e 12) (Value.int IntKind.i64 1)) fun t24_18 => Q .normal (puts e [(13, t13_9), (14, t14_10), (15, t15_11), (5, t15_11), (16, (e 3)), (17, t15_11), (18, t18_12), (19, t19_13), (20, t15_11), (21, t21_14), (22, r15.1), (23, r17.1), (3, r17.1), (24, t24_18), (12, t24_18)]) r17.2.1 (r17.2.2 + 3)) (Q (.exit 0) (puts e [(13, t13_9)]) h (nx + 1))
@[irreducible] def auto_key (ro : Ro) (v0 : Value) (h : T Obj) (nx : Nat) (K : KV) : Prop := bindP (lenSl v0) fun t7_1 => bindP (intB .mul (Value.int IntKind.i64 2) t7_1) fun t8_2 => bindP (makeV Try.prog y_s_uint8 (nx + 4) (Value.int IntKind.i64 0) t8_2) fun r3 => optP h (nx + 4) r3.2 fun h4 => bindP (lenSl v0) fun t11_8 => loopP (auto_key_L1 ro) (puts (entE [v0]) [(2, (Value.string { data := #[] })), (6, v0), (7, t7_1), (8, t8_2), (9, r3.1), (3, r3.1), (10, v0), (11, t11_8), (12, (Value.int IntKind.i64 0))]) h4 (nx + 9) fun x22 e19 h20 n21 => exP x22 (auto_key_j1 ro K e19 h20 n21) (fun i23 => beqP (Nat.beq i23 0) (auto_key_j1 ro K e19 h20 n21) (False)) (∃ h24, Sub h24 h20 ∧ K (e19 2) h24 n21)
theorem auto_key_eq (ro : Ro) (v0 : Value) (h : T Obj) (nx : Nat) (K : KV) : callPre Try.prog ro (callP Try.prog ro) Try.f101 [v0] h nx K = auto_key ro v0 h nx K := by kernel_rfl
theorem auto_key_of {ro : Ro} {v0 : Value} {h : T Obj} {nx : Nat} {K : KV} (hw : auto_key ro v0 h nx K) : callP Try.prog ro i_auto_key [v0] h nx K := callP_by (P := Try.prog) (fn := Try.f101) (by kernel_rfl) (by kernel_rfl) (by kernel_rfl) (Eq.mpr (auto_key_eq ro v0 h nx K) hw)
end V
end Go.Proofs.Ytmmdcdjkmakgpaa

set_option linter.unusedVariables false
set_option linter.unusedSimpArgs false
namespace Go.Proofs.Ytmmdcdjkmakgpaa
namespace PA
def word (m i : Nat) : Nat := m / 2 ^ (64 * i) % 2 ^ 64
theorem word_lt (m i : Nat) : word m i < 18446744073709551616 := by unfold word; exact Nat.mod_lt _ (by decide)
theorem testBit_word (m i j : Nat) : (word m i).testBit j = (decide (j < 64) && m.testBit (64 * i + j)) := by
  unfold word
  rw [Nat.testBit_mod_two_pow, Nat.testBit_div_two_pow, Nat.add_comm]
theorem word_has (m b : Nat) : (word m (b / 64) / 2 ^ (b % 64) % 2 = 1) ↔ m.testBit b = true := by
  have h := testBit_word m (b / 64) (b % 64)
  rw [Nat.testBit_eq_decide_div_mod_eq] at h
  have h1 : b % 64 < 64 := Nat.mod_lt _ (by decide)
  rw [Nat.div_add_mod] at h
  simp only [h1, decide_true, Bool.true_and] at h
  rw [← h]; simp
theorem set_ext {m n : Nat} (hm : m < 2 ^ 256) (hn : n < 2 ^ 256) (h : ∀ b, b < 256 → m.testBit b = n.testBit b) : m = n := by
  apply Nat.eq_of_testBit_eq
  intro j
  by_cases hj : j < 256
  · exact h j hj
  · rw [Nat.testBit_lt_two_pow (Nat.lt_of_lt_of_le hm (Nat.pow_le_pow_right (by decide) (by omega))), Nat.testBit_lt_two_pow (Nat.lt_of_lt_of_le hn (Nat.pow_le_pow_right (by decide) (by omega)))]
theorem word_ext {m n : Nat} (hm : m < 2 ^ 256) (hn : n < 2 ^ 256) (h : ∀ i, i < 4 → word m i = word n i) : m = n := by
  refine set_ext hm hn fun b hb => ?_
  have h1 := testBit_word m (b / 64) (b % 64)
  have h2 := testBit_word n (b / 64) (b % 64)
  rw [h (b / 64) (by omega), h2, Nat.div_add_mod] at h1
  have h3 : b % 64 < 64 := Nat.mod_lt _ (by decide)
  simpa [h3] using h1.symm
def ofWords (a b c d : Nat) : Nat := a + 2 ^ 64 * b + 2 ^ 128 * c + 2 ^ 192 * d
theorem ofWords_lt {a b c d : Nat} (ha : a < 2 ^ 64) (hb : b < 2 ^ 64) (hc : c < 2 ^ 64) (hd : d < 2 ^ 64) : ofWords a b c d < 2 ^ 256 := by unfold ofWords; omega
theorem word_ofWords {a b c d : Nat} (ha : a < 2 ^ 64) (hb : b < 2 ^ 64) (hc : c < 2 ^ 64) (hd : d < 2 ^ 64) :
    word (ofWords a b c d) 0 = a ∧ word (ofWords a b c d) 1 = b ∧ word (ofWords a b c d) 2 = c ∧ word (ofWords a b c d) 3 = d := by
  unfold word ofWords
  simp only [Nat.reduceMul, Nat.reducePow, Nat.div_one]
  omega
end PA
end Go.Proofs.Ytmmdcdjkmakgpaa
set_option linter.unusedVariables false
set_option linter.unusedSimpArgs false
namespace Go.Proofs.Ytmmdcdjkmakgpaa
namespace V
open PA
def setL (m : Nat) : List Value := [.int .u64 (word m 0), .int .u64 (word m 1), .int .u64 (word m 2), .int .u64 (word m 3)]
def setV (m : Nat) : Value := .agg #[.int .u64 (word m 0), .int .u64 (word m 1), .int .u64 (word m 2), .int .u64 (word m 3)]
theorem setV_cells (m : Nat) : Value.cells (setV m) = (setL m).toArray := rfl
theorem setL_get {m i : Nat} (hi : i < 4) : (setL m)[i]? = some (.int .u64 (word m i)) := by
  match i, hi with
  | 0, _ => rfl
  | 1, _ => rfl
  | 2, _ => rfl
  | 3, _ => rfl
theorem zer_Set : zer Try.prog y_api_Set = some (setV 0) := by kernel_rfl
theorem cast_le {q : Nat} (h : q < 18446744073709551616) : (q : Int) ≤ 18446744073709551615 := by omega
theorem bset_Has_c {ro : Ro} {m b : Nat} (hb : b < 256) {h : T Obj} {nx : Nat} {K : KV} (hf : Fr h nx) (hK : ∀ nx', nx ≤ nx' → K (.bool (m.testBit b)) h nx') : callP Try.prog ro i_bset_Has [setV m, .int .u8 b] h nx K := by
  apply bset_Has_of
  unfold bset_Has
  have h1 : ((b:Int) / 64).toNat = b / 64 := by omega
  have h2 : ((b:Int) % 64).toNat = b % 64 := by omega
  have h3 := word_lt m (b / 64)
  have h4 : b / 64 < 4 := by omega
  have h5 := setL_get (m := m) h4
  have h6 : word m (b / 64) / 2 ^ (b % 64) ≤ word m (b / 64) := Nat.div_le_self _ _
  have h7 : ((word m (b / 64) / 2 ^ (b % 64) : Nat) : Int) ≤ 18446744073709551615 := cast_le (Nat.lt_of_le_of_lt h6 h3)
  simp (disch := first | omega | exact Int.natCast_nonneg _ | assumption) only [newP_eq, setV_cells, bindP_some', intB_quo, intB_rem, intB_shr_u64, intB_eql, intB_and64, wr_u8, wr_u64, ptr_at, ixArr_at, load1_own, T.get_upd_same, cellsIn_some, Option.bind, h1, h2, Nat.zero_add, Nat.mul_one, h5]
  refine ⟨h, (Sub.refl h).new hf (Nat.le_refl _), ?_⟩
  have e : (decide (((Nat.land ((word m (b / 64) / 2 ^ (b % 64) : Nat) : Int).toNat (1 : Int).toNat : Nat) : Int) = 1)) = m.testBit b := by
    have h9 := word_has m b
    have h8 : Nat.land (word m (b / 64) / 2 ^ (b % 64)) 1 = word m (b / 64) / 2 ^ (b % 64) % 2 := Nat.and_one_is_mod _
    rw [Int.toNat_natCast, show (1 : Int).toNat = 1 from rfl, h8]
    cases hm : m.testBit b with
    | true => rw [hm] at h9; have := h9.2 rfl; rw [this]; rfl
    | false =>
      rw [hm] at h9
      have : ¬ (word m (b / 64) / 2 ^ (b % 64) % 2 = 1) := fun e => by have := h9.1 e; cases this
      apply decide_eq_false; omega
  rw [e]
  exact hK _ (by omega)
theorem ref01_Has_c {ro : Ro} {m b : Nat} (hb : b < 256) {h : T Obj} {nx : Nat} {K : KV} (hf : Fr h nx) (hK : ∀ nx', nx ≤ nx' → K (.bool (m.testBit b)) h nx') : callP Try.prog ro i_ref01_Has [setV m, .int .u8 b] h nx K := by
  apply ref01_Has_of
  unfold ref01_Has
  have h1 : ((b:Int) / 64).toNat = b / 64 := by omega
  have h2 : ((b:Int) % 64).toNat = b % 64 := by omega
  have h3 := word_lt m (b / 64)
  have h4 : b / 64 < 4 := by omega
  have h5 := setL_get (m := m) h4
  have h6 : word m (b / 64) / 2 ^ (b % 64) ≤ word m (b / 64) := Nat.div_le_self _ _
  have h7 : ((word m (b / 64) / 2 ^ (b % 64) : Nat) : Int) ≤ 18446744073709551615 := cast_le (Nat.lt_of_le_of_lt h6 h3)
  simp (disch := first | omega | exact Int.natCast_nonneg _ | assumption) only [newP_eq, setV_cells, bindP_some', intB_quo, intB_rem, intB_shr_u64, intB_eql, wr_u8, wr_u64, ptr_at, ixArr_at, load1_own, T.get_upd_same, cellsIn_some, Option.bind, h1, h2, Nat.zero_add, Nat.mul_one, h5]
  refine ⟨h, (Sub.refl h).new hf (Nat.le_refl _), ?_⟩
  have e : (decide ((((word m (b / 64) / 2 ^ (b % 64) : Nat) : Int) % 2) = 1)) = m.testBit b := by
    have h9 := word_has m b
    cases hm : m.testBit b with
    | true => rw [hm] at h9; have := h9.2 rfl; apply decide_eq_true; omega
    | false =>
      rw [hm] at h9
      have : ¬ (word m (b / 64) / 2 ^ (b % 64) % 2 = 1) := fun e => by have := h9.1 e; cases this
      apply decide_eq_false; omega
  rw [e]
  exact hK _ (by omega)
end V
end Go.Proofs.Ytmmdcdjkmakgpaa
set_option linter.unusedVariables false
set_option linter.unusedSimpArgs false
namespace Go.Proofs.Ytmmdcdjkmakgpaa
namespace PA
section
variable {α β : Type} [DecidableEq α] [DecidableEq β]
def addN (s : List α) (p : α) : List α := if p ∈ s then s else s ++ [p]
def dd (l : List α) : List α := l.foldl addN []
def pos (s : List α) (p : α) : Nat := s.idxOf p
theorem pos_self (s : List α) (p : α) : pos (p :: s) p = 0 := by simp [pos]
theorem pos_ne {s : List α} {p q : α} (h : q ≠ p) : pos (q :: s) p = pos s p + 1 := by
  unfold pos; rw [List.idxOf_cons, beq_eq_false_iff_ne.2 h]; rfl
theorem pos_of {s : List α} {p : α} {k : Nat} (hk : s[k]? = some p) (hn : ∀ j, j < k → s[j]? ≠ some p) : pos s p = k := by
  induction s generalizing k with
  | nil => simp at hk
  | cons q s ih =>
    cases k with
    | zero => simp at hk; subst hk; exact pos_self _ _
    | succ k =>
      have h0 := hn 0 (by omega)
      rw [pos_ne (fun e => h0 (by simp [e]))]
      rw [ih (by simpa using hk) fun j hj => by have := hn (j + 1) (by omega); simpa using this]
def ix (l : List α) (p : α) : Nat := pos (dd l) p
def num (l : List α) : List Nat := l.map (ix l)
theorem dd_append (l : List α) (p : α) : dd (l ++ [p]) = addN (dd l) p := by simp [dd]
theorem mem_addN {s : List α} {p q : α} : q ∈ addN s p ↔ q ∈ s ∨ q = p := by
  unfold addN
  by_cases h : p ∈ s
  · rw [if_pos h]
    constructor
    · exact .inl
    · rintro (h1 | rfl)
      · exact h1
      · exact h
  · rw [if_neg h]; simp
theorem mem_fold {l s : List α} {q : α} : q ∈ l.foldl addN s ↔ q ∈ s ∨ q ∈ l := by
  induction l generalizing s with
  | nil => simp
  | cons p l ih => rw [List.foldl_cons, ih, mem_addN]; simp [or_assoc]
theorem mem_dd {l : List α} {q : α} : q ∈ dd l ↔ q ∈ l := by unfold dd; rw [mem_fold]; simp
theorem addN_prefix (s : List α) (p : α) : ∃ r, addN s p = s ++ r := by
  unfold addN
  by_cases h : p ∈ s
  · exact ⟨[], by rw [if_pos h]; simp⟩
  · exact ⟨[p], by rw [if_neg h]⟩
theorem fold_prefix (l s : List α) : ∃ r, l.foldl addN s = s ++ r := by
  induction l generalizing s with
  | nil => exact ⟨[], by simp⟩
  | cons p l ih =>
    obtain ⟨r, h⟩ := addN_prefix s p
    obtain ⟨r', h'⟩ := ih (addN s p)
    exact ⟨r ++ r', by rw [List.foldl_cons, h', h, List.append_assoc]⟩
theorem dd_prefix (l m : List α) : ∃ r, dd (l ++ m) = dd l ++ r := by
  unfold dd
  rw [List.foldl_append]
  exact fold_prefix m _
theorem idx_stable {l m : List α} {p : α} (h : p ∈ l) : ix (l ++ m) p = ix l p := by
  unfold ix pos
  obtain ⟨r, hr⟩ := dd_prefix l m
  rw [hr, List.idxOf_append, if_pos (mem_dd.2 h)]
theorem addN_length (s : List α) (p : α) : (addN s p).length ≤ s.length + 1 := by
  unfold addN
  by_cases h : p ∈ s
  · rw [if_pos h]; omega
  · rw [if_neg h]; simp
theorem fold_length (l s : List α) : (l.foldl addN s).length ≤ s.length + l.length := by
  induction l generalizing s with
  | nil => simp
  | cons p l ih => rw [List.foldl_cons]; have := ih (addN s p); have := addN_length s p; simp; omega
theorem dd_length (l : List α) : (dd l).length ≤ l.length := by have := fold_length l []; unfold dd; simpa using this
theorem idx_lt {l : List α} {p : α} (h : p ∈ l) : ix l p < (dd l).length := List.idxOf_lt_length_iff.2 (mem_dd.2 h)
theorem ix_new {l : List α} {p : α} (h : ¬ p ∈ dd l) : ix (l ++ [p]) p = (dd l).length := by
  unfold ix pos
  rw [dd_append]
  unfold addN
  rw [if_neg h, List.idxOf_append, if_neg h]
  simp
theorem get_idx {l : List α} {p : α} (h : p ∈ l) : (dd l)[ix l p]? = some p := by
  have h1 := idx_lt h
  unfold ix pos at h1 ⊢
  rw [List.getElem?_eq_getElem h1, List.getElem_idxOf]
theorem idx_inj {l : List α} {p q : α} (hp : p ∈ l) (hq : q ∈ l) (h : ix l p = ix l q) : p = q := by
  have h1 := get_idx hp
  rw [h, get_idx hq] at h1
  exact (Option.some.inj h1).symm
theorem nodup_addN {s : List α} {p : α} (h : s.Nodup) : (addN s p).Nodup := by
  unfold addN
  by_cases hp : p ∈ s
  · rw [if_pos hp]; exact h
  · rw [if_neg hp]
    rw [List.nodup_append]
    refine ⟨h, by simp, ?_⟩
    intro a ha b hb e
    simp at hb
    subst hb; subst e
    exact hp ha
theorem nodup_dd (l : List α) : (dd l).Nodup := by
  have key : ∀ (l s : List α), s.Nodup → (l.foldl addN s).Nodup := by
    intro l
    induction l with
    | nil => intro s h; exact h
    | cons p l ih => intro s h; exact ih _ (nodup_addN h)
  exact key l [] (by simp)
theorem num_length (l : List α) : (num l).length = l.length := by simp [num]
theorem num_get {l : List α} {i : Nat} (hi : i < l.length) : (num l)[i]? = some (ix l l[i]) := by simp [num, hi]
theorem dd_map {f : α → β} {l : List α} (hf : ∀ a ∈ l, ∀ b ∈ l, f a = f b → a = b) : dd (l.map f) = (dd l).map f := by
  have key : ∀ (m s : List α), (∀ a ∈ s ++ m, ∀ b ∈ s ++ m, f a = f b → a = b) → (m.map f).foldl addN (s.map f) = (m.foldl addN s).map f := by
    intro m
    induction m with
    | nil => intro s _; rfl
    | cons p m ih =>
      intro s h
      rw [List.map_cons, List.foldl_cons, List.foldl_cons]
      have e : addN (s.map f) (f p) = (addN s p).map f := by
        unfold addN
        by_cases hp : p ∈ s
        · rw [if_pos hp, if_pos (List.mem_map_of_mem hp)]
        · have : ¬ f p ∈ s.map f := by
            intro hm
            obtain ⟨q, hq, e⟩ := List.mem_map.1 hm
            have := h q (by simp [hq]) p (by simp) e
            subst this; exact hp hq
          rw [if_neg hp, if_neg this]; simp
      rw [e]
      refine ih _ fun a ha b hb => h a ?_ b ?_
      · rw [List.mem_append, mem_addN] at ha; simp; grind
      · rw [List.mem_append, mem_addN] at hb; simp; grind
  have := key l [] (by simpa using hf)
  simpa [dd] using this
theorem idxOf_map {f : α → β} {s : List α} {p : α} (hf : ∀ a ∈ s, f a = f p → a = p) : (s.map f).idxOf (f p) = s.idxOf p := by
  induction s with
  | nil => rfl
  | cons a s ih =>
    rw [List.map_cons, List.idxOf_cons, List.idxOf_cons]
    by_cases e : a = p
    · subst e; simp
    · have : ¬ f a = f p := fun h => e (hf a (by simp) h)
      rw [beq_eq_false_iff_ne.2 e, beq_eq_false_iff_ne.2 this, ih fun a ha => hf a (by simp [ha])]
theorem num_map {f : α → β} {l : List α} (hf : ∀ a ∈ l, ∀ b ∈ l, f a = f b → a = b) : num (l.map f) = num l := by
  unfold num ix pos
  rw [dd_map hf, List.map_map]
  refine List.map_congr_left fun p hp => ?_
  exact idxOf_map fun a ha e => hf a (mem_dd.1 ha) p hp e
theorem dd_map_length {f : α → β} {l : List α} (hf : ∀ a ∈ l, ∀ b ∈ l, f a = f b → a = b) : (dd (l.map f)).length = (dd l).length := by rw [dd_map hf]; simp
end
@[irreducible] def bs : List Nat := List.range 256
theorem bs_length : bs.length = 256 := by unfold bs; simp
theorem mem_bs {b : Nat} : b ∈ bs ↔ b < 256 := by unfold bs; exact List.mem_range
theorem bs_get {b : Nat} (hb : b < 256) : bs[b]? = some b := by unfold bs; rw [List.getElem?_range hb]
def sig (l : List Nat) (b : Nat) : List Bool := l.map fun s => s.testBit b
def sigs (l : List Nat) : List (List Bool) := bs.map (sig l)
def cls (l : List Nat) : List Nat := num (sigs l)
def many (l : List Nat) : Nat := (dd (sigs l)).length
def pairs (c : List Nat) (x : Nat) : List (Nat × Bool) := bs.map fun b => (c.getD b 0, x.testBit b)
theorem sigs_length (l : List Nat) : (sigs l).length = 256 := by rw [sigs, List.length_map, bs_length]
theorem cls_length (l : List Nat) : (cls l).length = 256 := by rw [cls, num_length, sigs_length]
theorem sig_mem {l : List Nat} {b : Nat} (hb : b < 256) : sig l b ∈ sigs l := List.mem_map_of_mem (mem_bs.2 hb)
theorem sigs_get {l : List Nat} {b : Nat} (hb : b < 256) : (sigs l)[b]? = some (sig l b) := by rw [sigs, List.getElem?_map, bs_get hb]; rfl
theorem cls_get {l : List Nat} {b : Nat} (hb : b < 256) : (cls l)[b]? = some (ix (sigs l) (sig l b)) := by
  rw [cls, num, List.getElem?_map, sigs_get hb]; rfl
theorem sig_snoc (l : List Nat) (x b : Nat) : sig (l ++ [x]) b = sig l b ++ [x.testBit b] := by simp [sig]
theorem cls_step (l : List Nat) (x : Nat) : num (pairs (cls l) x) = cls (l ++ [x]) ∧ (dd (pairs (cls l) x)).length = many (l ++ [x]) := by
  let f : List Bool → Nat × Bool := fun s => (ix (sigs l) s.dropLast, s.getLastD false)
  have e : pairs (cls l) x = (sigs (l ++ [x])).map f := by
    unfold pairs
    rw [sigs, List.map_map]
    refine List.map_congr_left fun b hb => ?_
    have hb := mem_bs.1 hb
    simp only [Function.comp, f, sig_snoc]
    rw [List.dropLast_concat, List.getLastD_concat, List.getD_eq_getElem?_getD, cls_get hb]
    rfl
  have hf : ∀ a ∈ sigs (l ++ [x]), ∀ b ∈ sigs (l ++ [x]), f a = f b → a = b := by
    intro a ha b hb h
    obtain ⟨i, hi, rfl⟩ := List.mem_map.1 ha
    obtain ⟨j, hj, rfl⟩ := List.mem_map.1 hb
    simp only [f, sig_snoc, List.dropLast_concat, List.getLastD_concat, Prod.mk.injEq] at h
    have := idx_inj (l := sigs l) (sig_mem (mem_bs.1 hi)) (sig_mem (mem_bs.1 hj)) h.1
    rw [sig_snoc, sig_snoc, this, h.2]
  rw [e, num_map hf, dd_map_length hf]
  exact ⟨rfl, rfl⟩
theorem many_le (l : List Nat) : many l ≤ 256 := by have := dd_length (sigs l); rw [sigs_length] at this; exact this
theorem cls_lt {l : List Nat} {b : Nat} (hb : b < 256) : ix (sigs l) (sig l b) < many l := idx_lt (sig_mem hb)
theorem sigs_nil : sigs [] = List.replicate 256 [] := by
  have : sigs [] = bs.map (fun _ => ([] : List Bool)) := rfl
  rw [this, List.map_const', bs_length]
theorem dd_rep (a : List Bool) : dd (List.replicate 256 a) = [a] := by
  have key : ∀ n, (List.replicate n a).foldl addN [a] = [a] := by
    intro n
    induction n with
    | zero => rfl
    | succ n ih => rw [List.replicate_succ, List.foldl_cons]; unfold addN at ih ⊢; rw [if_pos (by simp)]; exact ih
  unfold dd
  rw [show 256 = 255 + 1 from rfl, List.replicate_succ, List.foldl_cons]
  exact key 255
theorem many_nil : many [] = 1 := by rw [many, sigs_nil, dd_rep]; rfl
theorem cls_nil : cls [] = List.replicate 256 0 := by
  rw [cls, sigs_nil, num, List.map_replicate]
  unfold ix
  rw [dd_rep, pos_self]
end PA
end Go.Proofs.Ytmmdcdjkmakgpaa
set_option linter.unusedVariables false
set_option linter.unusedSimpArgs false
namespace Go.Proofs.Ytmmdcdjkmakgpaa
namespace V
open PA
attribute [local irreducible] bindP ifP condP newP optP exP beqP
def posL (p : PosD) (nv : Value) : List Value := setL p.s ++ [.int .i64 p.lo, .int .i64 p.hi, .int .i64 p.rule, .bool p.last, nv]
def RPos (ro : Ro) (h : T Obj) (x : List Value) (p : PosD) : Prop := ∃ nv, x = posL p nv ∧ ZI ro h nv p.next ∧ p.s < 2 ^ 256
theorem RPos.sub {ro : Ro} {h h' : T Obj} (hs : Sub h h') : ∀ x d, RPos ro h x d → RPos ro h' x d := fun x d ⟨nv, h1, h2, h3⟩ => ⟨nv, h1, h2.sub hs, h3⟩
def RG (ro : Ro) (h : T Obj) (v : Value) (g : GlD) : Prop := ∃ a b, v = .agg #[a, b] ∧ ZI ro h a g.first ∧ SlR ro h b 9 (RPos ro h) g.p
theorem RG.sub {ro : Ro} {h h' : T Obj} {v : Value} {g : GlD} (hs : Sub h h') (hg : RG ro h v g) : RG ro h' v g := by
  obtain ⟨a, b, h1, h2, h3⟩ := hg
  exact ⟨a, b, h1, h2.sub hs, h3.sub hs (RPos.sub hs)⟩
theorem eqCells_bits {m n : Nat} (hm : m < 2 ^ 256) (hn : n < 2 ^ 256) : eqCells [1, 1, 1, 1] (setL m) (setL n) = some (decide (m = n)) := by
  have h : (setL m = setL n) ↔ m = n := by
    constructor
    · intro h
      refine word_ext hm hn fun i hi => ?_
      have h1 := setL_get (m := m) hi
      rw [h, setL_get hi] at h1
      have := Option.some.inj h1
      simp only [Value.int.injEq, true_and] at this
      omega
    · rintro rfl; rfl
  have h2 : eqCells [1, 1, 1, 1] (setL m) (setL n) = some (decide (((word m 0 : Nat) : Int) = (word n 0 : Nat)) && (decide (((word m 1 : Nat) : Int) = (word n 1 : Nat)) && (decide (((word m 2 : Nat) : Int) = (word n 2 : Nat)) && (decide (((word m 3 : Nat) : Int) = (word n 3 : Nat)) && true)))) := rfl
  rw [h2]
  congr 1
  by_cases e : m = n
  · subst e; simp
  · rw [decide_eq_false e]
    rw [← h] at e
    simp only [setL, List.cons.injEq, Value.int.injEq, true_and, and_true] at e
    simp only [Bool.and_true, ← Bool.decide_and]
    exact decide_eq_false e
theorem neq_set0 {m : Nat} (hm : m < 2 ^ 256) : aggB [1, 1, 1, 1] .neq (.agg (setL m).toArray) (setV 0) = some (.bool (!decide (m = 0))) := by
  have e2 : setV 0 = .agg (setL 0).toArray := rfl
  rw [e2]
  unfold aggB
  simp only [tl, eqCells_bits hm (show (0 : Nat) < 2 ^ 256 by decide), Option.bind]
theorem eql_set0 {m : Nat} (hm : m < 2 ^ 256) : aggB [1, 1, 1, 1] .eql (.agg (setL m).toArray) (setV 0) = some (.bool (decide (m = 0))) := by
  have e2 : setV 0 = .agg (setL 0).toArray := rfl
  rw [e2]
  unfold aggB
  simp only [tl, eqCells_bits hm (show (0 : Nat) < 2 ^ 256 by decide), Option.bind]
theorem neq_set0_s {m : Nat} (hm : m < 2 ^ 256) {K : Value → Prop} (h1 : m ≠ 0 → K (.bool true)) (h2 : m = 0 → K (.bool false)) : bindP (aggB [1, 1, 1, 1] .neq (.agg (setL m).toArray) (setV 0)) K := by
  rw [neq_set0 hm]
  by_cases h : m = 0
  · rw [decide_eq_true h]; exact bindP_mk rfl (h2 h)
  · rw [decide_eq_false h]; exact bindP_mk rfl (h1 h)
theorem eql_set0_s {m : Nat} (hm : m < 2 ^ 256) {K : Value → Prop} (h1 : m = 0 → K (.bool true)) (h2 : m ≠ 0 → K (.bool false)) : bindP (aggB [1, 1, 1, 1] .eql (.agg (setL m).toArray) (setV 0)) K := by
  rw [eql_set0 hm]
  by_cases h : m = 0
  · rw [decide_eq_true h]; exact bindP_mk rfl (h1 h)
  · rw [decide_eq_false h]; exact bindP_mk rfl (h2 h)
theorem plain_Set : plainTy Try.prog 20 y_api_Set = some [1, 1, 1, 1] := by kernel_rfl
theorem build_Set0 : buildV Try.prog y_api_Set [] = some (setV 0) := by kernel_rfl
theorem posL_ok {p : PosD} {nv : Value} (h : cellOk nv = true) : (posL p nv).all cellOk = true := by
  have : (posL p nv).all cellOk = (cellOk nv && true) := rfl
  rw [this, h]; rfl
theorem posL_take (p : PosD) (nv : Value) : ((posL p nv).drop 0).take 4 = setL p.s := rfl
theorem glush_rises_c {ro : Ro} {v : Value} {l : List Int} {many : Int} (hm : many ≤ 1000000) {h : T Obj} {nx : Nat} {K : KV} (hv : ZI ro h v l) (hK : ∀ nx', nx ≤ nx' → K (.bool (rz (-1) many l)) h nx') : callP Try.prog ro i_glush_rises [v, .int .i64 many] h nx K := by
  apply glush_rises_of
  unfold glush_rises
  generalize hR : rz (-1) many l = R at hK
  refine bindP_mk hv.len ?_
  refine loopP_rule (fun j e h' nx' => ∃ (k : Nat) (last : Int), k + j = l.length ∧ nx ≤ nx' ∧ h' = h ∧ e 1 = .int .i64 many ∧ e 5 = .int .i64 last ∧ e 8 = v ∧ e 9 = .int .i64 l.length ∧ e 10 = .int .i64 k ∧ (k : Int) ≤ last + 1 ∧ rz last many (l.drop k) = R) ?_ (n := l.length) ⟨0, -1, by omega, by omega, rfl, rfl, rfl, rfl, rfl, rfl, by omega, hR⟩
  rintro j e h' nx' ⟨k, last, hj, hnx, rfl, e1, e5, e8, e9, e10, hk1, hr⟩ Q' hq hx
  unfold glush_rises_L1
  rw [e1, e5, e8, e9, e10]
  (repeat (first | refine bindP_mk (by simp (disch := first | omega | exact Int.natCast_nonneg _ | assumption) only [BB, B2, ↓reduceIte, Nat.reduceLeDiff, Nat.reduceAdd, intB_eql, intB_neq, intB_lss, intB_leq, intB_gtr, intB_geq] <;> rfl) ?_ | refine newP_mk ?_ | refine optP_mk ?_ | with_reducible first | refine condP_t ?_ | refine condP_f ?_ | refine ifP_tt' ?_ | refine ifP_ff' ?_ | refine ifP_tf' ?_ | refine ifP_ft' ?_ | refine ifP_u' ?_ | refine optP_mk0 ?_))
  refine condP_d (fun hk => ?_) (fun hk => ?_)
  · have hk : k < l.length := by omega
    rw [drop_cons hk, rz_cons] at hr
    refine bindP_mk (hv.ix _ hk) (bindP_mk (hv.load hk) ?_)
    generalize l[k] = x at hr
    (repeat (first | refine bindP_mk (by simp (disch := first | omega | exact Int.natCast_nonneg _ | assumption) only [BB, B2, ↓reduceIte, Nat.reduceLeDiff, Nat.reduceAdd, intB_eql, intB_neq, intB_lss, intB_leq, intB_gtr, intB_geq] <;> rfl) ?_ | refine newP_mk ?_ | refine optP_mk ?_ | with_reducible first | refine condP_t ?_ | refine condP_f ?_ | refine ifP_tt' ?_ | refine ifP_ff' ?_ | refine ifP_tf' ?_ | refine ifP_ft' ?_ | refine ifP_u' ?_ | refine optP_mk0 ?_))
    by_cases h1 : x ≤ last
    · rw [decide_eq_true h1]
      (repeat (first | refine bindP_mk (by simp (disch := first | omega | exact Int.natCast_nonneg _ | assumption) only [BB, B2, ↓reduceIte, Nat.reduceLeDiff, Nat.reduceAdd, intB_eql, intB_neq, intB_lss, intB_leq, intB_gtr, intB_geq] <;> rfl) ?_ | refine newP_mk ?_ | refine optP_mk ?_ | with_reducible first | refine condP_t ?_ | refine condP_f ?_ | refine ifP_tt' ?_ | refine ifP_ff' ?_ | refine ifP_tf' ?_ | refine ifP_ft' ?_ | refine ifP_u' ?_ | refine optP_mk0 ?_))
      refine hx _ _ _ _ (fun e => by cases e) (exP_r ?_)
      refine ⟨_, Sub.refl _, kb hK ?_ (by omega)⟩
      rw [← hr, decide_eq_false (by omega)]; rfl
    · rw [decide_eq_false h1]
      (repeat (first | refine bindP_mk (by simp (disch := first | omega | exact Int.natCast_nonneg _ | assumption) only [BB, B2, ↓reduceIte, Nat.reduceLeDiff, Nat.reduceAdd, intB_eql, intB_neq, intB_lss, intB_leq, intB_gtr, intB_geq] <;> rfl) ?_ | refine newP_mk ?_ | refine optP_mk ?_ | with_reducible first | refine condP_t ?_ | refine condP_f ?_ | refine ifP_tt' ?_ | refine ifP_ff' ?_ | refine ifP_tf' ?_ | refine ifP_ft' ?_ | refine ifP_u' ?_ | refine optP_mk0 ?_))
      by_cases h2 : many ≤ x
      · rw [decide_eq_true h2]
        (repeat (first | refine bindP_mk (by simp (disch := first | omega | exact Int.natCast_nonneg _ | assumption) only [BB, B2, ↓reduceIte, Nat.reduceLeDiff, Nat.reduceAdd, intB_eql, intB_neq, intB_lss, intB_leq, intB_gtr, intB_geq] <;> rfl) ?_ | refine newP_mk ?_ | refine optP_mk ?_ | with_reducible first | refine condP_t ?_ | refine condP_f ?_ | refine ifP_tt' ?_ | refine ifP_ff' ?_ | refine ifP_tf' ?_ | refine ifP_ft' ?_ | refine ifP_u' ?_ | refine optP_mk0 ?_))
        refine hx _ _ _ _ (fun e => by cases e) (exP_r ?_)
        refine ⟨_, Sub.refl _, kb hK ?_ (by omega)⟩
        rw [← hr, decide_eq_false (show ¬ x < many by omega)]; simp
      · rw [decide_eq_false h2]
        (repeat (first | refine bindP_mk (by simp (disch := first | omega | exact Int.natCast_nonneg _ | assumption) only [BB, B2, ↓reduceIte, Nat.reduceLeDiff, Nat.reduceAdd, intB_eql, intB_neq, intB_lss, intB_leq, intB_gtr, intB_geq] <;> rfl) ?_ | refine newP_mk ?_ | refine optP_mk ?_ | with_reducible first | refine condP_t ?_ | refine condP_f ?_ | refine ifP_tt' ?_ | refine ifP_ff' ?_ | refine ifP_tf' ?_ | refine ifP_ft' ?_ | refine ifP_u' ?_ | refine optP_mk0 ?_))
        refine hq (j - 1) _ _ _ _ (by omega) ⟨k + 1, x, by omega, by omega, rfl, e1, rfl, e8, e9, rfl, by omega, ?_⟩ (Sub.refl _)
        rw [← hr, decide_eq_true (show last < x by omega), decide_eq_true (show x < many by omega)]; rfl
  · refine hx _ _ _ _ (fun e => by cases e) (exP_e (beqP_t ?_))
    unfold glush_rises_j1
    rw [drop_all (by omega)] at hr
    exact ⟨_, Sub.refl _, kb hK hr.symm (by omega)⟩
set_option maxRecDepth 4000 in
theorem glush_may_c {ro : Ro} {p : PosD} {nv : Value} {many : Int} (hm : many ≤ 1000000) {h : T Obj} {nx : Nat} {K : KV} (hf : Fr h nx) (hs : p.s < 2 ^ 256) (hn : ZI ro h nv p.next) (hK : ∀ nx', nx ≤ nx' → K (.bool (mayD many p)) h nx') : callP Try.prog ro i_glush_may [.agg (posL p nv).toArray, .int .i64 many] h nx K := by
  apply glush_may_of
  unfold glush_may
  refine newP_mk ?_
  have hs1 : Sub h (h.upd nx (some (.cells (Value.cells (.agg (posL p nv).toArray)) y_api_Pos))) := (Sub.refl h).new hf (Nat.le_refl _)
  have g : (h.upd nx (some (.cells (Value.cells (.agg (posL p nv).toArray)) y_api_Pos))).get nx = some (.cells (posL p nv).toArray y_api_Pos) := by rw [T.get_upd_same]; rfl
  generalize h.upd nx (some (.cells (Value.cells (.agg (posL p nv).toArray)) y_api_Pos)) = h1 at hs1 g
  have hK' : ∀ (b : Bool) n, mayD many p = b → nx ≤ n → ∃ h', Sub h' h1 ∧ K (.bool b) h' n := fun b n e hn => ⟨h, hs1, kb hK e hn⟩
  unfold mayD at hK'
  (repeat (first | refine bindP_mk (by simp (disch := first | omega | exact Int.natCast_nonneg _ | assumption) only [BB, B2, ↓reduceIte, Nat.reduceLeDiff, Nat.reduceAdd, intB_eql, intB_neq, intB_lss, intB_leq, intB_gtr, intB_geq, g, posL_take] <;> rfl) ?_ | refine newP_mk ?_ | refine optP_mk ?_ | with_reducible first | refine condP_t ?_ | refine condP_f ?_ | refine ifP_tt' ?_ | refine ifP_ff' ?_ | refine ifP_tf' ?_ | refine ifP_ft' ?_ | refine ifP_u' ?_ | refine optP_mk0 ?_))
  refine bindP_mk build_Set0 (bindP_mk plain_Set (neq_set0_s hs (fun h0 => ?_) (fun h0 => ?_)))
  rotate_left
  · (repeat (first | refine bindP_mk (by simp (disch := first | omega | exact Int.natCast_nonneg _ | assumption) only [BB, B2, ↓reduceIte, Nat.reduceLeDiff, Nat.reduceAdd, CC, g] <;> rfl) ?_ | refine newP_mk ?_ | refine optP_mk ?_ | with_reducible first | refine condP_t ?_ | refine condP_f ?_ | refine ifP_tt' ?_ | refine ifP_ff' ?_ | refine ifP_tf' ?_ | refine ifP_ft' ?_ | refine ifP_u' ?_ | refine optP_mk0 ?_))
    exact hK' _ _ (by simp [h0]) (by omega)
  · (repeat (first | refine bindP_mk (by simp (disch := first | omega | exact Int.natCast_nonneg _ | assumption) only [BB, B2, ↓reduceIte, Nat.reduceLeDiff, Nat.reduceAdd, CC, g] <;> rfl) ?_ | refine newP_mk ?_ | refine optP_mk ?_ | with_reducible first | refine condP_t ?_ | refine condP_f ?_ | refine ifP_tt' ?_ | refine ifP_ff' ?_ | refine ifP_tf' ?_ | refine ifP_ft' ?_ | refine ifP_u' ?_ | refine optP_mk0 ?_))
    iterate 5 ((first | refine lss_s (fun hb => ?_) (fun hb => ?_) | refine leq_s (fun hb => ?_) (fun hb => ?_) | refine gtr_s (fun hb => ?_) (fun hb => ?_) | refine geq_s (fun hb => ?_) (fun hb => ?_) | refine eql_s (fun hb => ?_) (fun hb => ?_) | refine neq_s (fun hb => ?_) (fun hb => ?_)); rotate_left; (focus ((repeat (first | refine bindP_mk (by simp (disch := first | omega | exact Int.natCast_nonneg _ | assumption) only [BB, B2, ↓reduceIte, Nat.reduceLeDiff, Nat.reduceAdd, CC, g] <;> rfl) ?_ | refine newP_mk ?_ | refine optP_mk ?_ | with_reducible first | refine condP_t ?_ | refine condP_f ?_ | refine ifP_tt' ?_ | refine ifP_ff' ?_ | refine ifP_tf' ?_ | refine ifP_ft' ?_ | refine ifP_u' ?_ | refine optP_mk0 ?_)); refine hK' _ _ ?_ (by omega); simp only [Bool.and_eq_false_iff, decide_eq_false_iff_not]; omega)); (repeat (first | refine bindP_mk (by simp (disch := first | omega | exact Int.natCast_nonneg _ | assumption) only [BB, B2, ↓reduceIte, Nat.reduceLeDiff, Nat.reduceAdd, CC, g] <;> rfl) ?_ | refine newP_mk ?_ | refine optP_mk ?_ | with_reducible first | refine condP_t ?_ | refine condP_f ?_ | refine ifP_tt' ?_ | refine ifP_ff' ?_ | refine ifP_tf' ?_ | refine ifP_ft' ?_ | refine ifP_u' ?_ | refine optP_mk0 ?_)))
    refine glush_rises_c hm (hn.sub hs1) fun n hn => ?_
    (repeat (first | refine bindP_mk (by simp (disch := first | omega | exact Int.natCast_nonneg _ | assumption) only [BB, B2, ↓reduceIte, Nat.reduceLeDiff, Nat.reduceAdd, CC, g] <;> rfl) ?_ | refine newP_mk ?_ | refine optP_mk ?_ | with_reducible first | refine condP_t ?_ | refine condP_f ?_ | refine ifP_tt' ?_ | refine ifP_ff' ?_ | refine ifP_tf' ?_ | refine ifP_ft' ?_ | refine ifP_u' ?_ | refine optP_mk0 ?_))
    refine hK' _ _ ?_ (by omega)
    rw [decide_eq_true h0]
    repeat rw [decide_eq_true (by omega), Bool.true_and]
    rfl
def findI {D : Type} (q : D → Bool) (k : Int) : List D → Int
  | [] => -1
  | x :: r => if q x then k else findI q (k + 1) r
theorem findI_cons {D : Type} (q : D → Bool) (k : Int) (x : D) (r : List D) : findI q k (x :: r) = if q x then k else findI q (k + 1) r := rfl
theorem findI_any {D : Type} (q : D → Bool) : ∀ (l : List D) (k : Int), 0 ≤ k → decide (0 ≤ findI q k l) = l.any q
  | [], k, hk => rfl
  | x :: r, k, hk => by
    rw [findI_cons, List.any_cons]
    by_cases h : q x = true
    · rw [if_pos h, h]; simp [hk]
    · rw [if_neg h, findI_any q r (k + 1) (by omega)]; simp [h]
theorem pos_IndexFunc_c {ro : Ro} {v f : Value} {D : Type} {l : List D} {R : List Value → D → Prop} {q : D → Bool} (hlen : l.length ≤ 1000000) {h : T Obj} {nx : Nat} {K : KV} (hv : SlR ro h v 9 R l)
    (hf : ∀ (i : Nat) (hi : i < l.length) x n K', R x l[i] → nx ≤ n → (∀ n', n ≤ n' → K' (.bool (q l[i])) h n') → callF (callP Try.prog ro) f [.agg x.toArray] h n K')
    (hK : ∀ nx', nx ≤ nx' → K (.int .i64 (findI q 0 l)) h nx') : callP Try.prog ro i_slices_IndexFunc_api_Pos_api_Pos [v, f] h nx K := by
  apply slices_IndexFunc_api_Pos_api_Pos_of
  unfold slices_IndexFunc_api_Pos_api_Pos
  generalize hR : findI q 0 l = r at hK
  refine bindP_mk hv.len ?_
  refine loopP_rule (fun j e h' nx' => ∃ (k : Nat), k + j = l.length ∧ nx ≤ nx' ∧ h' = h ∧ e 0 = v ∧ e 1 = f ∧ e 7 = .int .i64 l.length ∧ e 8 = .int .i64 k ∧ findI q k (l.drop k) = r) ?_ (n := l.length) ⟨0, by omega, by omega, rfl, rfl, rfl, rfl, rfl, hR⟩
  rintro j e h' nx' ⟨k, hj, hnx, rfl, e0, e1, e7, e8, hr⟩ Q' hq hx
  unfold slices_IndexFunc_api_Pos_api_Pos_L1
  rw [e0, e1, e7, e8]
  refine lss_s (fun hk => ?_) (fun hk => ?_)
  · have hk : k < l.length := by omega
    rw [drop_cons hk, findI_cons] at hr
    obtain ⟨x, hx1, hx2, hx3, hx4, hx5⟩ := hv.at hk
    (repeat (first | refine bindP_mk (by simp (disch := first | omega | exact Int.natCast_nonneg _ | assumption) only [BB, B2, ↓reduceIte, Nat.reduceLeDiff, Nat.reduceAdd, CC] <;> rfl) ?_ | refine newP_mk ?_ | refine optP_mk ?_ | with_reducible first | refine condP_t ?_ | refine condP_f ?_ | refine ifP_tt' ?_ | refine ifP_ff' ?_ | refine ifP_tf' ?_ | refine ifP_ft' ?_ | refine ifP_u' ?_ | refine optP_mk0 ?_))
    refine bindP_mk (hv.ix _ hk) (bindP_mk hx3 ?_)
    refine hf k hk x _ _ hx1 (by omega) fun n hn => ?_
    cases hc : q l[k] with
    | true =>
      rw [hc, if_pos rfl] at hr
      (repeat (first | refine bindP_mk (by simp (disch := first | omega | exact Int.natCast_nonneg _ | assumption) only [BB, B2, ↓reduceIte, Nat.reduceLeDiff, Nat.reduceAdd, CC] <;> rfl) ?_ | refine newP_mk ?_ | refine optP_mk ?_ | with_reducible first | refine condP_t ?_ | refine condP_f ?_ | refine ifP_tt' ?_ | refine ifP_ff' ?_ | refine ifP_tf' ?_ | refine ifP_ft' ?_ | refine ifP_u' ?_ | refine optP_mk0 ?_))
      refine hx _ _ _ _ (fun e => by cases e) (exP_r ?_)
      exact ⟨_, Sub.refl _, ki hK hr.symm (by omega)⟩
    | false =>
      rw [hc, if_neg (by decide)] at hr
      (repeat (first | refine bindP_mk (by simp (disch := first | omega | exact Int.natCast_nonneg _ | assumption) only [BB, B2, ↓reduceIte, Nat.reduceLeDiff, Nat.reduceAdd, CC] <;> rfl) ?_ | refine newP_mk ?_ | refine optP_mk ?_ | with_reducible first | refine condP_t ?_ | refine condP_f ?_ | refine ifP_tt' ?_ | refine ifP_ff' ?_ | refine ifP_tf' ?_ | refine ifP_ft' ?_ | refine ifP_u' ?_ | refine optP_mk0 ?_))
      exact hq (j - 1) _ _ _ _ (by omega) ⟨k + 1, by omega, by omega, rfl, e0, e1, e7, rfl, hr⟩ (Sub.refl _)
  · (repeat (first | refine bindP_mk (by simp (disch := first | omega | exact Int.natCast_nonneg _ | assumption) only [BB, B2, ↓reduceIte, Nat.reduceLeDiff, Nat.reduceAdd, CC] <;> rfl) ?_ | refine newP_mk ?_ | refine optP_mk ?_ | with_reducible first | refine condP_t ?_ | refine condP_f ?_ | refine ifP_tt' ?_ | refine ifP_ff' ?_ | refine ifP_tf' ?_ | refine ifP_ft' ?_ | refine ifP_u' ?_ | refine optP_mk0 ?_))
    refine hx _ _ _ _ (fun e => by cases e) (exP_e (beqP_t ?_))
    unfold slices_IndexFunc_api_Pos_api_Pos_j1
    rw [drop_all (by omega)] at hr
    exact ⟨_, Sub.refl _, ki hK hr.symm (by omega)⟩
theorem pos_ContainsFunc_c {ro : Ro} {v f : Value} {D : Type} {l : List D} {R : List Value → D → Prop} {q : D → Bool} (hlen : l.length ≤ 1000000) {h : T Obj} {nx : Nat} {K : KV} (hv : SlR ro h v 9 R l)
    (hf : ∀ (i : Nat) (hi : i < l.length) x n K', R x l[i] → nx ≤ n → (∀ n', n ≤ n' → K' (.bool (q l[i])) h n') → callF (callP Try.prog ro) f [.agg x.toArray] h n K')
    (hK : ∀ nx', nx ≤ nx' → K (.bool (l.any q)) h nx') : callP Try.prog ro i_slices_ContainsFunc_api_Pos_api_Pos [v, f] h nx K := by
  apply slices_ContainsFunc_api_Pos_api_Pos_of
  unfold slices_ContainsFunc_api_Pos_api_Pos
  refine pos_IndexFunc_c hlen hv (fun i hi x n K' hx hn hk => hf i hi x n K' hx (by omega) hk) fun n hn => ?_
  rw [← findI_any q l 0 (by omega)] at hK
  (first | refine lss_s (fun hb => ?_) (fun hb => ?_) | refine leq_s (fun hb => ?_) (fun hb => ?_) | refine gtr_s (fun hb => ?_) (fun hb => ?_) | refine geq_s (fun hb => ?_) (fun hb => ?_) | refine eql_s (fun hb => ?_) (fun hb => ?_) | refine neq_s (fun hb => ?_) (fun hb => ?_))
  · exact ⟨_, Sub.refl _, kb hK (decide_eq_true hb) (by omega)⟩
  · exact ⟨_, Sub.refl _, kb hK (decide_eq_false (by omega)) (by omega)⟩
theorem glush_Right_1_c {ro : Ro} {p : PosD} {nv a b : Value} {P : List PosD} {id : Nat} (hP : P.length ≤ 1000000) {h : T Obj} {nx : Nat} {K : KV} (hf : Fr h nx) (hs : p.s < 2 ^ 256) (hn : ZI ro h nv p.next)
    (g0 : h.get id = some (.cells #[a, b] y_api_Glush)) (hb : SlR ro h b 9 (RPos ro h) P) (hK : ∀ nx', nx ≤ nx' → K (.bool (!mayD P.length p)) h nx') : callP Try.prog ro i_glush_Right_1 [.agg (posL p nv).toArray, ptr id] h nx K := by
  apply glush_Right_1_of
  unfold glush_Right_1
  refine newP_mk ?_
  have hid : id < nx := by
    rcases Nat.lt_or_ge id nx with h1 | h1
    · exact h1
    · rw [hf id h1] at g0; cases g0
  have hs1 : Sub h (h.upd nx (some (.cells (Value.cells (.agg (posL p nv).toArray)) y_api_Pos))) := (Sub.refl h).new hf (Nat.le_refl _)
  have hf1 : Fr (h.upd nx (some (.cells (Value.cells (.agg (posL p nv).toArray)) y_api_Pos))) (nx + 1) := hf.upd (by omega) (by omega)
  have g : (h.upd nx (some (.cells (Value.cells (.agg (posL p nv).toArray)) y_api_Pos))).get nx = some (.cells (posL p nv).toArray y_api_Pos) := by rw [T.get_upd_same]; rfl
  have g1 := hs1 _ _ g0
  generalize h.upd nx (some (.cells (Value.cells (.agg (posL p nv).toArray)) y_api_Pos)) = h1 at hs1 hf1 g g1
  refine bindP_mk (loadA_all g rfl) ?_
  (repeat (first | refine bindP_mk (by simp (disch := first | omega | exact Int.natCast_nonneg _ | assumption) only [BB, B2, ↓reduceIte, Nat.reduceLeDiff, Nat.reduceAdd, CC, g1] <;> rfl) ?_ | refine newP_mk ?_ | refine optP_mk ?_ | with_reducible first | refine condP_t ?_ | refine condP_f ?_ | refine ifP_tt' ?_ | refine ifP_ff' ?_ | refine ifP_tf' ?_ | refine ifP_ft' ?_ | refine ifP_u' ?_ | refine optP_mk0 ?_))
  refine bindP_mk hb.len ?_
  refine glush_may_c (by omega) (hf1.mono (by omega)) hs (hn.sub hs1) fun n hn => ?_
  (repeat (first | refine bindP_mk (by simp (disch := first | omega | exact Int.natCast_nonneg _ | assumption) only [BB, B2, ↓reduceIte, Nat.reduceLeDiff, Nat.reduceAdd, CC] <;> rfl) ?_ | refine newP_mk ?_ | refine optP_mk ?_ | with_reducible first | refine condP_t ?_ | refine condP_f ?_ | refine ifP_tt' ?_ | refine ifP_ff' ?_ | refine ifP_tf' ?_ | refine ifP_ft' ?_ | refine ifP_u' ?_ | refine optP_mk0 ?_))
  exact ⟨h, hs1, hK _ (by omega)⟩
theorem all_not {D : Type} (q : D → Bool) (l : List D) : (!(l.any fun x => !q x)) = l.all q := by
  induction l with
  | nil => rfl
  | cons x r ih => rw [List.any_cons, List.all_cons, Bool.not_or, ih, Bool.not_not]
theorem glush_Right_c {ro : Ro} {v : Value} {g : GlD} {h : T Obj} {nx : Nat} {K : KV} (hf : Fr h nx) (hg : RG ro h v g) (hK : ∀ nx', nx ≤ nx' → K (.bool (rightD g)) h nx') : callP Try.prog ro i_glush_Right [v] h nx K := by
  obtain ⟨a, b, rfl, ha, hb⟩ := hg
  apply glush_Right_of
  unfold glush_Right
  refine newP_mk ?_
  have hs1 : Sub h (h.upd nx (some (.cells (Value.cells (.agg #[a, b])) y_api_Glush))) := (Sub.refl h).new hf (Nat.le_refl _)
  have hf1 : Fr (h.upd nx (some (.cells (Value.cells (.agg #[a, b])) y_api_Glush))) (nx + 1) := hf.upd (by omega) (by omega)
  have g1 : (h.upd nx (some (.cells (Value.cells (.agg #[a, b])) y_api_Glush))).get nx = some (.cells #[a, b] y_api_Glush) := by rw [T.get_upd_same]; rfl
  generalize h.upd nx (some (.cells (Value.cells (.agg #[a, b])) y_api_Glush)) = h1 at hs1 hf1 g1
  have hK' : ∀ (c : Bool) n, rightD g = c → nx ≤ n → ∃ h', Sub h' h1 ∧ K (.bool c) h' n := fun c n e hn => ⟨h, hs1, kb hK e hn⟩
  unfold rightD at hK'
  have hl := hb.len
  have hb1 := hb.sub hs1 (RPos.sub hs1)
  (repeat (first | refine bindP_mk (by simp (disch := first | omega | exact Int.natCast_nonneg _ | assumption) only [BB, B2, ↓reduceIte, Nat.reduceLeDiff, Nat.reduceAdd, CC, g1, hl] <;> rfl) ?_ | refine newP_mk ?_ | refine optP_mk ?_ | with_reducible first | refine condP_t ?_ | refine condP_f ?_ | refine ifP_tt' ?_ | refine ifP_ff' ?_ | refine ifP_tf' ?_ | refine ifP_ft' ?_ | refine ifP_u' ?_ | refine optP_mk0 ?_))
  (first | refine lss_s (fun hb => ?_) (fun hb => ?_) | refine leq_s (fun hb => ?_) (fun hb => ?_) | refine gtr_s (fun hb => ?_) (fun hb => ?_) | refine geq_s (fun hb => ?_) (fun hb => ?_) | refine eql_s (fun hb => ?_) (fun hb => ?_) | refine neq_s (fun hb => ?_) (fun hb => ?_))
  · (repeat (first | refine bindP_mk (by simp (disch := first | omega | exact Int.natCast_nonneg _ | assumption) only [BB, B2, ↓reduceIte, Nat.reduceLeDiff, Nat.reduceAdd, CC, g1, hl] <;> rfl) ?_ | refine newP_mk ?_ | refine optP_mk ?_ | with_reducible first | refine condP_t ?_ | refine condP_f ?_ | refine ifP_tt' ?_ | refine ifP_ff' ?_ | refine ifP_tf' ?_ | refine ifP_ft' ?_ | refine ifP_u' ?_ | refine optP_mk0 ?_))
    exact hK' _ _ (by rw [decide_eq_false (by omega)]; rfl) (by omega)
  · (repeat (first | refine bindP_mk (by simp (disch := first | omega | exact Int.natCast_nonneg _ | assumption) only [BB, B2, ↓reduceIte, Nat.reduceLeDiff, Nat.reduceAdd, CC, g1, hl] <;> rfl) ?_ | refine newP_mk ?_ | refine optP_mk ?_ | with_reducible first | refine condP_t ?_ | refine condP_f ?_ | refine ifP_tt' ?_ | refine ifP_ff' ?_ | refine ifP_tf' ?_ | refine ifP_ft' ?_ | refine ifP_u' ?_ | refine optP_mk0 ?_))
    refine glush_rises_c (by omega) (ha.sub hs1) fun n hn => ?_
    cases hr : rz (-1) g.p.length g.first with
    | false =>
      (repeat (first | refine bindP_mk (by simp (disch := first | omega | exact Int.natCast_nonneg _ | assumption) only [BB, B2, ↓reduceIte, Nat.reduceLeDiff, Nat.reduceAdd, CC, g1, hl] <;> rfl) ?_ | refine newP_mk ?_ | refine optP_mk ?_ | with_reducible first | refine condP_t ?_ | refine condP_f ?_ | refine ifP_tt' ?_ | refine ifP_ff' ?_ | refine ifP_tf' ?_ | refine ifP_ft' ?_ | refine ifP_u' ?_ | refine optP_mk0 ?_))
      exact hK' _ _ (by rw [hr]; simp) (by omega)
    | true =>
      (repeat (first | refine bindP_mk (by simp (disch := first | omega | exact Int.natCast_nonneg _ | assumption) only [BB, B2, ↓reduceIte, Nat.reduceLeDiff, Nat.reduceAdd, CC, g1, hl] <;> rfl) ?_ | refine newP_mk ?_ | refine optP_mk ?_ | with_reducible first | refine condP_t ?_ | refine condP_f ?_ | refine ifP_tt' ?_ | refine ifP_ff' ?_ | refine ifP_tf' ?_ | refine ifP_ft' ?_ | refine ifP_u' ?_ | refine optP_mk0 ?_))
      refine pos_ContainsFunc_c (q := fun p => !mayD g.p.length p) (by omega) hb1 (fun i hi x n' K' hx hn' hk' => ?_) fun n' hn' => ?_
      · obtain ⟨nv, rfl, h2, h3⟩ := hx
        exact glush_Right_1_c (by omega) (hf1.mono (by omega)) h3 h2 g1 hb1 hk'
      · (repeat (first | refine bindP_mk (by simp (disch := first | omega | exact Int.natCast_nonneg _ | assumption) only [BB, B2, ↓reduceIte, Nat.reduceLeDiff, Nat.reduceAdd, CC] <;> rfl) ?_ | refine newP_mk ?_ | refine optP_mk ?_ | with_reducible first | refine condP_t ?_ | refine condP_f ?_ | refine ifP_tt' ?_ | refine ifP_ff' ?_ | refine ifP_tf' ?_ | refine ifP_ft' ?_ | refine ifP_u' ?_ | refine optP_mk0 ?_))
        refine hK' _ _ ?_ (by omega)
        rw [all_not, decide_eq_true (by omega), hr]; rfl
end V
end Go.Proofs.Ytmmdcdjkmakgpaa
set_option linter.unusedVariables false
set_option linter.unusedSimpArgs false
set_option maxRecDepth 8000
namespace Go.Proofs.Ytmmdcdjkmakgpaa
namespace V
open PA Go.ChangeShapes Go.WideShapes Go.ChangeAt Go.RowKit
theorem okOwn : ownKnob Try.prog.godebug = none := by kernel_rfl
theorem okLaid : laidOutB Try.prog = true := by kernel_rfl
section
variable {H : Type} {enc : TypeId × Value → H} {W : World}
theorem u64_cell {n : Nat} {cs : List Value} {y : DataW H × List MemPlace} (h : DataW.trod enc Try.prog W 0 (fun _ => true) true n y_uint64 cs = some y) : ∃ a : Nat, cs = [.int .u64 (a : Int)] ∧ a < 2 ^ 64 := by
  have hu : Try.prog.underlying y_uint64 = some (.int .u64) := by kernel_rfl
  obtain ⟨a, rfl, _, hw⟩ := DataW.trod_int hu h
  simp only [Lit.wf, Bool.and_eq_true, decide_eq_true_eq] at hw
  have h1 : IntKind.u64.min = 0 := rfl
  have h2 : IntKind.u64.max = 18446744073709551615 := rfl
  rw [h1, h2] at hw
  refine ⟨a.toNat, ?_, by omega⟩
  rw [Int.toNat_of_nonneg hw.1]
theorem set_cells {n : Nat} {cs : List Value} {y : DataW H × List MemPlace} (h : DataW.trod enc Try.prog W 0 (fun _ => true) true n y_api_Set cs = some y) : ∃ m, m < 2 ^ 256 ∧ cs = setL m := by
  have hu : Try.prog.underlying y_api_Set = some (.array 4 y_uint64) := by kernel_rfl
  have hc : Try.prog.cellsOf y_api_Set = 4 := by kernel_rfl
  have hc1 : Try.prog.cellsOf y_uint64 = 1 := by kernel_rfl
  obtain ⟨xs, m, _, _, hlen, hxs, hel⟩ := DataW.trod_array hu h
  rw [hc] at hlen
  have el : ∀ i, i < 4 → ∃ a : Nat, (cs.drop i).take 1 = [.int .u64 (a : Int)] ∧ a < 2 ^ 64 := by
    intro i hi
    have := hel i hi
    rw [hc1, Nat.mul_one] at this
    have hx : xs[i]? = some xs[i] := List.getElem?_eq_getElem (by omega)
    rw [hx] at this
    exact u64_cell this
  match cs, hlen with
  | [c0, c1, c2, c3], _ =>
    obtain ⟨a0, h0, g0⟩ := el 0 (by omega)
    obtain ⟨a1, h1, g1⟩ := el 1 (by omega)
    obtain ⟨a2, h2, g2⟩ := el 2 (by omega)
    obtain ⟨a3, h3, g3⟩ := el 3 (by omega)
    simp at h0 h1 h2 h3
    subst h0 h1 h2 h3
    obtain ⟨w0, w1, w2, w3⟩ := word_ofWords g0 g1 g2 g3
    exact ⟨ofWords a0 a1 a2 a3, ofWords_lt g0 g1 g2 g3, by simp [setL, w0, w1, w2, w3]⟩
theorem open_str {v : Value} {d : DataW H} {p : List MemPlace} (h : DataW.Trod enc Try.prog W 0 (fun _ => true) true y_string v d p) {base : Nat} (hval : Value.okWide Try.prog W .any base y_string v) : ∃ s : ByteArray, Arg W.heap.size (.string s) v := by
  have hu : Try.prog.underlying y_string = some .string := by kernel_rfl
  obtain ⟨s, rfl, _⟩ := Go.ChangeMaps.open_string hu hval h
  exact ⟨s, .one rfl⟩
def fieldsOf (P : Program) (t : TypeId) : Option (List (Nat × TypeId)) := match und P t with
  | some (.struct fs) => some (fs.toList.map fun f => (f.offset, f.type))
  | _ => none
theorem trod_fields {t : TypeId} {L : List (Nat × TypeId)} (hL : fieldsOf Try.prog t = some L) {fuel : Nat} {cs : List Value} {x : DataW H × List MemPlace} (h : DataW.trod enc Try.prog W 0 (fun _ => true) true fuel t cs = some x) :
    cs.length = Try.prog.cellsOf t ∧ ∃ n, ∀ (i o : Nat) (ty : TypeId), L[i]? = some (o, ty) → ∃ y, DataW.trod enc Try.prog W 0 (fun _ => true) true n ty ((cs.drop o).take (Try.prog.cellsOf ty)) = some y := by
  unfold fieldsOf at hL
  split at hL
  · rename_i fs hu
    cases hL
    obtain ⟨xs, n, _, _, hlen, hxs, hf⟩ := DataW.trod_struct (und_under hu) h
    refine ⟨hlen, n, fun i o ty hi => ?_⟩
    rw [List.getElem?_map] at hi
    cases hq : fs.toList[i]? with
    | none => rw [hq] at hi; cases hi
    | some f =>
      rw [hq] at hi
      cases hi
      have hfs : fs[i]? = some f := by simpa using hq
      have hil := (List.getElem?_eq_some_iff.1 hq).1
      have hx : xs[i]? = some (xs[i]'(by rw [hxs]; simpa using hil)) := List.getElem?_eq_getElem _
      exact ⟨_, by rw [hf i f hfs, hx]⟩
  · cases hL
theorem okWide_agg {t : TypeId} {L : List (Nat × TypeId)} (hL : fieldsOf Try.prog t = some L) {v : Value} {base : Nat} (hval : Value.okWide Try.prog W .any base t v) : ∃ cs, v = .agg cs := by
  unfold fieldsOf at hL
  split at hL
  · rename_i fs hu
    unfold Value.okWide at hval
    rw [und_under hu] at hval
    obtain ⟨cs, e, _⟩ := hval
    exact ⟨cs, e⟩
  · cases hL
theorem int_cell {n : Nat} {cs : List Value} {y : DataW H × List MemPlace} (h : DataW.trod enc Try.prog W 0 (fun _ => true) true n y_int cs = some y) : ∃ a : Int, cs = [.int .i64 a] := by
  have hu : Try.prog.underlying y_int = some (.int .i64) := by kernel_rfl
  obtain ⟨a, rfl, _⟩ := DataW.trod_int hu h
  exact ⟨a, rfl⟩
theorem bool_cell {n : Nat} {cs : List Value} {y : DataW H × List MemPlace} (h : DataW.trod enc Try.prog W 0 (fun _ => true) true n y_bool cs = some y) : ∃ a : Bool, cs = [.bool a] := by
  have hu : Try.prog.underlying y_bool = some .bool := by kernel_rfl
  obtain ⟨a, rfl, _⟩ := DataW.trod_bool hu h
  exact ⟨a, rfl⟩
theorem ints_cell {n : Nat} {cs : List Value} {y : DataW H × List MemPlace} (h : DataW.trod enc Try.prog W 0 (fun _ => true) true n y_s_int cs = some y) : ∃ v v' l, cs = [v] ∧ norm W.heap.size v = some v' ∧ ZI (roOf W) .e v' l := by
  have hu : Try.prog.underlying y_s_int = some (.slice y_int) := by kernel_rfl
  have hc : Try.prog.cellsOf y_int = 1 := by kernel_rfl
  obtain ⟨v, v', hv, hn, l, hl, hall⟩ := open_sl hu hc (by omega) h (El := fun x => ∃ a : Int, x = [.int .i64 a]) fun n cs' y hy => by
    obtain ⟨a, rfl⟩ := int_cell hy
    exact ⟨_, rfl, a, rfl⟩
  have e : ∃ ms : List Int, l = intsZ ms := by
    clear hl
    induction l with
    | nil => exact ⟨[], rfl⟩
    | cons x l ih =>
      obtain ⟨ms, h1⟩ := ih fun y hy => hall y (by simp [hy])
      obtain ⟨m, rfl⟩ := hall x (by simp)
      exact ⟨m :: ms, by simp [intsZ, h1]⟩
  obtain ⟨ms, rfl⟩ := e
  exact ⟨v, v', ms, hv, hn, hl⟩
theorem open_slR {D : Type} {t e : TypeId} {z : Nat} {R : List Value → D → Prop} (ht : Try.prog.underlying t = some (.slice e)) (hz : Try.prog.cellsOf e = z) (hz0 : 0 < z) {fuel : Nat} {cs : List Value} {x : DataW H × List MemPlace} (h : DataW.trod enc Try.prog W 0 (fun _ => true) true fuel t cs = some x)
    (hel : ∀ n cs' y, DataW.trod enc Try.prog W 0 (fun _ => true) true n e cs' = some y → ∃ cs'', normL W.heap.size cs' = some cs'' ∧ ∃ d, R cs'' d) : ∃ v v' l, cs = [v] ∧ norm W.heap.size v = some v' ∧ SlR (roOf W) .e v' z R l := by
  obtain ⟨v, v', hv, hn, l, hl, hall⟩ := open_sl ht hz hz0 h (El := fun x => ∃ d, R x d) hel
  refine ⟨v, v', ?_⟩
  have e : ∃ ds : List D, l.length = ds.length ∧ ∀ (i : Nat) x d, l[i]? = some x → ds[i]? = some d → R x d := by
    clear hl
    induction l with
    | nil => exact ⟨[], rfl, fun i x d hx => by simp at hx⟩
    | cons x l ih =>
      obtain ⟨ds, h1, h2⟩ := ih fun y hy => hall y (by simp [hy])
      obtain ⟨d, hd⟩ := hall x (by simp)
      refine ⟨d :: ds, by simp [h1], fun i x' d' hx hd' => ?_⟩
      cases i with
      | zero => simp at hx hd'; subst hx; subst hd'; exact hd
      | succ i => exact h2 i x' d' (by simpa using hx) (by simpa using hd')
  obtain ⟨ds, h1, h2⟩ := e
  exact ⟨ds, hv, hn, l, hl, h1, h2⟩
theorem pos_cells {n : Nat} {cs : List Value} {y : DataW H × List MemPlace} (h : DataW.trod enc Try.prog W 0 (fun _ => true) true n y_api_Pos cs = some y) : ∃ cs'', normL W.heap.size cs = some cs'' ∧ ∃ d, RPos (roOf W) .e cs'' d := by
  have hL : fieldsOf Try.prog y_api_Pos = some [(0, y_api_Set), (4, y_int), (5, y_int), (6, y_int), (7, y_bool), (8, y_s_int)] := by kernel_rfl
  have c0 : Try.prog.cellsOf y_api_Pos = 9 := by kernel_rfl
  have c1 : Try.prog.cellsOf y_api_Set = 4 := by kernel_rfl
  have c2 : Try.prog.cellsOf y_int = 1 := by kernel_rfl
  have c3 : Try.prog.cellsOf y_bool = 1 := by kernel_rfl
  have c4 : Try.prog.cellsOf y_s_int = 1 := by kernel_rfl
  obtain ⟨hlen, m, hf⟩ := trod_fields hL h
  obtain ⟨_, f0⟩ := hf 0 _ _ rfl
  obtain ⟨_, f1⟩ := hf 1 _ _ rfl
  obtain ⟨_, f2⟩ := hf 2 _ _ rfl
  obtain ⟨_, f3⟩ := hf 3 _ _ rfl
  obtain ⟨_, f4⟩ := hf 4 _ _ rfl
  obtain ⟨_, f5⟩ := hf 5 _ _ rfl
  rw [c0] at hlen
  rw [c1] at f0
  rw [c2] at f1 f2 f3
  rw [c3] at f4
  rw [c4] at f5
  obtain ⟨s, hs, g0⟩ := set_cells f0
  obtain ⟨lo, g1⟩ := int_cell f1
  obtain ⟨hi, g2⟩ := int_cell f2
  obtain ⟨ru, g3⟩ := int_cell f3
  obtain ⟨la, g4⟩ := bool_cell f4
  obtain ⟨v, v', l, g5, hn, hz⟩ := ints_cell f5
  match cs, hlen with
  | [a0, a1, a2, a3, a4, a5, a6, a7, a8], _ =>
    simp at g0 g1 g2 g3 g4 g5
    subst g1 g2 g3 g4 g5
    have e : [a0, a1, a2, a3] = setL s := g0
    refine ⟨posL ⟨s, lo, hi, ru, la, l⟩ v', ?_, _, v', rfl, hz, hs⟩
    have e2 : [a0, a1, a2, a3, Value.int .i64 lo, .int .i64 hi, .int .i64 ru, .bool la, a8] = setL s ++ [.int .i64 lo, .int .i64 hi, .int .i64 ru, .bool la, a8] := by rw [← e]; rfl
    rw [e2]
    unfold setL posL
    simp only [setL, List.cons_append, List.nil_append, normL, hn]
    rfl
theorem open_glush {v : Value} {d : DataW H} {p : List MemPlace} (h : DataW.Trod enc Try.prog W 0 (fun _ => true) true y_api_Glush v d p) {base : Nat} (hval : Value.okWide Try.prog W .any base y_api_Glush v) : ∃ v' g, Arg W.heap.size v' v ∧ RG (roOf W) .e v' g := by
  have hL : fieldsOf Try.prog y_api_Glush = some [(0, y_s_int), (1, y_s_api_Pos)] := by kernel_rfl
  have c0 : Try.prog.cellsOf y_api_Glush = 2 := by kernel_rfl
  have c2 : Try.prog.cellsOf y_s_int = 1 := by kernel_rfl
  have c4 : Try.prog.cellsOf y_s_api_Pos = 1 := by kernel_rfl
  obtain ⟨cs, rfl⟩ := okWide_agg hL hval
  obtain ⟨fuel, hf⟩ := h
  have ecs : (Value.agg cs).cells.toList = cs.toList := rfl
  rw [ecs] at hf
  obtain ⟨hlen, m, hf⟩ := trod_fields hL hf
  obtain ⟨_, f0⟩ := hf 0 _ _ rfl
  obtain ⟨_, f1⟩ := hf 1 _ _ rfl
  rw [c0] at hlen
  rw [c2] at f0
  rw [c4] at f1
  obtain ⟨v, v', l, g0, hn, hz⟩ := ints_cell f0
  have hu : Try.prog.underlying y_s_api_Pos = some (.slice y_api_Pos) := by kernel_rfl
  have hc : Try.prog.cellsOf y_api_Pos = 9 := by kernel_rfl
  obtain ⟨w, w', ps, g1, hn1, hz1⟩ := open_slR hu hc (by omega) f1 fun n cs' y hy => pos_cells hy
  have hcs : cs.toList = [v, w] := by
    generalize cs.toList = L at *
    match L, hlen with
    | [a0, a1], _ =>
      simp at g0 g1
      subst g0 g1; rfl
  refine ⟨.agg #[v', w'], ⟨l, ps⟩, .agg (l := [v', w']) ?_, v', w', rfl, hz, hz1⟩
  rw [hcs]
  simp only [normL, hn, hn1]; rfl
end
end V
end Go.Proofs.Ytmmdcdjkmakgpaa
set_option linter.unusedVariables false
set_option linter.unusedSimpArgs false
namespace Go.Proofs.Ytmmdcdjkmakgpaa
namespace V
attribute [local irreducible] bindP ifP condP newP optP exP beqP
def u8s (l : List Nat) : List Value := l.map fun b : Nat => Value.int .u8 (b : Int)
theorem u8s_len (l : List Nat) : (u8s l).length = l.length := by simp [u8s]
def splitLI (c : List Nat) (n : Int) : List Value := u8s c ++ [.int .i64 n]
def splitI (c : List Nat) (n : Int) : Value := .agg (splitLI c n).toArray
theorem splitI_cells (c : List Nat) (n : Int) : (splitI c n).cells = (splitLI c n).toArray := rfl
theorem splitLI_len {c : List Nat} {n : Int} (hc : c.length = 256) : (splitLI c n).length = 257 := by simp [splitLI, u8s_len, hc]
theorem splitLI_ok (c : List Nat) (n : Int) : (splitLI c n).all cellOk = true := by simp [splitLI, u8s, cellOk]
theorem splitLI_get {c : List Nat} {n : Int} {i : Nat} (hi : i < c.length) : (splitLI c n)[i]? = some (.int .u8 (c[i] : Nat)) := by
  unfold splitLI
  rw [List.getElem?_append_left (by rw [u8s_len]; exact hi)]
  simp [u8s, hi]
theorem splitLI_many {c : List Nat} {n : Int} (hc : c.length = 256) : (splitLI c n)[256]? = some (.int .i64 n) := by
  unfold splitLI
  rw [List.getElem?_append_right (by rw [u8s_len]; omega)]
  simp [u8s_len, hc]
def rt (c : List Nat) : Nat → Option Nat
  | 0 => some 0
  | i + 1 => (rt c i).bind fun m => if m < c.getD i 0 then none else if c.getD i 0 = m then some (m + 1) else some m
def rightB (c : List Nat) (n : Int) : Bool := match rt c 256 with
  | some m => decide ((m : Int) = n)
  | none => false
theorem rt_le {c : List Nat} : ∀ {i m : Nat}, rt c i = some m → m ≤ i
  | 0, m, h => by cases h; exact Nat.le_refl _
  | i + 1, m, h => by
    obtain ⟨m0, h1, h2⟩ := bind_some' h
    have := rt_le h1
    split at h2
    · cases h2
    · split at h2 <;> cases h2 <;> omega
theorem rt_none {c : List Nat} {i : Nat} (h : rt c i = none) : ∀ j, i ≤ j → rt c j = none := by
  intro j hj
  induction hj with
  | refl => exact h
  | step _ ih => simp only [rt, ih, Option.bind]
set_option maxRecDepth 4000 in
theorem ref02_Right_c {ro : Ro} {c : List Nat} {n : Int} (hc : c.length = 256) (hcl : ∀ x ∈ c, x < 256) {h : T Obj} {nx : Nat} {K : KV} (hf : Fr h nx) (hK : ∀ nx', nx ≤ nx' → K (.bool (rightB c n)) h nx') : callP Try.prog ro i_ref02_Right [splitI c n] h nx K := by
  apply ref02_Right_of
  unfold ref02_Right
  refine newP_mk ?_
  refine loopP_rule (fun j e h' nx' => ∃ (i m : Nat), i + j = 256 ∧ nx + 1 ≤ nx' ∧ e 1 = ptr nx ∧ e 3 = .int .i64 m ∧ e 4 = .int .i64 i ∧ Sub h h' ∧ Fr h' nx' ∧
    h'.get nx = some (.cells (splitLI c n).toArray y_api_Split) ∧ rt c i = some m) ?_ (n := 256) ⟨0, 0, by omega, by omega, rfl, rfl, rfl, ?_, ?_, ?_, rfl⟩
  · rintro j e h' nx' ⟨i, m, hij, hnx, e1, e3, e4, hs, hf', g0, hr⟩ Q' hq hx
    have hm := rt_le hr
    unfold ref02_Right_L1
    rw [e1, e3, e4]
    (repeat (first | refine bindP_mk (by simp (disch := first | omega | exact Int.natCast_nonneg _ | assumption) only [BB, B2, ↓reduceIte, Nat.reduceLeDiff, Nat.reduceAdd, intB_eql, intB_neq, intB_lss, intB_leq, intB_gtr, intB_geq] <;> rfl) ?_ | refine newP_mk ?_ | refine optP_mk ?_ | with_reducible first | refine condP_t ?_ | refine condP_f ?_ | refine ifP_tt' ?_ | refine ifP_ff' ?_ | refine ifP_tf' ?_ | refine ifP_ft' ?_ | refine ifP_u' ?_ | refine optP_mk0 ?_))
    by_cases hi : i < 256
    · refine condP_tr (by simp; omega) ?_
      have hic : i < c.length := by omega
      have hci := hcl _ (List.getElem_mem hic)
      have hg := splitLI_get (n := n) hic
      have hgd : c.getD i 0 = c[i] := by rw [List.getD_eq_getElem?_getD, List.getElem?_eq_getElem hic]; rfl
      have hrs : rt c (i + 1) = if m < c[i] then none else if c[i] = m then some (m + 1) else some m := by simp only [rt, hr, Option.bind_some, hgd]
      (repeat (first | refine bindP_mk (by simp (disch := first | omega | exact Int.natCast_nonneg _ | assumption) only [BB, B2, ↓reduceIte, Nat.reduceLeDiff, Nat.reduceAdd, intB_eql, intB_neq, intB_lss, intB_leq, intB_gtr, intB_geq, g0, hg] <;> rfl) ?_ | refine newP_mk ?_ | refine optP_mk ?_ | with_reducible first | refine condP_t ?_ | refine condP_f ?_ | refine ifP_tt' ?_ | refine ifP_ff' ?_ | refine ifP_tf' ?_ | refine ifP_ft' ?_ | refine ifP_u' ?_ | refine optP_mk0 ?_))
      by_cases h1 : m < c[i]
      · refine condP_tr (by simp; omega) ?_
        refine hx _ _ _ _ (fun e => by cases e) (exP_r ?_)
        refine ⟨h, hs, ?_⟩
        have hn : rt c 256 = none := rt_none (i := i + 1) (by rw [hrs, if_pos h1]) 256 (by omega)
        have := hK (nx' + 10) (by omega)
        unfold rightB at this
        rw [hn] at this
        exact this
      · refine condP_fa (by simp; omega) ?_
        rw [if_neg h1] at hrs
        (repeat (first | refine bindP_mk (by simp (disch := first | omega | exact Int.natCast_nonneg _ | assumption) only [BB, B2, ↓reduceIte, Nat.reduceLeDiff, Nat.reduceAdd, intB_eql, intB_neq, intB_lss, intB_leq, intB_gtr, intB_geq, g0, hg] <;> rfl) ?_ | refine newP_mk ?_ | refine optP_mk ?_ | with_reducible first | refine condP_t ?_ | refine condP_f ?_ | refine ifP_tt' ?_ | refine ifP_ff' ?_ | refine ifP_tf' ?_ | refine ifP_ft' ?_ | refine ifP_u' ?_ | refine optP_mk0 ?_))
        have hj2 : ∀ (e : Env) (n2 m' : Nat), nx' ≤ n2 → e 1 = ptr nx → e 3 = .int .i64 m' → e 4 = .int .i64 i → rt c (i + 1) = some m' → ref02_Right_j2 ro Q' e h' n2 := by
          intro e n2 m' hn2 e1 e3 e4 hr'
          unfold ref02_Right_j2
          rw [e4]
          (repeat (first | refine bindP_mk (by simp (disch := first | omega | exact Int.natCast_nonneg _ | assumption) only [BB, B2, ↓reduceIte, Nat.reduceLeDiff, Nat.reduceAdd, intB_eql, intB_neq, intB_lss, intB_leq, intB_gtr, intB_geq] <;> rfl) ?_ | refine newP_mk ?_ | refine optP_mk ?_ | with_reducible first | refine condP_t ?_ | refine condP_f ?_ | refine ifP_tt' ?_ | refine ifP_ff' ?_ | refine ifP_tf' ?_ | refine ifP_ft' ?_ | refine ifP_u' ?_ | refine optP_mk0 ?_))
          exact hq (j - 1) _ _ _ _ (by omega) ⟨i + 1, m', by omega, by omega, e1, e3, rfl, hs, hf'.mono (by omega), g0, hr'⟩ (Sub.refl _)
        by_cases h2 : c[i] = m
        · refine condP_tr (by simp; omega) ?_
          (repeat (first | refine bindP_mk (by simp (disch := first | omega | exact Int.natCast_nonneg _ | assumption) only [BB, B2, ↓reduceIte, Nat.reduceLeDiff, Nat.reduceAdd, intB_eql, intB_neq, intB_lss, intB_leq, intB_gtr, intB_geq] <;> rfl) ?_ | refine newP_mk ?_ | refine optP_mk ?_ | with_reducible first | refine condP_t ?_ | refine condP_f ?_ | refine ifP_tt' ?_ | refine ifP_ff' ?_ | refine ifP_tf' ?_ | refine ifP_ft' ?_ | refine ifP_u' ?_ | refine optP_mk0 ?_))
          rw [if_pos h2] at hrs
          exact hj2 _ _ (m + 1) (by omega) e1 rfl e4 hrs
        · refine condP_fa (by simp; omega) ?_
          rw [if_neg h2] at hrs
          exact hj2 _ _ m (by omega) e1 e3 e4 hrs
    · refine condP_fa (by simp; omega) ?_
      refine hx _ _ _ _ (fun e => by cases e) (exP_e (beqP_t ?_))
      have hi2 : i = 256 := by omega
      subst hi2
      unfold ref02_Right_j1
      have f1 : ∀ a b, Env.put (Env.put e 5 a) 6 b 1 = ptr nx := fun a b => e1
      have f3 : ∀ a b, Env.put (Env.put e 5 a) 6 b 3 = .int .i64 m := fun a b => e3
      simp only [puts, f1, f3]
      have hg := splitLI_many (n := n) hc
      (repeat (first | refine bindP_mk (by simp (disch := first | omega | exact Int.natCast_nonneg _ | assumption) only [BB, B2, ↓reduceIte, Nat.reduceLeDiff, Nat.reduceAdd, intB_eql, intB_neq, intB_lss, intB_leq, intB_gtr, intB_geq, g0, hg] <;> rfl) ?_ | refine newP_mk ?_ | refine optP_mk ?_ | with_reducible first | refine condP_t ?_ | refine condP_f ?_ | refine ifP_tt' ?_ | refine ifP_ff' ?_ | refine ifP_tf' ?_ | refine ifP_ft' ?_ | refine ifP_u' ?_ | refine optP_mk0 ?_))
      refine ⟨h, hs, ?_⟩
      have := hK (nx' + 2 + 5) (by omega)
      unfold rightB at this
      rw [hr] at this
      exact this
  · exact (Sub.refl h).new hf (Nat.le_refl _)
  · exact hf.upd (m := nx + 4) (by omega) (by omega)
  · simp (disch := first | omega | exact Int.natCast_nonneg _ | assumption) only [BB, B2, ↓reduceIte, Nat.reduceLeDiff, Nat.reduceAdd, intB_eql, intB_neq, intB_lss, intB_leq, intB_gtr, intB_geq, splitI_cells]
end V
end Go.Proofs.Ytmmdcdjkmakgpaa
set_option linter.unusedVariables false
set_option linter.unusedSimpArgs false
namespace Go.Proofs.Ytmmdcdjkmakgpaa
namespace V
attribute [local irreducible] bindP ifP condP newP optP exP beqP
def codesD (m : Int) : Int := if m = 0 then 1 else if m = 1 then 3 else if m = 2 then 9 else if m = 3 then 27 else 0
theorem codes_of {m p : Int} (h : m = 0 ∧ p = 1 ∨ m = 1 ∧ p = 3 ∨ m = 2 ∧ p = 9 ∨ m = 3 ∧ p = 27) : codesD m = p := by
  unfold codesD
  rcases h with ⟨h, rfl⟩ | ⟨h, rfl⟩ | ⟨h, rfl⟩ | ⟨h, rfl⟩ <;> subst h <;> rfl
theorem codes_no {m : Int} (h : m < 0 ∨ 3 < m) : codesD m = 0 := by
  unfold codesD
  rw [if_neg (by omega), if_neg (by omega), if_neg (by omega), if_neg (by omega)]
theorem codes_le (m : Int) : 0 ≤ codesD m ∧ codesD m ≤ 27 := by
  unfold codesD
  repeat' split
  all_goals omega
theorem codes_few {m : Int} (h : codesD m ≠ 0) : 0 ≤ m ∧ m ≤ 3 := by
  rcases Int.lt_or_le m 0 with h1 | h1
  · exact absurd (codes_no (.inl h1)) h
  · rcases Int.lt_or_le 3 m with h2 | h2
    · exact absurd (codes_no (.inr h2)) h
    · exact ⟨h1, h2⟩
set_option maxRecDepth 4000 in
theorem auto_Codes_c {ro : Ro} {m : Int} {h : T Obj} {nx : Nat} {K : KV} (hK : ∀ nx', nx ≤ nx' → K (.int .i64 (codesD m)) h nx') : callP Try.prog ro i_auto_Codes [.int .i64 m] h nx K := by
  apply auto_Codes_of
  unfold auto_Codes
  refine lss_s (fun h1 => ?_) (fun h1 => ?_)
  · (repeat (first | refine bindP_mk (by simp (disch := first | omega | exact Int.natCast_nonneg _ | assumption) only [BB, B2, ↓reduceIte, Nat.reduceLeDiff, Nat.reduceAdd, CC] <;> rfl) ?_ | refine newP_mk ?_ | refine optP_mk ?_ | with_reducible first | refine condP_t ?_ | refine condP_f ?_ | refine ifP_tt' ?_ | refine ifP_ff' ?_ | refine ifP_tf' ?_ | refine ifP_ft' ?_ | refine ifP_u' ?_ | refine optP_mk0 ?_))
    exact ⟨_, Sub.refl _, ki hK (codes_no (.inl h1)) (by omega)⟩
  · (repeat (first | refine bindP_mk (by simp (disch := first | omega | exact Int.natCast_nonneg _ | assumption) only [BB, B2, ↓reduceIte, Nat.reduceLeDiff, Nat.reduceAdd, CC] <;> rfl) ?_ | refine newP_mk ?_ | refine optP_mk ?_ | with_reducible first | refine condP_t ?_ | refine condP_f ?_ | refine ifP_tt' ?_ | refine ifP_ff' ?_ | refine ifP_tf' ?_ | refine ifP_ft' ?_ | refine ifP_u' ?_ | refine optP_mk0 ?_))
    refine gtr_s (fun h2 => ?_) (fun h2 => ?_)
    · (repeat (first | refine bindP_mk (by simp (disch := first | omega | exact Int.natCast_nonneg _ | assumption) only [BB, B2, ↓reduceIte, Nat.reduceLeDiff, Nat.reduceAdd, CC] <;> rfl) ?_ | refine newP_mk ?_ | refine optP_mk ?_ | with_reducible first | refine condP_t ?_ | refine condP_f ?_ | refine ifP_tt' ?_ | refine ifP_ff' ?_ | refine ifP_tf' ?_ | refine ifP_ft' ?_ | refine ifP_u' ?_ | refine optP_mk0 ?_))
      exact ⟨_, Sub.refl _, ki hK (codes_no (.inr h2)) (by omega)⟩
    · (repeat (first | refine bindP_mk (by simp (disch := first | omega | exact Int.natCast_nonneg _ | assumption) only [BB, B2, ↓reduceIte, Nat.reduceLeDiff, Nat.reduceAdd, CC] <;> rfl) ?_ | refine newP_mk ?_ | refine optP_mk ?_ | with_reducible first | refine condP_t ?_ | refine condP_f ?_ | refine ifP_tt' ?_ | refine ifP_ff' ?_ | refine ifP_tf' ?_ | refine ifP_ft' ?_ | refine ifP_u' ?_ | refine optP_mk0 ?_))
      refine loopP_rule (fun j e h' nx' => ∃ (k : Nat) (p : Int), (k : Int) + j = m ∧ nx ≤ nx' ∧ h' = h ∧ e 3 = .int .i64 p ∧ e 10 = .int .i64 m ∧ e 11 = .int .i64 k ∧ (k = 0 ∧ p = 1 ∨ k = 1 ∧ p = 3 ∨ k = 2 ∧ p = 9 ∨ k = 3 ∧ p = 27)) ?_ (n := m.toNat) ⟨0, 1, by omega, by omega, rfl, rfl, rfl, rfl, by omega⟩
      rintro j e h' nx' ⟨k, p, hj, hnx, rfl, e3, e10, e11, hp⟩ Q' hq hx
      unfold auto_Codes_L1
      rw [e3, e10, e11]
      refine lss_s (fun hk => ?_) (fun hk => ?_)
      · (repeat (first | refine bindP_mk (by simp (disch := first | omega | exact Int.natCast_nonneg _ | assumption) only [BB, B2, ↓reduceIte, Nat.reduceLeDiff, Nat.reduceAdd, CC] <;> rfl) ?_ | refine newP_mk ?_ | refine optP_mk ?_ | with_reducible first | refine condP_t ?_ | refine condP_f ?_ | refine ifP_tt' ?_ | refine ifP_ff' ?_ | refine ifP_tf' ?_ | refine ifP_ft' ?_ | refine ifP_u' ?_ | refine optP_mk0 ?_))
        exact hq (j - 1) _ _ _ _ (by omega) ⟨k + 1, p * 3, by omega, by omega, rfl, rfl, e10, rfl, by omega⟩ (Sub.refl _)
      · (repeat (first | refine bindP_mk (by simp (disch := first | omega | exact Int.natCast_nonneg _ | assumption) only [BB, B2, ↓reduceIte, Nat.reduceLeDiff, Nat.reduceAdd, CC] <;> rfl) ?_ | refine newP_mk ?_ | refine optP_mk ?_ | with_reducible first | refine condP_t ?_ | refine condP_f ?_ | refine ifP_tt' ?_ | refine ifP_ff' ?_ | refine ifP_tf' ?_ | refine ifP_ft' ?_ | refine ifP_u' ?_ | refine optP_mk0 ?_))
        refine hx _ _ _ _ (fun e => by cases e) (exP_e (beqP_t ?_))
        unfold auto_Codes_j1
        have f3 : ∀ (e' : Env) n, e' 3 = .int .i64 p → nx ≤ n → ∃ h13, Sub h13 h' ∧ K (e' 3) h13 n := fun e' n h3 hn => by
          rw [h3]
          exact ⟨_, Sub.refl _, ki hK (codes_of (by omega)) hn⟩
        exact f3 _ _ e3 (by omega)
set_option maxRecDepth 4000 in
theorem ref11_Codes_c {ro : Ro} {m : Int} {h : T Obj} {nx : Nat} {K : KV} (hK : ∀ nx', nx ≤ nx' → K (.int .i64 (codesD m)) h nx') : callP Try.prog ro i_ref11_Codes [.int .i64 m] h nx K := by
  apply ref11_Codes_of
  unfold ref11_Codes
  refine lss_s (fun h1 => ?_) (fun h1 => ?_)
  · (repeat (first | refine bindP_mk (by simp (disch := first | omega | exact Int.natCast_nonneg _ | assumption) only [BB, B2, ↓reduceIte, Nat.reduceLeDiff, Nat.reduceAdd, CC] <;> rfl) ?_ | refine newP_mk ?_ | refine optP_mk ?_ | with_reducible first | refine condP_t ?_ | refine condP_f ?_ | refine ifP_tt' ?_ | refine ifP_ff' ?_ | refine ifP_tf' ?_ | refine ifP_ft' ?_ | refine ifP_u' ?_ | refine optP_mk0 ?_))
    exact ⟨_, Sub.refl _, ki hK (codes_no (.inl h1)) (by omega)⟩
  · (repeat (first | refine bindP_mk (by simp (disch := first | omega | exact Int.natCast_nonneg _ | assumption) only [BB, B2, ↓reduceIte, Nat.reduceLeDiff, Nat.reduceAdd, CC] <;> rfl) ?_ | refine newP_mk ?_ | refine optP_mk ?_ | with_reducible first | refine condP_t ?_ | refine condP_f ?_ | refine ifP_tt' ?_ | refine ifP_ff' ?_ | refine ifP_tf' ?_ | refine ifP_ft' ?_ | refine ifP_u' ?_ | refine optP_mk0 ?_))
    refine gtr_s (fun h2 => ?_) (fun h2 => ?_)
    · (repeat (first | refine bindP_mk (by simp (disch := first | omega | exact Int.natCast_nonneg _ | assumption) only [BB, B2, ↓reduceIte, Nat.reduceLeDiff, Nat.reduceAdd, CC] <;> rfl) ?_ | refine newP_mk ?_ | refine optP_mk ?_ | with_reducible first | refine condP_t ?_ | refine condP_f ?_ | refine ifP_tt' ?_ | refine ifP_ff' ?_ | refine ifP_tf' ?_ | refine ifP_ft' ?_ | refine ifP_u' ?_ | refine optP_mk0 ?_))
      exact ⟨_, Sub.refl _, ki hK (codes_no (.inr h2)) (by omega)⟩
    · (repeat (first | refine bindP_mk (by simp (disch := first | omega | exact Int.natCast_nonneg _ | assumption) only [BB, B2, ↓reduceIte, Nat.reduceLeDiff, Nat.reduceAdd, CC] <;> rfl) ?_ | refine newP_mk ?_ | refine optP_mk ?_ | with_reducible first | refine condP_t ?_ | refine condP_f ?_ | refine ifP_tt' ?_ | refine ifP_ff' ?_ | refine ifP_tf' ?_ | refine ifP_ft' ?_ | refine ifP_u' ?_ | refine optP_mk0 ?_))
      refine loopP_rule (fun j e h' nx' => ∃ (k : Nat) (p : Int), (k : Int) + j = m ∧ nx ≤ nx' ∧ h' = h ∧ e 3 = .int .i64 p ∧ e 0 = .int .i64 m ∧ e 4 = .int .i64 k ∧ (k = 0 ∧ p = 1 ∨ k = 1 ∧ p = 3 ∨ k = 2 ∧ p = 9 ∨ k = 3 ∧ p = 27)) ?_ (n := m.toNat) ⟨0, 1, by omega, by omega, rfl, rfl, rfl, rfl, by omega⟩
      rintro j e h' nx' ⟨k, p, hj, hnx, rfl, e3, e10, e11, hp⟩ Q' hq hx
      unfold ref11_Codes_L1
      rw [e3, e10, e11]
      refine lss_s (fun hk => ?_) (fun hk => ?_)
      · (repeat (first | refine bindP_mk (by simp (disch := first | omega | exact Int.natCast_nonneg _ | assumption) only [BB, B2, ↓reduceIte, Nat.reduceLeDiff, Nat.reduceAdd, CC] <;> rfl) ?_ | refine newP_mk ?_ | refine optP_mk ?_ | with_reducible first | refine condP_t ?_ | refine condP_f ?_ | refine ifP_tt' ?_ | refine ifP_ff' ?_ | refine ifP_tf' ?_ | refine ifP_ft' ?_ | refine ifP_u' ?_ | refine optP_mk0 ?_))
        exact hq (j - 1) _ _ _ _ (by omega) ⟨k + 1, p * 3, by omega, by omega, rfl, rfl, e10, rfl, by omega⟩ (Sub.refl _)
      · (repeat (first | refine bindP_mk (by simp (disch := first | omega | exact Int.natCast_nonneg _ | assumption) only [BB, B2, ↓reduceIte, Nat.reduceLeDiff, Nat.reduceAdd, CC] <;> rfl) ?_ | refine newP_mk ?_ | refine optP_mk ?_ | with_reducible first | refine condP_t ?_ | refine condP_f ?_ | refine ifP_tt' ?_ | refine ifP_ff' ?_ | refine ifP_tf' ?_ | refine ifP_ft' ?_ | refine ifP_u' ?_ | refine optP_mk0 ?_))
        refine hx _ _ _ _ (fun e => by cases e) (exP_e (beqP_t ?_))
        unfold ref11_Codes_j1
        have f3 : ∀ (e' : Env) n, e' 3 = .int .i64 p → nx ≤ n → ∃ h13, Sub h13 h' ∧ K (e' 3) h13 n := fun e' n h3 hn => by
          rw [h3]
          exact ⟨_, Sub.refl _, ki hK (codes_of (by omega)) hn⟩
        exact f3 _ _ e3 (by omega)
end V
end Go.Proofs.Ytmmdcdjkmakgpaa
set_option linter.unusedVariables false
set_option linter.unusedSimpArgs false
namespace Go.Proofs.Ytmmdcdjkmakgpaa
namespace V
attribute [local irreducible] bindP ifP condP newP optP exP beqP
structure MoveD where
  to : Int
  ops : List Nat
structure StateD where
  l : List Int
  r : List Int
  rule : List Int
  next : List (List MoveD)
structure AutoD where
  c : List Nat
  many : Int
  counts : List (Int × Int)
  states : List StateD
def noS : StateD := ⟨[], [], [], []⟩
def opOk (R : List Int) (o : Nat) (r : Int) : Bool := decide (1 ≤ o) && (decide (o ≤ 3) && (decide (o = 3) || R.contains r))
def opsOk (R : List Int) : List Nat → List Int → Bool
  | o :: os, r :: rs => opOk R o r && opsOk R os rs
  | _, _ => true
def moveOk (S : List StateD) (R : List Int) (m : MoveD) : Bool :=
  if m.to = -1 then decide (m.ops.length = 0) else decide (1 ≤ m.to) && (decide (m.to < S.length) && (decide (m.ops.length = (S.getD m.to.toNat noS).r.length) && opsOk R m.ops (S.getD m.to.toNat noS).r))
def maxB : Nat := 9223372036854775807
def RU8 (x : List Value) (d : Nat) : Prop := x = [.int .u8 (d : Int)] ∧ d < 256
def RMove (ro : Ro) (h : T Obj) (x : List Value) (d : MoveD) : Prop := ∃ ov, x = [.int .i64 d.to, ov] ∧ SlR ro h ov 1 RU8 d.ops ∧ d.ops.length ≤ maxB
def RRow (ro : Ro) (h : T Obj) (x : List Value) (d : List MoveD) : Prop := ∃ w, x = [w] ∧ SlR ro h w 2 (RMove ro h) d ∧ d.length ≤ maxB
def RState (ro : Ro) (h : T Obj) (x : List Value) (d : StateD) : Prop := ∃ lv rv uv nv, x = [lv, rv, uv, nv] ∧ ZI ro h lv d.l ∧ ZI ro h rv d.r ∧ ZI ro h uv d.rule ∧ SlR ro h nv 1 (RRow ro h) d.next ∧ d.r.length ≤ maxB
def RCount (x : List Value) (d : Int × Int) : Prop := x = [.int .i64 d.1, .int .i64 d.2]
theorem RMove.sub {ro : Ro} {h h' : T Obj} (hs : Sub h h') : ∀ x d, RMove ro h x d → RMove ro h' x d := fun x d ⟨ov, h1, h2, h3⟩ => ⟨ov, h1, h2.sub hs fun _ _ h => h, h3⟩
theorem RRow.sub {ro : Ro} {h h' : T Obj} (hs : Sub h h') : ∀ x d, RRow ro h x d → RRow ro h' x d := fun x d ⟨ov, h1, h2, h3⟩ => ⟨ov, h1, h2.sub hs (RMove.sub hs), h3⟩
theorem RState.sub {ro : Ro} {h h' : T Obj} (hs : Sub h h') : ∀ x d, RState ro h x d → RState ro h' x d := fun x d ⟨lv, rv, uv, nv, h1, h2, h3, h4, h5, h6⟩ => ⟨lv, rv, uv, nv, h1, h2.sub hs, h3.sub hs, h4.sub hs, h5.sub hs (RRow.sub hs), h6⟩
def autL (c : List Nat) (n : Int) (cv sv : Value) : List Value := splitLI c n ++ [cv, sv]
section
variable {c : List Nat} {n : Int} {cv sv : Value}
theorem autL_len (hc : c.length = 256) : (autL c n cv sv).length = 259 := by simp [autL, splitLI_len hc]
theorem autL_many (hc : c.length = 256) : (autL c n cv sv)[256]? = some (.int .i64 n) := by
  unfold autL
  rw [List.getElem?_append_left (by rw [splitLI_len hc]; omega)]
  exact splitLI_many hc
theorem autL_counts (hc : c.length = 256) : (autL c n cv sv)[257]? = some cv := by
  unfold autL
  rw [List.getElem?_append_right (by rw [splitLI_len hc]; omega), splitLI_len hc]; rfl
theorem autL_states (hc : c.length = 256) : (autL c n cv sv)[258]? = some sv := by
  unfold autL
  rw [List.getElem?_append_right (by rw [splitLI_len hc]; omega), splitLI_len hc]; rfl
theorem autL_ok (h1 : cellOk cv = true) (h2 : cellOk sv = true) : (autL c n cv sv).all cellOk = true := by
  unfold autL
  rw [List.all_append, splitLI_ok, Bool.true_and]
  simp [h1, h2]
theorem loadS {ro : Ro} {h : T Obj} {id z : Nat} {e : TypeId} {f : Nat × Nat} (hg : h.get id = some (.cells (autL c n cv sv).toArray e f)) (hc : c.length = 256) : loadA ro h 257 (at_ id 0 z) = some (splitI c n) := by
  rw [loadA_own, hg, cellsIn_some]
  simp only [Option.bind_some, tl]
  rw [if_pos (by rw [autL_len hc]; omega), List.drop_zero]
  unfold autL
  rw [List.take_append_of_le_length (by rw [splitLI_len hc]; omega), List.take_of_length_le (by rw [splitLI_len hc]; omega)]
  rfl
end
def RAuto (ro : Ro) (h : T Obj) (x : List Value) (d : AutoD) : Prop := ∃ cv sv, x = autL d.c d.many cv sv ∧ d.c.length = 256 ∧ (∀ x ∈ d.c, x < 256) ∧ SlR ro h cv 2 RCount d.counts ∧ SlR ro h sv 4 (RState ro h) d.states ∧ d.counts.length ≤ maxB ∧ d.states.length ≤ maxB
theorem opsOk_cons (R : List Int) (o : Nat) (os : List Nat) (r : Int) (rs : List Int) : opsOk R (o :: os) (r :: rs) = (opOk R o r && opsOk R os rs) := rfl
theorem opsOk_nil (R : List Int) (rs : List Int) : opsOk R [] rs = true := by cases rs <;> rfl
end V
end Go.Proofs.Ytmmdcdjkmakgpaa
set_option linter.unusedVariables false
set_option linter.unusedSimpArgs false
namespace Go.Proofs.Ytmmdcdjkmakgpaa
namespace V
def ctd (g : GlD) (q : Int) : Bool := decide (1 < (g.at q).hi)
def ctdP (p : PosD) : Bool := decide (1 < p.hi)
def numZ (g : GlD) (q : Int) : Int := (((g.p.take q.toNat).filter ctdP).length : Nat)
def regsZ (g : GlD) (l : List Int) : List Int := (l.filter (ctd g)).map (numZ g)
def cntsL (l : List PosD) : List (Int × Int) := (l.filter ctdP).map fun p => (p.lo, p.hi)
def setsL (l : List PosD) : List Nat := l.map (·.s)
def digs (g : GlD) : List Int → Int → List (Int × Int)
  | [], _ => []
  | p :: r, c => if ctd g p then (p, c % 3) :: digs g r (c / 3) else (p, -1) :: digs g r c
def entersZ (g : GlD) (at_ : Nat) (D : List (Int × Int)) (q : Int) : Bool := (decide (at_ = 0) && g.first.contains q) || D.any fun d => decide (d.2 ≠ 0) && (g.at d.1).next.contains q
def staysZ (D : List (Int × Int)) (q : Int) : Bool := D.any fun d => decide (d.1 = q) && (decide (d.2 = 0) || decide (d.2 = 2))
def ruleZ (g : GlD) (best : Int) : List (Int × Int) → Int
  | [] => best
  | d :: r => ruleZ g (if decide (d.2 ≠ 0) && ((g.at d.1).last && (decide (best < 0) || decide ((g.at d.1).rule < best))) then (g.at d.1).rule else best) r
def takesZ (g : GlD) (en st : Int → Bool) (b : Nat) (q : Int) : Bool := (g.at q).s.testBit b && (en q || st q)
def placesZ (n : Nat) : List Int := (List.range n).map fun i : Nat => (i : Int)
def lZ (g : GlD) (en st : Int → Bool) (b : Nat) : List Int := (placesZ g.p.length).filter (takesZ g en st b)
def opZ (en st : Int → Bool) (q : Int) : Nat := if st q then (if en q then 2 else 1) else 3
def opsZ (g : GlD) (en st : Int → Bool) (l : List Int) : List Nat := (l.filter (ctd g)).map (opZ en st)
def isL (l : List Int) (s : StateD) : Bool := decide (s.l = l)
def findZ (g : GlD) (S : List StateD) (l : List Int) : Int × Int × List StateD :=
  match S.findIdx? (isL l) with
  | some k => (k, 0, S)
  | none => if 3 < (regsZ g l).length then (0, 110, S) else if 256 ≤ S.length then (0, 3, S) else (S.length, 0, S ++ [⟨l, regsZ g l, [], []⟩])
def goesZ (g : GlD) (en st : Int → Bool) (b : Nat) (S : List StateD) : MoveD × Int × List StateD :=
  match lZ g en st b with
  | [] => (⟨-1, []⟩, 0, S)
  | l => (⟨(findZ g S l).1, opsZ g en st l⟩, (findZ g S l).2.1, (findZ g S l).2.2)
def rowZ (g : GlD) (en st : Int → Bool) : List Nat → List StateD → Int × List MoveD × List StateD
  | [], S => (0, [], S)
  | b :: r, S => if (goesZ g en st b S).2.1 = 0 then ((rowZ g en st r (goesZ g en st b S).2.2).1, (goesZ g en st b S).1 :: (rowZ g en st r (goesZ g en st b S).2.2).2.1, (rowZ g en st r (goesZ g en st b S).2.2).2.2) else ((goesZ g en st b S).2.1, [], S)
def addRow (rule : Int) (row : List MoveD) (s : StateD) : StateD := ⟨s.l, s.r, s.rule ++ [rule], s.next ++ [row]⟩
def lAt (S : List StateD) (k : Nat) : List Int := (S.getD k noS).l
def codeZ (g : GlD) (B : List Nat) (k : Nat) (c : Int) (S : List StateD) : Int × List StateD :=
  let D := digs g (lAt S k) c
  let R := rowZ g (entersZ g k D) (staysZ D) B S
  if R.1 = 0 then (0, R.2.2.modify k (addRow (ruleZ g (-1) D) R.2.1)) else (R.1, S)
def codesZ (g : GlD) (B : List Nat) (k : Nat) : Nat → Int → List StateD → Int × List StateD
  | 0, _, S => (0, S)
  | n + 1, c, S => if (codeZ g B k c S).1 = 0 then codesZ g B k n (c + 1) (codeZ g B k c S).2 else ((codeZ g B k c S).1, S)
def allZ (g : GlD) (B : List Nat) : Nat → Nat → List StateD → Int × List StateD
  | 0, _, S => (0, S)
  | n + 1, k, S => if k < S.length then (if (codesZ g B k (codesD (S.getD k noS).r.length).toNat 0 S).1 = 0 then allZ g B n (k + 1) (codesZ g B k (codesD (S.getD k noS).r.length).toNat 0 S).2 else ((codesZ g B k (codesD (S.getD k noS).r.length).toNat 0 S).1, S)) else (0, S)
end V
end Go.Proofs.Ytmmdcdjkmakgpaa
set_option linter.unusedVariables false
set_option linter.unusedSimpArgs false
namespace Go.Proofs.Ytmmdcdjkmakgpaa
namespace V
section
variable {κ : Type} {inj : κ → Value}
def Ents (inj : κ → Value) : List MapEntry → List (κ × Value) → Prop
  | [], [] => True
  | e :: es, p :: ps => e.key = inj p.1 ∧ e.val = p.2 ∧ Ents inj es ps
  | _, _ => False
theorem Ents.snoc {e : MapEntry} {a : κ} {v : Value} (h1 : e.key = inj a) (h2 : e.val = v) : ∀ {es : List MapEntry} {ps : List (κ × Value)}, Ents inj es ps → Ents inj (es ++ [e]) (ps ++ [(a, v)])
  | [], [], _ => ⟨h1, h2, trivial⟩
  | x :: es, p :: ps, ⟨q1, q2, q3⟩ => ⟨q1, q2, Ents.snoc h1 h2 q3⟩
  | [], p :: ps, h => h.elim
  | e :: es, [], h => h.elim
end
section
variable {κ : Type} [DecidableEq κ] {P : Program} {kt : TypeId} {inj : κ → Value}
def getP (a : κ) : List (κ × Value) → Option Value
  | [] => none
  | p :: ps => if p.1 = a then some p.2 else getP a ps
def setP (a : κ) (v : Value) : List (κ × Value) → List (κ × Value)
  | [] => [(a, v)]
  | p :: ps => if p.1 = a then (a, v) :: ps else p :: setP a v ps
def posP (a : κ) : List (κ × Value) → Nat → Option (Nat × Value)
  | [], _ => none
  | p :: ps, i => if p.1 = a then some (i, p.2) else posP a ps (i + 1)
theorem getP_setP (a b : κ) (v : Value) : ∀ ps : List (κ × Value), getP b (setP a v ps) = if b = a then some v else getP b ps
  | [] => by
    unfold setP getP
    by_cases h : b = a
    · subst h; rw [if_pos rfl, if_pos rfl]
    · rw [if_neg h]; show (if a = b then _ else getP b []) = _; rw [if_neg (Ne.symm h)]; rfl
  | p :: ps => by
    have ih := getP_setP a b v ps
    unfold setP
    by_cases hp : p.1 = a
    · rw [if_pos hp]
      unfold getP
      by_cases h : b = a
      · subst h; rw [if_pos rfl, if_pos rfl]
      · rw [if_neg h]; show (if a = b then _ else getP b ps) = _; rw [if_neg (Ne.symm h), if_neg (by rw [hp]; exact Ne.symm h)]
    · rw [if_neg hp]
      show (if p.1 = b then some p.2 else getP b (setP a v ps)) = _
      rw [ih]
      show _ = if b = a then some v else (if p.1 = b then some p.2 else getP b ps)
      by_cases h : b = a
      · subst h; rw [if_pos rfl, if_pos rfl, if_neg hp]
      · rw [if_neg h, if_neg h]
theorem posP_get (a : κ) : ∀ (ps : List (κ × Value)) (i : Nat), (posP a ps i).map (·.2) = getP a ps
  | [], i => rfl
  | p :: ps, i => by
    unfold posP getP
    by_cases h : p.1 = a
    · rw [if_pos h, if_pos h]; rfl
    · rw [if_neg h, if_neg h]; exact posP_get a ps (i + 1)
theorem findV_pos (hk : ∀ a b : κ, keyEq P kt (inj a) (inj b) = some (decide (a = b))) (a : κ) : ∀ {es : List MapEntry} {ps : List (κ × Value)} (i : Nat), Ents inj es ps → findV P kt (inj a) es i = some (posP a ps i)
  | [], [], i, _ => rfl
  | e :: es, p :: ps, i, ⟨h1, h2, h3⟩ => by
    unfold findV posP
    rw [h1, hk, h2]
    by_cases h : p.1 = a
    · rw [if_pos h, decide_eq_true h.symm]
    · rw [if_neg h, decide_eq_false (Ne.symm h)]; exact findV_pos hk a (i + 1) h3
  | [], p :: ps, i, h => h.elim
  | e :: es, [], i, h => h.elim
theorem posP_none {a : κ} {v : Value} : ∀ {ps : List (κ × Value)} {i : Nat}, posP a ps i = none → setP a v ps = ps ++ [(a, v)]
  | [], i, _ => rfl
  | p :: ps, i, h => by
    unfold posP at h
    by_cases hp : p.1 = a
    · rw [if_pos hp] at h; cases h
    · rw [if_neg hp] at h
      unfold setP
      rw [if_neg hp, posP_none h]; rfl
theorem Ents.put {a : κ} {v : Value} {f : MapEntry → MapEntry} (hf : ∀ e, (f e).key = inj a ∧ (f e).val = v) : ∀ {es : List MapEntry} {ps : List (κ × Value)} {i : Nat} {r : Nat × Value}, posP a ps i = some r → Ents inj es ps → i ≤ r.1 ∧ Ents inj (es.modify (r.1 - i) f) (setP a v ps)
  | [], [], i, r, h, _ => by cases h
  | x :: es, p :: ps, i, r, h, ⟨q1, q2, q3⟩ => by
    unfold posP at h
    unfold setP
    by_cases hp : p.1 = a
    · rw [if_pos hp] at h ⊢
      cases h
      refine ⟨Nat.le_refl _, ?_⟩
      rw [Nat.sub_self, List.modify_zero_cons]
      exact ⟨(hf x).1, (hf x).2, q3⟩
    · rw [if_neg hp] at h ⊢
      obtain ⟨g1, g2⟩ := Ents.put hf h q3
      refine ⟨by omega, ?_⟩
      rw [show r.1 - i = (r.1 - (i + 1)) + 1 by omega, List.modify_succ_cons]
      exact ⟨q1, q2, g2⟩
  | [], p :: ps, i, r, h, h2 => h2.elim
  | e :: es, [], i, r, h, h2 => h2.elim
def MapG (inj : κ → Value) (h : T Obj) (r : Nat) (f : κ → Option Value) : Prop := ∃ es c ps, h.get r = some (.map es c) ∧ Ents inj es.toList ps ∧ ∀ a, getP a ps = f a
theorem MapG.keep {h h' : T Obj} {r : Nat} {f : κ → Option Value} (hm : MapG inj h r f) (he : h'.get r = h.get r) : MapG inj h' r f := by
  obtain ⟨es, c, ps, h1, h2, h3⟩ := hm
  exact ⟨es, c, ps, by rw [he]; exact h1, h2, h3⟩
theorem MapG.sub {h h' : T Obj} {r : Nat} {f : κ → Option Value} (hs : Sub h h') (hm : MapG inj h r f) : MapG inj h' r f := by
  obtain ⟨es, c, ps, h1, h2, h3⟩ := hm
  exact ⟨es, c, ps, hs _ _ h1, h2, h3⟩
theorem MapG.new {h : T Obj} {r c : Nat} (hg : h.get r = some (.map #[] c)) : MapG inj h r fun _ => none := ⟨#[], c, [], hg, trivial, fun _ => rfl⟩
theorem MapG.obj {h : T Obj} {r : Nat} {f : κ → Option Value} (hm : MapG inj h r f) : ∃ es c, h.get r = some (.map es c) := by
  obtain ⟨es, c, ps, h1, h2, h3⟩ := hm
  exact ⟨es, c, h1⟩
theorem MapG.lookT {t et : TypeId} {z : Value} (hu : und P t = some (.map kt et)) (hok : ∀ a, keyOk P kt (inj a) = true) (hk : ∀ a b : κ, keyEq P kt (inj a) (inj b) = some (decide (a = b))) (hz : zer P et = some z)
    {h : T Obj} {r : Nat} {f : κ → Option Value} (hm : MapG inj h r f) (a : κ) (ok : Bool) : lookV P h t (.map (some r)) (inj a) ok = some (outV ok ((f a).getD z) (f a).isSome) := by
  obtain ⟨es, c, ps, h1, h2, h3⟩ := hm
  unfold lookV lookIn
  simp only [hu, hok, mapAt, entriesAt, h1, Option.bind_some, findV_pos hk a 0 h2]
  have := posP_get a ps 0
  rw [h3] at this
  cases hp : posP a ps 0 with
  | none =>
    rw [hp] at this
    have : f a = none := this.symm
    simp only [gotV, hz, Option.bind_some, this]; rfl
  | some q =>
    rw [hp] at this
    have : f a = some q.2 := this.symm
    simp only [gotV, Option.bind_some, this]; rfl
theorem MapG.putT {t et : TypeId} (hu : und P t = some (.map kt et)) (hok : ∀ a, keyOk P kt (inj a) = true) (hk : ∀ a b : κ, keyEq P kt (inj a) (inj b) = some (decide (a = b)))
    {h : T Obj} {r : Nat} {f : κ → Option Value} (hm : MapG inj h r f) (a : κ) (v : Value) : ∃ es c, mapPutV P h t (.map (some r)) (inj a) v = some (h.upd r (some (.map es c))) ∧ ∀ h' : T Obj, h'.get r = some (.map es c) → MapG inj h' r fun b => if b = a then some v else f b := by
  obtain ⟨es, c, ps, h1, h2, h3⟩ := hm
  unfold mapPutV
  simp only [hu, hok, entriesAt, h1, Option.bind_some, findV_pos hk a 0 h2]
  cases hp : posP a ps 0 with
  | none =>
    refine ⟨_, _, rfl, fun h' hg => ⟨_, _, setP a v ps, hg, ?_, fun b => by rw [getP_setP, h3]⟩⟩
    rw [posP_none hp]
    exact Ents.snoc (inj := inj) (a := a) (v := v) rfl rfl h2
  | some q =>
    refine ⟨_, _, rfl, fun h' hg => ⟨_, _, setP a v ps, hg, ?_, fun b => by rw [getP_setP, h3]⟩⟩
    exact (Ents.put (f := fun e : MapEntry => { e with key := inj a, val := v }) (fun _ => ⟨rfl, rfl⟩) hp h2).2
theorem MapG.clear {h : T Obj} {r : Nat} {f : κ → Option Value} (hm : MapG inj h r f) : ∃ c, clearV h (.map (some r)) = some (h.upd r (some (.map #[] c))) := by
  obtain ⟨es, c, ps, h1, h2, h3⟩ := hm
  exact ⟨c, by unfold clearV entriesAt; simp only [h1, Option.bind_some]⟩
end
def injI (a : Int) : Value := .int .i64 a
def injS (a : List UInt8) : Value := .string ⟨a.toArray⟩
theorem keyEq_I {P : Program} {kt : TypeId} (hu : und P kt = some (.int .i64)) (a b : Int) : keyEq P kt (injI a) (injI b) = some (decide (a = b)) := by
  unfold keyEq injI
  simp only [hu, eqCell]; rfl
theorem keyOk_I {P : Program} {kt : TypeId} (hu : und P kt = some (.int .i64)) (a : Int) : keyOk P kt (injI a) = true := by
  unfold keyOk injI
  simp only [hu]
theorem keyEq_S {P : Program} {kt : TypeId} (hu : und P kt = some .string) (a b : List UInt8) : keyEq P kt (injS a) (injS b) = some (decide (a = b)) := by
  unfold keyEq injS
  simp only [hu, eqCell]
  congr 1
  by_cases h : a = b
  · subst h; simp
  · rw [decide_eq_false h]; simpa using h
theorem keyOk_S {P : Program} {kt : TypeId} (hu : und P kt = some .string) (a : List UInt8) : keyOk P kt (injS a) = true := by
  unfold keyOk injS
  simp only [hu]
end V
end Go.Proofs.Ytmmdcdjkmakgpaa
set_option linter.unusedVariables false
set_option linter.unusedSimpArgs false
namespace Go.Proofs.Ytmmdcdjkmakgpaa
namespace V
open PA
attribute [local irreducible] bindP ifP condP newP optP exP beqP
theorem nilCk_at (id off z : Nat) : nilCk (at_ id off z) = some (at_ id off z) := rfl
theorem nth0 (a b : Value) : nth 0 (.tuple #[a, b]) = some a := rfl
theorem nth1 (a b : Value) : nth 1 (.tuple #[a, b]) = some b := rfl
theorem tinOf {t : TypeId} {s b : Nat} (h : (tin Try.prog t).map (fun i => (i.size, i.bytes)) = some (s, b)) : ∃ i, tin Try.prog t = some i ∧ i.size = s ∧ i.bytes = b := by
  cases hi : tin Try.prog t with
  | none => rw [hi] at h; cases h
  | some i => rw [hi] at h; simp at h; exact ⟨i, rfl, h.1, h.2⟩
theorem und_I : und Try.prog y_int = some (.int .i64) := by kernel_rfl
theorem und_S : und Try.prog y_string = some .string := by kernel_rfl
theorem und_mii : und Try.prog y_map_int_int = some (.map y_int y_int) := by kernel_rfl
theorem und_mib : und Try.prog y_map_int_bool = some (.map y_int y_bool) := by kernel_rfl
theorem und_miu : und Try.prog y_map_int_uint8 = some (.map y_int y_uint8) := by kernel_rfl
theorem und_msi : und Try.prog y_map_string_int = some (.map y_string y_int) := by kernel_rfl
theorem zerI : zer Try.prog y_int = some (.int .i64 0) := by kernel_rfl
theorem zerB : zer Try.prog y_bool = some (.bool false) := by kernel_rfl
theorem zerU : zer Try.prog y_uint8 = some (.int .u8 0) := by kernel_rfl
section
variable {h : T Obj} {r : Nat}
theorem look_ii {f : Int → Option Value} (hm : MapG injI h r f) (q : Int) : lookV Try.prog h y_map_int_int (.map (some r)) (.int .i64 q) true = some (.tuple #[(f q).getD (.int .i64 0), .bool (f q).isSome]) := hm.lookT und_mii (keyOk_I und_I) (keyEq_I und_I) zerI q true
theorem look_iu {f : Int → Option Value} (hm : MapG injI h r f) (q : Int) : lookV Try.prog h y_map_int_uint8 (.map (some r)) (.int .i64 q) true = some (.tuple #[(f q).getD (.int .u8 0), .bool (f q).isSome]) := hm.lookT und_miu (keyOk_I und_I) (keyEq_I und_I) zerU q true
theorem look_si {f : List UInt8 → Option Value} (hm : MapG injS h r f) (q : List UInt8) : lookV Try.prog h y_map_string_int (.map (some r)) (injS q) true = some (.tuple #[(f q).getD (.int .i64 0), .bool (f q).isSome]) := hm.lookT und_msi (keyOk_S und_S) (keyEq_S und_S) zerI q true
theorem put_ii {f : Int → Option Value} (hm : MapG injI h r f) (q : Int) (v : Value) : ∃ es c, mapPutV Try.prog h y_map_int_int (.map (some r)) (.int .i64 q) v = some (h.upd r (some (.map es c))) ∧ ∀ h' : T Obj, h'.get r = some (.map es c) → MapG injI h' r fun b => if b = q then some v else f b := hm.putT und_mii (keyOk_I und_I) (keyEq_I und_I) q v
theorem put_iu {f : Int → Option Value} (hm : MapG injI h r f) (q : Int) (v : Value) : ∃ es c, mapPutV Try.prog h y_map_int_uint8 (.map (some r)) (.int .i64 q) v = some (h.upd r (some (.map es c))) ∧ ∀ h' : T Obj, h'.get r = some (.map es c) → MapG injI h' r fun b => if b = q then some v else f b := hm.putT und_miu (keyOk_I und_I) (keyEq_I und_I) q v
theorem put_si {f : List UInt8 → Option Value} (hm : MapG injS h r f) (q : List UInt8) (v : Value) : ∃ es c, mapPutV Try.prog h y_map_string_int (.map (some r)) (injS q) v = some (h.upd r (some (.map es c))) ∧ ∀ h' : T Obj, h'.get r = some (.map es c) → MapG injS h' r fun b => if b = q then some v else f b := hm.putT und_msi (keyOk_S und_S) (keyEq_S und_S) q v
def BMap (h : T Obj) (r : Nat) (E : Int → Bool) : Prop := ∃ f, MapG injI h r f ∧ ∀ q, (f q).getD (.bool false) = .bool (E q)
theorem BMap.look {E : Int → Bool} (hm : BMap h r E) (q : Int) : lookV Try.prog h y_map_int_bool (.map (some r)) (.int .i64 q) false = some (.bool (E q)) := by
  obtain ⟨f, h1, h2⟩ := hm
  have := h1.lookT und_mib (keyOk_I und_I) (keyEq_I und_I) zerB q false
  rw [h2] at this; exact this
theorem BMap.put {E : Int → Bool} (hm : BMap h r E) (q : Int) (b : Bool) : ∃ es c, mapPutV Try.prog h y_map_int_bool (.map (some r)) (.int .i64 q) (.bool b) = some (h.upd r (some (.map es c))) ∧ ∀ h' : T Obj, h'.get r = some (.map es c) → BMap h' r fun x => if x = q then b else E x := by
  obtain ⟨f, h1, h2⟩ := hm
  obtain ⟨es, c, g1, g2⟩ := h1.putT und_mib (keyOk_I und_I) (keyEq_I und_I) q (.bool b)
  refine ⟨es, c, g1, fun h' hg => ⟨_, g2 h' hg, fun x => ?_⟩⟩
  by_cases hx : x = q
  · simp only [if_pos hx, Option.getD_some]
  · simp only [if_neg hx]; exact h2 x
theorem BMap.new {c : Nat} (hg : h.get r = some (.map #[] c)) : BMap h r fun _ => false := ⟨_, MapG.new hg, fun _ => rfl⟩
theorem BMap.clear {E : Int → Bool} (hm : BMap h r E) : ∃ c, clearV h (.map (some r)) = some (h.upd r (some (.map #[] c))) := by
  obtain ⟨f, h1, h2⟩ := hm
  exact h1.clear
theorem BMap.obj {E : Int → Bool} (hm : BMap h r E) : ∃ es c, h.get r = some (.map es c) := by
  obtain ⟨f, h1, h2⟩ := hm
  exact h1.obj
theorem BMap.keep {h' : T Obj} {E : Int → Bool} (hm : BMap h r E) (he : h'.get r = h.get r) : BMap h' r E := by
  obtain ⟨f, h1, h2⟩ := hm
  exact ⟨f, h1.keep he, h2⟩
theorem BMap.ext {E E' : Int → Bool} (hm : BMap h r E) (he : ∀ q, E q = E' q) : BMap h r E' := by
  obtain ⟨f, h1, h2⟩ := hm
  exact ⟨f, h1, fun q => by rw [← he]; exact h2 q⟩
end
def bldL (av bv nv fv : Value) (c : List Nat) (n : Int) (cv sv kv ev yv : Value) : List Value := av :: bv :: nv :: fv :: (autL c n cv sv ++ [kv, ev, yv])
section
variable {av bv nv fv : Value} {c : List Nat} {n : Int} {cv sv kv ev yv : Value}
theorem bldL_len (hc : c.length = 256) : (bldL av bv nv fv c n cv sv kv ev yv).length = 266 := by simp [bldL, autL_len hc]
theorem bldL_0 : (bldL av bv nv fv c n cv sv kv ev yv)[0]? = some av := rfl
theorem bldL_1 : (bldL av bv nv fv c n cv sv kv ev yv)[1]? = some bv := rfl
theorem bldL_2 : (bldL av bv nv fv c n cv sv kv ev yv)[2]? = some nv := rfl
theorem bldL_3 : (bldL av bv nv fv c n cv sv kv ev yv)[3]? = some fv := rfl
theorem bldL_mid {i : Nat} (hc : c.length = 256) (hi : i < 259) : (bldL av bv nv fv c n cv sv kv ev yv)[i + 4]? = (autL c n cv sv)[i]? := by
  show (autL c n cv sv ++ [kv, ev, yv])[i]? = _
  rw [List.getElem?_append_left (by rw [autL_len hc]; exact hi)]
theorem bldL_end {i : Nat} (hc : c.length = 256) : (bldL av bv nv fv c n cv sv kv ev yv)[i + 263]? = [kv, ev, yv][i]? := by
  show (autL c n cv sv ++ [kv, ev, yv])[i + 259]? = _
  rw [List.getElem?_append_right (by rw [autL_len hc]; omega), autL_len hc, Nat.add_sub_cancel]
theorem bldL_261 (hc : c.length = 256) : (bldL av bv nv fv c n cv sv kv ev yv)[261]? = some cv := by rw [show 261 = 257 + 4 from rfl, bldL_mid hc (by omega), autL_counts hc]
theorem bldL_262 (hc : c.length = 256) : (bldL av bv nv fv c n cv sv kv ev yv)[262]? = some sv := by rw [show 262 = 258 + 4 from rfl, bldL_mid hc (by omega), autL_states hc]
theorem bldL_263 (hc : c.length = 256) : (bldL av bv nv fv c n cv sv kv ev yv)[263]? = some kv := by rw [show 263 = 0 + 263 from rfl, bldL_end hc]; rfl
theorem bldL_264 (hc : c.length = 256) : (bldL av bv nv fv c n cv sv kv ev yv)[264]? = some ev := by rw [show 264 = 1 + 263 from rfl, bldL_end hc]; rfl
theorem bldL_265 (hc : c.length = 256) : (bldL av bv nv fv c n cv sv kv ev yv)[265]? = some yv := by rw [show 265 = 2 + 263 from rfl, bldL_end hc]; rfl
theorem autL_set (hc : c.length = 256) (v : Value) : (autL c n cv sv).set 258 v = autL c n cv v := by
  unfold autL
  rw [List.set_append_right _ _ (by rw [splitLI_len hc]; omega), splitLI_len hc]; rfl
theorem autL_set257 (hc : c.length = 256) (v : Value) : (autL c n cv sv).set 257 v = autL c n v sv := by
  unfold autL
  rw [List.set_append_right _ _ (by rw [splitLI_len hc]; omega), splitLI_len hc]; rfl
theorem bldL_set262 (hc : c.length = 256) (v : Value) : (bldL av bv nv fv c n cv sv kv ev yv).set 262 v = bldL av bv nv fv c n cv v kv ev yv := by
  show av :: bv :: nv :: fv :: ((autL c n cv sv ++ [kv, ev, yv]).set 258 v) = _
  rw [List.set_append_left _ _ (by rw [autL_len hc]; omega), autL_set hc]; rfl
theorem bldL_set261 (hc : c.length = 256) (v : Value) : (bldL av bv nv fv c n cv sv kv ev yv).set 261 v = bldL av bv nv fv c n v sv kv ev yv := by
  show av :: bv :: nv :: fv :: ((autL c n cv sv ++ [kv, ev, yv]).set 257 v) = _
  rw [List.set_append_left _ _ (by rw [autL_len hc]; omega), autL_set257 hc]; rfl
theorem bldL_set3 (v : Value) : (bldL av bv nv fv c n cv sv kv ev yv).set 3 v = bldL av bv nv v c n cv sv kv ev yv := rfl
end
def Keep (ids : List Nat) (h h' : T Obj) : Prop := ∀ k o, h.get k = some o → k ∉ ids → h'.get k = some o
theorem Sub.keepL {ids : List Nat} {h h' : T Obj} (hs : Sub h h') : Keep ids h h' := fun k o hk _ => hs k o hk
theorem Keep.trans {ids : List Nat} {a b c : T Obj} (h1 : Keep ids a b) (h2 : Keep ids b c) : Keep ids a c := fun k o hk hi => h2 k o (h1 k o hk hi) hi
theorem Keep.mono {ids ids' : List Nat} {a b : T Obj} (h1 : Keep ids a b) (h2 : ∀ k, k ∈ ids → k ∈ ids') : Keep ids' a b := fun k o hk hi => h1 k o hk fun h => hi (h2 k h)
theorem Keep.upd {ids : List Nat} {a b : T Obj} {i : Nat} {o : Option Obj} (h1 : Keep ids a b) (hi : i ∈ ids) : Keep ids a (b.upd i o) := fun k x hk hn => by
  rw [T.get_upd_ne _ _ (fun e => hn (by rw [e]; exact hi))]; exact h1 k x hk hn
theorem Keep.updN {ids : List Nat} {a b : T Obj} {i n : Nat} {o : Option Obj} (h1 : Keep ids a b) (hf : Fr a n) (hi : n ≤ i) : Keep ids a (b.upd i o) := fun k x hk hn => by
  have := hf.lt' hk
  rw [T.get_upd_ne _ _ (by omega)]; exact h1 k x hk hn
def del (h : T Obj) : List Nat → T Obj
  | [] => h
  | i :: l => (del h l).upd i none
theorem del_get {h : T Obj} : ∀ {l : List Nat} {k : Nat}, (del h l).get k = if k ∈ l then none else h.get k
  | [], k => by simp [del]
  | i :: l, k => by
    show ((del h l).upd i none).get k = _
    by_cases hk : k = i
    · subst hk; rw [T.get_upd_same]; simp
    · rw [T.get_upd_ne _ _ hk, del_get]; simp [hk]
theorem del_sub (h : T Obj) (l : List Nat) : Sub (del h l) h := fun k o hk => by
  rw [del_get] at hk
  split at hk
  · cases hk
  · exact hk
theorem del_some {h : T Obj} {l : List Nat} {k : Nat} {o : Obj} (hk : h.get k = some o) (hn : k ∉ l) : (del h l).get k = some o := by rw [del_get, if_neg hn]; exact hk
theorem Keep.del {ids l l' : List Nat} {h h' : T Obj} (hk : Keep ids h h') (h1 : ∀ k, k ∈ ids → k ∈ l) (h2 : ∀ k, k ∈ l' → k ∈ l ∨ h.get k = none) : Sub (del h l) (del h' l') := fun k o hg => by
  rw [del_get] at hg
  split at hg
  · cases hg
  · rename_i hn
    refine del_some (hk k o hg fun h => hn (h1 k h)) fun hm => ?_
    rcases h2 k hm with h3 | h3
    · exact hn h3
    · rw [h3] at hg; cases hg
theorem OwnT.keepK {ids : List Nat} {h h' : T Obj} {v : Value} {z : Nat} {e : TypeId} {l : List (List Value)} {lo : Nat} (ho : OwnT h v z e l lo) (hk : Keep ids h h') (hne : ∀ id, sblk v = some id → id ∉ ids) : OwnT h' v z e l lo := by
  rcases ho with ho | ⟨id, h1, rfl, h4, h5⟩
  · exact .inl ho
  · exact .inr ⟨id, h1, rfl, h4, hk id _ h5 (hne id rfl)⟩
theorem OwnT.del {h : T Obj} {v : Value} {z : Nat} {e : TypeId} {l : List (List Value)} {lo : Nat} {ids : List Nat} (ho : OwnT h v z e l lo) (hne : ∀ id, sblk v = some id → id ∉ ids) : OwnT (del h ids) v z e l lo := by
  rcases ho with ho | ⟨id, h1, rfl, h4, h5⟩
  · exact .inl ho
  · exact .inr ⟨id, h1, rfl, h4, del_some h5 (hne id rfl)⟩
theorem Kp.keepL {v : Value} {h h' : T Obj} {ids : List Nat} (hk : Kp v h h') (hv : ∀ id, sblk v = some id → id ∈ ids) : Keep ids h h' := fun k o h1 h2 => hk k o h1 fun e => h2 (hv k e)
theorem OwnT.blk {h : T Obj} {v : Value} {z : Nat} {e : TypeId} {l : List (List Value)} {lo id : Nat} (ho : OwnT h v z e l lo) (hb : sblk v = some id) : lo ≤ id ∧ h.get id = some (.cells l.flatten.toArray e) := by
  rcases ho with ⟨rfl, _⟩ | ⟨i, h1, rfl, h4, h5⟩
  · cases hb
  · have : i = id := Option.some.inj hb
    subst this; exact ⟨h1, h5⟩
theorem OwnT.ok {h : T Obj} {v : Value} {z : Nat} {e : TypeId} {l : List (List Value)} {lo : Nat} (ho : OwnT h v z e l lo) : cellOk v = true := (ho.sl (ro := fun _ => none)).ok
def keyB (p : Int) : List UInt8 := [UInt8.ofNat (p.toNat / 256), UInt8.ofNat (p.toNat % 256)]
def keyZ (l : List Int) : List UInt8 := l.flatMap keyB
theorem keyB_inj {p q : Int} (hp : 0 ≤ p ∧ p < 512) (hq : 0 ≤ q ∧ q < 512) (h : keyB p = keyB q) : p = q := by
  unfold keyB at h
  simp only [List.cons.injEq, and_true] at h
  obtain ⟨h1, h2⟩ := h
  have h1 := congrArg UInt8.toNat h1
  have h2 := congrArg UInt8.toNat h2
  simp only [UInt8.toNat_ofNat'] at h1 h2
  omega
theorem keyZ_inj : ∀ {l m : List Int}, (∀ x ∈ l, 0 ≤ x ∧ x < 512) → (∀ x ∈ m, 0 ≤ x ∧ x < 512) → keyZ l = keyZ m → l = m
  | [], [], _, _, _ => rfl
  | [], y :: m, _, _, h => by simp [keyZ, keyB] at h
  | x :: l, [], _, _, h => by simp [keyZ, keyB] at h
  | x :: l, y :: m, hl, hm, h => by
    have h' : keyB x ++ keyZ l = keyB y ++ keyZ m := h
    have h1 : keyB x = keyB y := by
      have := congrArg (List.take 2) h'
      simpa [keyB] using this
    have h2 : keyZ l = keyZ m := by
      have := congrArg (List.drop 2) h'
      simpa [keyB] using this
    rw [keyB_inj (hl x (by simp)) (hm y (by simp)) h1, keyZ_inj (fun z hz => hl z (by simp [hz])) (fun z hz => hm z (by simp [hz])) h2]
theorem keyZ_len : ∀ l : List Int, (keyZ l).length = 2 * l.length
  | [] => rfl
  | x :: l => by
    show (keyB x ++ keyZ l).length = _
    rw [List.length_append, keyZ_len l]; simp [keyB]; omega
def bv8 (l : List UInt8) : List Value := l.map fun b => Value.int .u8 (b.toNat : Int)
theorem bytesV_bv8 : ∀ l : List UInt8, bytesV (bv8 l) = some l
  | [] => rfl
  | b :: l => by
    have ih := bytesV_bv8 l
    show (bytesV (bv8 l)).bind _ = _
    rw [ih]; simp
theorem wr_u8_any (p : Int) : wr .u8 p = p % 256 := by
  by_cases h : 0 ≤ p ∧ p ≤ 255
  · rw [wr_u8 h.1 h.2]; omega
  · have : wr .u8 p = IntKind.u8.wrap p := by
      unfold wr
      simp only
      by_cases h1 : 0 ≤ p
      · have h2 : ¬ p ≤ 255 := fun h2 => h ⟨h1, h2⟩
        simp [h1, h2]
      · simp [h1]
    rw [this]
    have hb : IntKind.u8.bits = 8 := rfl
    have hs : IntKind.u8.signed = false := rfl
    simp [IntKind.wrap, hb, hs]
theorem und_u8s' : und Try.prog y_s_uint8 = some (.slice y_uint8) := by kernel_rfl
theorem zerosV_u8' : ∀ n : Nat, zerosV [.int .u8 0] n = List.replicate n (.int .u8 0)
  | 0 => rfl
  | n + 1 => by simp [zerosV, zerosV_u8' n, List.replicate_succ]
theorem tin_u8' : ∃ i, tin Try.prog y_uint8 = some i ∧ i.size = 1 ∧ i.bytes = 1 := tinOf (by kernel_rfl)
theorem make_u8c {aid n : Nat} (h0 : 1 ≤ n) (h1 : n ≤ 1000000) : makeV Try.prog y_s_uint8 aid (.int .i64 0) (.int .i64 (n : Int)) = some (.slice (some (own aid 1)) 0 n, some (.cells (List.replicate n (Value.int .u8 0)).toArray y_uint8)) := by
  obtain ⟨i, g1, g2, g3⟩ := tin_u8'
  have hb : Nat.ble n big = true := Nat.ble_eq_true_of_le (by unfold big; omega)
  have e1 : decide ((0 : Int) ≤ 0) = true := by simp
  have e2 : decide ((0 : Int) ≤ (n : Int)) = true := by simp
  have e3 : decide ((n : Int) ≤ 70368744177664) = true := by simp; omega
  have hz : zrow Try.prog y_uint8 n = some (List.replicate n (.int .u8 0)) := by
    obtain ⟨m, rfl⟩ : ∃ m, n = m + 1 := ⟨n - 1, by omega⟩
    have hs : siz Try.prog y_uint8 = some 1 := by kernel_rfl
    unfold zrow
    simp only [zerU, hs, Option.bind_some]
    have h3 : Nat.beq (Value.cells (.int .u8 0)).size 1 = true := rfl
    have h4 : Nat.blt 0 1 = true := rfl
    rw [h3, h4]
    simp only
    rw [← zerosV_u8']; rfl
  unfold makeV
  simp only [und_u8s', e1, e2, g1, Option.bind_some, g3, Nat.mul_one, Int.toNat_natCast, hb, e3, hz, g2]
  rfl
theorem lit_u82 (aid : Nat) (a b : Int) : sliceLitV Try.prog y_s_uint8 aid 2 [(0, .int .u8 a), (1, .int .u8 b)] = some (.slice (some (own aid 1)) 2 2, some (.cells #[.int .u8 a, .int .u8 b] y_uint8)) := by kernel_rfl
theorem append_two {ro : Ro} {h : T Obj} {id id2 nx k n : Nat} {c : List Value} {a b : Value} {e : TypeId} (h1 : h.get id = some (.cells c.toArray e)) (h2 : h.get id2 = some (.cells #[a, b] y_uint8)) (hc : c.length = n) (hk : k + 2 ≤ n) (ha : cellOk a = true) (hb : cellOk b = true) :
    appendV Try.prog ro h nx #[y_s_uint8, y_s_uint8] [.slice (some (own id 1)) k n, .slice (some (own id2 1)) 2 2] = some (.slice (some (own id 1)) (k + 2) n, h.upd id (some (.cells (c.take k ++ [a, b] ++ c.drop (k + 2)).toArray e)), nx) := by
  obtain ⟨i, g1, g2, g3⟩ := tin_u8'
  have hs : srcV Try.prog ro h y_uint8 i.size i.bytes y_s_uint8 (.slice (some (own id2 1)) 2 2) = some (2, [a, b]) := by
    unfold srcV
    simp only [und_u8s', g2]
    have : cellsAt ro h (own id2 1) (2 * 1) = some [a, b] := by
      show cellsAt ro h ⟨id2, 0, some 1⟩ _ = _
      rw [cellsAt_own, h2]; rfl
    rw [this]; rfl
  have hle : Nat.ble (k + 2) n = true := Nat.ble_eq_true_of_le hk
  have hst : storeAtV h (fwd (own id 1) (k * 1)) [a, b] = some (h.upd id (some (.cells (c.take k ++ [a, b] ++ c.drop (k + 2)).toArray e))) := by
    unfold storeAtV
    have e1 : (fwd (own id 1) (k * 1)).spot = some 1 := rfl
    have e2 : (fwd (own id 1) (k * 1)).block = id := rfl
    have e3 : (fwd (own id 1) (k * 1)).off = k := by simp [fwd, own]
    have hle2 : Nat.ble (k + [a, b].length) c.toArray.size = true := Nat.ble_eq_true_of_le (by simp; omega)
    have hok : [a, b].all cellOk = true := by simp [ha, hb]
    simp only [e1, e2, e3, h1, hle2, hok]
    rfl
  unfold appendV
  simp only [List.getElem?_toArray, List.getElem?_cons_zero, List.getElem?_cons_succ, und_u8s', g1, Option.bind_some, hs, hle]
  have hz : Nat.beq 1 i.size = true := by rw [g2]; rfl
  have hsp : (own id 1).spot = some 1 := rfl
  simp only [hsp, hz, g2, hst, Option.bind_some]
theorem conv_str {ro : Ro} {h : T Obj} {aid id k n : Nat} {l : List UInt8} {e : TypeId} (h1 : h.get id = some (.cells (bv8 l).toArray e)) (hk : l.length = k) : convV Try.prog ro h aid y_s_uint8 y_string (.slice (some (own id 1)) k n) = some (injS l, none) := by
  have hu : und Try.prog y_uint8 = some (.int .u8) := by kernel_rfl
  unfold convV
  simp only [und_u8s', und_S, hu]
  have : cellsAt ro h (own id 1) k = some (bv8 l) := by
    show cellsAt ro h ⟨id, 0, some 1⟩ _ = _
    rw [cellsAt_own, h1, cellsIn_some]
    simp only [Option.bind_some]
    rw [if_pos (by simp [bv8, hk]), List.drop_zero, List.take_of_length_le (by simp [bv8, hk])]
  rw [this]
  simp only [Option.bind_some, bytesV_bv8]
  rfl
set_option maxRecDepth 4000 in
theorem auto_key_c {ro : Ro} {v : Value} {l : List Int} (hl : l.length ≤ 1000) (hne : l ≠ []) (h0 : ∀ x ∈ l, 0 ≤ x ∧ x < 512) {h : T Obj} {nx : Nat} {K : KV} (hf : Fr h nx) (hv : ZI ro h v l) (hK : ∀ nx', nx ≤ nx' → K (injS (keyZ l)) h nx') : callP Try.prog ro i_auto_key [v] h nx K := by
  apply auto_key_of
  unfold auto_key
  have hln := hv.len
  have hpos : 0 < l.length := List.length_pos_iff.2 hne
  have hmul : (2 : Int) * (l.length : Int) = ((2 * l.length : Nat) : Int) := by omega
  refine bindP_mk hln (bindP_mk (intB_mul _ _ _) ?_)
  rw [wr_i64 (by omega) (by omega), hmul]
  refine bindP_mk (make_u8c (by omega) (by omega)) (optP_mk (bindP_mk hln ?_))
  refine loopP_rule (fun j e h' nx' => ∃ (k : Nat), k + j = l.length ∧ nx + 9 ≤ nx' ∧ Sub h h' ∧ Fr h' nx' ∧ e 3 = .slice (some (own (nx + 4) 1)) (2 * k) (2 * l.length) ∧ e 10 = v ∧ e 11 = .int .i64 l.length ∧ e 12 = .int .i64 k ∧
    h'.get (nx + 4) = some (.cells (bv8 (keyZ (l.take k)) ++ List.replicate (2 * l.length - 2 * k) (Value.int .u8 0)).toArray y_uint8)) ?_ (n := l.length) ⟨0, by omega, by omega, (Sub.refl h).new hf (by omega), (hf.mono (by omega)).upd (n := nx + 9) (Nat.le_refl _) (by omega), rfl, rfl, rfl, rfl, by rw [T.get_upd_same]; rfl⟩
  rintro j e h' nx' ⟨k, hj, hnx, hs, hf', e3, e10, e11, e12, g⟩ Q' hq hx
  unfold auto_key_L1
  rw [e3, e10, e11, e12]
  refine lss_s (fun hk => ?_) (fun hk => ?_)
  · have hk : k < l.length := by omega
    have hxb := h0 _ (List.getElem_mem hk)
    have hld := (hv.sub hs).load hk
    have htk : keyZ (l.take (k + 1)) = keyZ (l.take k) ++ keyB l[k] := by
      rw [List.take_succ_eq_append_getElem hk]; unfold keyZ; rw [List.flatMap_append]; simp only [List.flatMap_cons, List.flatMap_nil, List.append_nil]
    generalize l[k] = p at hxb hld htk
    obtain ⟨q, rfl⟩ : ∃ q : Nat, p = (q : Int) := ⟨p.toNat, by omega⟩
    refine condP_t (bindP_mk (hv.ix _ hk) (bindP_mk hld ?_))
    refine bindP_mk (intB_shr_nat _ _ q (by omega) (by decide)) (bindP_mk (convI_int _ _ _) (bindP_mk (convI_int _ _ _) (bindP_mk (lit_u82 _ _ _) (optP_mk ?_))))
    have hkl : (keyZ (l.take k)).length = 2 * k := by rw [keyZ_len, List.length_take]; omega
    have g' : (h'.upd (nx' + 10) (some (.cells #[.int .u8 (wr .u8 ((q / 2 ^ (8 : Int).toNat : Nat) : Int)), .int .u8 (wr .u8 (q : Int))] y_uint8))).get (nx + 4) = some (.cells (bv8 (keyZ (l.take k)) ++ List.replicate (2 * l.length - 2 * k) (Value.int .u8 0)).toArray y_uint8) := by rw [T.get_upd_ne _ _ (by omega)]; exact g
    refine bindP_mk (append_two (n := 2 * l.length) (k := 2 * k) g' (by rw [T.get_upd_same]) (by simp [bv8, hkl]; omega) (by omega) rfl rfl) ?_
    refine bindP_mk (intB_add _ _ _) ?_
    rw [wr_i64 (by omega) (by omega)]
    dsimp only
    refine hq (j - 1) _ _ _ _ (by omega) ⟨k + 1, by omega, by omega, (hs.new hf (by omega)).new hf (by omega), ((hf'.mono (by omega)).upd (n := nx' + 12) (Nat.le_refl _) (by omega)).upd (Nat.le_add_right _ 3) (by omega), ?_, e10, e11, ?_, ?_⟩ (Sub.refl _)
    · show Value.slice _ _ _ = _
      rw [Nat.mul_succ]
    · show Value.int _ _ = _
      congr 1
    · rw [T.get_upd_same]
      congr 3
      have hbl : (bv8 (keyZ (l.take k))).length = 2 * k := by simp [bv8, hkl]
      rw [List.take_append_of_le_length (by omega), List.take_of_length_le (by omega), List.drop_append, List.drop_eq_nil_of_le (by omega), hbl, htk]
      have e1 : UInt8.toNat (UInt8.ofNat (q / 256)) = q / 256 := by simp [UInt8.toNat_ofNat']; omega
      have e2 : UInt8.toNat (UInt8.ofNat (q % 256)) = q % 256 := by simp [UInt8.toNat_ofNat']
      have e3 : (8 : Int).toNat = 8 := rfl
      simp only [bv8, keyB, Int.toNat_natCast, List.map_append, List.map_cons, List.map_nil, e1, e2, wr_u8_any, e3, List.nil_append, List.append_assoc, List.drop_replicate]
      have e4 : (q : Int) % 256 = ((q % 256 : Nat) : Int) := by omega
      have e5 : ((q / 2 ^ 8 : Nat) : Int) % 256 = ((q / 256 : Nat) : Int) := by omega
      have e6 : 2 * l.length - 2 * k - (2 * k + 2 - 2 * k) = 2 * l.length - 2 * (k + 1) := by omega
      rw [e4, e5, e6]
  · refine condP_f ?_
    refine hx _ _ _ _ (fun e => by cases e) (exP_e (beqP_t ?_))
    have hkl : k = l.length := by omega
    subst hkl
    unfold auto_key_j1
    have f3 : ∀ a, Env.put e 13 a 3 = .slice (some (own (nx + 4) 1)) (2 * l.length) (2 * l.length) := fun a => e3
    simp only [puts, f3]
    rw [List.take_length, Nat.sub_self, List.replicate_zero, List.append_nil] at g
    refine bindP_mk (conv_str g (keyZ_len l)) (optP_mk0 ⟨h, hs, hK _ (by omega)⟩)
end V
end Go.Proofs.Ytmmdcdjkmakgpaa
set_option linter.unusedVariables false
set_option linter.unusedSimpArgs false
namespace Go.Proofs.Ytmmdcdjkmakgpaa
namespace V
open PA
attribute [local irreducible] bindP ifP condP newP optP exP beqP
def NOk (g : GlD) (f : Int → Option Value) : Prop := ∀ q, 0 ≤ q → f q = if ctd g q = true then some (.int .i64 (numZ g q)) else none
def DOk (f : Int → Option Value) (D : List (Int × Int)) : Prop := ∀ d ∈ D, f d.1 = if d.2 = -1 then none else some (.int .u8 d.2)
theorem digs_cons (g : GlD) (p : Int) (r : List Int) (c : Int) : digs g (p :: r) c = if ctd g p then (p, c % 3) :: digs g r (c / 3) else (p, -1) :: digs g r c := rfl
set_option maxRecDepth 8000 in
theorem auto_digits_c {ro : Ro} {g : GlD} {av bv fv cv sv kv ev yv lv rv uv wv : Value} {c : List Nat} {n : Int} {e0 : TypeId} {bid nid : Nat} {f : Int → Option Value} {l : List Int} {code many : Int} (hmany : many ≤ 512) (hz : rz (-1) many l = true) (hll : l.length ≤ 512) (hc0 : 0 ≤ code) (hc1 : code ≤ 255)
    {h : T Obj} {nx : Nat} {K : KV} (hf : Fr h nx) (hb : h.get bid = some (.cells (bldL av bv (.map (some nid)) fv c n cv sv kv ev yv).toArray e0)) (hm : MapG injI h nid f) (hn : NOk g f) (hl : ZI ro h lv l)
    (hK : ∀ h' nx' did f', nx ≤ nx' → Sub h h' → Fr h' nx' → nx ≤ did → did < nx' → MapG injI h' did f' → DOk f' (digs g l code) → K (.map (some did)) h' nx') : callP Try.prog ro i_auto_builder_digits [ptr bid, .agg #[lv, rv, uv, wv], .int .i64 code] h nx K := by
  apply auto_builder_digits_of
  unfold auto_builder_digits
  refine param_mk hf (Nat.le_refl _) fun h1 hs1 hf1 g1 _ => ?_
  have g1 : h1.get nx = some (.cells #[lv, rv, uv, wv] y_api_State) := g1
  refine obj_mk hf1 (show nx + 1 ≤ nx + 2 by omega) fun h2 hs2 hf2 g2 _ => ?_
  have hs := hs1.trans hs2
  have g1 := hs2 _ _ g1
  have hlen := hl.len
  (repeat (first | refine bindP_mk (by simp (disch := first | omega | exact Int.natCast_nonneg _ | assumption) only [BB, B2, ↓reduceIte, Nat.reduceLeDiff, Nat.reduceAdd, CC, g1, hlen] <;> rfl) ?_ | refine newP_mk ?_ | refine optP_mk ?_ | with_reducible first | refine condP_t ?_ | refine condP_f ?_ | refine ifP_tt' ?_ | refine ifP_ff' ?_ | refine ifP_tf' ?_ | refine ifP_ft' ?_ | refine ifP_u' ?_ | refine optP_mk0 ?_))
  generalize hD : digs g l code = D at hK
  refine loopP_rule (fun j e h' nx' => ∃ (k : Nat) (D0 : List (Int × Int)) (cd last : Int) (f' : Int → Option Value), k + j = l.length ∧ nx + 8 ≤ nx' ∧ Sub h h' ∧ Fr h' nx' ∧ e 0 = ptr bid ∧ e 2 = .int .i64 cd ∧ e 7 = .map (some (nx + 2)) ∧ e 14 = lv ∧ e 15 = .int .i64 l.length ∧ e 16 = .int .i64 k ∧
    MapG injI h' (nx + 2) f' ∧ 0 ≤ cd ∧ cd ≤ 255 ∧ -1 ≤ last ∧ rz last many (l.drop k) = true ∧ D0 ++ digs g (l.drop k) cd = D ∧ (∀ d ∈ D0, d.1 ≤ last) ∧ (∀ q, last < q → f' q = none) ∧ DOk f' D0) ?_ (n := l.length) ⟨0, [], code, -1, fun _ => none, by omega, by omega, hs, hf2.mono (by omega), rfl, rfl, rfl, rfl, rfl, rfl, MapG.new g2, hc0, hc1, by omega, hz, hD, by simp, fun _ _ => rfl, by intro d hd; cases hd⟩
  rintro j e h' nx' ⟨k, D0, cd, last, f', hj, hnx, hs', hf', e0', e2, e7, e14, e15, e16, hm', hcd0, hcd1, hlast, hrz, hDD, hle, hnone, hok⟩ Q' hq hx
  unfold auto_builder_digits_L1
  rw [e0', e2, e7, e14, e15, e16]
  have hb' := hs' _ _ hb
  have hmn := hm.sub hs'
  refine lss_s (fun hk => ?_) (fun hk => ?_)
  · have hk : k < l.length := by omega
    have hld := (hl.sub hs').load hk
    rw [drop_cons hk, rz_cons] at hrz
    rw [drop_cons hk, digs_cons] at hDD
    simp only [Bool.and_eq_true, decide_eq_true_eq] at hrz
    generalize l[k] = x at hld hrz hDD
    have hnx0 : f x = if ctd g x = true then some (.int .i64 (numZ g x)) else none := hn x (by omega)
    have hlk := look_ii hmn x
    rw [hnx0] at hlk
    have hbn := bldL_2 (av := av) (bv := bv) (nv := .map (some nid)) (fv := fv) (c := c) (n := n) (cv := cv) (sv := sv) (kv := kv) (ev := ev) (yv := yv)
    refine condP_t (bindP_mk (hl.ix _ hk) (bindP_mk hld ?_))
    (repeat (first | refine bindP_mk (by simp (disch := first | omega | exact Int.natCast_nonneg _ | assumption) only [BB, B2, ↓reduceIte, Nat.reduceLeDiff, Nat.reduceAdd, CC, nilCk_at, hb', hbn, hlk, nth0, nth1] <;> rfl) ?_ | refine newP_mk ?_ | refine optP_mk ?_ | with_reducible first | refine condP_t ?_ | refine condP_f ?_ | refine ifP_tt' ?_ | refine ifP_ff' ?_ | refine ifP_tf' ?_ | refine ifP_ft' ?_ | refine ifP_u' ?_ | refine optP_mk0 ?_))
    have hj2 : ∀ (e : Env) (h3 : T Obj) (n3 : Nat) (D1 : List (Int × Int)) (cd' : Int) (f3 : Int → Option Value), nx' ≤ n3 → Sub h h3 → Fr h3 n3 → e 0 = ptr bid → e 2 = .int .i64 cd' → e 7 = .map (some (nx + 2)) → e 14 = lv → e 15 = .int .i64 l.length → e 16 = .int .i64 k →
        MapG injI h3 (nx + 2) f3 → 0 ≤ cd' → cd' ≤ 255 → D1 ++ digs g (l.drop (k + 1)) cd' = D → (∀ d ∈ D1, d.1 ≤ x) → (∀ q, x < q → f3 q = none) → DOk f3 D1 → auto_builder_digits_j2 ro Q' e h3 n3 := by
      intro e h3 n3 D1 cd' f3 hn3 s1 s2 e0 e2 e7 e14 e15 e16 m3 c0 c1 d1 d2 d3 d4
      unfold auto_builder_digits_j2
      rw [e16]
      (repeat (first | refine bindP_mk (by simp (disch := first | omega | exact Int.natCast_nonneg _ | assumption) only [BB, B2, ↓reduceIte, Nat.reduceLeDiff, Nat.reduceAdd, CC] <;> rfl) ?_ | refine newP_mk ?_ | refine optP_mk ?_ | with_reducible first | refine condP_t ?_ | refine condP_f ?_ | refine ifP_tt' ?_ | refine ifP_ff' ?_ | refine ifP_tf' ?_ | refine ifP_ft' ?_ | refine ifP_u' ?_ | refine optP_mk0 ?_))
      exact hq (j - 1) _ _ _ _ (by omega) ⟨k + 1, D1, cd', x, f3, by omega, by omega, s1, s2.mono (by omega), e0, e2, e7, e14, e15, rfl, m3, c0, c1, by omega, hrz.2.2, d1, d2, d3, d4⟩ (Sub.refl _)
    cases hct : ctd g x with
    | true =>
      rw [hct, if_pos rfl] at hDD
      simp only [if_true, Option.isSome_some]
      obtain ⟨es, ec, p1, p2⟩ := put_iu hm' x (.int .u8 (cd % 3))
      (repeat (first | refine bindP_mk (by simp (disch := first | omega | exact Int.natCast_nonneg _ | assumption) only [BB, B2, ↓reduceIte, Nat.reduceLeDiff, Nat.reduceAdd, CC, p1] <;> rfl) ?_ | refine newP_mk ?_ | refine optP_mk ?_ | with_reducible first | refine condP_t ?_ | refine condP_f ?_ | refine ifP_tt' ?_ | refine ifP_ff' ?_ | refine ifP_tf' ?_ | refine ifP_ft' ?_ | refine ifP_u' ?_ | refine optP_mk0 ?_))
      refine hj2 _ _ _ (D0 ++ [(x, cd % 3)]) (cd / 3) _ (by omega) (hs'.new hf (by omega)) ((hf'.mono (by omega)).upd (Nat.le_refl _) (by omega)) e0' rfl e7 e14 e15 e16 (p2 _ (by rw [T.get_upd_same])) (by omega) (by omega) (by rw [← hDD]; simp) ?_ ?_ ?_
      · intro d hd
        rcases List.mem_append.1 hd with hd | hd
        · have := hle d hd; omega
        · simp at hd; rw [hd]; exact Int.le_refl _
      · intro q hq
        show (if q = x then _ else f' q) = none
        rw [if_neg (by omega)]; exact hnone q (by omega)
      · intro d hd
        rcases List.mem_append.1 hd with hd | hd
        · have := hle d hd
          show (if d.1 = x then _ else f' d.1) = _
          rw [if_neg (by omega)]; exact hok d hd
        · simp at hd; rw [hd]
          show (if x = x then _ else f' x) = _
          rw [if_pos rfl, if_neg (by show ¬ cd % 3 = -1; omega)]
    | false =>
      rw [hct, if_neg (by decide)] at hDD
      simp only [Bool.false_eq_true, if_false, Option.isSome_none]
      (repeat (first | refine bindP_mk (by simp (disch := first | omega | exact Int.natCast_nonneg _ | assumption) only [BB, B2, ↓reduceIte, Nat.reduceLeDiff, Nat.reduceAdd, CC] <;> rfl) ?_ | refine newP_mk ?_ | refine optP_mk ?_ | with_reducible first | refine condP_t ?_ | refine condP_f ?_ | refine ifP_tt' ?_ | refine ifP_ff' ?_ | refine ifP_tf' ?_ | refine ifP_ft' ?_ | refine ifP_u' ?_ | refine optP_mk0 ?_))
      refine hj2 _ _ _ (D0 ++ [(x, -1)]) cd _ (by omega) hs' (hf'.mono (by omega)) e0' e2 e7 e14 e15 e16 hm' hcd0 hcd1 (by rw [← hDD]; simp) ?_ ?_ ?_
      · intro d hd
        rcases List.mem_append.1 hd with hd | hd
        · have := hle d hd; omega
        · simp at hd; rw [hd]; exact Int.le_refl _
      · intro q hq; exact hnone q (by omega)
      · intro d hd
        rcases List.mem_append.1 hd with hd | hd
        · exact hok d hd
        · simp at hd; rw [hd]
          exact hnone x (by omega)
  · (repeat (first | refine bindP_mk (by simp (disch := first | omega | exact Int.natCast_nonneg _ | assumption) only [BB, B2, ↓reduceIte, Nat.reduceLeDiff, Nat.reduceAdd, CC] <;> rfl) ?_ | refine newP_mk ?_ | refine optP_mk ?_ | with_reducible first | refine condP_t ?_ | refine condP_f ?_ | refine ifP_tt' ?_ | refine ifP_ff' ?_ | refine ifP_tf' ?_ | refine ifP_ft' ?_ | refine ifP_u' ?_ | refine optP_mk0 ?_))
    refine hx _ _ _ _ (fun e => by cases e) (exP_e (beqP_t ?_))
    unfold auto_builder_digits_j1
    rw [drop_all (by omega)] at hDD
    have hDD : D0 = D := by simpa [digs] using hDD
    have f7 : ∀ (e' : Env), e' 7 = .map (some (nx + 2)) → ∃ h3, Sub h3 h' ∧ K (e' 7) h3 (nx' + 1 + 2) := fun e' h7 => by
      rw [h7]
      exact ⟨h', Sub.refl _, hK _ _ _ f' (by omega) hs' (hf'.mono (by omega)) (by omega) (by omega) hm' (by rw [← hDD]; exact hok)⟩
    exact f7 _ e7
end V
end Go.Proofs.Ytmmdcdjkmakgpaa
set_option linter.unusedVariables false
set_option linter.unusedSimpArgs false
namespace Go.Proofs.Ytmmdcdjkmakgpaa
namespace V
open PA
attribute [local irreducible] bindP ifP condP newP optP exP beqP
abbrev nilS : Value := .slice none 0 0
def KOk (S : List StateD) (f : List UInt8 → Option Value) : Prop := ∀ l, l ≠ [] → (∀ x ∈ l, 0 ≤ x ∧ x < 512) → f (keyZ l) = (S.findIdx? (isL l)).map fun k => .int .i64 (k : Int)
structure Bd (h : T Obj) (g : GlD) (bid nid kid eid yid sid : Nat) (av bv fv : Value) (c : List Nat) (n : Int) (cv : Value) (S : List StateD) (cs : List (List Value)) : Prop where
  hc : c.length = 256
  blk : h.get bid = some (.cells (bldL av bv (.map (some nid)) fv c n cv (.slice (some (own sid 4)) cs.length cs.length) (.map (some kid)) (.map (some eid)) (.map (some yid))).toArray y_auto_builder)
  num : ∃ f, MapG injI h nid f ∧ NOk g f
  known : ∃ f, MapG injS h kid f ∧ KOk S f
  row : h.get sid = some (.cells cs.flatten.toArray y_api_State)
  z4 : ∀ x ∈ cs, x.length = 4
  len : cs.length = S.length
  few : S.length ≤ 256
  pos : 0 < S.length
  nk : nid ≠ kid
def NewSt (h : T Obj) (lo : Nat) (x : List Value) (s : StateD) : Prop := ∃ lv rv, x = [lv, rv, nilS, nilS] ∧ OwnT h lv 1 y_int (intsZ s.l) lo ∧ OwnT h rv 1 y_int (intsZ s.r) lo ∧ s.rule = [] ∧ s.next = []
def Grow (h : T Obj) (lo : Nat) (cs cs' : List (List Value)) (S S' : List StateD) : Prop := ∃ ds T, cs' = cs ++ ds ∧ S' = S ++ T ∧ ds.length = T.length ∧ ∀ (i : Nat) x s, ds[i]? = some x → T[i]? = some s → NewSt h lo x s
theorem Grow.refl {h : T Obj} {lo : Nat} {cs : List (List Value)} {S : List StateD} : Grow h lo cs cs S S := ⟨[], [], by simp, by simp, rfl, fun i x s hx => by simp at hx⟩
section
variable {h h' : T Obj} {g : GlD} {bid nid kid eid yid sid : Nat} {av bv fv : Value} {c : List Nat} {n : Int} {cv : Value} {S : List StateD} {cs : List (List Value)}
theorem Bd.sub (hB : Bd h g bid nid kid eid yid sid av bv fv c n cv S cs) (hs : Sub h h') : Bd h' g bid nid kid eid yid sid av bv fv c n cv S cs := by
  obtain ⟨f1, n1, n2⟩ := hB.num
  obtain ⟨f2, k1, k2⟩ := hB.known
  exact ⟨hB.hc, hs _ _ hB.blk, ⟨f1, n1.sub hs, n2⟩, ⟨f2, k1.sub hs, k2⟩, hs _ _ hB.row, hB.z4, hB.len, hB.few, hB.pos, hB.nk⟩
theorem Bd.ids (hB : Bd h g bid nid kid eid yid sid av bv fv c n cv S cs) : bid ≠ sid ∧ bid ≠ kid ∧ bid ≠ nid ∧ sid ≠ kid ∧ sid ≠ nid := by
  obtain ⟨f1, n1, n2⟩ := hB.num
  obtain ⟨f2, k1, k2⟩ := hB.known
  obtain ⟨a1, a2, a3⟩ := n1.obj
  obtain ⟨b1, b2, b3⟩ := k1.obj
  have h1 := hB.blk
  have h2 := hB.row
  refine ⟨fun e => ?_, fun e => ?_, fun e => ?_, fun e => ?_, fun e => ?_⟩ <;> subst e
  · rw [h1] at h2
    simp only [Option.some.injEq, Obj.cells.injEq] at h2
    exact absurd h2.2.1 (by decide)
  · rw [h1] at b3; cases b3
  · rw [h1] at a3; cases a3
  · rw [h2] at b3; cases b3
  · rw [h2] at a3; cases a3
theorem Bd.own (hB : Bd h g bid nid kid eid yid sid av bv fv c n cv S cs) : OwnT h (.slice (some (own sid 4)) cs.length cs.length) 4 y_api_State cs 0 := .inr ⟨sid, Nat.zero_le _, rfl, hB.z4, hB.row⟩
end
theorem lit_int (aid : Nat) (b : Int) : sliceLitV Try.prog y_s_int aid 1 [(0, .int .i64 b)] = some (.slice (some (own aid 1)) 1 1, some (.cells [Value.int .i64 b].toArray y_int)) := by kernel_rfl
theorem und_sint : und Try.prog y_s_int = some (.slice y_int) := by kernel_rfl
theorem tin_sint : ∃ i, tin Try.prog y_int = some i ∧ i.size = 1 ∧ i.bytes = 8 := tinOf (by kernel_rfl)
theorem app_int {ro : Ro} {h : T Obj} {v : Value} {nx n1 n2 lo : Nat} {l : List Int} {b : Int} {K : Value × Option Obj → T Obj → Value × T Obj × Nat → Prop} (ho : OwnT h v 1 y_int (intsZ l) lo) (hl : l.length ≤ 1000000) (hf : Fr h nx) (hlo : lo ≤ nx) (hn1 : nx ≤ n1) (hn2 : n1 < n2)
    (hK : ∀ h' w, OwnT h' w 1 y_int (intsZ (l ++ [b])) lo → w = .slice (some (own n2 1)) (l.length + 1) (l.length + 1) → Kp v h h' → Fr h' (n2 + 1) → K (.slice (some (own n1 1)) 1 1, some (.cells [Value.int .i64 b].toArray y_int)) (h.upd n1 (some (.cells [Value.int .i64 b].toArray y_int))) (w, h', n2 + 1)) :
    bindP (sliceLitV Try.prog y_s_int n1 1 [(0, .int .i64 b)]) fun r => optP h n1 r.2 fun h' => bindP (appendV Try.prog ro h' n2 #[y_s_int, y_s_int] [v, r.1]) (K r h') := by
  obtain ⟨i, g1, g2, g3⟩ := tin_sint
  have e : intsZ l ++ [[Value.int .i64 b]] = intsZ (l ++ [b]) := by simp [intsZ]
  have el := intsZ_len l
  refine append_lit (z := 1) (l := intsZ l) (y := [.int .i64 b]) (lit_int _ _) rfl ho und_sint g1 g2 (by omega) zerI rfl rfl (by rw [el, g3]; unfold big; omega) (by rw [el]; unfold big; omega) hf hlo hn1 hn2 fun h' q1 q2 q3 => ?_
  rw [e] at q1 ⊢
  refine hK h' _ q1 ?_ q2 q3
  rw [intsZ_len, List.length_append]; rfl
theorem zer_State : zer Try.prog y_api_State = some (.agg #[nilS, nilS, nilS, nilS]) := by kernel_rfl
theorem lit_State (aid : Nat) (a b c d : Value) : sliceLitV Try.prog y_s_api_State aid 1 [(0, .agg #[a, b, c, d])] = some (.slice (some (own aid 4)) 1 1, some (.cells [a, b, c, d].toArray y_api_State)) := by kernel_rfl
theorem und_sState : und Try.prog y_s_api_State = some (.slice y_api_State) := by kernel_rfl
theorem tin_State : ∃ i, tin Try.prog y_api_State = some i ∧ i.size = 4 ∧ i.bytes = 96 := tinOf (by kernel_rfl)
theorem app_State {ro : Ro} {h : T Obj} {v a b c d : Value} {nx n1 n2 lo : Nat} {l : List (List Value)} {K : Value × Option Obj → T Obj → Value × T Obj × Nat → Prop} (ha : cellOk a = true) (hb : cellOk b = true) (hc : cellOk c = true) (hd : cellOk d = true) (ho : OwnT h v 4 y_api_State l lo) (hl : l.length ≤ 1000000) (hf : Fr h nx) (hlo : lo ≤ nx) (hn1 : nx ≤ n1) (hn2 : n1 < n2)
    (hK : ∀ h' w, OwnT h' w 4 y_api_State (l ++ [[a, b, c, d]]) lo → w = .slice (some (own n2 4)) (l ++ [[a, b, c, d]]).length (l ++ [[a, b, c, d]]).length → Kp v h h' → Fr h' (n2 + 1) → K (.slice (some (own n1 4)) 1 1, some (.cells [a, b, c, d].toArray y_api_State)) (h.upd n1 (some (.cells [a, b, c, d].toArray y_api_State))) (w, h', n2 + 1)) :
    bindP (sliceLitV Try.prog y_s_api_State n1 1 [(0, .agg #[a, b, c, d])]) fun r => optP h n1 r.2 fun h' => bindP (appendV Try.prog ro h' n2 #[y_s_api_State, y_s_api_State] [v, r.1]) (K r h') := by
  obtain ⟨i, g1, g2, g3⟩ := tin_State
  exact append_lit (z := 4) (l := l) (y := [a, b, c, d]) (lit_State _ _ _ _ _) rfl ho und_sState g1 g2 (by omega) zer_State rfl (by simp [ha, hb, hc, hd]) (by rw [g3]; unfold big; omega) (by unfold big; omega) hf hlo hn1 hn2 fun h' q1 q2 q3 => hK h' _ q1 rfl q2 q3
theorem build_State (a b : Value) (ha : a.cells = #[a]) (hb : b.cells = #[b]) : buildV Try.prog y_api_State [(0, a), (1, b)] = some (.agg #[a, b, nilS, nilS]) := by
  have hz := zer_State
  have hp : (match und Try.prog y_api_State with | some (.struct fs) => placesV Try.prog fs.toList | _ => none) = some [(0, 1), (1, 1), (2, 1), (3, 1)] := by kernel_rfl
  unfold buildV
  rw [hz]
  simp only [Option.bind]
  cases hu : und Try.prog y_api_State with
  | none => rw [hu] at hp; cases hp
  | some d =>
    rw [hu] at hp
    cases d <;> try (cases hp; done)
    rename_i fs
    simp only at hp ⊢
    rw [hp]
    simp only [fillV, ha, hb]
    rfl
theorem cells_of_ok {v : Value} (h : cellOk v = true) : v.cells = #[v] := by
  cases v <;> first | rfl | (cases h; done)
theorem regsZ_snoc (g : GlD) (l : List Int) (x : Int) : regsZ g (l ++ [x]) = if ctd g x then regsZ g l ++ [numZ g x] else regsZ g l := by
  unfold regsZ
  rw [List.filter_append]
  cases h : ctd g x <;> simp [h]
theorem findIdx_snoc {S : List StateD} {s : StateD} {l m : List Int} (hs : s.l = l) (hn : S.findIdx? (isL l) = none) : (S ++ [s]).findIdx? (isL m) = if m = l then some S.length else S.findIdx? (isL m) := by
  rw [List.findIdx?_append]
  by_cases h : m = l
  · subst h
    rw [if_pos rfl, hn]
    simp [List.findIdx?_cons, isL, hs]
  · rw [if_neg h]
    have : isL m s = false := by unfold isL; rw [hs]; exact decide_eq_false (Ne.symm h)
    simp [List.findIdx?_cons, this]
set_option maxRecDepth 8000 in
set_option maxHeartbeats 1000000 in
theorem auto_find_c {ro : Ro} {g : GlD} {bid nid kid eid yid sid : Nat} {av bv fv cv lv : Value} {c : List Nat} {n : Int} {S : List StateD} {cs : List (List Value)} {l : List Int} {lo : Nat} (hg : g.p.length ≤ 512) (hz : rz (-1) g.p.length l = true) (hll : l.length ≤ 512) (hne : l ≠ [])
    {h : T Obj} {nx : Nat} {K : KV} (hf : Fr h nx) (hB : Bd h g bid nid kid eid yid sid av bv fv c n cv S cs) (hl : OwnT h lv 1 y_int (intsZ l) lo) (hlo : lo ≤ nx) (hlb : bid < lo)
    (hK : ∀ h' nx' sid' cs', nx ≤ nx' → Fr h' nx' → Keep [bid, kid, sid] h h' → (sid' = sid ∨ nx ≤ sid') → Bd h' g bid nid kid eid yid sid' av bv fv c n cv (findZ g S l).2.2 cs' → Grow h' lo cs cs' S (findZ g S l).2.2 → K (.tuple #[.int .i64 (findZ g S l).1, .int .i64 (findZ g S l).2.1]) h' nx') :
    callP Try.prog ro i_auto_builder_find [ptr bid, lv] h nx K := by
  apply auto_builder_find_of
  unfold auto_builder_find
  have hrange : ∀ x ∈ l, 0 ≤ x ∧ x < 512 := fun x hx => by have := rz_mem hz x hx; omega
  have hzl : ZI ro h lv l := hl.sl
  have hb := hB.blk
  have b263 := bldL_263 (av := av) (bv := bv) (nv := .map (some nid)) (fv := fv) (n := n) (cv := cv) (sv := .slice (some (own sid 4)) cs.length cs.length) (kv := .map (some kid)) (ev := .map (some eid)) (yv := .map (some yid)) hB.hc
  obtain ⟨fk, hk1, hk2⟩ := hB.known
  have hlk := look_si hk1 (keyZ l)
  rw [hk2 l hne hrange] at hlk
  (repeat (first | refine bindP_mk (by simp (disch := first | omega | exact Int.natCast_nonneg _ | assumption) only [BB, B2, ↓reduceIte, Nat.reduceLeDiff, Nat.reduceAdd, CC, nilCk_at, hb, b263] <;> rfl) ?_ | refine newP_mk ?_ | refine optP_mk ?_ | with_reducible first | refine condP_t ?_ | refine condP_f ?_ | refine ifP_tt' ?_ | refine ifP_ff' ?_ | refine ifP_tf' ?_ | refine ifP_ft' ?_ | refine ifP_u' ?_ | refine optP_mk0 ?_))
  refine auto_key_c (by omega) hne hrange (hf.mono (by omega)) hzl fun n1 hn1 => ?_
  refine ⟨sameV_own hb hb, ?_⟩
  cases hfi : S.findIdx? (isL l) with
  | some k =>
    have hfz : findZ g S l = ((k : Int), 0, S) := by unfold findZ; rw [hfi]
    rw [hfz] at hK
    rw [hfi] at hlk
    simp only [Option.map_some, Option.getD_some, Option.isSome_some] at hlk
    (repeat (first | refine bindP_mk (by simp (disch := first | omega | exact Int.natCast_nonneg _ | assumption) only [BB, B2, ↓reduceIte, Nat.reduceLeDiff, Nat.reduceAdd, CC, hlk, nth0, nth1] <;> rfl) ?_ | refine newP_mk ?_ | refine optP_mk ?_ | with_reducible first | refine condP_t ?_ | refine condP_f ?_ | refine ifP_tt' ?_ | refine ifP_ff' ?_ | refine ifP_tf' ?_ | refine ifP_ft' ?_ | refine ifP_u' ?_ | refine optP_mk0 ?_))
    exact ⟨h, Sub.refl _, hK h _ sid cs (by omega) (hf.mono (by omega)) (Sub.refl h).keepL (.inl rfl) hB Grow.refl⟩
  | none =>
    have hfz : findZ g S l = if 3 < (regsZ g l).length then ((0 : Int), (110 : Int), S) else if 256 ≤ S.length then ((0 : Int), (3 : Int), S) else (((S.length : Nat) : Int), (0 : Int), S ++ [⟨l, regsZ g l, [], []⟩]) := by unfold findZ; rw [hfi]
    rw [hfz] at hK
    rw [hfi] at hlk
    simp only [Option.map_none, Option.getD_none, Option.isSome_none] at hlk
    have hlen := hzl.len
    (repeat (first | refine bindP_mk (by simp (disch := first | omega | exact Int.natCast_nonneg _ | assumption) only [BB, B2, ↓reduceIte, Nat.reduceLeDiff, Nat.reduceAdd, CC, hlk, nth0, nth1, hlen] <;> rfl) ?_ | refine newP_mk ?_ | refine optP_mk ?_ | with_reducible first | refine condP_t ?_ | refine condP_f ?_ | refine ifP_tt' ?_ | refine ifP_ff' ?_ | refine ifP_tf' ?_ | refine ifP_ft' ?_ | refine ifP_u' ?_ | refine optP_mk0 ?_))
    refine loopP_rule (fun j e h' nx' => ∃ (k : Nat), k + j = l.length ∧ nx ≤ nx' ∧ Sub h h' ∧ Fr h' nx' ∧ e 0 = ptr bid ∧ e 1 = lv ∧ e 26 = lv ∧ e 27 = .int .i64 l.length ∧ e 28 = .int .i64 k ∧ OwnT h' (e 8) 1 y_int (intsZ (regsZ g (l.take k))) nx) ?_ (n := l.length) ⟨0, by omega, by omega, Sub.refl h, hf.mono (by omega), rfl, rfl, rfl, rfl, rfl, OwnT.nil⟩
    rintro j e h' nx' ⟨k, hj, hnx, hs, hf', e0, e1, e26, e27, e28, ho⟩ Q' hq hx
    have hB' := hB.sub hs
    obtain ⟨fn, hm1, hm2⟩ := hB'.num
    have hb' := hB'.blk
    unfold auto_builder_find_L1
    rw [e0, e26, e27, e28]
    refine lss_s (fun hk => ?_) (fun hk => ?_)
    · have hk : k < l.length := by omega
      have hld := (hzl.sub hs).load hk
      have hxr := hrange _ (List.getElem_mem hk)
      have hrs : regsZ g (l.take (k + 1)) = if ctd g l[k] then regsZ g (l.take k) ++ [numZ g l[k]] else regsZ g (l.take k) := by rw [List.take_succ_eq_append_getElem hk, regsZ_snoc]
      generalize l[k] = x at hld hxr hrs
      have hlx := look_ii hm1 x
      rw [hm2 x hxr.1] at hlx
      have bn := bldL_2 (av := av) (bv := bv) (nv := .map (some nid)) (fv := fv) (c := c) (n := n) (cv := cv) (sv := .slice (some (own sid 4)) cs.length cs.length) (kv := .map (some kid)) (ev := .map (some eid)) (yv := .map (some yid))
      refine condP_t (bindP_mk (hzl.ix _ hk) (bindP_mk hld ?_))
      (repeat (first | refine bindP_mk (by simp (disch := first | omega | exact Int.natCast_nonneg _ | assumption) only [BB, B2, ↓reduceIte, Nat.reduceLeDiff, Nat.reduceAdd, CC, nilCk_at, hb', bn, hlx, nth0, nth1] <;> rfl) ?_ | refine newP_mk ?_ | refine optP_mk ?_ | with_reducible first | refine condP_t ?_ | refine condP_f ?_ | refine ifP_tt' ?_ | refine ifP_ff' ?_ | refine ifP_tf' ?_ | refine ifP_ft' ?_ | refine ifP_u' ?_ | refine optP_mk0 ?_))
      have hj2 : ∀ (e : Env) (h3 : T Obj) (n3 : Nat), nx' ≤ n3 → Sub h h3 → Fr h3 n3 → e 0 = ptr bid → e 1 = lv → e 26 = lv → e 27 = .int .i64 l.length → e 28 = .int .i64 k → OwnT h3 (e 8) 1 y_int (intsZ (regsZ g (l.take (k + 1)))) nx → auto_builder_find_j2 ro Q' e h3 n3 := by
        intro e h3 n3 hn3 s1 s2 e0 e1 e26 e27 e28 o3
        unfold auto_builder_find_j2
        rw [e28]
        (repeat (first | refine bindP_mk (by simp (disch := first | omega | exact Int.natCast_nonneg _ | assumption) only [BB, B2, ↓reduceIte, Nat.reduceLeDiff, Nat.reduceAdd, CC] <;> rfl) ?_ | refine newP_mk ?_ | refine optP_mk ?_ | with_reducible first | refine condP_t ?_ | refine condP_f ?_ | refine ifP_tt' ?_ | refine ifP_ff' ?_ | refine ifP_tf' ?_ | refine ifP_ft' ?_ | refine ifP_u' ?_ | refine optP_mk0 ?_))
        exact hq (j - 1) _ _ _ _ (by omega) ⟨k + 1, by omega, by omega, s1, s2.mono (by omega), e0, e1, e26, e27, rfl, o3⟩ (Sub.refl _)
      have hrl : (regsZ g (l.take k)).length ≤ 1000000 := by
        unfold regsZ
        rw [List.length_map]
        have := List.length_filter_le (ctd g) (l.take k)
        rw [List.length_take] at this
        omega
      cases hct : ctd g x with
      | true =>
        rw [hct, if_pos rfl] at hrs
        simp only [if_true, Option.isSome_some, Option.getD_some]
        (repeat (first | refine bindP_mk (by simp (disch := first | omega | exact Int.natCast_nonneg _ | assumption) only [BB, B2, ↓reduceIte, Nat.reduceLeDiff, Nat.reduceAdd, CC] <;> rfl) ?_ | refine newP_mk ?_ | refine optP_mk ?_ | with_reducible first | refine condP_t ?_ | refine condP_f ?_ | refine ifP_tt' ?_ | refine ifP_ff' ?_ | refine ifP_tf' ?_ | refine ifP_ft' ?_ | refine ifP_u' ?_ | refine optP_mk0 ?_))
        refine app_int ho hrl hf' (by omega) (by omega) (by omega) fun h3 w q1 q2 q3 q4 => ?_
        dsimp only
        refine hj2 _ _ _ (by omega) (ho.sub q3 hf (Nat.le_refl _) hs) (q4.mono (by omega)) e0 e1 e26 e27 e28 ?_
        rw [hrs]; exact q1
      | false =>
        rw [hct, if_neg (by decide)] at hrs
        simp only [Bool.false_eq_true, if_false, Option.isSome_none]
        (repeat (first | refine bindP_mk (by simp (disch := first | omega | exact Int.natCast_nonneg _ | assumption) only [BB, B2, ↓reduceIte, Nat.reduceLeDiff, Nat.reduceAdd, CC] <;> rfl) ?_ | refine newP_mk ?_ | refine optP_mk ?_ | with_reducible first | refine condP_t ?_ | refine condP_f ?_ | refine ifP_tt' ?_ | refine ifP_ff' ?_ | refine ifP_tf' ?_ | refine ifP_ft' ?_ | refine ifP_u' ?_ | refine optP_mk0 ?_))
        refine hj2 _ _ _ (by omega) hs (hf'.mono (by omega)) e0 e1 e26 e27 e28 ?_
        rw [hrs]; exact ho
    · (repeat (first | refine bindP_mk (by simp (disch := first | omega | exact Int.natCast_nonneg _ | assumption) only [BB, B2, ↓reduceIte, Nat.reduceLeDiff, Nat.reduceAdd, CC] <;> rfl) ?_ | refine newP_mk ?_ | refine optP_mk ?_ | with_reducible first | refine condP_t ?_ | refine condP_f ?_ | refine ifP_tt' ?_ | refine ifP_ff' ?_ | refine ifP_tf' ?_ | refine ifP_ft' ?_ | refine ifP_u' ?_ | refine optP_mk0 ?_))
      refine hx _ _ _ _ (fun e => by cases e) (exP_e (beqP_t ?_))
      rw [List.take_of_length_le (by omega)] at ho
      have hrl : (regsZ g l).length ≤ 512 := by
        unfold regsZ
        rw [List.length_map]
        have := List.length_filter_le (ctd g) l
        omega
      have fin : ∀ (e' : Env) n', e' 0 = ptr bid → e' 1 = lv → OwnT h' (e' 8) 1 y_int (intsZ (regsZ g l)) nx → nx' ≤ n' → auto_builder_find_j1 ro K e' h' n' := by
        intro e' n' f0 f1 ho hn'
        unfold auto_builder_find_j1
        rw [f0, f1]
        generalize e' 8 = rv at ho
        have hrn := (ho.sl (ro := ro)).len
        rw [intsZ_len] at hrn
        have hb262 := bldL_262 (av := av) (bv := bv) (nv := .map (some nid)) (fv := fv) (n := n) (cv := cv) (sv := .slice (some (own sid 4)) cs.length cs.length) (kv := .map (some kid)) (ev := .map (some eid)) (yv := .map (some yid)) hB.hc
        refine bindP_mk hrn ?_
        refine gtr_s (fun u1 => ?_) (fun u1 => ?_)
        · (repeat (first | refine bindP_mk (by simp (disch := first | omega | exact Int.natCast_nonneg _ | assumption) only [BB, B2, ↓reduceIte, Nat.reduceLeDiff, Nat.reduceAdd, CC] <;> rfl) ?_ | refine newP_mk ?_ | refine optP_mk ?_ | with_reducible first | refine condP_t ?_ | refine condP_f ?_ | refine ifP_tt' ?_ | refine ifP_ff' ?_ | refine ifP_tf' ?_ | refine ifP_ft' ?_ | refine ifP_u' ?_ | refine optP_mk0 ?_))
          rw [if_pos (by omega)] at hK
          exact ⟨h, hs, hK h _ sid cs (by omega) (hf.mono (by omega)) (Sub.refl h).keepL (.inl rfl) hB Grow.refl⟩
        · rw [if_neg (by omega)] at hK
          (repeat (first | refine bindP_mk (by simp (disch := first | omega | exact Int.natCast_nonneg _ | assumption) only [BB, B2, ↓reduceIte, Nat.reduceLeDiff, Nat.reduceAdd, CC, nilCk_at, hb', hb262] <;> rfl) ?_ | refine newP_mk ?_ | refine optP_mk ?_ | with_reducible first | refine condP_t ?_ | refine condP_f ?_ | refine ifP_tt' ?_ | refine ifP_ff' ?_ | refine ifP_tf' ?_ | refine ifP_ft' ?_ | refine ifP_u' ?_ | refine optP_mk0 ?_))
          refine geq_s (fun u2 => ?_) (fun u2 => ?_)
          · (repeat (first | refine bindP_mk (by simp (disch := first | omega | exact Int.natCast_nonneg _ | assumption) only [BB, B2, ↓reduceIte, Nat.reduceLeDiff, Nat.reduceAdd, CC] <;> rfl) ?_ | refine newP_mk ?_ | refine optP_mk ?_ | with_reducible first | refine condP_t ?_ | refine condP_f ?_ | refine ifP_tt' ?_ | refine ifP_ff' ?_ | refine ifP_tf' ?_ | refine ifP_ft' ?_ | refine ifP_u' ?_ | refine optP_mk0 ?_))
            rw [if_pos (by have := hB.len; omega)] at hK
            exact ⟨h, hs, hK h _ sid cs (by omega) (hf.mono (by omega)) (Sub.refl h).keepL (.inl rfl) hB Grow.refl⟩
          · rw [if_neg (by have := hB.len; omega)] at hK
            (repeat (first | refine bindP_mk (by simp (disch := first | omega | exact Int.natCast_nonneg _ | assumption) only [BB, B2, ↓reduceIte, Nat.reduceLeDiff, Nat.reduceAdd, CC, nilCk_at, hb', hb262, b263] <;> rfl) ?_ | refine newP_mk ?_ | refine optP_mk ?_ | with_reducible first | refine condP_t ?_ | refine condP_f ?_ | refine ifP_tt' ?_ | refine ifP_ff' ?_ | refine ifP_tf' ?_ | refine ifP_ft' ?_ | refine ifP_u' ?_ | refine optP_mk0 ?_))
            refine auto_key_c (by omega) hne hrange (hf'.mono (by omega)) (hzl.sub hs) fun n2 hn2 => ?_
            refine ⟨sameV_own hb' hb', ?_⟩
            obtain ⟨fk', hk1', hk2'⟩ := hB'.known
            obtain ⟨i1, i2, i3, i4, i5⟩ := hB'.ids
            obtain ⟨es, ec, p1, p2⟩ := put_si hk1' (keyZ l) (.int .i64 cs.length)
            refine bindP_mk p1 ?_
            have hkf : kid < nx' := by obtain ⟨_, _, q⟩ := hk1'.obj; exact hf'.lt' q
            have hbf : bid < nx' := hf'.lt' hb'
            have hsf : sid < nx' := hf'.lt' hB'.row
            have hf2 : Fr (h'.upd kid (some (.map es ec))) nx' := hf'.upd (Nat.le_refl _) hkf
            have hb2 : (h'.upd kid (some (.map es ec))).get bid = _ := (T.get_upd_ne _ _ i2).trans hb'
            have ho2 : OwnT (h'.upd kid (some (.map es ec))) (.slice (some (own sid 4)) cs.length cs.length) 4 y_api_State cs 0 := .inr ⟨sid, Nat.zero_le _, rfl, hB.z4, by rw [T.get_upd_ne _ _ i4]; exact hB'.row⟩
            have hk0 : Keep [bid, kid, sid] h (h'.upd kid (some (.map es ec))) := (hs.keepL).upd (by simp)
            have hmap := p2 (h'.upd kid (some (.map es ec))) (by rw [T.get_upd_same])
            have hor : OwnT (h'.upd kid (some (.map es ec))) rv 1 y_int (intsZ (regsZ g l)) nx := by
              rcases ho with ho | ⟨id, o1, rfl, o4, o5⟩
              · exact .inl ho
              · refine .inr ⟨id, o1, rfl, o4, ?_⟩
                rw [T.get_upd_ne _ _ (by rintro rfl; obtain ⟨_, _, q⟩ := hk1'.obj; rw [q] at o5; cases o5)]; exact o5
            have hgf : (h'.upd kid (some (.map es ec))).get kid = some (.map es ec) := T.get_upd_same _ _ _
            generalize h'.upd kid (some (.map es ec)) = h3 at hf2 hb2 ho2 hk0 hmap hor hgf
            (repeat (first | refine bindP_mk (by simp (disch := first | omega | exact Int.natCast_nonneg _ | assumption) only [BB, B2, ↓reduceIte, Nat.reduceLeDiff, Nat.reduceAdd, CC, nilCk_at, hb2, hb262] <;> rfl) ?_ | refine newP_mk ?_ | refine optP_mk ?_ | with_reducible first | refine condP_t ?_ | refine condP_f ?_ | refine ifP_tt' ?_ | refine ifP_ff' ?_ | refine ifP_tf' ?_ | refine ifP_ft' ?_ | refine ifP_u' ?_ | refine optP_mk0 ?_))
            have hlvok := hl.ok
            have hrvok := ho.ok
            refine bindP_mk (build_State _ _ (cells_of_ok hlvok) (cells_of_ok hrvok)) ?_
            refine app_State hlvok hrvok rfl rfl ho2 (by have := hB.len; have := hB.few; omega) hf2 (Nat.zero_le _) (by omega) (by omega) fun h4 w q1 q2 q3 q4 => ?_
            dsimp only
            have hb4 : h4.get bid = _ := q3 bid _ hb2 (by intro e; exact i1 (Option.some.inj e).symm)
            (repeat (first | refine bindP_mk (by simp (disch := first | omega | exact Int.natCast_nonneg _ | assumption) only [BB, B2, ↓reduceIte, Nat.reduceLeDiff, Nat.reduceAdd, CC, nilCk_at] <;> rfl) ?_ | refine newP_mk ?_ | refine optP_mk ?_ | with_reducible first | refine condP_t ?_ | refine condP_f ?_ | refine ifP_tt' ?_ | refine ifP_ff' ?_ | refine ifP_tf' ?_ | refine ifP_ft' ?_ | refine ifP_u' ?_ | refine optP_mk0 ?_))
            refine bindP_mk (store1_own (l := bldL av bv (.map (some nid)) fv c n cv (.slice (some (own sid 4)) cs.length cs.length) (.map (some kid)) (.map (some eid)) (.map (some yid))) hb4 (by rw [bldL_len hB.hc]; omega) (by rw [q2]; rfl) (by rw [q2]; rfl)) ?_
            rw [bldL_set262 hB.hc]
            refine ⟨_, Sub.refl _, ?_⟩
            have hkp : Keep [bid, kid, sid] h h4 := hk0.trans (q3.keepL fun id hid => by have : sid = id := Option.some.inj hid; subst this; simp)
            have hfin : Keep [bid, kid, sid] h (h4.upd bid (some (.cells (bldL av bv (.map (some nid)) fv c n cv w (.map (some kid)) (.map (some eid)) (.map (some yid))).toArray y_auto_builder))) := hkp.upd (by simp)
            have hcl : ((cs.length : Nat) : Int) = (S.length : Nat) := by rw [hB.len]
            rw [hcl]
            subst q2
            have ht : ∀ k o, h3.get k = some o → k ≠ sid → k ≠ bid → (h4.upd bid (some (.cells (bldL av bv (.map (some nid)) fv c n cv (.slice (some (own (n2 + 11) 4)) (cs ++ [[lv, rv, nilS, nilS]]).length (cs ++ [[lv, rv, nilS, nilS]]).length) (.map (some kid)) (.map (some eid)) (.map (some yid))).toArray y_auto_builder))).get k = some o := fun k o h1 h2 h3 => by
              rw [T.get_upd_ne _ _ h3]
              exact q3 k o h1 fun e => h2 (Option.some.inj e).symm
            have hf4 : Fr (h4.upd bid (some (.cells (bldL av bv (.map (some nid)) fv c n cv (.slice (some (own (n2 + 11) 4)) (cs ++ [[lv, rv, nilS, nilS]]).length (cs ++ [[lv, rv, nilS, nilS]]).length) (.map (some kid)) (.map (some eid)) (.map (some yid))).toArray y_auto_builder))) (n2 + 11 + 1) := q4.upd (Nat.le_refl _) (by omega)
            refine hK _ _ (n2 + 11) (cs ++ [[lv, rv, nilS, nilS]]) (by omega) (hf4.mono (by omega)) hfin (.inr (by omega)) ⟨hB.hc, by rw [T.get_upd_same], ?_, ?_, ?_, ?_, ?_, ?_, ?_, hB.nk⟩ ?_
            · obtain ⟨_, _, q⟩ := hm1.obj
              obtain ⟨es9, c9, ps9, r1, r2, r3⟩ := hm1
              refine ⟨fn, ⟨es9, c9, ps9, ?_, r2, r3⟩, hm2⟩
              have hn3 : h3.get nid = some (.map es9 c9) := hk0 nid _ (by
                obtain ⟨f8, w1, w2⟩ := hB.num
                obtain ⟨es8, c8, ps8, w3, w4, w5⟩ := w1
                have := hs _ _ w3
                rw [r1] at this
                rw [w3, ← this]) (by simp; exact ⟨i3.symm, hB.nk, i5.symm⟩)
              exact ht _ _ hn3 i5.symm i3.symm
            · obtain ⟨es9, c9, ps9, r1, r2, r3⟩ := hmap
              refine ⟨_, ⟨es9, c9, ps9, ht _ _ r1 i4.symm i2.symm, r2, r3⟩, ?_⟩
              intro m hm0 hm1
              show (if keyZ m = keyZ l then _ else fk' (keyZ m)) = _
              rw [findIdx_snoc (l := l) rfl hfi]
              by_cases hml : m = l
              · subst hml; rw [if_pos rfl, if_pos rfl, hB.len]; rfl
              · rw [if_neg (fun e => hml (keyZ_inj hm1 hrange e)), if_neg hml]; exact hk2' m hm0 hm1
            · rcases q1 with ⟨h9, _⟩ | ⟨id, r1, r2, r3, r4⟩
              · cases h9
              · have : n2 + 11 = id := by
                  simp only [Value.slice.injEq, Option.some.injEq, own, Addr.mk.injEq] at r2
                  exact r2.1.1
                subst this
                rw [T.get_upd_ne _ _ (by omega)]; exact r4
            · intro x hx
              rcases List.mem_append.1 hx with hx | hx
              · exact hB.z4 x hx
              · simp at hx; rw [hx]; rfl
            · simp [hB.len]
            · have := hB.len; simp; omega
            · simp
            · refine ⟨[[lv, rv, nilS, nilS]], [⟨l, regsZ g l, [], []⟩], rfl, rfl, rfl, ?_⟩
              intro i x s hx hs9
              cases i with
              | succ i => simp at hx
              | zero =>
                simp at hx hs9
                subst hx; subst hs9
                refine ⟨lv, rv, rfl, ?_, ?_, rfl, rfl⟩
                · refine hl.keepK hfin fun id hid => ?_
                  obtain ⟨b1, b2⟩ := hl.blk hid
                  have hn1 : id ≠ bid := by omega
                  have hn2 : id ≠ kid := by
                    rintro rfl
                    obtain ⟨_, _, q⟩ := hk1.obj
                    rw [q] at b2; cases b2
                  have hn3 : id ≠ sid := by
                    rintro rfl
                    have := hB.row
                    rw [this] at b2
                    simp only [Option.some.injEq, Obj.cells.injEq] at b2
                    exact absurd b2.2.1 (by decide)
                  simp; exact ⟨hn1, hn2, hn3⟩
                · rcases hor with hor | ⟨id, o1, rfl, o4, o5⟩
                  · exact .inl hor
                  · refine .inr ⟨id, by omega, rfl, o4, ht _ _ o5 ?_ ?_⟩
                    · have := hf.lt' hB.row; omega
                    · have := hf.lt' hB.blk; omega
      exact fin _ _ e0 e1 ho (by omega)
end V
end Go.Proofs.Ytmmdcdjkmakgpaa
set_option linter.unusedVariables false
set_option linter.unusedSimpArgs false
namespace Go.Proofs.Ytmmdcdjkmakgpaa
namespace V
open PA
attribute [local irreducible] bindP ifP condP newP optP exP beqP
def opsC (l : List Nat) : List (List Value) := l.map fun b : Nat => [Value.int .u8 (b : Int)]
theorem opsC_len (l : List Nat) : (opsC l).length = l.length := by simp [opsC]
theorem lit_u81 (aid : Nat) (b : Int) : sliceLitV Try.prog y_s_uint8 aid 1 [(0, .int .u8 b)] = some (.slice (some (own aid 1)) 1 1, some (.cells [Value.int .u8 b].toArray y_uint8)) := by kernel_rfl
theorem app_u8 {ro : Ro} {h : T Obj} {v : Value} {nx n1 n2 lo : Nat} {l : List Nat} {b : Nat} {b' : Int} {K : Value × Option Obj → T Obj → Value × T Obj × Nat → Prop} (hb' : b' = (b : Int)) (ho : OwnT h v 1 y_uint8 (opsC l) lo) (hl : l.length ≤ 1000000) (hf : Fr h nx) (hlo : lo ≤ nx) (hn1 : nx ≤ n1) (hn2 : n1 < n2)
    (hK : ∀ h' w, OwnT h' w 1 y_uint8 (opsC (l ++ [b])) lo → w = .slice (some (own n2 1)) (l.length + 1) (l.length + 1) → Kp v h h' → Fr h' (n2 + 1) → K (.slice (some (own n1 1)) 1 1, some (.cells [Value.int .u8 (b : Int)].toArray y_uint8)) (h.upd n1 (some (.cells [Value.int .u8 (b : Int)].toArray y_uint8))) (w, h', n2 + 1)) :
    bindP (sliceLitV Try.prog y_s_uint8 n1 1 [(0, .int .u8 b')]) fun r => optP h n1 r.2 fun h' => bindP (appendV Try.prog ro h' n2 #[y_s_uint8, y_s_uint8] [v, r.1]) (K r h') := by
  subst hb'
  obtain ⟨i, g1, g2, g3⟩ := tin_u8'
  have e : opsC l ++ [[Value.int .u8 (b : Int)]] = opsC (l ++ [b]) := by simp [opsC]
  have el := opsC_len l
  refine append_lit (z := 1) (l := opsC l) (y := [.int .u8 (b : Int)]) (lit_u81 _ _) rfl ho und_u8s' g1 g2 (by omega) zerU rfl rfl (by rw [el, g3]; unfold big; omega) (by rw [el]; unfold big; omega) hf hlo hn1 hn2 fun h' q1 q2 q3 => ?_
  rw [e] at q1 ⊢
  refine hK h' _ q1 ?_ q2 q3
  rw [opsC_len, List.length_append]; rfl
theorem OwnT.updNe {h : T Obj} {v : Value} {z : Nat} {e e' : TypeId} {l : List (List Value)} {lo i : Nat} {c : Array Value} {f : Nat × Nat} {o : Option Obj} (ho : OwnT h v z e l lo) (hg : h.get i = some (.cells c e' f)) (he : e' ≠ e) : OwnT (h.upd i o) v z e l lo := by
  rcases ho with ho | ⟨id, h1, rfl, h4, h5⟩
  · exact .inl ho
  · refine .inr ⟨id, h1, rfl, h4, ?_⟩
    rw [T.get_upd_ne _ _ (by
      rintro rfl
      rw [hg] at h5
      simp only [Option.some.injEq, Obj.cells.injEq] at h5
      exact he h5.2.1)]
    exact h5
theorem NewSt.updNe {h : T Obj} {lo i : Nat} {x : List Value} {s : StateD} {c : Array Value} {e' : TypeId} {f : Nat × Nat} {o : Option Obj} (hn : NewSt h lo x s) (hg : h.get i = some (.cells c e' f)) (he : e' ≠ y_int) : NewSt (h.upd i o) lo x s := by
  obtain ⟨lv, rv, h1, h2, h3, h4⟩ := hn
  exact ⟨lv, rv, h1, h2.updNe hg he, h3.updNe hg he, h4⟩
theorem Grow.updNe {h : T Obj} {lo i : Nat} {cs cs' : List (List Value)} {S S' : List StateD} {c : Array Value} {e' : TypeId} {f : Nat × Nat} {o : Option Obj} (hn : Grow h lo cs cs' S S') (hg : h.get i = some (.cells c e' f)) (he : e' ≠ y_int) : Grow (h.upd i o) lo cs cs' S S' := by
  obtain ⟨ds, T, h1, h2, h3, h4⟩ := hn
  exact ⟨ds, T, h1, h2, h3, fun i x s hx hs => (h4 i x s hx hs).updNe hg he⟩
theorem Bd.keepN {h h' : T Obj} {g : GlD} {bid nid kid eid yid sid : Nat} {av bv fv : Value} {c : List Nat} {n : Int} {cv : Value} {S : List StateD} {cs : List (List Value)} (hB : Bd h g bid nid kid eid yid sid av bv fv c n cv S cs) (hk : ∀ k o, h.get k = some o → k = bid ∨ k = nid ∨ k = kid ∨ k = sid → h'.get k = some o) : Bd h' g bid nid kid eid yid sid av bv fv c n cv S cs := by
  obtain ⟨f1, ⟨es1, c1, ps1, n1, n2, n3⟩, n4⟩ := hB.num
  obtain ⟨f2, ⟨es2, c2, ps2, k1, k2, k3⟩, k4⟩ := hB.known
  exact ⟨hB.hc, hk _ _ hB.blk (.inl rfl), ⟨f1, ⟨es1, c1, ps1, hk _ _ n1 (.inr (.inl rfl)), n2, n3⟩, n4⟩, ⟨f2, ⟨es2, c2, ps2, hk _ _ k1 (.inr (.inr (.inl rfl))), k2, k3⟩, k4⟩, hk _ _ hB.row (.inr (.inr (.inr rfl))), hB.z4, hB.len, hB.few, hB.pos, hB.nk⟩
theorem Bd.lt {h : T Obj} {g : GlD} {bid nid kid eid yid sid nx : Nat} {av bv fv : Value} {c : List Nat} {n : Int} {cv : Value} {S : List StateD} {cs : List (List Value)} (hB : Bd h g bid nid kid eid yid sid av bv fv c n cv S cs) (hf : Fr h nx) : bid < nx ∧ nid < nx ∧ kid < nx ∧ sid < nx := by
  obtain ⟨f1, n1, n4⟩ := hB.num
  obtain ⟨f2, k1, k4⟩ := hB.known
  obtain ⟨_, _, a⟩ := n1.obj
  obtain ⟨_, _, b⟩ := k1.obj
  exact ⟨hf.lt' hB.blk, hf.lt' a, hf.lt' b, hf.lt' hB.row⟩
theorem placesZ_succ (k : Nat) : placesZ (k + 1) = placesZ k ++ [(k : Int)] := by simp [placesZ, List.range_succ]
theorem placesZ_mem {k : Nat} {x : Int} (h : x ∈ placesZ k) : 0 ≤ x ∧ x < k := by
  simp only [placesZ, List.mem_map, List.mem_range] at h
  obtain ⟨i, h1, rfl⟩ := h
  omega
theorem placesZ_len (k : Nat) : (placesZ k).length = k := by simp [placesZ]
theorem rz_snoc {m : Int} {x : Int} (hx : x < m) : ∀ {l : List Int} {a : Int}, a < x → rz a m l = true → (∀ y ∈ l, y < x) → rz a m (l ++ [x]) = true
  | [], a, ha, _, _ => by simp [rz, ha, hx]
  | y :: r, a, ha, h, hl => by
    simp only [rz, Bool.and_eq_true, decide_eq_true_eq] at h
    have := rz_snoc hx (hl y (by simp)) h.2.2 fun z hz => hl z (by simp [hz])
    simp only [List.cons_append, rz, Bool.and_eq_true, decide_eq_true_eq]
    exact ⟨h.1, h.2.1, this⟩
theorem rz_filter {m : Nat} (q : Int → Bool) : ∀ k, k ≤ m → rz (-1) m ((placesZ k).filter q) = true
  | 0, _ => rfl
  | k + 1, hk => by
    have ih := rz_filter (m := m) q k (by omega)
    rw [placesZ_succ, List.filter_append]
    cases hq : q (k : Int) with
    | false => rw [List.filter_cons_of_neg (by simp [hq])]; simpa using ih
    | true =>
      rw [List.filter_cons_of_pos (by simp [hq])]
      refine rz_snoc (by omega) (by omega) ih fun y hy => ?_
      have := placesZ_mem ((List.mem_filter.1 hy).1)
      omega
theorem lZ_rz (g : GlD) (en st : Int → Bool) (b : Nat) : rz (-1) g.p.length (lZ g en st b) = true := rz_filter _ _ (Nat.le_refl _)
theorem lZ_len (g : GlD) (en st : Int → Bool) (b : Nat) : (lZ g en st b).length ≤ g.p.length := by
  have := List.length_filter_le (takesZ g en st b) (placesZ g.p.length)
  rw [placesZ_len] at this; exact this
theorem opsZ_snoc (g : GlD) (en st : Int → Bool) (l : List Int) (x : Int) : opsZ g en st (l ++ [x]) = if ctd g x then opsZ g en st l ++ [opZ en st x] else opsZ g en st l := by
  unfold opsZ
  rw [List.filter_append]
  cases h : ctd g x <;> simp [h]
theorem opsZ_len (g : GlD) (en st : Int → Bool) (l : List Int) : (opsZ g en st l).length ≤ l.length := by
  unfold opsZ
  rw [List.length_map]
  exact List.length_filter_le _ _
theorem zer_Move : zer Try.prog y_api_Move = some (.agg #[.int .i64 0, nilS]) := by kernel_rfl
theorem build_Move1 : buildV Try.prog y_api_Move [(0, .int .i64 (-1))] = some (.agg #[.int .i64 (-1), nilS]) := by kernel_rfl
theorem zer_PosZ : zer Try.prog y_api_Pos = some (.agg (posL dummy (.slice none 0 0)).toArray) := by kernel_rfl
theorem goesZ_nil {g : GlD} {en st : Int → Bool} {b : Nat} {S : List StateD} (h : lZ g en st b = []) : goesZ g en st b S = (⟨-1, []⟩, 0, S) := by unfold goesZ; rw [h]
theorem goesZ_ne {g : GlD} {en st : Int → Bool} {b : Nat} {S : List StateD} (h : lZ g en st b ≠ []) : goesZ g en st b S = (⟨(findZ g S (lZ g en st b)).1, opsZ g en st (lZ g en st b)⟩, (findZ g S (lZ g en st b)).2.1, (findZ g S (lZ g en st b)).2.2) := by
  unfold goesZ
  generalize lZ g en st b = l at h
  cases l with
  | nil => exact absurd rfl h
  | cons x r => rfl
theorem at_nat {g : GlD} {k : Nat} (hk : k < g.p.length) : g.at (k : Int) = g.p[k] := by
  unfold GlD.at
  rw [Int.toNat_natCast, List.getD_eq_getElem?_getD, List.getElem?_eq_getElem hk]; rfl
set_option maxRecDepth 8000 in
set_option maxHeartbeats 2000000 in
theorem auto_goes_c {ro : Ro} {g : GlD} {bid nid kid eid yid sid : Nat} {av bv fv cv : Value} {c : List Nat} {n : Int} {S : List StateD} {cs : List (List Value)} {en st : Int → Bool} {b : Nat} (hg : g.p.length ≤ 512) (hb : b < 256)
    {h : T Obj} {nx : Nat} {K : KV} (hf : Fr h nx) (hB : Bd h g bid nid kid eid yid sid av bv fv c n cv S cs) (hen : BMap h eid en) (hst : BMap h yid st) (hP : SlR ro h bv 9 (RPos ro h) g.p)
    (hK : ∀ h' nx' sid' cs' ov, nx ≤ nx' → Fr h' nx' → Keep [bid, kid, sid] h h' → (sid' = sid ∨ nx ≤ sid') → Bd h' g bid nid kid eid yid sid' av bv fv c n cv (goesZ g en st b S).2.2 cs' → Grow h' nx cs cs' S (goesZ g en st b S).2.2 → OwnT h' ov 1 y_uint8 (opsC (goesZ g en st b S).1.ops) nx →
      K (.tuple #[.agg #[.int .i64 (goesZ g en st b S).1.to, ov], .int .i64 (goesZ g en st b S).2.1]) h' nx') :
    callP Try.prog ro i_auto_builder_goes [ptr bid, .int .u8 (b : Int)] h nx K := by
  apply auto_builder_goes_of
  unfold auto_builder_goes
  obtain ⟨l1, l2, l3, l4⟩ := hB.lt hf
  refine bindP_mk zer_Move (obj_mk hf (Nat.le_refl _) fun h1 hs1 hf1 g1 _ => bindP_mk build_Move1 ?_)
  refine local_mk zer_Move rfl (x := [.int .i64 (-1), nilS]) rfl rfl rfl hf1 (show nx + 1 ≤ nx + 4 by omega) fun h2 hs2 hf2 g2 _ => ?_
  have hs := hs1.trans hs2
  have g1 : h2.get nx = some (.cells #[.int .i64 0, nilS] y_api_Move) := hs2 _ _ g1
  have hbk := hs _ _ hB.blk
  have b1 := bldL_1 (av := av) (bv := bv) (nv := .map (some nid)) (fv := fv) (c := c) (n := n) (cv := cv) (sv := .slice (some (own sid 4)) cs.length cs.length) (kv := .map (some kid)) (ev := .map (some eid)) (yv := .map (some yid))
  have b2 := bldL_2 (av := av) (bv := bv) (nv := .map (some nid)) (fv := fv) (c := c) (n := n) (cv := cv) (sv := .slice (some (own sid 4)) cs.length cs.length) (kv := .map (some kid)) (ev := .map (some eid)) (yv := .map (some yid))
  have b264 := bldL_264 (av := av) (bv := bv) (nv := .map (some nid)) (fv := fv) (n := n) (cv := cv) (sv := .slice (some (own sid 4)) cs.length cs.length) (kv := .map (some kid)) (ev := .map (some eid)) (yv := .map (some yid)) hB.hc
  have b265 := bldL_265 (av := av) (bv := bv) (nv := .map (some nid)) (fv := fv) (n := n) (cv := cv) (sv := .slice (some (own sid 4)) cs.length cs.length) (kv := .map (some kid)) (ev := .map (some eid)) (yv := .map (some yid)) hB.hc
  have hlen := hP.len
  (repeat (first | refine bindP_mk (by simp (disch := first | omega | exact Int.natCast_nonneg _ | assumption) only [BB, B2, ↓reduceIte, Nat.reduceLeDiff, Nat.reduceAdd, CC, nilCk_at, hbk, b1, hlen] <;> rfl) ?_ | refine newP_mk ?_ | refine optP_mk ?_ | with_reducible first | refine condP_t ?_ | refine condP_f ?_ | refine ifP_tt' ?_ | refine ifP_ff' ?_ | refine ifP_tf' ?_ | refine ifP_ft' ?_ | refine ifP_u' ?_ | refine optP_mk0 ?_))
  refine loopP_rule (fun j e h' nx' => ∃ (k : Nat) (ov : Value), k + j = g.p.length ∧ nx + 5 ≤ nx' ∧ Sub h h' ∧ Fr h' nx' ∧ e 0 = ptr bid ∧ e 1 = .int .u8 (b : Int) ∧ e 4 = ptr nx ∧ e 7 = ptr (nx + 4) ∧ e 19 = bv ∧ e 20 = .int .i64 g.p.length ∧ e 21 = .int .i64 k ∧
    OwnT h' (e 6) 1 y_int (intsZ ((placesZ k).filter (takesZ g en st b))) nx ∧ h'.get nx = some (.cells #[.int .i64 0, nilS] y_api_Move) ∧ h'.get (nx + 4) = some (.cells #[.int .i64 (-1), ov] y_api_Move) ∧ OwnT h' ov 1 y_uint8 (opsC (opsZ g en st ((placesZ k).filter (takesZ g en st b)))) nx) ?_ (n := g.p.length)
    ⟨0, nilS, by omega, by omega, hs, hf2.mono (by omega), rfl, rfl, rfl, rfl, rfl, rfl, rfl, OwnT.nil, g1, g2, OwnT.nil⟩
  rintro j e h' nx' ⟨k, ov, hj, hnx, hs', hf', e0, e1, e4, e7, e19, e20, e21, ho, g1, g2, hov⟩ Q' hq hx
  have hB' := hB.sub hs'
  obtain ⟨fn, hm1, hm2⟩ := hB'.num
  have hbk := hB'.blk
  have hP' := hP.sub hs' (RPos.sub hs')
  have hen' : BMap h' eid en := by obtain ⟨f, q1, q2⟩ := hen; exact ⟨f, q1.sub hs', q2⟩
  have hst' : BMap h' yid st := by obtain ⟨f, q1, q2⟩ := hst; exact ⟨f, q1.sub hs', q2⟩
  unfold auto_builder_goes_L1
  rw [e0, e1, e19, e20, e21]
  refine lss_s (fun hk => ?_) (fun hk => ?_)
  · have hk : k < g.p.length := by omega
    have hls : (placesZ (k + 1)).filter (takesZ g en st b) = if takesZ g en st b (k : Int) then (placesZ k).filter (takesZ g en st b) ++ [(k : Int)] else (placesZ k).filter (takesZ g en st b) := by
      rw [placesZ_succ, List.filter_append]
      cases hq : takesZ g en st b (k : Int) <;> simp [hq]
    have hll : ((placesZ k).filter (takesZ g en st b)).length ≤ 512 := by
      have := List.length_filter_le (takesZ g en st b) (placesZ k)
      rw [placesZ_len] at this; omega
    have hol := opsZ_len g en st ((placesZ k).filter (takesZ g en st b))
    obtain ⟨x, ⟨nv, rfl, y1, y2⟩, x2, x3, x4, x5⟩ := hP'.at hk
    have hat := at_nat hk
    have hlk := look_ii hm1 (k : Int)
    rw [hm2 _ (by omega)] at hlk
    have hle := hen'.look (k : Int)
    have hly := hst'.look (k : Int)
    have hj2 : ∀ (e : Env) (h3 : T Obj) (n3 : Nat) (ov' : Value), nx' ≤ n3 → Sub h h3 → Fr h3 n3 → e 0 = ptr bid → e 1 = .int .u8 (b : Int) → e 4 = ptr nx → e 7 = ptr (nx + 4) → e 19 = bv → e 20 = .int .i64 g.p.length → e 21 = .int .i64 k →
        OwnT h3 (e 6) 1 y_int (intsZ ((placesZ (k + 1)).filter (takesZ g en st b))) nx → h3.get nx = some (.cells #[.int .i64 0, nilS] y_api_Move) → h3.get (nx + 4) = some (.cells #[.int .i64 (-1), ov'] y_api_Move) → OwnT h3 ov' 1 y_uint8 (opsC (opsZ g en st ((placesZ (k + 1)).filter (takesZ g en st b)))) nx → auto_builder_goes_j2 ro Q' e h3 n3 := by
      intro e h3 n3 ov' hn3 s1 s2 e0 e1 e4 e7 e19 e20 e21 o3 g3 g4 o4
      unfold auto_builder_goes_j2
      rw [e21]
      (repeat (first | refine bindP_mk (by simp (disch := first | omega | exact Int.natCast_nonneg _ | assumption) only [BB, B2, ↓reduceIte, Nat.reduceLeDiff, Nat.reduceAdd, CC] <;> rfl) ?_ | refine newP_mk ?_ | refine optP_mk ?_ | with_reducible first | refine condP_t ?_ | refine condP_f ?_ | refine ifP_tt' ?_ | refine ifP_ff' ?_ | refine ifP_tf' ?_ | refine ifP_ft' ?_ | refine ifP_u' ?_ | refine optP_mk0 ?_))
      exact hq (j - 1) _ _ _ _ (by omega) ⟨k + 1, ov', by omega, by omega, s1, s2.mono (by omega), e0, e1, e4, e7, e19, e20, rfl, o3, g3, g4, o4⟩ (Sub.refl _)
    generalize (placesZ k).filter (takesZ g en st b) = L at hls hll hol ho hov
    generalize (placesZ (k + 1)).filter (takesZ g en st b) = L' at hls hj2
    have htk : takesZ g en st b (k : Int) = (g.p[k].s.testBit b && (en k || st k)) := by unfold takesZ; rw [hat]
    refine condP_t (bindP_mk (hP'.ix _ hk) (bindP_mk x3 ?_))
    refine local_mk zer_PosZ rfl (x := posL g.p[k] nv) rfl rfl (posL_ok y1.ok) hf' (show nx' ≤ nx' + 4 by omega) fun h3 hs3 hf3 g3 hne3 => ?_
    have hsp : ((posL g.p[k] nv).drop 0).take 4 = setL g.p[k].s := rfl
    have e4s : (4 : Nat) ≤ (posL g.p[k] nv).length := by show 4 ≤ 9; omega
    have hld : loadA ro h3 4 (at_ (nx' + 4) 0 0) = some (setV g.p[k].s) := by
      rw [loadA_own, g3, cellsIn_some]
      simp only [Option.bind_some, tl]
      rw [if_pos (by show 0 + 4 ≤ 9; omega), hsp]; rfl
    (repeat (first | refine bindP_mk (by simp (disch := first | omega | exact Int.natCast_nonneg _ | assumption) only [BB, B2, ↓reduceIte, Nat.reduceLeDiff, Nat.reduceAdd, CC, hld] <;> rfl) ?_ | refine newP_mk ?_ | refine optP_mk ?_ | with_reducible first | refine condP_t ?_ | refine condP_f ?_ | refine ifP_tt' ?_ | refine ifP_ff' ?_ | refine ifP_tf' ?_ | refine ifP_ft' ?_ | refine ifP_u' ?_ | refine optP_mk0 ?_))
    refine bset_Has_c hb (hf3.mono (by omega)) fun n4 hn4 => ?_
    have hb3 := hs3 _ _ hbk
    have hle3 : lookV Try.prog h3 y_map_int_bool (.map (some eid)) (.int .i64 (k : Int)) false = some (.bool (en k)) := BMap.look (by obtain ⟨f, q1, q2⟩ := hen'; exact ⟨f, q1.sub hs3, q2⟩) _
    have hly3 : lookV Try.prog h3 y_map_int_bool (.map (some yid)) (.int .i64 (k : Int)) false = some (.bool (st k)) := BMap.look (by obtain ⟨f, q1, q2⟩ := hst'; exact ⟨f, q1.sub hs3, q2⟩) _
    have ho3 := ho.keepS hs3
    have hov3 := hov.keepS hs3
    have g13 := hs3 _ _ g1
    have g23 := hs3 _ _ g2
    have hm3 := hm1.sub hs3
    have hs03 := hs'.trans hs3
    have hB3 := hB'.sub hs3
    cases hhas : (g.p[k]).s.testBit b with
    | false =>
      rw [hhas, Bool.false_and] at htk
      rw [htk, if_neg (by decide)] at hls
      (repeat (first | refine bindP_mk (by simp (disch := first | omega | exact Int.natCast_nonneg _ | assumption) only [BB, B2, ↓reduceIte, Nat.reduceLeDiff, Nat.reduceAdd, CC] <;> rfl) ?_ | refine newP_mk ?_ | refine optP_mk ?_ | with_reducible first | refine condP_t ?_ | refine condP_f ?_ | refine ifP_tt' ?_ | refine ifP_ff' ?_ | refine ifP_tf' ?_ | refine ifP_ft' ?_ | refine ifP_u' ?_ | refine optP_mk0 ?_))
      refine hj2 _ _ _ ov (by omega) hs03 (hf3.mono (by omega)) e0 e1 e4 e7 e19 e20 e21 ?_ g13 g23 ?_
      · rw [hls]; exact ho3
      · rw [hls]; exact hov3
    | true =>
      rw [hhas, Bool.true_and] at htk
      -- places that are taken
      have main : ∀ (e' : Env) n5 (h6 : T Obj) (lv : Value) (op : Nat), nx' + 5 ≤ n5 → (en k || st k) = true → e' 0 = ptr bid → e' 1 = .int .u8 (b : Int) → e' 4 = ptr nx → e' 7 = ptr (nx + 4) → e' 8 = .int .i64 k → e' 19 = bv → e' 20 = .int .i64 g.p.length → e' 21 = .int .i64 k → OwnT h6 lv 1 y_int (intsZ L') nx → e' 6 = lv → Sub h h6 → Fr h6 n5 → h6.get nx = some (.cells #[.int .i64 0, nilS] y_api_Move) → h6.get (nx + 4) = some (.cells #[.int .i64 (-1), ov] y_api_Move) → OwnT h6 ov 1 y_uint8 (opsC (opsZ g en st L)) nx →
          op = opZ en st k → e' 12 = .int .u8 (op : Int) → ctd g k = true → L' = L ++ [(k : Int)] → auto_builder_goes_j4 ro Q' e' h6 n5 := by
        intro e' n5 h6 lv op hn5 hes f0 f1 f4 f7 f8 f19 f20 f21 q1 q2 q3 q4 q5 q6 q7 hop f12 hct hL
        unfold auto_builder_goes_j4
        rw [f7, f12]
        (repeat (first | refine bindP_mk (by simp (disch := first | omega | exact Int.natCast_nonneg _ | assumption) only [BB, B2, ↓reduceIte, Nat.reduceLeDiff, Nat.reduceAdd, CC, q6] <;> rfl) ?_ | refine newP_mk ?_ | refine optP_mk ?_ | with_reducible first | refine condP_t ?_ | refine condP_f ?_ | refine ifP_tt' ?_ | refine ifP_ff' ?_ | refine ifP_tf' ?_ | refine ifP_ft' ?_ | refine ifP_u' ?_ | refine optP_mk0 ?_))
        refine app_u8 (b := op) rfl q7 (by omega) q4 (by omega) (by omega) (by omega) fun h8 w r1 r2 r3 r4 => ?_
        dsimp only
        have hne4 : sblk ov ≠ some (nx + 4) := q7.ne q6 (by decide)
        have hnx4 : sblk ov ≠ some nx := q7.ne q5 (by decide)
        have r6 := r3 _ _ q6 hne4
        have r5 := r3 _ _ q5 hnx4
        have hr2 : w.cells = #[w] := by rw [r2]; rfl
        have hr2' : cellOk w = true := by rw [r2]; rfl
        (repeat (first | refine bindP_mk (by simp (disch := first | omega | exact Int.natCast_nonneg _ | assumption) only [BB, B2, ↓reduceIte, Nat.reduceLeDiff, Nat.reduceAdd, CC] <;> rfl) ?_ | refine newP_mk ?_ | refine optP_mk ?_ | with_reducible first | refine condP_t ?_ | refine condP_f ?_ | refine ifP_tt' ?_ | refine ifP_ff' ?_ | refine ifP_tf' ?_ | refine ifP_ft' ?_ | refine ifP_u' ?_ | refine optP_mk0 ?_))
        refine bindP_mk (store1_own (l := [.int .i64 (-1), ov]) r6 (by show 1 < 2; omega) hr2' hr2) ?_
        have hxl : OwnT h8 lv 1 y_int (intsZ L') nx := q1.keep r3 fun id hid => by
          obtain ⟨_, z1⟩ := q1.blk hid
          exact q7.ne z1 (by decide)
        have hss : Sub h h8 := q7.sub r3 hf (Nat.le_refl _) q3
        refine hj2 _ _ _ w (by omega) (hss.new hf (by omega)) ((r4.mono (by omega)).upd (Nat.le_refl _) (by omega)) f0 f1 f4 f7 f19 f20 f21 ?_ ?_ ?_ ?_
        · show OwnT _ (e' 6) _ _ _ _
          rw [q2]
          exact hxl.updNe r6 (by decide)
        · rw [T.get_upd_ne _ _ (by omega)]; exact r5
        · rw [T.get_upd_same]; rfl
        · rw [hL, opsZ_snoc, if_pos hct, ← hop]
          exact r1.updNe r6 (by decide)
      have fin3 : ∀ (e' : Env) n5 (h6 : T Obj) (lv : Value), nx' + 5 ≤ n5 → (en k || st k) = true → e' 0 = ptr bid → e' 1 = .int .u8 (b : Int) → e' 4 = ptr nx → e' 7 = ptr (nx + 4) → e' 8 = .int .i64 k → e' 19 = bv → e' 20 = .int .i64 g.p.length → e' 21 = .int .i64 k → OwnT h6 lv 1 y_int (intsZ L') nx → e' 6 = lv → Sub h h6 → Fr h6 n5 → h6.get nx = some (.cells #[.int .i64 0, nilS] y_api_Move) → h6.get (nx + 4) = some (.cells #[.int .i64 (-1), ov] y_api_Move) → OwnT h6 ov 1 y_uint8 (opsC (opsZ g en st L)) nx →
          e' 12 = .int .u8 (if st k then (1 : Int) else 3) → ctd g k = true → L' = L ++ [(k : Int)] → auto_builder_goes_j3 ro Q' e' h6 n5 := by
        intro e' n5 h6 lv hn5 hes f0 f1 f4 f7 f8 f19 f20 f21 q1 q2 q3 q4 q5 q6 q7 f12 hct hL
        have hly6 : lookV Try.prog h6 y_map_int_bool (.map (some yid)) (.int .i64 (k : Int)) false = some (.bool (st k)) := BMap.look (by obtain ⟨f, q1, q2⟩ := hst; exact ⟨f, q1.sub q3, q2⟩) _
        have hle6 : lookV Try.prog h6 y_map_int_bool (.map (some eid)) (.int .i64 (k : Int)) false = some (.bool (en k)) := BMap.look (by obtain ⟨f, q1, q2⟩ := hen; exact ⟨f, q1.sub q3, q2⟩) _
        have hb6 := (hB.sub q3).blk
        unfold auto_builder_goes_j3
        rw [f0, f8]
        (repeat (first | refine bindP_mk (by simp (disch := first | omega | exact Int.natCast_nonneg _ | assumption) only [BB, B2, ↓reduceIte, Nat.reduceLeDiff, Nat.reduceAdd, CC, nilCk_at, hb6, b265, hly6] <;> rfl) ?_ | refine newP_mk ?_ | refine optP_mk ?_ | with_reducible first | refine condP_t ?_ | refine condP_f ?_ | refine ifP_tt' ?_ | refine ifP_ff' ?_ | refine ifP_tf' ?_ | refine ifP_ft' ?_ | refine ifP_u' ?_ | refine optP_mk0 ?_))
        cases hsk : st k with
        | false =>
          rw [hsk] at f12
          (repeat (first | refine bindP_mk (by simp (disch := first | omega | exact Int.natCast_nonneg _ | assumption) only [BB, B2, ↓reduceIte, Nat.reduceLeDiff, Nat.reduceAdd, CC] <;> rfl) ?_ | refine newP_mk ?_ | refine optP_mk ?_ | with_reducible first | refine condP_t ?_ | refine condP_f ?_ | refine ifP_tt' ?_ | refine ifP_ff' ?_ | refine ifP_tf' ?_ | refine ifP_ft' ?_ | refine ifP_u' ?_ | refine optP_mk0 ?_))
          exact main _ _ h6 lv 3 (by omega) hes f0 f1 f4 f7 f8 f19 f20 f21 q1 q2 q3 (q4.mono (by omega)) q5 q6 q7 (by unfold opZ; rw [hsk]; rfl) f12 hct hL
        | true =>
          rw [hsk] at f12
          (repeat (first | refine bindP_mk (by simp (disch := first | omega | exact Int.natCast_nonneg _ | assumption) only [BB, B2, ↓reduceIte, Nat.reduceLeDiff, Nat.reduceAdd, CC, nilCk_at, hb6, b264, hle6] <;> rfl) ?_ | refine newP_mk ?_ | refine optP_mk ?_ | with_reducible first | refine condP_t ?_ | refine condP_f ?_ | refine ifP_tt' ?_ | refine ifP_ff' ?_ | refine ifP_tf' ?_ | refine ifP_ft' ?_ | refine ifP_u' ?_ | refine optP_mk0 ?_))
          cases hek : en k with
          | false =>
            (repeat (first | refine bindP_mk (by simp (disch := first | omega | exact Int.natCast_nonneg _ | assumption) only [BB, B2, ↓reduceIte, Nat.reduceLeDiff, Nat.reduceAdd, CC] <;> rfl) ?_ | refine newP_mk ?_ | refine optP_mk ?_ | with_reducible first | refine condP_t ?_ | refine condP_f ?_ | refine ifP_tt' ?_ | refine ifP_ff' ?_ | refine ifP_tf' ?_ | refine ifP_ft' ?_ | refine ifP_u' ?_ | refine optP_mk0 ?_))
            exact main _ _ h6 lv 1 (by omega) hes f0 f1 f4 f7 f8 f19 f20 f21 q1 q2 q3 (q4.mono (by omega)) q5 q6 q7 (by unfold opZ; rw [hsk, hek]; rfl) f12 hct hL
          | true =>
            (repeat (first | refine bindP_mk (by simp (disch := first | omega | exact Int.natCast_nonneg _ | assumption) only [BB, B2, ↓reduceIte, Nat.reduceLeDiff, Nat.reduceAdd, CC] <;> rfl) ?_ | refine newP_mk ?_ | refine optP_mk ?_ | with_reducible first | refine condP_t ?_ | refine condP_f ?_ | refine ifP_tt' ?_ | refine ifP_ff' ?_ | refine ifP_tf' ?_ | refine ifP_ft' ?_ | refine ifP_u' ?_ | refine optP_mk0 ?_))
            exact main _ _ h6 lv 2 (by omega) hes f0 f1 f4 f7 f8 f19 f20 f21 q1 q2 q3 (q4.mono (by omega)) q5 q6 q7 (by unfold opZ; rw [hsk, hek]; rfl) rfl hct hL
      cases hek : en k with
      | true =>
        rw [hek] at htk hle3
        rw [htk, Bool.true_or, if_pos rfl] at hls
        (repeat (first | refine bindP_mk (by simp (disch := first | omega | exact Int.natCast_nonneg _ | assumption) only [BB, B2, ↓reduceIte, Nat.reduceLeDiff, Nat.reduceAdd, CC, nilCk_at, hb3, b264, hle3] <;> rfl) ?_ | refine newP_mk ?_ | refine optP_mk ?_ | with_reducible first | refine condP_t ?_ | refine condP_f ?_ | refine ifP_tt' ?_ | refine ifP_ff' ?_ | refine ifP_tf' ?_ | refine ifP_ft' ?_ | refine ifP_u' ?_ | refine optP_mk0 ?_))
        refine app_int ho3 (by omega) (hf3.mono (show nx' + 4 + 1 ≤ n4 by omega)) (by omega) (by omega) (by omega) fun h6 w q1 q2 q3 q4 => ?_
        dsimp only
        rw [← hls] at q1
        have hkp : ∀ i o, h3.get i = some o → (∀ c f, o ≠ .cells c y_int f) → h6.get i = some o := fun i o hi hty => q3 i o hi fun e => by
          obtain ⟨_, z1⟩ := ho3.blk e
          rw [hi] at z1
          exact hty _ _ (Option.some.inj z1)
        have hb6 := hkp _ _ hb3 (by intro c f e; simp only [Obj.cells.injEq] at e; exact absurd e.2.1 (by decide))
        have hg16 := hkp _ _ g13 (by intro c f e; simp only [Obj.cells.injEq] at e; exact absurd e.2.1 (by decide))
        have hg26 := hkp _ _ g23 (by intro c f e; simp only [Obj.cells.injEq] at e; exact absurd e.2.1 (by decide))
        have hov6 : OwnT h6 ov 1 y_uint8 (opsC (opsZ g en st L)) nx := hov3.keep q3 fun id hid => by
          obtain ⟨_, z1⟩ := hov3.blk hid
          exact ho3.ne z1 (by decide)
        have hss : Sub h h6 := ho3.sub q3 hf (Nat.le_refl _) hs03
        have hB6 := hB.sub hss
        obtain ⟨fn6, m61, m62⟩ := hB6.num
        have hlk6 := look_ii m61 (k : Int)
        rw [m62 _ (by omega)] at hlk6
        have hly6 : lookV Try.prog h6 y_map_int_bool (.map (some yid)) (.int .i64 (k : Int)) false = some (.bool (st k)) := BMap.look (by obtain ⟨f, q1, q2⟩ := hst; exact ⟨f, q1.sub hss, q2⟩) _
        (repeat (first | refine bindP_mk (by simp (disch := first | omega | exact Int.natCast_nonneg _ | assumption) only [BB, B2, ↓reduceIte, Nat.reduceLeDiff, Nat.reduceAdd, CC, nilCk_at, hb6, b2, hlk6, nth0, nth1] <;> rfl) ?_ | refine newP_mk ?_ | refine optP_mk ?_ | with_reducible first | refine condP_t ?_ | refine condP_f ?_ | refine ifP_tt' ?_ | refine ifP_ff' ?_ | refine ifP_tf' ?_ | refine ifP_ft' ?_ | refine ifP_u' ?_ | refine optP_mk0 ?_))
        cases hct : ctd g (k : Int) with
        | false =>
          simp only [Bool.false_eq_true, if_false, Option.isSome_none, Bool.not_false]
          (repeat (first | refine bindP_mk (by simp (disch := first | omega | exact Int.natCast_nonneg _ | assumption) only [BB, B2, ↓reduceIte, Nat.reduceLeDiff, Nat.reduceAdd, CC] <;> rfl) ?_ | refine newP_mk ?_ | refine optP_mk ?_ | with_reducible first | refine condP_t ?_ | refine condP_f ?_ | refine ifP_tt' ?_ | refine ifP_ff' ?_ | refine ifP_tf' ?_ | refine ifP_ft' ?_ | refine ifP_u' ?_ | refine optP_mk0 ?_))
          refine hj2 _ _ _ ov (by omega) hss (q4.mono (by omega)) e0 e1 e4 e7 e19 e20 e21 q1 hg16 hg26 ?_
          rw [hls, opsZ_snoc, if_neg (by rw [hct]; decide)]; exact hov6
        | true =>
          simp only [if_true, Option.isSome_some, Bool.not_true]
          (repeat (first | refine bindP_mk (by simp (disch := first | omega | exact Int.natCast_nonneg _ | assumption) only [BB, B2, ↓reduceIte, Nat.reduceLeDiff, Nat.reduceAdd, CC, nilCk_at, hb6, b265, hly6] <;> rfl) ?_ | refine newP_mk ?_ | refine optP_mk ?_ | with_reducible first | refine condP_t ?_ | refine condP_f ?_ | refine ifP_tt' ?_ | refine ifP_ff' ?_ | refine ifP_tf' ?_ | refine ifP_ft' ?_ | refine ifP_u' ?_ | refine optP_mk0 ?_))
          cases hsk : st k with
          | true =>
            rw [hsk] at hly6
            (repeat (first | refine bindP_mk (by simp (disch := first | omega | exact Int.natCast_nonneg _ | assumption) only [BB, B2, ↓reduceIte, Nat.reduceLeDiff, Nat.reduceAdd, CC] <;> rfl) ?_ | refine newP_mk ?_ | refine optP_mk ?_ | with_reducible first | refine condP_t ?_ | refine condP_f ?_ | refine ifP_tt' ?_ | refine ifP_ff' ?_ | refine ifP_tf' ?_ | refine ifP_ft' ?_ | refine ifP_u' ?_ | refine optP_mk0 ?_))
            exact fin3 _ _ h6 w (by omega) (by rw [hek]; rfl) e0 e1 e4 e7 rfl e19 e20 e21 q1 rfl hss (q4.mono (by omega)) hg16 hg26 hov6 (by rw [hsk]; rfl) hct hls
          | false =>
            rw [hsk] at hly6
            (repeat (first | refine bindP_mk (by simp (disch := first | omega | exact Int.natCast_nonneg _ | assumption) only [BB, B2, ↓reduceIte, Nat.reduceLeDiff, Nat.reduceAdd, CC] <;> rfl) ?_ | refine newP_mk ?_ | refine optP_mk ?_ | with_reducible first | refine condP_t ?_ | refine condP_f ?_ | refine ifP_tt' ?_ | refine ifP_ff' ?_ | refine ifP_tf' ?_ | refine ifP_ft' ?_ | refine ifP_u' ?_ | refine optP_mk0 ?_))
            exact fin3 _ _ h6 w (by omega) (by rw [hek]; rfl) e0 e1 e4 e7 rfl e19 e20 e21 q1 rfl hss (q4.mono (by omega)) hg16 hg26 hov6 (by rw [hsk]; rfl) hct hls
      | false =>
        rw [hek] at htk hle3
        rw [Bool.false_or] at htk
        cases hsk : st k with
        | false =>
          rw [hsk] at htk hly3
          rw [htk, if_neg (by decide)] at hls
          (repeat (first | refine bindP_mk (by simp (disch := first | omega | exact Int.natCast_nonneg _ | assumption) only [BB, B2, ↓reduceIte, Nat.reduceLeDiff, Nat.reduceAdd, CC, nilCk_at, hb3, b264, b265, hle3, hly3] <;> rfl) ?_ | refine newP_mk ?_ | refine optP_mk ?_ | with_reducible first | refine condP_t ?_ | refine condP_f ?_ | refine ifP_tt' ?_ | refine ifP_ff' ?_ | refine ifP_tf' ?_ | refine ifP_ft' ?_ | refine ifP_u' ?_ | refine optP_mk0 ?_))
          refine hj2 _ _ _ ov (by omega) hs03 (hf3.mono (by omega)) e0 e1 e4 e7 e19 e20 e21 ?_ g13 g23 ?_
          · rw [hls]; exact ho3
          · rw [hls]; exact hov3
        | true =>
          rw [hsk] at htk hly3
          rw [htk, if_pos rfl] at hls
          (repeat (first | refine bindP_mk (by simp (disch := first | omega | exact Int.natCast_nonneg _ | assumption) only [BB, B2, ↓reduceIte, Nat.reduceLeDiff, Nat.reduceAdd, CC, nilCk_at, hb3, b264, b265, hle3, hly3] <;> rfl) ?_ | refine newP_mk ?_ | refine optP_mk ?_ | with_reducible first | refine condP_t ?_ | refine condP_f ?_ | refine ifP_tt' ?_ | refine ifP_ff' ?_ | refine ifP_tf' ?_ | refine ifP_ft' ?_ | refine ifP_u' ?_ | refine optP_mk0 ?_))
          refine app_int ho3 (by omega) (hf3.mono (show nx' + 4 + 1 ≤ n4 by omega)) (by omega) (by omega) (by omega) fun h6 w q1 q2 q3 q4 => ?_
          dsimp only
          rw [← hls] at q1
          have hkp : ∀ i o, h3.get i = some o → (∀ c f, o ≠ .cells c y_int f) → h6.get i = some o := fun i o hi hty => q3 i o hi fun e => by
            obtain ⟨_, z1⟩ := ho3.blk e
            rw [hi] at z1
            exact hty _ _ (Option.some.inj z1)
          have hb6 := hkp _ _ hb3 (by intro c f e; simp only [Obj.cells.injEq] at e; exact absurd e.2.1 (by decide))
          have hg16 := hkp _ _ g13 (by intro c f e; simp only [Obj.cells.injEq] at e; exact absurd e.2.1 (by decide))
          have hg26 := hkp _ _ g23 (by intro c f e; simp only [Obj.cells.injEq] at e; exact absurd e.2.1 (by decide))
          have hov6 : OwnT h6 ov 1 y_uint8 (opsC (opsZ g en st L)) nx := hov3.keep q3 fun id hid => by
            obtain ⟨_, z1⟩ := hov3.blk hid
            exact ho3.ne z1 (by decide)
          have hss : Sub h h6 := ho3.sub q3 hf (Nat.le_refl _) hs03
          have hB6 := hB.sub hss
          obtain ⟨fn6, m61, m62⟩ := hB6.num
          have hlk6 := look_ii m61 (k : Int)
          rw [m62 _ (by omega)] at hlk6
          have hly6 : lookV Try.prog h6 y_map_int_bool (.map (some yid)) (.int .i64 (k : Int)) false = some (.bool (st k)) := BMap.look (by obtain ⟨f, q1, q2⟩ := hst; exact ⟨f, q1.sub hss, q2⟩) _
          rw [hsk] at hly6
          (repeat (first | refine bindP_mk (by simp (disch := first | omega | exact Int.natCast_nonneg _ | assumption) only [BB, B2, ↓reduceIte, Nat.reduceLeDiff, Nat.reduceAdd, CC, nilCk_at, hb6, b2, hlk6, nth0, nth1] <;> rfl) ?_ | refine newP_mk ?_ | refine optP_mk ?_ | with_reducible first | refine condP_t ?_ | refine condP_f ?_ | refine ifP_tt' ?_ | refine ifP_ff' ?_ | refine ifP_tf' ?_ | refine ifP_ft' ?_ | refine ifP_u' ?_ | refine optP_mk0 ?_))
          cases hct : ctd g (k : Int) with
          | false =>
            simp only [Bool.false_eq_true, if_false, Option.isSome_none, Bool.not_false]
            (repeat (first | refine bindP_mk (by simp (disch := first | omega | exact Int.natCast_nonneg _ | assumption) only [BB, B2, ↓reduceIte, Nat.reduceLeDiff, Nat.reduceAdd, CC] <;> rfl) ?_ | refine newP_mk ?_ | refine optP_mk ?_ | with_reducible first | refine condP_t ?_ | refine condP_f ?_ | refine ifP_tt' ?_ | refine ifP_ff' ?_ | refine ifP_tf' ?_ | refine ifP_ft' ?_ | refine ifP_u' ?_ | refine optP_mk0 ?_))
            refine hj2 _ _ _ ov (by omega) hss (q4.mono (by omega)) e0 e1 e4 e7 e19 e20 e21 q1 hg16 hg26 ?_
            rw [hls, opsZ_snoc, if_neg (by rw [hct]; decide)]; exact hov6
          | true =>
            simp only [if_true, Option.isSome_some, Bool.not_true]
            (repeat (first | refine bindP_mk (by simp (disch := first | omega | exact Int.natCast_nonneg _ | assumption) only [BB, B2, ↓reduceIte, Nat.reduceLeDiff, Nat.reduceAdd, CC, nilCk_at, hb6, b265, hly6] <;> rfl) ?_ | refine newP_mk ?_ | refine optP_mk ?_ | with_reducible first | refine condP_t ?_ | refine condP_f ?_ | refine ifP_tt' ?_ | refine ifP_ff' ?_ | refine ifP_tf' ?_ | refine ifP_ft' ?_ | refine ifP_u' ?_ | refine optP_mk0 ?_))
            exact fin3 _ _ h6 w (by omega) (by rw [hek, hsk]; rfl) e0 e1 e4 e7 rfl e19 e20 e21 q1 rfl hss (q4.mono (by omega)) hg16 hg26 hov6 (by rw [hsk]; rfl) hct hls
  · (repeat (first | refine bindP_mk (by simp (disch := first | omega | exact Int.natCast_nonneg _ | assumption) only [BB, B2, ↓reduceIte, Nat.reduceLeDiff, Nat.reduceAdd, CC] <;> rfl) ?_ | refine newP_mk ?_ | refine optP_mk ?_ | with_reducible first | refine condP_t ?_ | refine condP_f ?_ | refine ifP_tt' ?_ | refine ifP_ff' ?_ | refine ifP_tf' ?_ | refine ifP_ft' ?_ | refine ifP_u' ?_ | refine optP_mk0 ?_))
    refine hx _ _ _ _ (fun e => by cases e) (exP_e (beqP_t ?_))
    have hkl : k = g.p.length := by omega
    subst hkl
    have hlz : (placesZ g.p.length).filter (takesZ g en st b) = lZ g en st b := rfl
    rw [hlz] at ho hov
    have hlr := lZ_rz g en st b
    have hll := lZ_len g en st b
    have fin : ∀ (e' : Env) n', e' 0 = ptr bid → e' 4 = ptr nx → e' 7 = ptr (nx + 4) → OwnT h' (e' 6) 1 y_int (intsZ (lZ g en st b)) nx → nx' ≤ n' → auto_builder_goes_j1 ro K e' h' n' := by
      intro e' n' f0 f4 f7 ho hn'
      unfold auto_builder_goes_j1
      rw [f0, f4, f7]
      generalize e' 6 = lv at ho
      have hln := (ho.sl (ro := ro)).len
      rw [intsZ_len] at hln
      refine bindP_mk hln ?_
      refine eql_s (fun u1 => ?_) (fun u1 => ?_)
      · have hnil : lZ g en st b = [] := eq_len u1
        rw [goesZ_nil hnil] at hK
        rw [hnil] at hov
        have hovk := hov.ok
        refine condP_t (bindP_mk (loadA_all (l := [.int .i64 (-1), ov]) g2 rfl) ?_)
        refine bindP_mk (storeA_own (l := [.int .i64 0, nilS]) (vs := [.int .i64 (-1), ov]) g1 rfl rfl rfl (by simp only [List.all_cons, List.all_nil, hovk]; rfl)) ?_
        refine bindP_mk (loadA_all (l := [.int .i64 (-1), ov]) (by rw [T.get_upd_same]) rfl) ?_
        refine ⟨_, Sub.refl _, ?_⟩
        have hss : Sub h (h'.upd nx (some (.cells [Value.int .i64 (-1), ov].toArray y_api_Move))) := hs'.new hf (Nat.le_refl _)
        exact hK _ _ sid cs ov (by omega) ((hf'.mono (show nx' ≤ n' + 6 by omega)).upd (Nat.le_refl _) (by omega)) hss.keepL (.inl rfl) (hB.sub hss) Grow.refl (hov.updNe g1 (by decide))
      · have hnn : lZ g en st b ≠ [] := fun e => u1 (by rw [e]; rfl)
        rw [goesZ_ne hnn] at hK
        refine condP_f ?_
        refine auto_find_c hg hlr (by omega) hnn (hf'.mono (show nx' ≤ n' + 7 by omega)) hB' ho (show nx ≤ n' + 7 by omega) l1 fun h3 n3 sid' cs' r1 r2 r3 r4 r5 r6 => ?_
        have k1 := r3 _ _ g1 (by simp; omega)
        have k2 := r3 _ _ g2 (by simp; omega)
        have hovk := hov.ok
        have hov3 : OwnT h3 ov 1 y_uint8 (opsC (opsZ g en st (lZ g en st b))) nx := hov.keepK r3 fun id hid => by
          have := (hov.blk hid).1
          simp; omega
        (repeat (first | refine bindP_mk (by simp (disch := first | omega | exact Int.natCast_nonneg _ | assumption) only [BB, B2, ↓reduceIte, Nat.reduceLeDiff, Nat.reduceAdd, CC, nth0, nth1] <;> rfl) ?_ | refine newP_mk ?_ | refine optP_mk ?_ | with_reducible first | refine condP_t ?_ | refine condP_f ?_ | refine ifP_tt' ?_ | refine ifP_ff' ?_ | refine ifP_tf' ?_ | refine ifP_ft' ?_ | refine ifP_u' ?_ | refine optP_mk0 ?_))
        refine bindP_mk (store1_own (l := [.int .i64 (-1), ov]) k2 (by show 0 < 2; omega) rfl rfl) ?_
        refine bindP_mk (loadA_all (l := [.int .i64 (findZ g S (lZ g en st b)).1, ov]) (by rw [T.get_upd_same]; rfl) rfl) ?_
        refine bindP_mk (storeA_own (l := [.int .i64 0, nilS]) (vs := [.int .i64 (findZ g S (lZ g en st b)).1, ov]) (by rw [T.get_upd_ne _ _ (by omega)]; exact k1) rfl rfl rfl (by simp only [List.all_cons, List.all_nil, hovk]; rfl)) ?_
        refine bindP_mk (loadA_all (l := [.int .i64 (findZ g S (lZ g en st b)).1, ov]) (by rw [T.get_upd_same]) rfl) ?_
        refine ⟨_, Sub.refl _, ?_⟩
        have k1' : (h3.upd (nx + 4) (some (.cells (([Value.int .i64 (-1), ov].set 0 (.int .i64 (findZ g S (lZ g en st b)).1)).toArray) y_api_Move))).get nx = _ := (T.get_upd_ne _ _ (by omega)).trans k1
        refine hK _ _ sid' cs' ov (by omega) (((r2.mono (show n3 ≤ n3 + 10 by omega)).upd (Nat.le_refl _) (by omega)).upd (Nat.le_refl _) (by omega)) ?_ (by omega) ?_ ?_ ?_
        · refine Keep.updN (Keep.updN ?_ hf (by omega)) hf (Nat.le_refl _)
          exact fun i o hi hn => r3 i o (hs' _ _ hi) hn
        · refine r5.keepN fun i o hi hd => ?_
          obtain ⟨z1, z2, z3, z4⟩ := r5.lt r2
          have : i ≠ nx ∧ i ≠ nx + 4 := by
            have hii := r5.ids
            rcases hd with rfl | rfl | rfl | rfl
            · omega
            · omega
            · omega
            · refine ⟨?_, ?_⟩ <;> intro e <;> subst e
              · rw [k1] at hi
                have := r5.row
                rw [k1] at this
                simp only [Option.some.injEq, Obj.cells.injEq] at this
                exact absurd this.2.1 (by decide)
              · have := r5.row
                rw [k2] at this
                simp only [Option.some.injEq, Obj.cells.injEq] at this
                exact absurd this.2.1 (by decide)
          rw [T.get_upd_ne _ _ this.1, T.get_upd_ne _ _ this.2]; exact hi
        · exact (r6.updNe k2 (by decide)).updNe k1' (by decide)
        · exact (hov3.updNe k2 (by decide)).updNe k1' (by decide)
    exact fin _ _ e0 e4 e7 ho (by omega)
end V
end Go.Proofs.Ytmmdcdjkmakgpaa