/- Texts laid one behind the other: XK, GE, XR, XA, XC, XD, XE, XG, XH, XI, XM, XU, XW.
   No condition. -/
import Derived.KernelRfl
import Derived.Test.YtjndkdmkecpllaaGreatQW4
set_option linter.unusedVariables false
set_option linter.unusedSimpArgs false
set_option linter.unusedVariables false
set_option linter.unusedSimpArgs false
namespace Go.Proofs.YtjndkdmkecpllaaGreat
namespace V
attribute [local irreducible] bindP ifP condP newP optP exP beqP
theorem nth0 (a b : Value) : nth 0 (.tuple #[a, b]) = some a := rfl
theorem nth1 (a b : Value) : nth 1 (.tuple #[a, b]) = some b := rfl
theorem tinOf {t : TypeId} {s b : Nat} (h : (tin Tryz.prog t).map (fun i => (i.size, i.bytes)) = some (s, b)) : ∃ i, tin Tryz.prog t = some i ∧ i.size = s ∧ i.bytes = b := by
  cases hi : tin Tryz.prog t with
  | none => rw [hi] at h; cases h
  | some i => rw [hi] at h; simp at h; exact ⟨i, rfl, h.1, h.2⟩
theorem zerI : zer Tryz.prog y_int = some (.int .i64 0) := by kernel_rfl
section
variable {av bv nv fv : Value} {c : List Nat} {n : Int} {cv sv kv ev yv : Value}
theorem autL_set (hc : c.length = 256) (v : Value) : (autL c n cv sv).set 258 v = autL c n cv v := by
  unfold autL
  rw [List.set_append_right _ _ (by rw [splitLI_len hc]; omega), splitLI_len hc]; rfl
theorem autL_set257 (hc : c.length = 256) (v : Value) : (autL c n cv sv).set 257 v = autL c n v sv := by
  unfold autL
  rw [List.set_append_right _ _ (by rw [splitLI_len hc]; omega), splitLI_len hc]; rfl
end
def Keep (ids : List Nat) (h h' : T Obj) : Prop := ∀ k o, h.get k = some o → k ∉ ids → h'.get k = some o
theorem Sub.keepL {ids : List Nat} {h h' : T Obj} (hs : Sub h h') : Keep ids h h' := fun k o hk _ => hs k o hk
theorem Keep.trans {ids : List Nat} {a b c : T Obj} (h1 : Keep ids a b) (h2 : Keep ids b c) : Keep ids a c := fun k o hk hi => h2 k o (h1 k o hk hi) hi
theorem Keep.mono {ids ids' : List Nat} {a b : T Obj} (h1 : Keep ids a b) (h2 : ∀ k, k ∈ ids → k ∈ ids') : Keep ids' a b := fun k o hk hi => h1 k o hk fun h => hi (h2 k h)
theorem Keep.upd {ids : List Nat} {a b : T Obj} {i : Nat} {o : Option Obj} (h1 : Keep ids a b) (hi : i ∈ ids) : Keep ids a (b.upd i o) := fun k x hk hn => by
  rw [T.get_upd_ne _ _ (fun e => hn (by rw [e]; exact hi))]; exact h1 k x hk hn
def del (h : T Obj) : List Nat → T Obj
  | [] => h
  | i :: l => (del h l).upd i none
theorem del_get {h : T Obj} : ∀ {l : List Nat} {k : Nat}, (del h l).get k = if k ∈ l then none else h.get k
  | [], k => by simp [del]
  | i :: l, k => by
    show ((del h l).upd i none).get k = _
    by_cases hk : k = i
    · subst hk; rw [T.get_upd_same]; simp
    · rw [T.get_upd_ne _ _ hk, del_get]; simp [hk]
theorem del_sub (h : T Obj) (l : List Nat) : Sub (del h l) h := fun k o hk => by
  rw [del_get] at hk
  split at hk
  · cases hk
  · exact hk
theorem del_some {h : T Obj} {l : List Nat} {k : Nat} {o : Obj} (hk : h.get k = some o) (hn : k ∉ l) : (del h l).get k = some o := by rw [del_get, if_neg hn]; exact hk
theorem Keep.del {ids l l' : List Nat} {h h' : T Obj} (hk : Keep ids h h') (h1 : ∀ k, k ∈ ids → k ∈ l) (h2 : ∀ k, k ∈ l' → k ∈ l ∨ h.get k = none) : Sub (del h l) (del h' l') := fun k o hg => by
  rw [del_get] at hg
  split at hg
  · cases hg
  · rename_i hn
    refine del_some (hk k o hg fun h => hn (h1 k h)) fun hm => ?_
    rcases h2 k hm with h3 | h3
    · exact hn h3
    · rw [h3] at hg; cases hg
theorem OwnT.keepK {ids : List Nat} {h h' : T Obj} {v : Value} {z : Nat} {e : TypeId} {l : List (List Value)} {lo : Nat} (ho : OwnT h v z e l lo) (hk : Keep ids h h') (hne : ∀ id, sblk v = some id → id ∉ ids) : OwnT h' v z e l lo := by
  rcases ho with ho | ⟨id, h1, rfl, h4, h5⟩
  · exact .inl ho
  · exact .inr ⟨id, h1, rfl, h4, hk id _ h5 (hne id rfl)⟩
theorem OwnT.del {h : T Obj} {v : Value} {z : Nat} {e : TypeId} {l : List (List Value)} {lo : Nat} {ids : List Nat} (ho : OwnT h v z e l lo) (hne : ∀ id, sblk v = some id → id ∉ ids) : OwnT (del h ids) v z e l lo := by
  rcases ho with ho | ⟨id, h1, rfl, h4, h5⟩
  · exact .inl ho
  · exact .inr ⟨id, h1, rfl, h4, del_some h5 (hne id rfl)⟩
theorem Kp.keepL {v : Value} {h h' : T Obj} {ids : List Nat} (hk : Kp v h h') (hv : ∀ id, sblk v = some id → id ∈ ids) : Keep ids h h' := fun k o h1 h2 => hk k o h1 fun e => h2 (hv k e)
theorem OwnT.blk {h : T Obj} {v : Value} {z : Nat} {e : TypeId} {l : List (List Value)} {lo id : Nat} (ho : OwnT h v z e l lo) (hb : sblk v = some id) : lo ≤ id ∧ h.get id = some (.cells l.flatten.toArray e) := by
  rcases ho with ⟨rfl, _⟩ | ⟨i, h1, rfl, h4, h5⟩
  · cases hb
  · have : i = id := Option.some.inj hb
    subst this; exact ⟨h1, h5⟩
theorem OwnT.ok {h : T Obj} {v : Value} {z : Nat} {e : TypeId} {l : List (List Value)} {lo : Nat} (ho : OwnT h v z e l lo) : cellOk v = true := (ho.sl (ro := fun _ => none)).ok
abbrev nilS : Value := .slice none 0 0
theorem und_sint : und Tryz.prog y_s_int = some (.slice y_int) := by kernel_rfl
theorem tin_sint : ∃ i, tin Tryz.prog y_int = some i ∧ i.size = 1 ∧ i.bytes = 8 := tinOf (by kernel_rfl)
theorem zer_State : zer Tryz.prog y_api_State = some (.agg #[nilS, nilS, nilS, nilS]) := by kernel_rfl
theorem lit_State (aid : Nat) (a b c d : Value) : sliceLitV Tryz.prog y_s_api_State aid 1 [(0, .agg #[a, b, c, d])] = some (.slice (some (own aid 4)) 1 1, some (.cells [a, b, c, d].toArray y_api_State)) := by kernel_rfl
theorem und_sState : und Tryz.prog y_s_api_State = some (.slice y_api_State) := by kernel_rfl
theorem tin_State : ∃ i, tin Tryz.prog y_api_State = some i ∧ i.size = 4 ∧ i.bytes = 96 := tinOf (by kernel_rfl)
def opsC (l : List Nat) : List (List Value) := l.map fun b : Nat => [Value.int .u8 (b : Int)]
theorem opsC_len (l : List Nat) : (opsC l).length = l.length := by simp [opsC]
theorem zer_Move : zer Tryz.prog y_api_Move = some (.agg #[.int .i64 0, nilS]) := by kernel_rfl
def TyKeep (e : TypeId) (h h' : T Obj) : Prop := ∀ (k : Nat) c f, h.get k = some (.cells c e f) → h'.get k = some (.cells c e f)
theorem TyKeep.refl {e : TypeId} {h : T Obj} : TyKeep e h h := fun _ _ _ hg => hg
theorem TyKeep.trans {e : TypeId} {a b c : T Obj} (h1 : TyKeep e a b) (h2 : TyKeep e b c) : TyKeep e a c := fun k x f hg => h2 k x f (h1 k x f hg)
theorem Sub.ty {e : TypeId} {h h' : T Obj} (hs : Sub h h') : TyKeep e h h' := fun k c f hg => hs _ _ hg
theorem TyKeep.upd {e e' : TypeId} {a h : T Obj} {i : Nat} {o : Option Obj} {c : Array Value} {f : Nat × Nat} (h1 : TyKeep e a h) (hg : h.get i = some (.cells c e' f)) (he : e' ≠ e) : TyKeep e a (h.upd i o) := fun k x q hk => by
  have := h1 k x q hk
  rw [T.get_upd_ne _ _ (by
    rintro rfl
    rw [hg] at this
    simp only [Option.some.injEq, Obj.cells.injEq] at this
    exact he this.2.1)]
  exact this
theorem OwnT.ty {h h' : T Obj} {v : Value} {z : Nat} {e : TypeId} {l : List (List Value)} {lo : Nat} (ho : OwnT h v z e l lo) (hk : TyKeep e h h') : OwnT h' v z e l lo := by
  rcases ho with ho | ⟨id, h1, rfl, h4, h5⟩
  · exact .inl ho
  · exact .inr ⟨id, h1, rfl, h4, hk _ _ _ h5⟩
theorem OwnT.neB {h : T Obj} {v : Value} {z : Nat} {e : TypeId} {l : List (List Value)} {lo k : Nat} {o : Obj} (ho : OwnT h v z e l lo) (hk : h.get k = some o) (he : ∀ c f, o ≠ .cells c e f) : sblk v ≠ some k := fun hb => by
  obtain ⟨_, h5⟩ := ho.blk hb
  rw [hk] at h5
  exact he _ _ (Option.some.inj h5)
theorem Kp.ty {h h' : T Obj} {v : Value} {z : Nat} {e e' : TypeId} {l : List (List Value)} {lo : Nat} (hk : Kp v h h') (ho : OwnT h v z e' l lo) (he : e' ≠ e) : TyKeep e h h' := fun k c f hg => hk k _ hg (ho.neB hg (by
  intro c f h
  simp only [Obj.cells.injEq] at h
  exact he h.2.1.symm))
theorem und_sMove : und Tryz.prog y_s_api_Move = some (.slice y_api_Move) := by kernel_rfl
theorem tin_Move : ∃ i, tin Tryz.prog y_api_Move = some i ∧ i.size = 2 ∧ i.bytes = 32 := tinOf (by kernel_rfl)
theorem del_mono {h : T Obj} {l l' : List Nat} (hl : ∀ k, k ∈ l → k ∈ l') : Sub (del h l') (del h l) := fun k o hk => by
  rw [del_get] at hk
  split at hk
  · cases hk
  · rename_i hn
    exact del_some hk fun h => hn (hl k h)
theorem Keep.delS {ids l : List Nat} {h h' : T Obj} (hk : Keep ids h h') (hl : ∀ k, k ∈ ids → k ∈ l) : Sub (V.del h l) h' := fun k o hg => by
  rw [del_get] at hg
  split at hg
  · cases hg
  · rename_i hn; exact hk k o hg fun h => hn (hl k h)
def autZ : List Value := autL (List.replicate 256 0) 0 nilS nilS
theorem zer_Auto : zer Tryz.prog y_api_Auto = some (.agg autZ.toArray) := by kernel_rfl
theorem autZ_len : autZ.length = 259 := autL_len List.length_replicate
theorem Sub.delN {h h' : T Obj} {ids : List Nat} {n : Nat} (hs : Sub h h') (hf : Fr h n) (hi : ∀ i ∈ ids, n ≤ i) : Sub h (V.del h' ids) := fun k o hk => del_some (hs k o hk) fun hm => by
  have := hf.lt' hk
  have := hi k hm
  omega
def cntC (l : List (Int × Int)) : List (List Value) := l.map fun p => [.int .i64 p.1, .int .i64 p.2]
theorem cntC_len (l : List (Int × Int)) : (cntC l).length = l.length := by simp [cntC]
theorem cnt_R {ro : Ro} {h : T Obj} {v : Value} {l : List (Int × Int)} {lo : Nat} (ho : OwnT h v 2 y_a2_int (cntC l) lo) : SlR ro h v 2 RCount l := ⟨cntC l, ho.sl, cntC_len l, fun i x d hx hd => by
  unfold cntC at hx
  rw [List.getElem?_map, hd] at hx
  exact (Option.some.inj hx).symm⟩
end V
end Go.Proofs.YtjndkdmkecpllaaGreat
set_option linter.unusedVariables false
set_option linter.unusedSimpArgs false
namespace Go.Proofs.YtjndkdmkecpllaaGreat
namespace V
attribute [local irreducible] callPre callP bindP
abbrev i_exec_Machine_Longest : FuncId := 17
abbrev i_exec_Machine_Step : FuncId := 19
abbrev i_exec_Machine_Reset : FuncId := 20
abbrev i_exec_Machine_State : FuncId := 21
abbrev i_exec_Machine_Rule : FuncId := 22
abbrev i_exec_Machine_Work : FuncId := 30
abbrev i_exec_Machine_code : FuncId := 52
abbrev i_ring_Ring_Clear : FuncId := 54
abbrev i_ring_Ring_Len : FuncId := 56
abbrev i_ring_Ring_Work : FuncId := 66
abbrev i_exec_Machine_digit : FuncId := 101
abbrev i_ring_Ring_Put : FuncId := 103
abbrev i_ring_Ring_Inc : FuncId := 104
abbrev i_ring_Ring_count : FuncId := 109
abbrev i_ring_Ring_Min : FuncId := 131
abbrev i_ring_Ring_Max : FuncId := 132
@[irreducible] def exec_New_j1 (ro : Ro) (K : KV) : Env → T Obj → Nat → Prop := fun e h nx => ∃ h14, Sub h14 h ∧ K (.tuple #[(e 4), (Value.int IntKind.i64 0)]) h14 (nx + 3)
@[irreducible] def exec_New_L1 (ro : Ro) : PT := fun e h nx Q => bindP (intB .lss (e 19) (e 18)) fun t20_18 => condP t20_18 (bindP (ixSl 2 (e 17) (e 19)) fun t21_19 => bindP (loadA ro h 2 t21_19) fun t22_20 => bindP (zer Tryz.prog y_a2_int) fun z21 => newP h (nx + 3) (.cells z21.cells y_a2_int) fun h22 => bindP (storeN 2 h22 (ptr (nx + 3)) t22_20) fun h23 => bindP (ixArr 2 1 (ptr (nx + 3)) (Value.int IntKind.i64 1)) fun t24_24 => bindP (load1 ro h23 t24_24) fun t25_25 => callP Tryz.prog ro i_ring_New [t25_25] h23 (nx + 8) fun t26_26 h27 n28 => bindP (nth 0 t26_26) fun t27_29 => bindP (nth 1 t26_26) fun t28_30 => bindP (intB .neq t28_30 (Value.int IntKind.i64 0)) fun t30_31 => condP t30_31 (Q .ret (puts e [(20, t20_18), (21, t21_19), (22, t22_20), (6, (ptr (nx + 3))), (24, t24_24), (25, t25_25), (26, t26_26), (23, t26_26), (27, t27_29), (28, t28_30), (7, t27_29), (8, t28_30), (29, t28_30), (30, t30_31), (31, t28_30), (2, (Value.pointer none)), (3, t28_30)]) h27 (n28 + 10)) (bindP (nilCk (e 4)) fun t34_32 => bindP (fwdP 260 t34_32) fun t35_33 => bindP (load1 ro h27 t35_33) fun t36_34 => bindP (sliceLitV Tryz.prog y_s_p_ring_Ring (n28 + 13) 1 [(0, t27_29)]) fun r35 => optP h27 (n28 + 13) r35.2 fun h36 => bindP (appendV Tryz.prog ro h36 (n28 + 15) #[y_s_p_ring_Ring, y_s_p_ring_Ring] [t36_34, r35.1]) fun r37 => bindP (nilCk (e 4)) fun t40_38 => bindP (fwdP 260 t40_38) fun t41_39 => bindP (storeN 1 r37.2.1 t41_39 r37.1) fun h40 => bindP (intB .add (e 19) (Value.int IntKind.i64 1)) fun t42_41 => Q .normal (puts e [(20, t20_18), (21, t21_19), (22, t22_20), (6, (ptr (nx + 3))), (24, t24_24), (25, t25_25), (26, t26_26), (23, t26_26), (27, t27_29), (28, t28_30), (7, t27_29), (8, t28_30), (29, t28_30), (30, t30_31), (32, (e 4)), (33, (e 4)), (34, t34_32), (35, t35_33), (36, t36_34), (37, t27_29), (38, r35.1), (39, r37.1), (40, t40_38), (41, t41_39), (42, t42_41), (19, t42_41)]) h40 (r37.2.2 + 5))) (Q (.exit 0) (puts e [(20, t20_18)]) h (nx + 1))
@[irreducible] def exec_New (ro : Ro) (v0 : Value) (h : T Obj) (nx : Nat) (K : KV) : Prop := newP h nx (.cells (Value.cells v0) y_api_Auto) fun h1 => bindP (loadA ro h1 259 (ptr nx)) fun t9_2 => callP Tryz.prog ro i_auto_Right [t9_2] h1 (nx + 5) fun t10_3 h4 n5 => bindP (unV .not t10_3) fun t11_6 => condP t11_6 (∃ h7, Sub h7 h4 ∧ K (.tuple #[(Value.pointer none), (Value.int IntKind.i64 1)]) h7 (n5 + 3)) (bindP (loadA ro h4 259 (ptr nx)) fun t12_8 => callP Tryz.prog ro i_exec_copied [t12_8] h4 (n5 + 3) fun t13_9 h10 n11 => bindP (buildV Tryz.prog y_exec_Machine [(0, t13_9)]) fun t14_12 => newP h10 (n11 + 1) (.cells (Value.cells t14_12) y_exec_Machine) fun h13 => bindP (fwdP 257 (ptr nx)) fun t16_15 => bindP (load1 ro h13 t16_15) fun t17_16 => bindP (lenSl t17_16) fun t18_17 => loopP (exec_New_L1 ro) (puts (entE [v0]) [(1, (ptr nx)), (2, (Value.pointer none)), (3, (Value.int IntKind.i64 0)), (9, t9_2), (10, t10_3), (11, t11_6), (12, t12_8), (13, t13_9), (14, t14_12), (15, (ptr (n11 + 1))), (4, (ptr (n11 + 1))), (16, t16_15), (17, t17_16), (18, t18_17), (19, (Value.int IntKind.i64 0))]) h13 (n11 + 7) fun x45 e42 h43 n44 => exP x45 (exec_New_j1 ro K e42 h43 n44) (fun i46 => beqP (Nat.beq i46 0) (exec_New_j1 ro K e42 h43 n44) (False)) (∃ h47, Sub h47 h43 ∧ K (.tuple #[(e42 2), (e42 3)]) h47 n44))
theorem exec_New_eq (ro : Ro) (v0 : Value) (h : T Obj) (nx : Nat) (K : KV) : callPre Tryz.prog ro (callP Tryz.prog ro) Tryz.f15 [v0] h nx K = exec_New ro v0 h nx K := by kernel_rfl
theorem exec_New_of {ro : Ro} {v0 : Value} {h : T Obj} {nx : Nat} {K : KV} (hw : exec_New ro v0 h nx K) : callP Tryz.prog ro i_exec_New [v0] h nx K := callP_by (P := Tryz.prog) (fn := Tryz.f15) (by kernel_rfl) (by kernel_rfl) (by kernel_rfl) (Eq.mpr (exec_New_eq ro v0 h nx K) hw)
@[irreducible] def exec_Machine_Longest_j1 (ro : Ro) (K : KV) : Env → T Obj → Nat → Prop := fun e h nx => ∃ h35, Sub h35 h ∧ K (.tuple #[(e 6), (e 7), (e 8)]) h35 (nx + 6)
@[irreducible] def exec_Machine_Longest_j2 (ro : Ro) (Q : KE) : Env → T Obj → Nat → Prop := fun e h nx => bindP (intB .add (e 9) (Value.int IntKind.i64 1)) fun t30_38 => Q .normal (puts e [(29, (e 9)), (30, t30_38), (9, t30_38)]) h (nx + 3)
@[irreducible] def exec_Machine_Longest_L1 (ro : Ro) : PT := fun e h nx Q => bindP (lenStr (e 1)) fun t27_36 => bindP (intB .lss (e 9) t27_36) fun t28_37 => condP t28_37 (bindP (ixStr (e 1) (e 9)) fun t35_39 => callP Tryz.prog ro i_exec_Machine_Step [(e 0), t35_39] h (nx + 9) fun t36_40 h41 n42 => bindP (unV .not t36_40) fun t37_43 => condP t37_43 (Q (.exit 0) (puts e [(25, (e 9)), (26, (e 1)), (27, t27_36), (28, t28_37), (32, (e 0)), (33, (e 1)), (34, (e 9)), (35, t35_39), (36, t36_40), (37, t37_43), (31, t37_43)]) h41 (n42 + 2)) (callP Tryz.prog ro i_exec_Machine_Rule [(e 0)] h41 (n42 + 4) fun t40_44 h45 n46 => bindP (intB .neq t40_44 (Value.int IntKind.i64 (-1))) fun t41_47 => condP t41_47 (bindP (intB .add (e 9) (Value.int IntKind.i64 1)) fun t43_48 => callP Tryz.prog ro i_exec_Machine_Rule [(e 0)] h45 (n46 + 6) fun t45_49 h50 n51 => exec_Machine_Longest_j2 ro Q (puts e [(25, (e 9)), (26, (e 1)), (27, t27_36), (28, t28_37), (32, (e 0)), (33, (e 1)), (34, (e 9)), (35, t35_39), (36, t36_40), (37, t37_43), (31, t37_43), (39, (e 0)), (40, t40_44), (41, t41_47), (38, t41_47), (42, (e 9)), (43, t43_48), (44, (e 0)), (45, t45_49), (6, t43_48), (7, t45_49), (8, (Value.bool true))]) h50 (n51 + 3)) (exec_Machine_Longest_j2 ro Q (puts e [(25, (e 9)), (26, (e 1)), (27, t27_36), (28, t28_37), (32, (e 0)), (33, (e 1)), (34, (e 9)), (35, t35_39), (36, t36_40), (37, t37_43), (31, t37_43), (39, (e 0)), (40, t40_44), (41, t41_47), (38, t41_47)]) h45 (n46 + 2)))) (Q (.exit 0) (puts e [(25, (e 9)), (26, (e 1)), (27, t27_36), (28, t28_37)]) h (nx + 4))
@[irreducible] def exec_Machine_Longest (ro : Ro) (v0 v1 v2 : Value) (h : T Obj) (nx : Nat) (K : KV) : Prop := bindP (ptrB .eql v0 (Value.pointer none)) fun t11_1 => ifP t11_1 false h (nx + 6) (fun k2 => k2 v2 h (nx + 7)) fun t13_3 h4 n5 => ifP t11_1 false h4 n5 (fun k6 => bindP (intB .lss t13_3 (Value.int IntKind.i64 0)) fun t14_10 => k6 t14_10 h4 (n5 + 1)) fun t14_7 h8 n9 => bindP (pickV t11_1 (Value.bool true) t14_7) fun t15_11 => ifP t15_11 false h8 (n9 + 2) (fun k12 => k12 v2 h8 (n9 + 3)) fun t17_13 h14 n15 => ifP t15_11 false h14 n15 (fun k16 => k16 v1 h14 (n15 + 1)) fun t18_17 h18 n19 => ifP t15_11 false h18 n19 (fun k20 => bindP (lenStr t18_17) fun t19_24 => k20 t19_24 h18 (n19 + 1)) fun t19_21 h22 n23 => ifP t15_11 false h22 n23 (fun k25 => bindP (intB .gtr t17_13 t19_21) fun t20_29 => k25 t20_29 h22 (n23 + 1)) fun t20_26 h27 n28 => bindP (pickV t15_11 (Value.bool true) t20_26) fun t21_30 => condP t21_30 (∃ h31, Sub h31 h27 ∧ K (.tuple #[(Value.int IntKind.i64 0), (Value.int IntKind.i64 0), (Value.bool false)]) h31 (n28 + 4)) (callP Tryz.prog ro i_exec_Machine_Reset [v0] h27 (n28 + 3) fun t23_32 h33 n34 => loopP (exec_Machine_Longest_L1 ro) (puts (entE [v0, v1, v2]) [(6, (Value.int IntKind.i64 0)), (7, (Value.int IntKind.i64 0)), (8, (Value.bool false)), (10, v0), (11, t11_1), (12, t11_1), (13, t13_3), (14, t14_7), (15, t15_11), (16, t15_11), (17, t17_13), (18, t18_17), (19, t19_21), (20, t20_26), (21, t21_30), (22, v0), (23, t23_32), (24, v2), (9, v2)]) h33 (n34 + 2) fun x55 e52 h53 n54 => exP x55 (exec_Machine_Longest_j1 ro K e52 h53 n54) (fun i56 => beqP (Nat.beq i56 0) (exec_Machine_Longest_j1 ro K e52 h53 n54) (False)) (∃ h57, Sub h57 h53 ∧ K (.tuple #[(e52 6), (e52 7), (e52 8)]) h57 n54))
theorem exec_Machine_Longest_eq (ro : Ro) (v0 v1 v2 : Value) (h : T Obj) (nx : Nat) (K : KV) : callPre Tryz.prog ro (callP Tryz.prog ro) Tryz.f17 [v0, v1, v2] h nx K = exec_Machine_Longest ro v0 v1 v2 h nx K := by kernel_rfl
theorem exec_Machine_Longest_of {ro : Ro} {v0 v1 v2 : Value} {h : T Obj} {nx : Nat} {K : KV} (hw : exec_Machine_Longest ro v0 v1 v2 h nx K) : callP Tryz.prog ro i_exec_Machine_Longest [v0, v1, v2] h nx K := callP_by (P := Tryz.prog) (fn := Tryz.f17) (by kernel_rfl) (by kernel_rfl) (by kernel_rfl) (Eq.mpr (exec_Machine_Longest_eq ro v0 v1 v2 h nx K) hw)
@[irreducible] def exec_Machine_Step_j3 (ro : Ro) (K : KV) : Env → T Obj → Nat → Prop := fun e h nx => bindP (fwdP 0 (e 6)) fun t113_53 => bindP (load1 ro h t113_53) fun t114_54 => bindP (intB .neq t114_54 (Value.int IntKind.i64 (-1))) fun t115_55 => ∃ h56, Sub h56 h ∧ K t115_55 h56 (nx + 4)
@[irreducible] def exec_Machine_Step_L1 (ro : Ro) : PT := fun e h nx Q => bindP (intB .lss (e 94) (e 93)) fun t95_58 => condP t95_58 (bindP (ixSl 1 (e 92) (e 94)) fun t97_59 => bindP (load1 ro h t97_59) fun t98_60 => bindP (nilCk (e 0)) fun t100_61 => bindP (fwdP 260 t100_61) fun t101_62 => bindP (load1 ro h t101_62) fun t102_63 => bindP (ixSl 1 t102_63 t98_60) fun t104_64 => bindP (load1 ro h t104_64) fun t105_65 => bindP (fwdP 1 (e 6)) fun t106_66 => bindP (load1 ro h t106_66) fun t107_67 => bindP (ixSl 1 t107_67 (e 94)) fun t109_68 => bindP (load1 ro h t109_68) fun t110_69 => callP Tryz.prog ro i_exec_change [t105_65, t110_69] h (nx + 19) fun t111_70 h71 n72 => bindP (intB .add (e 94) (Value.int IntKind.i64 1)) fun t112_73 => Q .normal (puts e [(95, t95_58), (96, (e 94)), (97, t97_59), (98, t98_60), (10, (e 94)), (11, t98_60), (99, (e 0)), (100, t100_61), (101, t101_62), (102, t102_63), (103, t98_60), (104, t104_64), (105, t105_65), (106, t106_66), (107, t107_67), (108, (e 94)), (109, t109_68), (110, t110_69), (111, t111_70), (112, t112_73), (94, t112_73)]) h71 (n72 + 2)) (Q (.exit 2) (puts e [(95, t95_58)]) h (nx + 1))
@[irreducible] def exec_Machine_Step_j2 (ro : Ro) (K : KV) : Env → T Obj → Nat → Prop := fun e h nx => bindP (lenSl (e 7)) fun t93_57 => loopP (exec_Machine_Step_L1 ro) (puts e [(92, (e 7)), (93, t93_57), (94, (Value.int IntKind.i64 0))]) h (nx + 3) fun x77 e74 h75 n76 => exP x77 (exec_Machine_Step_j3 ro K e74 h75 n76) (fun i78 => beqP (Nat.beq i78 2) (exec_Machine_Step_j3 ro K e74 h75 n76) (False)) (∃ h79, Sub h79 h75 ∧ K (e74 4) h79 n76)
@[irreducible] def exec_Machine_Step_j4 (ro : Ro) (Q : KE) : Env → T Obj → Nat → Prop := fun e h nx => bindP (intB .add (e 75) (Value.int IntKind.i64 1)) fun t91_84 => Q .normal (puts e [(91, t91_84), (75, t91_84)]) h (nx + 2)
@[irreducible] def exec_Machine_Step_L2 (ro : Ro) : PT := fun e h nx Q => bindP (intB .lss (e 75) (e 74)) fun t76_83 => condP t76_83 (bindP (ixSl 1 (e 73) (e 75)) fun t77_85 => bindP (load1 ro h t77_85) fun t78_86 => callP Tryz.prog ro i_slices_Contains_int_int [(e 7), t78_86] h (nx + 7) fun t81_87 h88 n89 => bindP (unV .not t81_87) fun t82_90 => condP t82_90 (bindP (nilCk (e 0)) fun t84_91 => bindP (fwdP 260 t84_91) fun t85_92 => bindP (load1 ro h88 t85_92) fun t86_93 => bindP (ixSl 1 t86_93 t78_86) fun t88_94 => bindP (load1 ro h88 t88_94) fun t89_95 => callP Tryz.prog ro i_ring_Ring_Clear [t89_95] h88 (n89 + 9) fun t90_96 h97 n98 => exec_Machine_Step_j4 ro Q (puts e [(76, t76_83), (77, t77_85), (78, t78_86), (9, t78_86), (79, (e 7)), (80, t78_86), (81, t81_87), (82, t82_90), (83, (e 0)), (84, t84_91), (85, t85_92), (86, t86_93), (87, t78_86), (88, t88_94), (89, t89_95), (90, t90_96)]) h97 n98) (exec_Machine_Step_j4 ro Q (puts e [(76, t76_83), (77, t77_85), (78, t78_86), (9, t78_86), (79, (e 7)), (80, t78_86), (81, t81_87), (82, t82_90)]) h88 (n89 + 1))) (Q (.exit 0) (puts e [(76, t76_83)]) h (nx + 1))
@[irreducible] def exec_Machine_Step_j1 (ro : Ro) (K : KV) : Env → T Obj → Nat → Prop := fun e h nx => bindP (fwdP 1 (e 5)) fun t72_80 => bindP (load1 ro h t72_80) fun t73_81 => bindP (lenSl t73_81) fun t74_82 => loopP (exec_Machine_Step_L2 ro) (puts e [(72, t72_80), (73, t73_81), (74, t74_82), (75, (Value.int IntKind.i64 0))]) h (nx + 4) fun x102 e99 h100 n101 => exP x102 (exec_Machine_Step_j2 ro K e99 h100 n101) (fun i103 => beqP (Nat.beq i103 0) (exec_Machine_Step_j2 ro K e99 h100 n101) (False)) (∃ h104, Sub h104 h100 ∧ K (e99 4) h104 n101)
@[irreducible] def exec_Machine_Step (ro : Ro) (v0 v1 : Value) (h : T Obj) (nx : Nat) (K : KV) : Prop := callP Tryz.prog ro i_exec_Machine_State [v0] h (nx + 3) fun t13_1 h2 n3 => bindP (intB .eql t13_1 (Value.int IntKind.i64 (-1))) fun t14_4 => condP t14_4 (∃ h5, Sub h5 h2 ∧ K (Value.bool false) h5 (n3 + 2)) (bindP (nilCk v0) fun t16_6 => bindP (fwdP 0 t16_6) fun t17_7 => bindP (fwdP 258 t17_7) fun t18_8 => bindP (load1 ro h2 t18_8) fun t19_9 => bindP (nilCk v0) fun t21_10 => bindP (fwdP 259 t21_10) fun t22_11 => bindP (load1 ro h2 t22_11) fun t23_12 => bindP (ixSl 4 t19_9 t23_12) fun t24_13 => bindP (loadA ro h2 4 t24_13) fun t25_14 => bindP (zer Tryz.prog y_api_State) fun z15 => newP h2 (n3 + 12) (.cells z15.cells y_api_State) fun h16 => bindP (storeN 4 h16 (ptr (n3 + 12)) t25_14) fun h17 => bindP (fwdP 3 (ptr (n3 + 12))) fun t26_18 => bindP (load1 ro h17 t26_18) fun t27_19 => bindP (loadA ro h17 4 (ptr (n3 + 12))) fun t29_20 => callP Tryz.prog ro i_exec_Machine_code [v0, t29_20] h17 (n3 + 33) fun t30_21 h22 n23 => (sameV t26_18 h17 h22) ∧ (bindP (ixSl 1 t27_19 t30_21) fun t31_24 => bindP (load1 ro h22 t31_24) fun t32_25 => bindP (nilCk v0) fun t35_26 => bindP (fwdP 0 t35_26) fun t36_27 => bindP (fwdP 0 t36_27) fun t37_28 => bindP (fwdP 0 t37_28) fun t38_29 => bindP (ixArr 256 1 t38_29 v1) fun t39_30 => bindP (load1 ro h22 t39_30) fun t40_31 => (sameV t39_30 h17 h22) ∧ (bindP (ixSl 2 t32_25 t40_31) fun t41_32 => bindP (loadA ro h22 2 t41_32) fun t42_33 => bindP (zer Tryz.prog y_api_Move) fun z34 => newP h22 (n3 + 31) (.cells z34.cells y_api_Move) fun h35 => bindP (storeN 2 h35 (ptr (n3 + 31)) t42_33) fun h36 => bindP (nilCk v0) fun t44_37 => bindP (fwdP 261 t44_37) fun t45_38 => bindP (load1 ro h36 t45_38) fun t46_39 => bindP (fwdP 1 (ptr (n3 + 12))) fun t47_40 => bindP (load1 ro h36 t47_40) fun t48_41 => bindP (lenSl t48_41) fun t49_42 => bindP (intB .add (Value.int IntKind.i64 1) t49_42) fun t50_43 => bindP (intB .add t46_39 t50_43) fun t51_44 => bindP (nilCk v0) fun t52_45 => bindP (fwdP 261 t52_45) fun t53_46 => bindP (storeN 1 h36 t53_46 t51_44) fun h47 => bindP (fwdP 0 (ptr (n3 + 31))) fun t55_48 => bindP (load1 ro h47 t55_48) fun t56_49 => bindP (nilCk v0) fun t57_50 => bindP (fwdP 259 t57_50) fun t58_51 => bindP (storeN 1 h47 t58_51 t56_49) fun h52 => bindP (fwdP 0 (ptr (n3 + 31))) fun t59_105 => bindP (load1 ro h52 t59_105) fun t60_106 => bindP (intB .neq t60_106 (Value.int IntKind.i64 (-1))) fun t61_107 => condP t61_107 (bindP (nilCk v0) fun t63_108 => bindP (fwdP 0 t63_108) fun t64_109 => bindP (fwdP 258 t64_109) fun t65_110 => bindP (load1 ro h52 t65_110) fun t66_111 => bindP (fwdP 0 (ptr (n3 + 31))) fun t67_112 => bindP (load1 ro h52 t67_112) fun t68_113 => bindP (ixSl 4 t66_111 t68_113) fun t69_114 => bindP (fwdP 1 t69_114) fun t70_115 => bindP (load1 ro h52 t70_115) fun t71_116 => exec_Machine_Step_j1 ro K (puts (entE [v0, v1]) [(4, (Value.bool false)), (12, v0), (13, t13_1), (14, t14_4), (15, v0), (16, t16_6), (17, t17_7), (18, t18_8), (19, t19_9), (20, v0), (21, t21_10), (22, t22_11), (23, t23_12), (24, t24_13), (25, t25_14), (5, (ptr (n3 + 12))), (26, t26_18), (27, t27_19), (28, v0), (29, t29_20), (30, t30_21), (31, t31_24), (32, t32_25), (33, v0), (34, v1), (35, t35_26), (36, t36_27), (37, t37_28), (38, t38_29), (39, t39_30), (40, t40_31), (41, t41_32), (42, t42_33), (6, (ptr (n3 + 31))), (43, v0), (44, t44_37), (45, t45_38), (46, t46_39), (47, t47_40), (48, t48_41), (49, t49_42), (50, t50_43), (51, t51_44), (52, t52_45), (53, t53_46), (54, v0), (55, t55_48), (56, t56_49), (57, t57_50), (58, t58_51), (7, (Value.slice none 0 0)), (59, t59_105), (60, t60_106), (61, t61_107), (62, v0), (63, t63_108), (64, t64_109), (65, t65_110), (66, t66_111), (67, t67_112), (68, t68_113), (69, t69_114), (70, t70_115), (71, t71_116), (7, t71_116)]) h52 (n23 + 33)) (exec_Machine_Step_j1 ro K (puts (entE [v0, v1]) [(4, (Value.bool false)), (12, v0), (13, t13_1), (14, t14_4), (15, v0), (16, t16_6), (17, t17_7), (18, t18_8), (19, t19_9), (20, v0), (21, t21_10), (22, t22_11), (23, t23_12), (24, t24_13), (25, t25_14), (5, (ptr (n3 + 12))), (26, t26_18), (27, t27_19), (28, v0), (29, t29_20), (30, t30_21), (31, t31_24), (32, t32_25), (33, v0), (34, v1), (35, t35_26), (36, t36_27), (37, t37_28), (38, t38_29), (39, t39_30), (40, t40_31), (41, t41_32), (42, t42_33), (6, (ptr (n3 + 31))), (43, v0), (44, t44_37), (45, t45_38), (46, t46_39), (47, t47_40), (48, t48_41), (49, t49_42), (50, t50_43), (51, t51_44), (52, t52_45), (53, t53_46), (54, v0), (55, t55_48), (56, t56_49), (57, t57_50), (58, t58_51), (7, (Value.slice none 0 0)), (59, t59_105), (60, t60_106), (61, t61_107)]) h52 (n23 + 22)))))
theorem exec_Machine_Step_eq (ro : Ro) (v0 v1 : Value) (h : T Obj) (nx : Nat) (K : KV) : callPre Tryz.prog ro (callP Tryz.prog ro) Tryz.f19 [v0, v1] h nx K = exec_Machine_Step ro v0 v1 h nx K := by kernel_rfl
theorem exec_Machine_Step_of {ro : Ro} {v0 v1 : Value} {h : T Obj} {nx : Nat} {K : KV} (hw : exec_Machine_Step ro v0 v1 h nx K) : callP Tryz.prog ro i_exec_Machine_Step [v0, v1] h nx K := callP_by (P := Tryz.prog) (fn := Tryz.f19) (by kernel_rfl) (by kernel_rfl) (by kernel_rfl) (Eq.mpr (exec_Machine_Step_eq ro v0 v1 h nx K) hw)
@[irreducible] def exec_Machine_Reset_j1 (ro : Ro) (Q : KE) : Env → T Obj → Nat → Prop := fun e h nx => bindP (intB .add (e 14) (Value.int IntKind.i64 1)) fun t23_11 => Q .normal (puts e [(23, t23_11), (14, t23_11)]) h (nx + 2)
@[irreducible] def exec_Machine_Reset_L1 (ro : Ro) : PT := fun e h nx Q => bindP (intB .lss (e 14) (e 13)) fun t15_10 => condP t15_10 (bindP (ixSl 1 (e 12) (e 14)) fun t16_12 => bindP (load1 ro h t16_12) fun t17_13 => callP Tryz.prog ro i_ring_Ring_Len [t17_13] h (nx + 6) fun t19_14 h15 n16 => bindP (intB .gtr t19_14 (Value.int IntKind.i64 0)) fun t20_17 => condP t20_17 (callP Tryz.prog ro i_ring_Ring_Clear [t17_13] h15 (n16 + 3) fun t22_18 h19 n20 => exec_Machine_Reset_j1 ro Q (puts e [(15, t15_10), (16, t16_12), (17, t17_13), (3, t17_13), (18, t17_13), (19, t19_14), (20, t20_17), (21, t17_13), (22, t22_18)]) h19 n20) (exec_Machine_Reset_j1 ro Q (puts e [(15, t15_10), (16, t16_12), (17, t17_13), (3, t17_13), (18, t17_13), (19, t19_14), (20, t20_17)]) h15 (n16 + 1))) (Q (.exit 0) (puts e [(15, t15_10)]) h (nx + 1))
@[irreducible] def exec_Machine_Reset (ro : Ro) (v0 : Value) (h : T Obj) (nx : Nat) (K : KV) : Prop := bindP (ptrB .eql v0 (Value.pointer none)) fun t5_1 => condP t5_1 (∃ h2, Sub h2 h ∧ K (.tuple #[]) h2 (nx + 2)) (bindP (nilCk v0) fun t7_3 => bindP (fwdP 259 t7_3) fun t8_4 => bindP (storeN 1 h t8_4 (Value.int IntKind.i64 0)) fun h5 => bindP (nilCk v0) fun t10_6 => bindP (fwdP 260 t10_6) fun t11_7 => bindP (load1 ro h5 t11_7) fun t12_8 => bindP (lenSl t12_8) fun t13_9 => loopP (exec_Machine_Reset_L1 ro) (puts (entE [v0]) [(4, v0), (5, t5_1), (6, v0), (7, t7_3), (8, t8_4), (9, v0), (10, t10_6), (11, t11_7), (12, t12_8), (13, t13_9), (14, (Value.int IntKind.i64 0))]) h5 (nx + 12) fun x24 e21 h22 n23 => exP x24 (∃ h27, Sub h27 h22 ∧ K (.tuple #[]) h27 n23) (fun i25 => beqP (Nat.beq i25 0) (∃ h26, Sub h26 h22 ∧ K (.tuple #[]) h26 n23) (False)) (∃ h28, Sub h28 h22 ∧ K (.tuple #[]) h28 n23))
theorem exec_Machine_Reset_eq (ro : Ro) (v0 : Value) (h : T Obj) (nx : Nat) (K : KV) : callPre Tryz.prog ro (callP Tryz.prog ro) Tryz.f20 [v0] h nx K = exec_Machine_Reset ro v0 h nx K := by kernel_rfl
theorem exec_Machine_Reset_of {ro : Ro} {v0 : Value} {h : T Obj} {nx : Nat} {K : KV} (hw : exec_Machine_Reset ro v0 h nx K) : callP Tryz.prog ro i_exec_Machine_Reset [v0] h nx K := callP_by (P := Tryz.prog) (fn := Tryz.f20) (by kernel_rfl) (by kernel_rfl) (by kernel_rfl) (Eq.mpr (exec_Machine_Reset_eq ro v0 h nx K) hw)
@[irreducible] def exec_Machine_State (ro : Ro) (v0 : Value) (h : T Obj) (nx : Nat) (K : KV) : Prop := bindP (ptrB .eql v0 (Value.pointer none)) fun t4_1 => condP t4_1 (∃ h2, Sub h2 h ∧ K (Value.int IntKind.i64 (-1)) h2 (nx + 4)) (bindP (nilCk v0) fun t6_3 => bindP (fwdP 259 t6_3) fun t7_4 => bindP (load1 ro h t7_4) fun t8_5 => ∃ h6, Sub h6 h ∧ K t8_5 h6 (nx + 8))
theorem exec_Machine_State_eq (ro : Ro) (v0 : Value) (h : T Obj) (nx : Nat) (K : KV) : callPre Tryz.prog ro (callP Tryz.prog ro) Tryz.f21 [v0] h nx K = exec_Machine_State ro v0 h nx K := by kernel_rfl
theorem exec_Machine_State_of {ro : Ro} {v0 : Value} {h : T Obj} {nx : Nat} {K : KV} (hw : exec_Machine_State ro v0 h nx K) : callP Tryz.prog ro i_exec_Machine_State [v0] h nx K := callP_by (P := Tryz.prog) (fn := Tryz.f21) (by kernel_rfl) (by kernel_rfl) (by kernel_rfl) (Eq.mpr (exec_Machine_State_eq ro v0 h nx K) hw)
@[irreducible] def exec_Machine_Rule (ro : Ro) (v0 : Value) (h : T Obj) (nx : Nat) (K : KV) : Prop := callP Tryz.prog ro i_exec_Machine_State [v0] h (nx + 3) fun t5_1 h2 n3 => bindP (intB .eql t5_1 (Value.int IntKind.i64 (-1))) fun t6_4 => condP t6_4 (∃ h5, Sub h5 h2 ∧ K (Value.int IntKind.i64 (-1)) h5 (n3 + 2)) (bindP (nilCk v0) fun t8_6 => bindP (fwdP 0 t8_6) fun t9_7 => bindP (fwdP 258 t9_7) fun t10_8 => bindP (load1 ro h2 t10_8) fun t11_9 => bindP (nilCk v0) fun t13_10 => bindP (fwdP 259 t13_10) fun t14_11 => bindP (load1 ro h2 t14_11) fun t15_12 => bindP (ixSl 4 t11_9 t15_12) fun t16_13 => bindP (loadA ro h2 4 t16_13) fun t17_14 => bindP (zer Tryz.prog y_api_State) fun z15 => newP h2 (n3 + 12) (.cells z15.cells y_api_State) fun h16 => bindP (storeN 4 h16 (ptr (n3 + 12)) t17_14) fun h17 => bindP (fwdP 2 (ptr (n3 + 12))) fun t18_18 => bindP (load1 ro h17 t18_18) fun t19_19 => bindP (loadA ro h17 4 (ptr (n3 + 12))) fun t21_20 => callP Tryz.prog ro i_exec_Machine_code [v0, t21_20] h17 (n3 + 22) fun t22_21 h22 n23 => (sameV t18_18 h17 h22) ∧ (bindP (ixSl 1 t19_19 t22_21) fun t23_24 => bindP (load1 ro h22 t23_24) fun t24_25 => ∃ h26, Sub h26 h22 ∧ K t24_25 h26 n23))
theorem exec_Machine_Rule_eq (ro : Ro) (v0 : Value) (h : T Obj) (nx : Nat) (K : KV) : callPre Tryz.prog ro (callP Tryz.prog ro) Tryz.f22 [v0] h nx K = exec_Machine_Rule ro v0 h nx K := by kernel_rfl
theorem exec_Machine_Rule_of {ro : Ro} {v0 : Value} {h : T Obj} {nx : Nat} {K : KV} (hw : exec_Machine_Rule ro v0 h nx K) : callP Tryz.prog ro i_exec_Machine_Rule [v0] h nx K := callP_by (P := Tryz.prog) (fn := Tryz.f22) (by kernel_rfl) (by kernel_rfl) (by kernel_rfl) (Eq.mpr (exec_Machine_Rule_eq ro v0 h nx K) hw)
@[irreducible] def exec_Machine_Work_j1 (ro : Ro) (K : KV) : Env → T Obj → Nat → Prop := fun e h nx => ∃ h6, Sub h6 h ∧ K (e 3) h6 (nx + 2)
@[irreducible] def exec_Machine_Work_L1 (ro : Ro) : PT := fun e h nx Q => bindP (intB .lss (e 17) (e 16)) fun t18_11 => condP t18_11 (bindP (ixSl 1 (e 15) (e 17)) fun t19_12 => bindP (load1 ro h t19_12) fun t20_13 => callP Tryz.prog ro i_ring_Ring_Work [t20_13] h (nx + 7) fun t23_14 h15 n16 => bindP (intB .add (e 3) t23_14) fun t24_17 => bindP (intB .add (e 17) (Value.int IntKind.i64 1)) fun t25_18 => Q .normal (puts e [(18, t18_11), (19, t19_12), (20, t20_13), (5, t20_13), (21, (e 3)), (22, t20_13), (23, t23_14), (24, t24_17), (3, t24_17), (25, t25_18), (17, t25_18)]) h15 (n16 + 4)) (Q (.exit 0) (puts e [(18, t18_11)]) h (nx + 1))
@[irreducible] def exec_Machine_Work (ro : Ro) (v0 : Value) (h : T Obj) (nx : Nat) (K : KV) : Prop := bindP (ptrB .eql v0 (Value.pointer none)) fun t7_1 => condP t7_1 (∃ h2, Sub h2 h ∧ K (Value.int IntKind.i64 0) h2 (nx + 4)) (bindP (nilCk v0) fun t9_3 => bindP (fwdP 261 t9_3) fun t10_4 => bindP (load1 ro h t10_4) fun t11_5 => bindP (nilCk v0) fun t13_7 => bindP (fwdP 260 t13_7) fun t14_8 => bindP (load1 ro h t14_8) fun t15_9 => bindP (lenSl t15_9) fun t16_10 => loopP (exec_Machine_Work_L1 ro) (puts (entE [v0]) [(2, (Value.int IntKind.i64 0)), (6, v0), (7, t7_1), (8, v0), (9, t9_3), (10, t10_4), (11, t11_5), (3, t11_5), (12, v0), (13, t13_7), (14, t14_8), (15, t15_9), (16, t16_10), (17, (Value.int IntKind.i64 0))]) h (nx + 14) fun x22 e19 h20 n21 => exP x22 (exec_Machine_Work_j1 ro K e19 h20 n21) (fun i23 => beqP (Nat.beq i23 0) (exec_Machine_Work_j1 ro K e19 h20 n21) (False)) (∃ h24, Sub h24 h20 ∧ K (e19 2) h24 n21))
theorem exec_Machine_Work_eq (ro : Ro) (v0 : Value) (h : T Obj) (nx : Nat) (K : KV) : callPre Tryz.prog ro (callP Tryz.prog ro) Tryz.f30 [v0] h nx K = exec_Machine_Work ro v0 h nx K := by kernel_rfl
theorem exec_Machine_Work_of {ro : Ro} {v0 : Value} {h : T Obj} {nx : Nat} {K : KV} (hw : exec_Machine_Work ro v0 h nx K) : callP Tryz.prog ro i_exec_Machine_Work [v0] h nx K := callP_by (P := Tryz.prog) (fn := Tryz.f30) (by kernel_rfl) (by kernel_rfl) (by kernel_rfl) (Eq.mpr (exec_Machine_Work_eq ro v0 h nx K) hw)
@[irreducible] def exec_copied_j1 (ro : Ro) (K : KV) : Env → T Obj → Nat → Prop := fun e h nx => bindP (loadA ro h 259 (e 3)) fun t70_15 => bindP (storeN 259 h (e 2) t70_15) fun h16 => bindP (loadA ro h16 259 (e 2)) fun r17 => ∃ h18, Sub h18 h16 ∧ K r17 h18 (nx + 2)
@[irreducible] def exec_copied_j2 (ro : Ro) (Q : KE) : Env → T Obj → Nat → Prop := fun e h nx => bindP (intB .add (e 21) (Value.int IntKind.i64 1)) fun t69_23 => Q .normal (puts e [(69, t69_23), (21, t69_23)]) h (nx + 2)
@[irreducible] def exec_copied_j3 (ro : Ro) (Q : KE) : Env → T Obj → Nat → Prop := fun e h nx => bindP (fwdP 258 (e 3)) fun t63_43 => bindP (load1 ro h t63_43) fun t64_44 => bindP (loadA ro h 4 (e 6)) fun t65_45 => bindP (sliceLitV Tryz.prog y_s_api_State (nx + 3) 1 [(0, t65_45)]) fun r46 => optP h (nx + 3) r46.2 fun h47 => bindP (appendV Tryz.prog ro h47 (nx + 5) #[y_s_api_State, y_s_api_State] [t64_44, r46.1]) fun r48 => bindP (fwdP 258 (e 3)) fun t68_49 => bindP (storeN 1 r48.2.1 t68_49 r48.1) fun h50 => exec_copied_j2 ro Q (puts e [(63, t63_43), (64, t64_44), (65, t65_45), (66, r46.1), (67, r48.1), (68, t68_49)]) h50 (r48.2.2 + 2)
@[irreducible] def exec_copied_j4 (ro : Ro) (Q : KE) : Env → T Obj → Nat → Prop := fun e h nx => bindP (intB .add (e 35) (Value.int IntKind.i64 1)) fun t62_55 => Q .normal (puts e [(62, t62_55), (35, t62_55)]) h (nx + 2)
@[irreducible] def exec_copied_j5 (ro : Ro) (Q : KE) : Env → T Obj → Nat → Prop := fun e h nx => bindP (fwdP 3 (e 6)) fun t56_61 => bindP (load1 ro h t56_61) fun t57_62 => bindP (sliceLitV Tryz.prog y_s_s_api_Move (nx + 3) 1 [(0, (e 9))]) fun r63 => optP h (nx + 3) r63.2 fun h64 => bindP (appendV Tryz.prog ro h64 (nx + 5) #[y_s_s_api_Move, y_s_s_api_Move] [t57_62, r63.1]) fun r65 => bindP (fwdP 3 (e 6)) fun t61_66 => bindP (storeN 1 r65.2.1 t61_66 r65.1) fun h67 => exec_copied_j4 ro Q (puts e [(56, t56_61), (57, t57_62), (58, (e 9)), (59, r63.1), (60, r65.1), (61, t61_66)]) h67 (r65.2.2 + 2)
@[irreducible] def exec_copied_L3 (ro : Ro) : PT := fun e h nx Q => bindP (intB .lss (e 43) (e 42)) fun t44_69 => condP t44_69 (bindP (ixSl 2 (e 41) (e 43)) fun t46_70 => bindP (loadA ro h 2 t46_70) fun t47_71 => bindP (zer Tryz.prog y_api_Move) fun z72 => newP h (nx + 4) (.cells z72.cells y_api_Move) fun h73 => bindP (storeN 2 h73 (ptr (nx + 4)) t47_71) fun h74 => bindP (fwdP 1 (ptr (nx + 4))) fun t50_75 => bindP (load1 ro h74 t50_75) fun t51_76 => callP Tryz.prog ro i_slices_Clone_uint8_uint8 [t51_76] h74 (nx + 12) fun t52_77 h78 n79 => bindP (ixSl 2 (e 9) (e 43)) fun t53_80 => bindP (fwdP 1 t53_80) fun t54_81 => bindP (storeN 1 h78 t54_81 t52_77) fun h82 => bindP (intB .add (e 43) (Value.int IntKind.i64 1)) fun t55_83 => Q .normal (puts e [(44, t44_69), (45, (e 43)), (46, t46_70), (47, t47_71), (11, (ptr (nx + 4))), (10, (e 43)), (48, (e 9)), (49, (e 43)), (50, t50_75), (51, t51_76), (52, t52_77), (53, t53_80), (54, t54_81), (55, t55_83), (43, t55_83)]) h82 (n79 + 5)) (Q (.exit 4) (puts e [(44, t44_69)]) h (nx + 1))
@[irreducible] def exec_copied_L2 (ro : Ro) : PT := fun e h nx Q => bindP (intB .lss (e 35) (e 34)) fun t36_54 => condP t36_54 (bindP (ixSl 1 (e 33) (e 35)) fun t37_56 => bindP (load1 ro h t37_56) fun t38_57 => callP Tryz.prog ro i_slices_Clone_api_Move_api_Move [t38_57] h (nx + 6) fun t40_58 h59 n60 => bindP (lenSl t40_58) fun t42_68 => loopP (exec_copied_L3 ro) (puts e [(36, t36_54), (37, t37_56), (38, t38_57), (8, t38_57), (39, t38_57), (40, t40_58), (9, t40_58), (41, t40_58), (42, t42_68), (43, (Value.int IntKind.i64 0))]) h59 (n60 + 4) fun x87 e84 h85 n86 => exP x87 (exec_copied_j5 ro Q e84 h85 n86) (fun i88 => beqP (Nat.beq i88 4) (exec_copied_j5 ro Q e84 h85 n86) (beqP (Nat.beq i88 3) (exec_copied_j4 ro Q e84 h85 n86) (Q (.exit i88) e84 h85 n86))) (Q .ret e84 h85 n86)) (Q (.exit 2) (puts e [(36, t36_54)]) h (nx + 1))
@[irreducible] def exec_copied_L1 (ro : Ro) : PT := fun e h nx Q => bindP (intB .lss (e 21) (e 20)) fun t22_22 => condP t22_22 (bindP (ixSl 4 (e 19) (e 21)) fun t23_24 => bindP (loadA ro h 4 t23_24) fun t24_25 => bindP (zer Tryz.prog y_api_State) fun z26 => newP h (nx + 3) (.cells z26.cells y_api_State) fun h27 => bindP (storeN 4 h27 (ptr (nx + 3)) t24_25) fun h28 => bindP (fwdP 1 (ptr (nx + 3))) fun t25_29 => bindP (load1 ro h28 t25_29) fun t26_30 => callP Tryz.prog ro i_slices_Clone_int_int [t26_30] h28 (nx + 14) fun t27_31 h32 n33 => bindP (fwdP 2 (ptr (nx + 3))) fun t28_34 => bindP (load1 ro h32 t28_34) fun t29_35 => (sameV t28_34 h28 h32) ∧ (callP Tryz.prog ro i_slices_Clone_int_int [t29_35] h32 n33 fun t30_36 h37 n38 => bindP (buildV Tryz.prog y_api_State [(1, t27_31), (2, t30_36)]) fun t31_39 => bindP (zer Tryz.prog y_api_State) fun z40 => newP h37 (nx + 12) (.cells z40.cells y_api_State) fun h41 => bindP (storeN 4 h41 (ptr (nx + 12)) t31_39) fun h42 => bindP (fwdP 3 (ptr (nx + 3))) fun t32_51 => bindP (load1 ro h42 t32_51) fun t33_52 => bindP (lenSl t33_52) fun t34_53 => loopP (exec_copied_L2 ro) (puts e [(22, t22_22), (23, t23_24), (24, t24_25), (5, (ptr (nx + 3))), (25, t25_29), (26, t26_30), (27, t27_31), (28, t28_34), (29, t29_35), (30, t30_36), (31, t31_39), (6, (ptr (nx + 12))), (32, t32_51), (33, t33_52), (34, t34_53), (35, (Value.int IntKind.i64 0))]) h42 (n38 + 4) fun x92 e89 h90 n91 => exP x92 (exec_copied_j3 ro Q e89 h90 n91) (fun i93 => beqP (Nat.beq i93 2) (exec_copied_j3 ro Q e89 h90 n91) (beqP (Nat.beq i93 1) (exec_copied_j2 ro Q e89 h90 n91) (Q (.exit i93) e89 h90 n91))) (Q .ret e89 h90 n91))) (Q (.exit 0) (puts e [(22, t22_22)]) h (nx + 1))
@[irreducible] def exec_copied (ro : Ro) (v0 : Value) (h : T Obj) (nx : Nat) (K : KV) : Prop := newP h nx (.cells (Value.cells v0) y_api_Auto) fun h1 => bindP (zer Tryz.prog y_api_Auto) fun z2 => newP h1 (nx + 1) (.cells z2.cells y_api_Auto) fun h3 => bindP (fwdP 0 (ptr nx)) fun t12_4 => bindP (loadA ro h3 257 t12_4) fun t13_5 => bindP (fwdP 257 (ptr nx)) fun t14_6 => bindP (load1 ro h3 t14_6) fun t15_7 => callP Tryz.prog ro i_slices_Clone_2_int_2_int [t15_7] h3 (nx + 10) fun t16_8 h9 n10 => (sameV t12_4 h3 h9) ∧ (bindP (buildV Tryz.prog y_api_Auto [(0, t13_5), (1, t16_8)]) fun t17_11 => bindP (zer Tryz.prog y_api_Auto) fun z12 => newP h9 (nx + 8) (.cells z12.cells y_api_Auto) fun h13 => bindP (storeN 259 h13 (ptr (nx + 8)) t17_11) fun h14 => bindP (fwdP 258 (ptr nx)) fun t18_19 => bindP (load1 ro h14 t18_19) fun t19_20 => bindP (lenSl t19_20) fun t20_21 => loopP (exec_copied_L1 ro) (puts (entE [v0]) [(1, (ptr nx)), (2, (ptr (nx + 1))), (12, t12_4), (13, t13_5), (14, t14_6), (15, t15_7), (16, t16_8), (17, t17_11), (3, (ptr (nx + 8))), (18, t18_19), (19, t19_20), (20, t20_21), (21, (Value.int IntKind.i64 0))]) h14 (n10 + 4) fun x97 e94 h95 n96 => exP x97 (exec_copied_j1 ro K e94 h95 n96) (fun i98 => beqP (Nat.beq i98 0) (exec_copied_j1 ro K e94 h95 n96) (False)) (bindP (loadA ro h95 259 (e94 2)) fun r99 => ∃ h100, Sub h100 h95 ∧ K r99 h100 n96))
theorem exec_copied_eq (ro : Ro) (v0 : Value) (h : T Obj) (nx : Nat) (K : KV) : callPre Tryz.prog ro (callP Tryz.prog ro) Tryz.f49 [v0] h nx K = exec_copied ro v0 h nx K := by kernel_rfl
theorem exec_copied_of {ro : Ro} {v0 : Value} {h : T Obj} {nx : Nat} {K : KV} (hw : exec_copied ro v0 h nx K) : callP Tryz.prog ro i_exec_copied [v0] h nx K := callP_by (P := Tryz.prog) (fn := Tryz.f49) (by kernel_rfl) (by kernel_rfl) (by kernel_rfl) (Eq.mpr (exec_copied_eq ro v0 h nx K) hw)
@[irreducible] def ring_New (ro : Ro) (v0 : Value) (h : T Obj) (nx : Nat) (K : KV) : Prop := bindP (intB .lss v0 (Value.int IntKind.i64 1)) fun t5_1 => ifP t5_1 false h (nx + 5) (fun k2 => k2 v0 h (nx + 6)) fun t7_3 h4 n5 => ifP t5_1 false h4 n5 (fun k6 => bindP (intB .gtr t7_3 (Value.int IntKind.i64 4096)) fun t8_10 => k6 t8_10 h4 (n5 + 1)) fun t8_7 h8 n9 => bindP (pickV t5_1 (Value.bool true) t8_7) fun t9_11 => condP t9_11 (∃ h12, Sub h12 h8 ∧ K (.tuple #[(Value.pointer none), (Value.int IntKind.i64 1)]) h12 (n9 + 3)) (bindP (makeV Tryz.prog y_s_int (n9 + 2) v0 v0) fun r13 => optP h8 (n9 + 2) r13.2 fun h14 => bindP (buildV Tryz.prog y_ring_Ring [(0, r13.1)]) fun t12_15 => newP h14 (n9 + 4) (.cells (Value.cells t12_15) y_ring_Ring) fun h16 => ∃ h17, Sub h17 h16 ∧ K (.tuple #[(ptr (n9 + 4)), (Value.int IntKind.i64 0)]) h17 (n9 + 7))
theorem ring_New_eq (ro : Ro) (v0 : Value) (h : T Obj) (nx : Nat) (K : KV) : callPre Tryz.prog ro (callP Tryz.prog ro) Tryz.f50 [v0] h nx K = ring_New ro v0 h nx K := by kernel_rfl
theorem ring_New_of {ro : Ro} {v0 : Value} {h : T Obj} {nx : Nat} {K : KV} (hw : ring_New ro v0 h nx K) : callP Tryz.prog ro i_ring_New [v0] h nx K := callP_by (P := Tryz.prog) (fn := Tryz.f50) (by kernel_rfl) (by kernel_rfl) (by kernel_rfl) (Eq.mpr (ring_New_eq ro v0 h nx K) hw)
@[irreducible] def exec_Machine_code_j1 (ro : Ro) (K : KV) : Env → T Obj → Nat → Prop := fun e h nx => ∃ h2, Sub h2 h ∧ K (e 5) h2 (nx + 2)
@[irreducible] def exec_Machine_code_L1 (ro : Ro) : PT := fun e h nx Q => bindP (intB .lss (e 12) (e 11)) fun t13_6 => condP t13_6 (bindP (ixSl 1 (e 10) (e 12)) fun t14_7 => bindP (load1 ro h t14_7) fun t15_8 => callP Tryz.prog ro i_exec_Machine_digit [(e 0), t15_8] h (nx + 9) fun t20_9 h10 n11 => bindP (intB .mul (e 6) t20_9) fun t21_12 => bindP (intB .add (e 5) t21_12) fun t22_13 => bindP (intB .mul (e 6) (Value.int IntKind.i64 3)) fun t24_14 => bindP (intB .add (e 12) (Value.int IntKind.i64 1)) fun t25_15 => Q .normal (puts e [(13, t13_6), (14, t14_7), (15, t15_8), (8, t15_8), (16, (e 5)), (17, (e 6)), (18, (e 0)), (19, t15_8), (20, t20_9), (21, t21_12), (22, t22_13), (5, t22_13), (23, (e 6)), (24, t24_14), (6, t24_14), (25, t25_15), (12, t25_15)]) h10 (n11 + 8)) (Q (.exit 0) (puts e [(13, t13_6)]) h (nx + 1))
@[irreducible] def exec_Machine_code (ro : Ro) (v0 v1 : Value) (h : T Obj) (nx : Nat) (K : KV) : Prop := newP h nx (.cells (Value.cells v1) y_api_State) fun h1 => bindP (fwdP 1 (ptr nx)) fun t9_3 => bindP (load1 ro h1 t9_3) fun t10_4 => bindP (lenSl t10_4) fun t11_5 => loopP (exec_Machine_code_L1 ro) (puts (entE [v0, v1]) [(3, (ptr nx)), (4, (Value.int IntKind.i64 0)), (5, (Value.int IntKind.i64 0)), (6, (Value.int IntKind.i64 1)), (9, t9_3), (10, t10_4), (11, t11_5), (12, (Value.int IntKind.i64 0))]) h1 (nx + 8) fun x19 e16 h17 n18 => exP x19 (exec_Machine_code_j1 ro K e16 h17 n18) (fun i20 => beqP (Nat.beq i20 0) (exec_Machine_code_j1 ro K e16 h17 n18) (False)) (∃ h21, Sub h21 h17 ∧ K (e16 4) h21 n18)
theorem exec_Machine_code_eq (ro : Ro) (v0 v1 : Value) (h : T Obj) (nx : Nat) (K : KV) : callPre Tryz.prog ro (callP Tryz.prog ro) Tryz.f52 [v0, v1] h nx K = exec_Machine_code ro v0 v1 h nx K := by kernel_rfl
theorem exec_Machine_code_of {ro : Ro} {v0 v1 : Value} {h : T Obj} {nx : Nat} {K : KV} (hw : exec_Machine_code ro v0 v1 h nx K) : callP Tryz.prog ro i_exec_Machine_code [v0, v1] h nx K := callP_by (P := Tryz.prog) (fn := Tryz.f52) (by kernel_rfl) (by kernel_rfl) (by kernel_rfl) (Eq.mpr (exec_Machine_code_eq ro v0 v1 h nx K) hw)
@[irreducible] def ring_Ring_Clear (ro : Ro) (v0 : Value) (h : T Obj) (nx : Nat) (K : KV) : Prop := bindP (ptrB .neq v0 (Value.pointer none)) fun t3_1 => condP t3_1 (bindP (nilCk v0) fun t6_2 => bindP (fwdP 1 t6_2) fun t7_3 => bindP (storeN 1 h t7_3 (Value.int IntKind.i64 0)) fun h4 => bindP (nilCk v0) fun t8_5 => bindP (fwdP 2 t8_5) fun t9_6 => bindP (storeN 1 h4 t9_6 (Value.int IntKind.i64 0)) fun h7 => bindP (nilCk v0) fun t11_8 => bindP (fwdP 4 t11_8) fun t12_9 => bindP (load1 ro h7 t12_9) fun t13_10 => bindP (intB .add t13_10 (Value.int IntKind.i64 1)) fun t14_11 => bindP (nilCk v0) fun t15_12 => bindP (fwdP 4 t15_12) fun t16_13 => bindP (storeN 1 h7 t16_13 t14_11) fun h14 => ∃ h15, Sub h15 h14 ∧ K (.tuple #[]) h15 (nx + 18)) (∃ h16, Sub h16 h ∧ K (.tuple #[]) h16 (nx + 2))
theorem ring_Ring_Clear_eq (ro : Ro) (v0 : Value) (h : T Obj) (nx : Nat) (K : KV) : callPre Tryz.prog ro (callP Tryz.prog ro) Tryz.f54 [v0] h nx K = ring_Ring_Clear ro v0 h nx K := by kernel_rfl
theorem ring_Ring_Clear_of {ro : Ro} {v0 : Value} {h : T Obj} {nx : Nat} {K : KV} (hw : ring_Ring_Clear ro v0 h nx K) : callP Tryz.prog ro i_ring_Ring_Clear [v0] h nx K := callP_by (P := Tryz.prog) (fn := Tryz.f54) (by kernel_rfl) (by kernel_rfl) (by kernel_rfl) (Eq.mpr (ring_Ring_Clear_eq ro v0 h nx K) hw)
@[irreducible] def exec_change (ro : Ro) (v0 v1 : Value) (h : T Obj) (nx : Nat) (K : KV) : Prop := bindP (intB .eql v1 (Value.int IntKind.u8 3)) fun t6_1 => condP t6_1 (callP Tryz.prog ro i_ring_Ring_Clear [v0] h (nx + 5) fun t8_2 h3 n4 => callP Tryz.prog ro i_ring_Ring_Put [v0] h3 (n4 + 2) fun t10_5 h6 n7 => ∃ h8, Sub h8 h6 ∧ K (.tuple #[]) h8 n7) (bindP (intB .eql v1 (Value.int IntKind.u8 2)) fun t12_9 => condP t12_9 (callP Tryz.prog ro i_ring_Ring_Inc [v0] h (nx + 7) fun t14_10 h11 n12 => callP Tryz.prog ro i_ring_Ring_Put [v0] h11 (n12 + 2) fun t16_13 h14 n15 => ∃ h16, Sub h16 h14 ∧ K (.tuple #[]) h16 n15) (bindP (intB .eql v1 (Value.int IntKind.u8 1)) fun t18_17 => condP t18_17 (callP Tryz.prog ro i_ring_Ring_Inc [v0] h (nx + 9) fun t20_18 h19 n20 => ∃ h21, Sub h21 h19 ∧ K (.tuple #[]) h21 n20) (∃ h22, Sub h22 h ∧ K (.tuple #[]) h22 (nx + 7))))
theorem exec_change_eq (ro : Ro) (v0 v1 : Value) (h : T Obj) (nx : Nat) (K : KV) : callPre Tryz.prog ro (callP Tryz.prog ro) Tryz.f55 [v0, v1] h nx K = exec_change ro v0 v1 h nx K := by kernel_rfl
theorem exec_change_of {ro : Ro} {v0 v1 : Value} {h : T Obj} {nx : Nat} {K : KV} (hw : exec_change ro v0 v1 h nx K) : callP Tryz.prog ro i_exec_change [v0, v1] h nx K := callP_by (P := Tryz.prog) (fn := Tryz.f55) (by kernel_rfl) (by kernel_rfl) (by kernel_rfl) (Eq.mpr (exec_change_eq ro v0 v1 h nx K) hw)
@[irreducible] def ring_Ring_Len (ro : Ro) (v0 : Value) (h : T Obj) (nx : Nat) (K : KV) : Prop := bindP (ptrB .eql v0 (Value.pointer none)) fun t4_1 => condP t4_1 (∃ h2, Sub h2 h ∧ K (Value.int IntKind.i64 0) h2 (nx + 4)) (bindP (nilCk v0) fun t6_3 => bindP (fwdP 2 t6_3) fun t7_4 => bindP (load1 ro h t7_4) fun t8_5 => ∃ h6, Sub h6 h ∧ K t8_5 h6 (nx + 8))
theorem ring_Ring_Len_eq (ro : Ro) (v0 : Value) (h : T Obj) (nx : Nat) (K : KV) : callPre Tryz.prog ro (callP Tryz.prog ro) Tryz.f56 [v0] h nx K = ring_Ring_Len ro v0 h nx K := by kernel_rfl
theorem ring_Ring_Len_of {ro : Ro} {v0 : Value} {h : T Obj} {nx : Nat} {K : KV} (hw : ring_Ring_Len ro v0 h nx K) : callP Tryz.prog ro i_ring_Ring_Len [v0] h nx K := callP_by (P := Tryz.prog) (fn := Tryz.f56) (by kernel_rfl) (by kernel_rfl) (by kernel_rfl) (Eq.mpr (ring_Ring_Len_eq ro v0 h nx K) hw)
@[irreducible] def ring_Ring_Work (ro : Ro) (v0 : Value) (h : T Obj) (nx : Nat) (K : KV) : Prop := bindP (ptrB .eql v0 (Value.pointer none)) fun t4_1 => condP t4_1 (∃ h2, Sub h2 h ∧ K (Value.int IntKind.i64 0) h2 (nx + 4)) (bindP (nilCk v0) fun t6_3 => bindP (fwdP 4 t6_3) fun t7_4 => bindP (load1 ro h t7_4) fun t8_5 => ∃ h6, Sub h6 h ∧ K t8_5 h6 (nx + 8))
theorem ring_Ring_Work_eq (ro : Ro) (v0 : Value) (h : T Obj) (nx : Nat) (K : KV) : callPre Tryz.prog ro (callP Tryz.prog ro) Tryz.f66 [v0] h nx K = ring_Ring_Work ro v0 h nx K := by kernel_rfl
theorem ring_Ring_Work_of {ro : Ro} {v0 : Value} {h : T Obj} {nx : Nat} {K : KV} (hw : ring_Ring_Work ro v0 h nx K) : callP Tryz.prog ro i_ring_Ring_Work [v0] h nx K := callP_by (P := Tryz.prog) (fn := Tryz.f66) (by kernel_rfl) (by kernel_rfl) (by kernel_rfl) (Eq.mpr (ring_Ring_Work_eq ro v0 h nx K) hw)
@[irreducible] def exec_Machine_digit (ro : Ro) (v0 v1 : Value) (h : T Obj) (nx : Nat) (K : KV) : Prop := bindP (nilCk v0) fun t11_1 => bindP (fwdP 260 t11_1) fun t12_2 => bindP (load1 ro h t12_2) fun t13_3 => bindP (ixSl 1 t13_3 v1) fun t15_4 => bindP (load1 ro h t15_4) fun t16_5 => callP Tryz.prog ro i_ring_Ring_Min [t16_5] h (nx + 9) fun t17_6 h7 n8 => bindP (nth 0 t17_6) fun t18_9 => bindP (nth 1 t17_6) fun t19_10 => bindP (nilCk v0) fun t22_11 => bindP (fwdP 260 t22_11) fun t23_12 => bindP (load1 ro h7 t23_12) fun t24_13 => bindP (ixSl 1 t24_13 v1) fun t26_14 => bindP (load1 ro h7 t26_14) fun t27_15 => callP Tryz.prog ro i_ring_Ring_Max [t27_15] h7 (n8 + 13) fun t28_16 h17 n18 => bindP (nth 0 t28_16) fun t29_19 => bindP (nth 1 t28_16) fun t30_20 => bindP (unV .not t30_20) fun t33_21 => ifP t33_21 false h17 (n18 + 8) (fun k22 => k22 t29_19 h17 (n18 + 9)) fun t35_23 h24 n25 => ifP t33_21 false h24 n25 (fun k26 => k26 v0 h24 (n25 + 1)) fun t36_27 h28 n29 => ifP t33_21 false h28 n29 (fun k30 => bindP (nilCk t36_27) fun t37_34 => k30 t37_34 h28 (n29 + 1)) fun t37_31 h32 n33 => ifP t33_21 false h32 n33 (fun k35 => bindP (fwdP 0 t37_31) fun t38_39 => k35 t38_39 h32 (n33 + 1)) fun t38_36 h37 n38 => ifP t33_21 false h37 n38 (fun k40 => bindP (fwdP 257 t38_36) fun t39_44 => k40 t39_44 h37 (n38 + 1)) fun t39_41 h42 n43 => ifP t33_21 false h42 n43 (fun k45 => bindP (load1 ro h42 t39_41) fun t40_49 => k45 t40_49 h42 (n43 + 1)) fun t40_46 h47 n48 => ifP t33_21 false h47 n48 (fun k50 => k50 v1 h47 (n48 + 1)) fun t41_51 h52 n53 => ifP t33_21 false h52 n53 (fun k54 => bindP (ixSl 2 t40_46 t41_51) fun t42_58 => k54 t42_58 h52 (n53 + 1)) fun t42_55 h56 n57 => ifP t33_21 false h56 n57 (fun k59 => bindP (ixArr 2 1 t42_55 (Value.int IntKind.i64 0)) fun t43_63 => k59 t43_63 h56 (n57 + 1)) fun t43_60 h61 n62 => ifP t33_21 false h61 n62 (fun k64 => bindP (load1 ro h61 t43_60) fun t44_68 => k64 t44_68 h61 (n62 + 1)) fun t44_65 h66 n67 => ifP t33_21 false h66 n67 (fun k69 => bindP (intB .lss t35_23 t44_65) fun t45_73 => k69 t45_73 h66 (n67 + 1)) fun t45_70 h71 n72 => bindP (pickV t33_21 (Value.bool true) t45_70) fun t46_74 => condP t46_74 (∃ h75, Sub h75 h71 ∧ K (Value.int IntKind.i64 0) h75 (n72 + 3)) (bindP (nilCk v0) fun t50_76 => bindP (fwdP 0 t50_76) fun t51_77 => bindP (fwdP 257 t51_77) fun t52_78 => bindP (load1 ro h71 t52_78) fun t53_79 => bindP (ixSl 2 t53_79 v1) fun t55_80 => bindP (ixArr 2 1 t55_80 (Value.int IntKind.i64 1)) fun t56_81 => bindP (load1 ro h71 t56_81) fun t57_82 => bindP (intB .lss t18_9 t57_82) fun t58_83 => condP t58_83 (∃ h84, Sub h84 h71 ∧ K (Value.int IntKind.i64 2) h84 (n72 + 15)) (∃ h85, Sub h85 h71 ∧ K (Value.int IntKind.i64 1) h85 (n72 + 15)))
theorem exec_Machine_digit_eq (ro : Ro) (v0 v1 : Value) (h : T Obj) (nx : Nat) (K : KV) : callPre Tryz.prog ro (callP Tryz.prog ro) Tryz.f101 [v0, v1] h nx K = exec_Machine_digit ro v0 v1 h nx K := by kernel_rfl
theorem exec_Machine_digit_of {ro : Ro} {v0 v1 : Value} {h : T Obj} {nx : Nat} {K : KV} (hw : exec_Machine_digit ro v0 v1 h nx K) : callP Tryz.prog ro i_exec_Machine_digit [v0, v1] h nx K := callP_by (P := Tryz.prog) (fn := Tryz.f101) (by kernel_rfl) (by kernel_rfl) (by kernel_rfl) (Eq.mpr (exec_Machine_digit_eq ro v0 v1 h nx K) hw)
@[irreducible] def ring_Ring_Put (ro : Ro) (v0 : Value) (h : T Obj) (nx : Nat) (K : KV) : Prop := bindP (ptrB .eql v0 (Value.pointer none)) fun t3_1 => condP t3_1 (∃ h2, Sub h2 h ∧ K (.tuple #[]) h2 (nx + 2)) (bindP (nilCk v0) fun t5_3 => bindP (fwdP 4 t5_3) fun t6_4 => bindP (load1 ro h t6_4) fun t7_5 => bindP (intB .add t7_5 (Value.int IntKind.i64 1)) fun t8_6 => bindP (nilCk v0) fun t9_7 => bindP (fwdP 4 t9_7) fun t10_8 => bindP (storeN 1 h t10_8 t8_6) fun h9 => bindP (nilCk v0) fun t12_10 => bindP (fwdP 2 t12_10) fun t13_11 => bindP (load1 ro h9 t13_11) fun t14_12 => bindP (intB .gtr t14_12 (Value.int IntKind.i64 0)) fun t15_13 => ifP t15_13 true h9 (nx + 16) (fun k14 => k14 v0 h9 (nx + 17)) fun t17_15 h16 n17 => ifP t15_13 true h16 n17 (fun k18 => k18 v0 h16 (n17 + 1)) fun t18_19 h20 n21 => ifP t15_13 true h20 n21 (fun k22 => bindP (nilCk t18_19) fun t19_26 => k22 t19_26 h20 (n21 + 1)) fun t19_23 h24 n25 => ifP t15_13 true h24 n25 (fun k27 => bindP (fwdP 2 t19_23) fun t20_31 => k27 t20_31 h24 (n25 + 1)) fun t20_28 h29 n30 => ifP t15_13 true h29 n30 (fun k32 => bindP (load1 ro h29 t20_28) fun t21_36 => k32 t21_36 h29 (n30 + 1)) fun t21_33 h34 n35 => ifP t15_13 true h34 n35 (fun k37 => bindP (intB .sub t21_33 (Value.int IntKind.i64 1)) fun t22_41 => k37 t22_41 h34 (n35 + 1)) fun t22_38 h39 n40 => ifP t15_13 true h39 n40 (fun k42 => callP Tryz.prog ro i_ring_Ring_count [t17_15, t22_38] h39 (n40 + 1) fun t23_46 h47 n48 => k42 t23_46 h47 n48) fun t23_43 h44 n45 => ifP t15_13 true h44 n45 (fun k49 => bindP (intB .eql t23_43 (Value.int IntKind.i64 1)) fun t24_53 => k49 t24_53 h44 (n45 + 1)) fun t24_50 h51 n52 => bindP (pickV t15_13 t24_50 (Value.bool false)) fun t25_54 => condP t25_54 (∃ h55, Sub h55 h51 ∧ K (.tuple #[]) h55 (n52 + 1)) (bindP (nilCk v0) fun t27_56 => bindP (fwdP 0 t27_56) fun t28_57 => bindP (load1 ro h51 t28_57) fun t29_58 => bindP (nilCk v0) fun t31_59 => bindP (fwdP 1 t31_59) fun t32_60 => bindP (load1 ro h51 t32_60) fun t33_61 => bindP (nilCk v0) fun t35_62 => bindP (fwdP 2 t35_62) fun t36_63 => bindP (load1 ro h51 t36_63) fun t37_64 => bindP (intB .add t33_61 t37_64) fun t38_65 => bindP (nilCk v0) fun t40_66 => bindP (fwdP 0 t40_66) fun t41_67 => bindP (load1 ro h51 t41_67) fun t42_68 => bindP (lenSl t42_68) fun t43_69 => bindP (intB .rem t38_65 t43_69) fun t44_70 => bindP (nilCk v0) fun t46_71 => bindP (fwdP 3 t46_71) fun t47_72 => bindP (load1 ro h51 t47_72) fun t48_73 => bindP (ixSl 1 t29_58 t44_70) fun t49_74 => bindP (storeN 1 h51 t49_74 t48_73) fun h75 => bindP (nilCk v0) fun t51_76 => bindP (fwdP 2 t51_76) fun t52_77 => bindP (load1 ro h75 t52_77) fun t53_78 => bindP (intB .add t53_78 (Value.int IntKind.i64 1)) fun t54_79 => bindP (nilCk v0) fun t55_80 => bindP (fwdP 2 t55_80) fun t56_81 => bindP (storeN 1 h75 t56_81 t54_79) fun h82 => ∃ h83, Sub h83 h82 ∧ K (.tuple #[]) h83 (n52 + 34)))
theorem ring_Ring_Put_eq (ro : Ro) (v0 : Value) (h : T Obj) (nx : Nat) (K : KV) : callPre Tryz.prog ro (callP Tryz.prog ro) Tryz.f103 [v0] h nx K = ring_Ring_Put ro v0 h nx K := by kernel_rfl
theorem ring_Ring_Put_of {ro : Ro} {v0 : Value} {h : T Obj} {nx : Nat} {K : KV} (hw : ring_Ring_Put ro v0 h nx K) : callP Tryz.prog ro i_ring_Ring_Put [v0] h nx K := callP_by (P := Tryz.prog) (fn := Tryz.f103) (by kernel_rfl) (by kernel_rfl) (by kernel_rfl) (Eq.mpr (ring_Ring_Put_eq ro v0 h nx K) hw)
@[irreducible] def ring_Ring_Inc (ro : Ro) (v0 : Value) (h : T Obj) (nx : Nat) (K : KV) : Prop := bindP (ptrB .eql v0 (Value.pointer none)) fun t3_1 => condP t3_1 (∃ h2, Sub h2 h ∧ K (.tuple #[]) h2 (nx + 2)) (bindP (nilCk v0) fun t5_3 => bindP (fwdP 4 t5_3) fun t6_4 => bindP (load1 ro h t6_4) fun t7_5 => bindP (intB .add t7_5 (Value.int IntKind.i64 1)) fun t8_6 => bindP (nilCk v0) fun t9_7 => bindP (fwdP 4 t9_7) fun t10_8 => bindP (storeN 1 h t10_8 t8_6) fun h9 => bindP (nilCk v0) fun t12_10 => bindP (fwdP 3 t12_10) fun t13_11 => bindP (load1 ro h9 t13_11) fun t14_12 => bindP (intB .add t14_12 (Value.int IntKind.i64 1)) fun t15_13 => bindP (nilCk v0) fun t16_14 => bindP (fwdP 3 t16_14) fun t17_15 => bindP (storeN 1 h9 t17_15 t15_13) fun h16 => bindP (nilCk v0) fun t19_17 => bindP (fwdP 2 t19_17) fun t20_18 => bindP (load1 ro h16 t20_18) fun t21_19 => bindP (intB .gtr t21_19 (Value.int IntKind.i64 0)) fun t22_20 => ifP t22_20 true h16 (nx + 33) (fun k21 => k21 v0 h16 (nx + 33)) fun t24_22 h23 n24 => ifP t22_20 true h23 n24 (fun k25 => callP Tryz.prog ro i_ring_Ring_count [t24_22, (Value.int IntKind.i64 0)] h23 n24 fun t25_29 h30 n31 => k25 t25_29 h30 n31) fun t25_26 h27 n28 => ifP t22_20 true h27 n28 (fun k32 => k32 v0 h27 n28) fun t26_33 h34 n35 => ifP t22_20 true h34 n35 (fun k36 => bindP (nilCk t26_33) fun t27_40 => k36 t27_40 h34 n35) fun t27_37 h38 n39 => ifP t22_20 true h38 n39 (fun k41 => bindP (fwdP 0 t27_37) fun t28_45 => k41 t28_45 h38 n39) fun t28_42 h43 n44 => ifP t22_20 true h43 n44 (fun k46 => bindP (load1 ro h43 t28_42) fun t29_50 => (onP (some (t22_20, true)) (sameV t28_42 h23 h27)) ∧ (k46 t29_50 h43 n44)) fun t29_47 h48 n49 => ifP t22_20 true h48 n49 (fun k51 => bindP (lenSl t29_47) fun t30_55 => k51 t30_55 h48 n49) fun t30_52 h53 n54 => ifP t22_20 true h53 n54 (fun k56 => bindP (intB .gtr t25_26 t30_52) fun t31_60 => k56 t31_60 h53 n54) fun t31_57 h58 n59 => bindP (pickV t22_20 t31_57 (Value.bool false)) fun t32_61 => condP t32_61 (bindP (nilCk v0) fun t35_62 => bindP (fwdP 1 t35_62) fun t36_63 => bindP (load1 ro h58 t36_63) fun t37_64 => bindP (intB .add t37_64 (Value.int IntKind.i64 1)) fun t38_65 => bindP (nilCk v0) fun t40_66 => bindP (fwdP 0 t40_66) fun t41_67 => bindP (load1 ro h58 t41_67) fun t42_68 => bindP (lenSl t42_68) fun t43_69 => bindP (intB .rem t38_65 t43_69) fun t44_70 => bindP (nilCk v0) fun t45_71 => bindP (fwdP 1 t45_71) fun t46_72 => bindP (storeN 1 h58 t46_72 t44_70) fun h73 => bindP (nilCk v0) fun t48_74 => bindP (fwdP 2 t48_74) fun t49_75 => bindP (load1 ro h73 t49_75) fun t50_76 => bindP (intB .sub t50_76 (Value.int IntKind.i64 1)) fun t51_77 => bindP (nilCk v0) fun t52_78 => bindP (fwdP 2 t52_78) fun t53_79 => bindP (storeN 1 h73 t53_79 t51_77) fun h80 => ∃ h81, Sub h81 h80 ∧ K (.tuple #[]) h81 (n59 + 23)) (∃ h82, Sub h82 h58 ∧ K (.tuple #[]) h82 n59))
theorem ring_Ring_Inc_eq (ro : Ro) (v0 : Value) (h : T Obj) (nx : Nat) (K : KV) : callPre Tryz.prog ro (callP Tryz.prog ro) Tryz.f104 [v0] h nx K = ring_Ring_Inc ro v0 h nx K := by kernel_rfl
theorem ring_Ring_Inc_of {ro : Ro} {v0 : Value} {h : T Obj} {nx : Nat} {K : KV} (hw : ring_Ring_Inc ro v0 h nx K) : callP Tryz.prog ro i_ring_Ring_Inc [v0] h nx K := callP_by (P := Tryz.prog) (fn := Tryz.f104) (by kernel_rfl) (by kernel_rfl) (by kernel_rfl) (Eq.mpr (ring_Ring_Inc_eq ro v0 h nx K) hw)
@[irreducible] def ring_Ring_count (ro : Ro) (v0 v1 : Value) (h : T Obj) (nx : Nat) (K : KV) : Prop := bindP (nilCk v0) fun t6_1 => bindP (fwdP 3 t6_1) fun t7_2 => bindP (load1 ro h t7_2) fun t8_3 => bindP (nilCk v0) fun t10_4 => bindP (fwdP 0 t10_4) fun t11_5 => bindP (load1 ro h t11_5) fun t12_6 => bindP (nilCk v0) fun t14_7 => bindP (fwdP 1 t14_7) fun t15_8 => bindP (load1 ro h t15_8) fun t16_9 => bindP (intB .add t16_9 v1) fun t18_10 => bindP (nilCk v0) fun t20_11 => bindP (fwdP 0 t20_11) fun t21_12 => bindP (load1 ro h t21_12) fun t22_13 => bindP (lenSl t22_13) fun t23_14 => bindP (intB .rem t18_10 t23_14) fun t24_15 => bindP (ixSl 1 t12_6 t24_15) fun t25_16 => bindP (load1 ro h t25_16) fun t26_17 => bindP (intB .sub t8_3 t26_17) fun t27_18 => bindP (intB .add t27_18 (Value.int IntKind.i64 1)) fun t28_19 => ∃ h20, Sub h20 h ∧ K t28_19 h20 (nx + 26)
theorem ring_Ring_count_eq (ro : Ro) (v0 v1 : Value) (h : T Obj) (nx : Nat) (K : KV) : callPre Tryz.prog ro (callP Tryz.prog ro) Tryz.f109 [v0, v1] h nx K = ring_Ring_count ro v0 v1 h nx K := by kernel_rfl
theorem ring_Ring_count_of {ro : Ro} {v0 v1 : Value} {h : T Obj} {nx : Nat} {K : KV} (hw : ring_Ring_count ro v0 v1 h nx K) : callP Tryz.prog ro i_ring_Ring_count [v0, v1] h nx K := callP_by (P := Tryz.prog) (fn := Tryz.f109) (by kernel_rfl) (by kernel_rfl) (by kernel_rfl) (Eq.mpr (ring_Ring_count_eq ro v0 v1 h nx K) hw)
@[irreducible] def ring_Ring_Min (ro : Ro) (v0 : Value) (h : T Obj) (nx : Nat) (K : KV) : Prop := callP Tryz.prog ro i_ring_Ring_Len [v0] h (nx + 4) fun t5_1 h2 n3 => bindP (intB .eql t5_1 (Value.int IntKind.i64 0)) fun t6_4 => condP t6_4 (∃ h5, Sub h5 h2 ∧ K (.tuple #[(Value.int IntKind.i64 0), (Value.bool false)]) h5 (n3 + 3)) (bindP (nilCk v0) fun t9_6 => bindP (fwdP 2 t9_6) fun t10_7 => bindP (load1 ro h2 t10_7) fun t11_8 => bindP (intB .sub t11_8 (Value.int IntKind.i64 1)) fun t12_9 => callP Tryz.prog ro i_ring_Ring_count [v0, t12_9] h2 (n3 + 8) fun t13_10 h11 n12 => ∃ h13, Sub h13 h11 ∧ K (.tuple #[t13_10, (Value.bool true)]) h13 (n12 + 2))
theorem ring_Ring_Min_eq (ro : Ro) (v0 : Value) (h : T Obj) (nx : Nat) (K : KV) : callPre Tryz.prog ro (callP Tryz.prog ro) Tryz.f131 [v0] h nx K = ring_Ring_Min ro v0 h nx K := by kernel_rfl
theorem ring_Ring_Min_of {ro : Ro} {v0 : Value} {h : T Obj} {nx : Nat} {K : KV} (hw : ring_Ring_Min ro v0 h nx K) : callP Tryz.prog ro i_ring_Ring_Min [v0] h nx K := callP_by (P := Tryz.prog) (fn := Tryz.f131) (by kernel_rfl) (by kernel_rfl) (by kernel_rfl) (Eq.mpr (ring_Ring_Min_eq ro v0 h nx K) hw)
@[irreducible] def ring_Ring_Max (ro : Ro) (v0 : Value) (h : T Obj) (nx : Nat) (K : KV) : Prop := callP Tryz.prog ro i_ring_Ring_Len [v0] h (nx + 4) fun t5_1 h2 n3 => bindP (intB .eql t5_1 (Value.int IntKind.i64 0)) fun t6_4 => condP t6_4 (∃ h5, Sub h5 h2 ∧ K (.tuple #[(Value.int IntKind.i64 0), (Value.bool false)]) h5 (n3 + 3)) (callP Tryz.prog ro i_ring_Ring_count [v0, (Value.int IntKind.i64 0)] h2 (n3 + 3) fun t8_6 h7 n8 => ∃ h9, Sub h9 h7 ∧ K (.tuple #[t8_6, (Value.bool true)]) h9 (n8 + 2))
theorem ring_Ring_Max_eq (ro : Ro) (v0 : Value) (h : T Obj) (nx : Nat) (K : KV) : callPre Tryz.prog ro (callP Tryz.prog ro) Tryz.f132 [v0] h nx K = ring_Ring_Max ro v0 h nx K := by kernel_rfl
theorem ring_Ring_Max_of {ro : Ro} {v0 : Value} {h : T Obj} {nx : Nat} {K : KV} (hw : ring_Ring_Max ro v0 h nx K) : callP Tryz.prog ro i_ring_Ring_Max [v0] h nx K := callP_by (P := Tryz.prog) (fn := Tryz.f132) (by kernel_rfl) (by kernel_rfl) (by kernel_rfl) (Eq.mpr (ring_Ring_Max_eq ro v0 h nx K) hw)
end V
end Go.Proofs.YtjndkdmkecpllaaGreat
set_option linter.unusedVariables false
set_option linter.unusedSimpArgs false
namespace Go.Proofs.YtjndkdmkecpllaaGreat
set_option maxRecDepth 20000
namespace V
theorem ptrB_eql_at (id off z : Nat) : ptrB .eql (at_ id off z) (.pointer none) = some (.bool false) := rfl
theorem ptrB_neq_at (id off z : Nat) : ptrB .neq (at_ id off z) (.pointer none) = some (.bool true) := rfl
theorem nilCk_at (id off z : Nat) : nilCk (at_ id off z) = some (at_ id off z) := rfl
theorem addmod (a b n : Nat) : ((a : Int) + (b : Int)) % (n : Int) = (((a + b) % n : Nat) : Int) := by rw [Int.natCast_emod, Int.natCast_add]
theorem ix_own1 (a n c : Nat) (k : IntKind) {i : Nat} (hi : i < n) : ixSl 1 (.slice (some (V.own a 1)) n c) (.int k (i : Int)) = some (at_ a i 0) := by
  have h1 : natV (Value.int k (i : Int)) = some i := by simp [natV]
  have h2 : Nat.blt i n = true := by simpa using hi
  simp [ixSl, h1, h2, V.own, elt]
def ringC (a n first many now w : Nat) : List Value := [.slice (some (V.own a 1)) n n, .int .i64 first, .int .i64 many, .int .i64 now, .int .i64 w]
def putC (put : List Nat) : List Value := put.map fun (x : Nat) => .int .i64 (x : Int)
theorem putC_len (put : List Nat) : (putC put).length = put.length := by simp [putC]
theorem putC_get {put : List Nat} {k : Nat} (hk : k < put.length) : (putC put)[k]? = some (.int .i64 (put.getD k 0 : Nat)) := by
  simp [putC, hk]
theorem putC_set (put : List Nat) (k x : Nat) : (putC put).set k (.int .i64 (x : Int)) = putC (put.set k x) := by
  simp [putC, List.map_set]
def RI (h : T Obj) (p a n : Nat) (L : List Nat) (w : Nat) : Prop := ∃ (put : List Nat) (first now : Nat),
  h.get p = some (.cells (ringC a n first L.length now w).toArray y_ring_Ring) ∧ h.get a = some (.cells (putC put).toArray y_int) ∧ p ≠ a ∧ put.length = n ∧ 1 ≤ n ∧ n ≤ 4096 ∧ first < n ∧ now ≤ w ∧ w ≤ 1000000 ∧
  (∀ i, i < L.length → put.getD ((first + i) % n) 0 + L.getD i 0 = now + 1) ∧ L.Pairwise (fun x y => y < x) ∧ (∀ x ∈ L, 1 ≤ x ∧ x ≤ n)
def Only (h h' : T Obj) (p a : Nat) : Prop := ∀ k, k ≠ p → k ≠ a → h'.get k = h.get k
theorem Fr.lt {h : T Obj} {nx k : Nat} {o : Obj} (hf : Fr h nx) (hg : h.get k = some o) : k < nx := by
  rcases Nat.lt_or_ge k nx with h9 | h9
  · exact h9
  · rw [hf k h9] at hg; cases hg
theorem dec_len {L : List Nat} : ∀ {lo hi : Nat}, 1 ≤ lo → L.Pairwise (fun x y => y < x) → (∀ x ∈ L, lo ≤ x ∧ x ≤ hi) → L.length + lo ≤ hi + 1 ∨ L = [] := by
  induction L with
  | nil => intro lo hi _ _ _; exact .inr rfl
  | cons x r ih =>
    intro lo hi hlo hp hb
    left
    have hx := hb x (List.mem_cons_self ..)
    rw [List.pairwise_cons] at hp
    rcases ih (lo := lo) (hi := x - 1) hlo hp.2 fun y hy => ⟨(hb y (List.mem_cons_of_mem _ hy)).1, by have := hp.1 y hy; omega⟩ with h1 | h1
    · rw [List.length_cons]; omega
    · subst h1; simp; omega
theorem RI.len {h : T Obj} {p a n w : Nat} {L : List Nat} (hR : RI h p a n L w) : L.length ≤ n := by
  obtain ⟨put, first, now, _, _, _, _, h1, _, _, _, _, _, hp, hb⟩ := hR
  rcases dec_len (Nat.le_refl 1) hp hb with h9 | h9
  · omega
  · subst h9; simp
theorem ring_count_c {ro : Ro} {h : T Obj} {p a n w i nx : Nat} {L : List Nat} {K : KV} (hR : RI h p a n L w) (hi : i < L.length) (hK : ∀ nx', nx ≤ nx' → K (.int .i64 (L.getD i 0 : Nat)) h nx') : callP Tryz.prog ro i_ring_Ring_count [ptr p, .int .i64 (i : Int)] h nx K := by
  have hln := hR.len
  obtain ⟨put, first, now, gp, ga, hne, hpl, h1, h2, h3, h4, h5, hrel, hpw, hb⟩ := hR
  apply ring_Ring_count_of
  unfold ring_Ring_count
  have hm : (first + i) % n < n := Nat.mod_lt _ (by omega)
  have hm2 : (first + i) % n < put.length := by omega
  have hr := hrel i hi
  (repeat (first | refine bindP_mk (by simp (disch := first | omega | exact Int.natCast_nonneg _ | assumption) only [decide_true, decide_false, Bool.not_true, Bool.not_false, newP_eq, optP_some, optP_none, bindP_some', condP_true, condP_false, ifP_tt, ifP_ff, ifP_tf, ifP_ft, exP_normal, exP_exit, exP_ret, beqP_true, beqP_false, Option.bind_some, Value.cells_agg, cells_int, cells_bool, intB_add, intB_sub, intB_mul, intB_quo, intB_rem, intB_eql, intB_neq, intB_lss, intB_leq, intB_gtr, intB_geq, intB_shr_u64, intB_shl1_u64, intB_and64, intB_or64, intB_xor64, wr_i64, wr_u8, wr_u64, convI_int, unV_not, boolB_eql, boolB_neq, pickV_true, pickV_false, lenSl_slice, ptr_at, fwdP_at, ixArr_at, load1_own, loadA_own, storeN_own, T.get_upd_same, T.get_upd_ne, cellsIn_some, putIn_cells, tl, ts, if_pos, Nat.zero_add, Nat.mul_one, Nat.add_zero, Int.toNat_natCast, ↓reduceIte, Nat.reduceLeDiff, Nat.reduceAdd, Nat.le_refl, nilCk_at, gp, ga, addmod, ix_own1, putC_get] <;> rfl) ?_ | refine newP_mk ?_ | refine optP_mk ?_ | with_reducible refine condP_t ?_ | with_reducible refine condP_f ?_ | with_reducible refine ifP_tt' ?_ | with_reducible refine ifP_ff' ?_ | with_reducible refine ifP_tf' ?_ | with_reducible refine ifP_ft' ?_ | with_reducible refine ifP_u' ?_ | refine optP_mk0 ?_))
  refine ⟨h, Sub.refl _, ?_⟩
  have e : (now : Int) - (put.getD ((first + i) % n) 0 : Nat) + 1 = (L.getD i 0 : Nat) := by omega
  rw [e]
  exact hK _ (by omega)
theorem ring_Len_c {ro : Ro} {h : T Obj} {p a n w nx : Nat} {L : List Nat} {K : KV} (hR : RI h p a n L w) (hK : ∀ nx', nx ≤ nx' → K (.int .i64 (L.length : Nat)) h nx') : callP Tryz.prog ro i_ring_Ring_Len [ptr p] h nx K := by
  obtain ⟨put, first, now, gp, ga, hne, hpl, h1, h2, h3, h4, h5, hrel, hpw, hb⟩ := hR
  apply ring_Ring_Len_of
  unfold ring_Ring_Len
  (repeat (first | refine bindP_mk (by simp (disch := first | omega | exact Int.natCast_nonneg _ | assumption) only [decide_true, decide_false, Bool.not_true, Bool.not_false, newP_eq, optP_some, optP_none, bindP_some', condP_true, condP_false, ifP_tt, ifP_ff, ifP_tf, ifP_ft, exP_normal, exP_exit, exP_ret, beqP_true, beqP_false, Option.bind_some, Value.cells_agg, cells_int, cells_bool, intB_add, intB_sub, intB_mul, intB_quo, intB_rem, intB_eql, intB_neq, intB_lss, intB_leq, intB_gtr, intB_geq, intB_shr_u64, intB_shl1_u64, intB_and64, intB_or64, intB_xor64, wr_i64, wr_u8, wr_u64, convI_int, unV_not, boolB_eql, boolB_neq, pickV_true, pickV_false, lenSl_slice, ptr_at, fwdP_at, ixArr_at, load1_own, loadA_own, storeN_own, T.get_upd_same, T.get_upd_ne, cellsIn_some, putIn_cells, tl, ts, if_pos, Nat.zero_add, Nat.mul_one, Nat.add_zero, Int.toNat_natCast, ↓reduceIte, Nat.reduceLeDiff, Nat.reduceAdd, Nat.le_refl, ptrB_eql_at, nilCk_at, gp, ga] <;> rfl) ?_ | refine newP_mk ?_ | refine optP_mk ?_ | with_reducible refine condP_t ?_ | with_reducible refine condP_f ?_ | with_reducible refine ifP_tt' ?_ | with_reducible refine ifP_ff' ?_ | with_reducible refine ifP_tf' ?_ | with_reducible refine ifP_ft' ?_ | with_reducible refine ifP_u' ?_ | refine optP_mk0 ?_))
  exact ⟨h, Sub.refl _, hK _ (by omega)⟩
theorem ring_Work_c {ro : Ro} {h : T Obj} {p a n w nx : Nat} {L : List Nat} {K : KV} (hR : RI h p a n L w) (hK : ∀ nx', nx ≤ nx' → K (.int .i64 (w : Nat)) h nx') : callP Tryz.prog ro i_ring_Ring_Work [ptr p] h nx K := by
  obtain ⟨put, first, now, gp, ga, hne, hpl, h1, h2, h3, h4, h5, hrel, hpw, hb⟩ := hR
  apply ring_Ring_Work_of
  unfold ring_Ring_Work
  (repeat (first | refine bindP_mk (by simp (disch := first | omega | exact Int.natCast_nonneg _ | assumption) only [decide_true, decide_false, Bool.not_true, Bool.not_false, newP_eq, optP_some, optP_none, bindP_some', condP_true, condP_false, ifP_tt, ifP_ff, ifP_tf, ifP_ft, exP_normal, exP_exit, exP_ret, beqP_true, beqP_false, Option.bind_some, Value.cells_agg, cells_int, cells_bool, intB_add, intB_sub, intB_mul, intB_quo, intB_rem, intB_eql, intB_neq, intB_lss, intB_leq, intB_gtr, intB_geq, intB_shr_u64, intB_shl1_u64, intB_and64, intB_or64, intB_xor64, wr_i64, wr_u8, wr_u64, convI_int, unV_not, boolB_eql, boolB_neq, pickV_true, pickV_false, lenSl_slice, ptr_at, fwdP_at, ixArr_at, load1_own, loadA_own, storeN_own, T.get_upd_same, T.get_upd_ne, cellsIn_some, putIn_cells, tl, ts, if_pos, Nat.zero_add, Nat.mul_one, Nat.add_zero, Int.toNat_natCast, ↓reduceIte, Nat.reduceLeDiff, Nat.reduceAdd, Nat.le_refl, ptrB_eql_at, nilCk_at, gp, ga] <;> rfl) ?_ | refine newP_mk ?_ | refine optP_mk ?_ | with_reducible refine condP_t ?_ | with_reducible refine condP_f ?_ | with_reducible refine ifP_tt' ?_ | with_reducible refine ifP_ff' ?_ | with_reducible refine ifP_tf' ?_ | with_reducible refine ifP_ft' ?_ | with_reducible refine ifP_u' ?_ | refine optP_mk0 ?_))
  exact ⟨h, Sub.refl _, hK _ (by omega)⟩
def greatV (L : List Nat) : Value := if L.length = 0 then .tuple #[.int .i64 0, .bool false] else .tuple #[.int .i64 (L.getD 0 0 : Nat), .bool true]
def leastV (L : List Nat) : Value := if L.length = 0 then .tuple #[.int .i64 0, .bool false] else .tuple #[.int .i64 (L.getD (L.length - 1) 0 : Nat), .bool true]
theorem ring_Max_c {ro : Ro} {h : T Obj} {p a n w nx : Nat} {L : List Nat} {K : KV} (hR : RI h p a n L w) (hK : ∀ nx', nx ≤ nx' → K (greatV L) h nx') : callP Tryz.prog ro i_ring_Ring_Max [ptr p] h nx K := by
  apply ring_Ring_Max_of
  unfold ring_Ring_Max
  refine ring_Len_c hR fun n2 hn2 => ?_
  (repeat (first | refine bindP_mk (by simp (disch := first | omega | exact Int.natCast_nonneg _ | assumption) only [decide_true, decide_false, Bool.not_true, Bool.not_false, newP_eq, optP_some, optP_none, bindP_some', condP_true, condP_false, ifP_tt, ifP_ff, ifP_tf, ifP_ft, exP_normal, exP_exit, exP_ret, beqP_true, beqP_false, Option.bind_some, Value.cells_agg, cells_int, cells_bool, intB_add, intB_sub, intB_mul, intB_quo, intB_rem, intB_eql, intB_neq, intB_lss, intB_leq, intB_gtr, intB_geq, intB_shr_u64, intB_shl1_u64, intB_and64, intB_or64, intB_xor64, wr_i64, wr_u8, wr_u64, convI_int, unV_not, boolB_eql, boolB_neq, pickV_true, pickV_false, lenSl_slice, ptr_at, fwdP_at, ixArr_at, load1_own, loadA_own, storeN_own, T.get_upd_same, T.get_upd_ne, cellsIn_some, putIn_cells, tl, ts, if_pos, Nat.zero_add, Nat.mul_one, Nat.add_zero, Int.toNat_natCast, ↓reduceIte, Nat.reduceLeDiff, Nat.reduceAdd, Nat.le_refl] <;> rfl) ?_ | refine newP_mk ?_ | refine optP_mk ?_ | with_reducible refine condP_t ?_ | with_reducible refine condP_f ?_ | with_reducible refine ifP_tt' ?_ | with_reducible refine ifP_ff' ?_ | with_reducible refine ifP_tf' ?_ | with_reducible refine ifP_ft' ?_ | with_reducible refine ifP_u' ?_ | refine optP_mk0 ?_))
  unfold greatV at hK
  by_cases h0 : L.length = 0
  · refine condP_tr (by simp [h0]) ?_
    rw [if_pos h0] at hK
    exact ⟨h, Sub.refl _, hK _ (by omega)⟩
  · refine condP_fa (decide_eq_false (by omega)) ?_
    rw [if_neg h0] at hK
    refine ring_count_c (i := 0) hR (by omega) fun n3 hn3 => ?_
    exact ⟨h, Sub.refl _, hK _ (by omega)⟩
theorem ring_Min_c {ro : Ro} {h : T Obj} {p a n w nx : Nat} {L : List Nat} {K : KV} (hR : RI h p a n L w) (hK : ∀ nx', nx ≤ nx' → K (leastV L) h nx') : callP Tryz.prog ro i_ring_Ring_Min [ptr p] h nx K := by
  apply ring_Ring_Min_of
  unfold ring_Ring_Min
  refine ring_Len_c hR fun n2 hn2 => ?_
  (repeat (first | refine bindP_mk (by simp (disch := first | omega | exact Int.natCast_nonneg _ | assumption) only [decide_true, decide_false, Bool.not_true, Bool.not_false, newP_eq, optP_some, optP_none, bindP_some', condP_true, condP_false, ifP_tt, ifP_ff, ifP_tf, ifP_ft, exP_normal, exP_exit, exP_ret, beqP_true, beqP_false, Option.bind_some, Value.cells_agg, cells_int, cells_bool, intB_add, intB_sub, intB_mul, intB_quo, intB_rem, intB_eql, intB_neq, intB_lss, intB_leq, intB_gtr, intB_geq, intB_shr_u64, intB_shl1_u64, intB_and64, intB_or64, intB_xor64, wr_i64, wr_u8, wr_u64, convI_int, unV_not, boolB_eql, boolB_neq, pickV_true, pickV_false, lenSl_slice, ptr_at, fwdP_at, ixArr_at, load1_own, loadA_own, storeN_own, T.get_upd_same, T.get_upd_ne, cellsIn_some, putIn_cells, tl, ts, if_pos, Nat.zero_add, Nat.mul_one, Nat.add_zero, Int.toNat_natCast, ↓reduceIte, Nat.reduceLeDiff, Nat.reduceAdd, Nat.le_refl] <;> rfl) ?_ | refine newP_mk ?_ | refine optP_mk ?_ | with_reducible refine condP_t ?_ | with_reducible refine condP_f ?_ | with_reducible refine ifP_tt' ?_ | with_reducible refine ifP_ff' ?_ | with_reducible refine ifP_tf' ?_ | with_reducible refine ifP_ft' ?_ | with_reducible refine ifP_u' ?_ | refine optP_mk0 ?_))
  unfold leastV at hK
  by_cases h0 : L.length = 0
  · refine condP_tr (by simp [h0]) ?_
    rw [if_pos h0] at hK
    exact ⟨h, Sub.refl _, hK _ (by omega)⟩
  · refine condP_fa (decide_eq_false (by omega)) ?_
    rw [if_neg h0] at hK
    have hR' := hR
    have hln := hR.len
    obtain ⟨put, first, now, gp, ga, hne, hpl, h1, h2, h3, h4, h5, hrel, hpw, hb⟩ := hR
    (repeat (first | refine bindP_mk (by simp (disch := first | omega | exact Int.natCast_nonneg _ | assumption) only [decide_true, decide_false, Bool.not_true, Bool.not_false, newP_eq, optP_some, optP_none, bindP_some', condP_true, condP_false, ifP_tt, ifP_ff, ifP_tf, ifP_ft, exP_normal, exP_exit, exP_ret, beqP_true, beqP_false, Option.bind_some, Value.cells_agg, cells_int, cells_bool, intB_add, intB_sub, intB_mul, intB_quo, intB_rem, intB_eql, intB_neq, intB_lss, intB_leq, intB_gtr, intB_geq, intB_shr_u64, intB_shl1_u64, intB_and64, intB_or64, intB_xor64, wr_i64, wr_u8, wr_u64, convI_int, unV_not, boolB_eql, boolB_neq, pickV_true, pickV_false, lenSl_slice, ptr_at, fwdP_at, ixArr_at, load1_own, loadA_own, storeN_own, T.get_upd_same, T.get_upd_ne, cellsIn_some, putIn_cells, tl, ts, if_pos, Nat.zero_add, Nat.mul_one, Nat.add_zero, Int.toNat_natCast, ↓reduceIte, Nat.reduceLeDiff, Nat.reduceAdd, Nat.le_refl, nilCk_at, gp] <;> rfl) ?_ | refine newP_mk ?_ | refine optP_mk ?_ | with_reducible refine condP_t ?_ | with_reducible refine condP_f ?_ | with_reducible refine ifP_tt' ?_ | with_reducible refine ifP_ff' ?_ | with_reducible refine ifP_tf' ?_ | with_reducible refine ifP_ft' ?_ | with_reducible refine ifP_u' ?_ | refine optP_mk0 ?_))
    have e : (L.length : Int) - 1 = ((L.length - 1 : Nat) : Int) := by omega
    rw [e]
    refine ring_count_c (i := L.length - 1) hR' (by omega) fun n3 hn3 => ?_
    exact ⟨h, Sub.refl _, hK _ (by omega)⟩
def putL (L : List Nat) : List Nat := if L.getD (L.length - 1) 0 = 1 then L else L ++ [1]
theorem put_other {L : List Nat} (h : L.getD (L.length - 1) 0 ≠ 1) : putL L = L ++ [1] := if_neg h
theorem last_mem {L : List Nat} {x : Nat} (hx : x ∈ L) (hp : L.Pairwise (fun x y => y < x)) : L.getD (L.length - 1) 0 ≤ x := by
  obtain ⟨i, hi, rfl⟩ := List.getElem_of_mem hx
  have h1 : L.getD (L.length - 1) 0 = L[L.length - 1] := by simp [List.getD, List.getElem?_eq_getElem (show L.length - 1 < L.length by omega)]
  rw [h1]
  rcases Nat.lt_or_ge i (L.length - 1) with h2 | h2
  · exact Nat.le_of_lt (List.pairwise_iff_getElem.1 hp i (L.length - 1) hi (by omega) h2)
  · have : i = L.length - 1 := by omega
    subst this; exact Nat.le_refl _
theorem put_two {L : List Nat} {n : Nat} (h : L.getD (L.length - 1) 0 ≠ 1) (hp : L.Pairwise (fun x y => y < x)) (hb : ∀ x ∈ L, 1 ≤ x ∧ x ≤ n) : ∀ x ∈ L, 2 ≤ x ∧ x ≤ n := fun x hx => by
  have h1 := last_mem hx hp
  have h2 := hb x hx
  have h3 : L.getD (L.length - 1) 0 ∈ L := by
    obtain ⟨i, hi, _⟩ := List.getElem_of_mem hx
    have h1 : L.getD (L.length - 1) 0 = L[L.length - 1] := by simp [List.getD, List.getElem?_eq_getElem (show L.length - 1 < L.length by omega)]
    rw [h1]; exact List.getElem_mem _
  have := hb _ h3
  omega
theorem put_room {L : List Nat} {n : Nat} (hn : 1 ≤ n) (h : L.getD (L.length - 1) 0 ≠ 1) (hp : L.Pairwise (fun x y => y < x)) (hb : ∀ x ∈ L, 1 ≤ x ∧ x ≤ n) : L.length < n := by
  rcases dec_len (lo := 2) (by omega) hp (put_two h hp hb) with h9 | h9
  · omega
  · subst h9; exact hn
theorem put_dec {L : List Nat} {n : Nat} (h : L.getD (L.length - 1) 0 ≠ 1) (hp : L.Pairwise (fun x y => y < x)) (hb : ∀ x ∈ L, 1 ≤ x ∧ x ≤ n) : (L ++ [1]).Pairwise (fun x y => y < x) := by
  rw [List.pairwise_append]
  refine ⟨hp, List.pairwise_singleton .., fun x hx y hy => ?_⟩
  have := put_two h hp hb x hx
  rw [List.mem_singleton] at hy
  omega
theorem put_in {L : List Nat} {n : Nat} (hn : 1 ≤ n) (hb : ∀ x ∈ L, 1 ≤ x ∧ x ≤ n) : ∀ x ∈ L ++ [1], 1 ≤ x ∧ x ≤ n := fun x hx => by
  rw [List.mem_append, List.mem_singleton] at hx
  rcases hx with hx | rfl
  · exact hb x hx
  · omega
theorem mod_inj {f i j n : Nat} (hi : i < n) (hj : j < n) (he : (f + i) % n = (f + j) % n) : i = j := by
  have h1 := Nat.div_add_mod (f + i) n
  have h2 := Nat.div_add_mod (f + j) n
  rcases Nat.lt_trichotomy ((f + i) / n) ((f + j) / n) with h | h | h
  · have := Nat.mul_le_mul_left n (show (f + i) / n + 1 ≤ (f + j) / n from h)
    rw [Nat.mul_add] at this; omega
  · rw [h] at h1; omega
  · have := Nat.mul_le_mul_left n (show (f + j) / n + 1 ≤ (f + i) / n from h)
    rw [Nat.mul_add] at this; omega
theorem put_rel {L put : List Nat} {n first now : Nat} (hpl : put.length = n) (hf : first < n) (hr : L.length < n) (hrel : ∀ i, i < L.length → put.getD ((first + i) % n) 0 + L.getD i 0 = now + 1) :
    ∀ i, i < (L ++ [1]).length → (put.set ((first + L.length) % n) now).getD ((first + i) % n) 0 + (L ++ [1]).getD i 0 = now + 1 := fun i hi => by
  have hm : (first + i) % n < n := Nat.mod_lt _ (by omega)
  rw [List.length_append, List.length_singleton] at hi
  rcases Nat.lt_or_ge i L.length with h1 | h1
  · have hne : (first + L.length) % n ≠ (first + i) % n := fun e => by have := mod_inj hr (by omega) e; omega
    have e1 : (put.set ((first + L.length) % n) now).getD ((first + i) % n) 0 = put.getD ((first + i) % n) 0 := by simp [List.getD, List.getElem?_set_ne hne]
    have e2 : (L ++ [1]).getD i 0 = L.getD i 0 := by simp [List.getD, List.getElem?_append_left h1]
    rw [e1, e2]; exact hrel i h1
  · have : i = L.length := by omega
    subst this
    have e1 : (put.set ((first + L.length) % n) now).getD ((first + L.length) % n) 0 = now := by simp [List.getD, List.getElem?_set_self, hpl, hm]
    have e2 : (L ++ [1]).getD L.length 0 = 1 := by simp [List.getD]
    rw [e1, e2]
set_option maxRecDepth 4000 in
theorem ring_Put_c {ro : Ro} {h : T Obj} {p a n w nx : Nat} {L : List Nat} {K : KV} (hR : RI h p a n L w) (hw : w + 1 ≤ 1000000) (hK : ∀ h' nx', nx ≤ nx' → RI h' p a n (putL L) (w + 1) → Only h h' p a → K (.tuple #[]) h' nx') : callP Tryz.prog ro i_ring_Ring_Put [ptr p] h nx K := by
  have hln := hR.len
  obtain ⟨put, first, now, gp, ga, hne, hpl, b1, b2, b3, b4, b5, hrel, hpw, hb⟩ := hR
  apply ring_Ring_Put_of
  unfold ring_Ring_Put
  (repeat (first | refine bindP_mk (by simp (disch := first | omega | exact Int.natCast_nonneg _ | assumption) only [decide_true, decide_false, Bool.not_true, Bool.not_false, newP_eq, optP_some, optP_none, bindP_some', condP_true, condP_false, ifP_tt, ifP_ff, ifP_tf, ifP_ft, exP_normal, exP_exit, exP_ret, beqP_true, beqP_false, Option.bind_some, Value.cells_agg, cells_int, cells_bool, intB_add, intB_sub, intB_mul, intB_quo, intB_rem, intB_eql, intB_neq, intB_lss, intB_leq, intB_gtr, intB_geq, intB_shr_u64, intB_shl1_u64, intB_and64, intB_or64, intB_xor64, wr_i64, wr_u8, wr_u64, convI_int, unV_not, boolB_eql, boolB_neq, pickV_true, pickV_false, lenSl_slice, ptr_at, fwdP_at, ixArr_at, load1_own, loadA_own, storeN_own, T.get_upd_same, T.get_upd_ne, cellsIn_some, putIn_cells, tl, ts, if_pos, Nat.zero_add, Nat.mul_one, Nat.add_zero, Int.toNat_natCast, ↓reduceIte, Nat.reduceLeDiff, Nat.reduceAdd, Nat.le_refl, ptrB_eql_at, nilCk_at, gp, ga] <;> rfl) ?_ | refine newP_mk ?_ | refine optP_mk ?_ | with_reducible refine condP_t ?_ | with_reducible refine condP_f ?_ | with_reducible refine ifP_tt' ?_ | with_reducible refine ifP_ff' ?_ | with_reducible refine ifP_tf' ?_ | with_reducible refine ifP_ft' ?_ | with_reducible refine ifP_u' ?_ | refine optP_mk0 ?_))
  have gp1 : (h.upd p (some (.cells (over (ringC a n first L.length now w).toArray.toList 4 [.int .i64 ((w : Int) + 1)]).toArray y_ring_Ring))).get p = some (.cells (ringC a n first L.length now (w + 1)).toArray y_ring_Ring) := by
    rw [T.get_upd_same]; rfl
  have ga1 : (h.upd p (some (.cells (over (ringC a n first L.length now w).toArray.toList 4 [.int .i64 ((w : Int) + 1)]).toArray y_ring_Ring))).get a = some (.cells (putC put).toArray y_int) := by rw [T.get_upd_ne _ _ (Ne.symm hne)]; exact ga
  have ho1 : Only h (h.upd p (some (.cells (over (ringC a n first L.length now w).toArray.toList 4 [.int .i64 ((w : Int) + 1)]).toArray y_ring_Ring))) p a := fun k k1 k2 => by rw [T.get_upd_ne _ _ k1]
  generalize (h.upd p (some (.cells (over (ringC a n first L.length now w).toArray.toList 4 [.int .i64 ((w : Int) + 1)]).toArray y_ring_Ring))) = h1 at gp1 ga1 ho1
  have hR1 : RI h1 p a n L (w + 1) := ⟨put, first, now, gp1, ga1, hne, hpl, b1, b2, b3, by omega, hw, hrel, hpw, hb⟩
  (repeat (first | refine bindP_mk (by simp (disch := first | omega | exact Int.natCast_nonneg _ | assumption) only [decide_true, decide_false, Bool.not_true, Bool.not_false, newP_eq, optP_some, optP_none, bindP_some', condP_true, condP_false, ifP_tt, ifP_ff, ifP_tf, ifP_ft, exP_normal, exP_exit, exP_ret, beqP_true, beqP_false, Option.bind_some, Value.cells_agg, cells_int, cells_bool, intB_add, intB_sub, intB_mul, intB_quo, intB_rem, intB_eql, intB_neq, intB_lss, intB_leq, intB_gtr, intB_geq, intB_shr_u64, intB_shl1_u64, intB_and64, intB_or64, intB_xor64, wr_i64, wr_u8, wr_u64, convI_int, unV_not, boolB_eql, boolB_neq, pickV_true, pickV_false, lenSl_slice, ptr_at, fwdP_at, ixArr_at, load1_own, loadA_own, storeN_own, T.get_upd_same, T.get_upd_ne, cellsIn_some, putIn_cells, tl, ts, if_pos, Nat.zero_add, Nat.mul_one, Nat.add_zero, Int.toNat_natCast, ↓reduceIte, Nat.reduceLeDiff, Nat.reduceAdd, Nat.le_refl, nilCk_at, gp1] <;> rfl) ?_ | refine newP_mk ?_ | refine optP_mk ?_ | with_reducible refine condP_t ?_ | with_reducible refine condP_f ?_ | with_reducible refine ifP_tt' ?_ | with_reducible refine ifP_ff' ?_ | with_reducible refine ifP_tf' ?_ | with_reducible refine ifP_ft' ?_ | with_reducible refine ifP_u' ?_ | refine optP_mk0 ?_))
  rcases Nat.eq_zero_or_pos L.length with hm | hm
  · have d : decide ((0 : Int) < (L.length : Int)) = false := decide_eq_false (by omega)
    rw [d]
    have hlast : L.getD (L.length - 1) 0 ≠ 1 := by
      have : L = [] := List.length_eq_zero_iff.1 hm
      subst this; decide
    (repeat (first | refine bindP_mk (by simp (disch := first | omega | exact Int.natCast_nonneg _ | assumption) only [decide_true, decide_false, Bool.not_true, Bool.not_false, newP_eq, optP_some, optP_none, bindP_some', condP_true, condP_false, ifP_tt, ifP_ff, ifP_tf, ifP_ft, exP_normal, exP_exit, exP_ret, beqP_true, beqP_false, Option.bind_some, Value.cells_agg, cells_int, cells_bool, intB_add, intB_sub, intB_mul, intB_quo, intB_rem, intB_eql, intB_neq, intB_lss, intB_leq, intB_gtr, intB_geq, intB_shr_u64, intB_shl1_u64, intB_and64, intB_or64, intB_xor64, wr_i64, wr_u8, wr_u64, convI_int, unV_not, boolB_eql, boolB_neq, pickV_true, pickV_false, lenSl_slice, ptr_at, fwdP_at, ixArr_at, load1_own, loadA_own, storeN_own, T.get_upd_same, T.get_upd_ne, cellsIn_some, putIn_cells, tl, ts, if_pos, Nat.zero_add, Nat.mul_one, Nat.add_zero, Int.toNat_natCast, ↓reduceIte, Nat.reduceLeDiff, Nat.reduceAdd, Nat.le_refl] <;> rfl) ?_ | refine newP_mk ?_ | refine optP_mk ?_ | with_reducible refine condP_t ?_ | with_reducible refine condP_f ?_ | with_reducible refine ifP_tt' ?_ | with_reducible refine ifP_ff' ?_ | with_reducible refine ifP_tf' ?_ | with_reducible refine ifP_ft' ?_ | with_reducible refine ifP_u' ?_ | refine optP_mk0 ?_))
    (repeat (first | refine bindP_mk (by simp (disch := first | omega | exact Int.natCast_nonneg _ | assumption) only [decide_true, decide_false, Bool.not_true, Bool.not_false, newP_eq, optP_some, optP_none, bindP_some', condP_true, condP_false, ifP_tt, ifP_ff, ifP_tf, ifP_ft, exP_normal, exP_exit, exP_ret, beqP_true, beqP_false, Option.bind_some, Value.cells_agg, cells_int, cells_bool, intB_add, intB_sub, intB_mul, intB_quo, intB_rem, intB_eql, intB_neq, intB_lss, intB_leq, intB_gtr, intB_geq, intB_shr_u64, intB_shl1_u64, intB_and64, intB_or64, intB_xor64, wr_i64, wr_u8, wr_u64, convI_int, unV_not, boolB_eql, boolB_neq, pickV_true, pickV_false, lenSl_slice, ptr_at, fwdP_at, ixArr_at, load1_own, loadA_own, storeN_own, T.get_upd_same, T.get_upd_ne, cellsIn_some, putIn_cells, tl, ts, if_pos, Nat.zero_add, Nat.mul_one, Nat.add_zero, Int.toNat_natCast, ↓reduceIte, Nat.reduceLeDiff, Nat.reduceAdd, Nat.le_refl, nilCk_at, gp1, addmod] <;> rfl) ?_ | refine newP_mk ?_ | refine optP_mk ?_ | with_reducible refine condP_t ?_ | with_reducible refine condP_f ?_ | with_reducible refine ifP_tt' ?_ | with_reducible refine ifP_ff' ?_ | with_reducible refine ifP_tf' ?_ | with_reducible refine ifP_ft' ?_ | with_reducible refine ifP_u' ?_ | refine optP_mk0 ?_))
    have hcase : (first + L.length) % n < n := Nat.mod_lt _ (by omega)
    refine bindP_mk (ix_own1 _ _ _ _ hcase) ?_
    refine bindP_mk (store1_own (v := .int .i64 _) (l := putC put) ga1 (by rw [putC_len]; omega) rfl rfl) ?_
    rw [putC_set]
    have gp2 : (h1.upd a (some (.cells (putC (put.set ((first + L.length) % n) now)).toArray y_int))).get p = some (.cells (ringC a n first L.length now (w + 1)).toArray y_ring_Ring) := by rw [T.get_upd_ne _ _ hne]; exact gp1
    have ga2 : (h1.upd a (some (.cells (putC (put.set ((first + L.length) % n) now)).toArray y_int))).get a = some (.cells (putC (put.set ((first + L.length) % n) now)).toArray y_int) := T.get_upd_same _ _ _
    have ho2 : Only h (h1.upd a (some (.cells (putC (put.set ((first + L.length) % n) now)).toArray y_int))) p a := fun k k1 k2 => by rw [T.get_upd_ne _ _ k2]; exact ho1 k k1 k2
    generalize (h1.upd a (some (.cells (putC (put.set ((first + L.length) % n) now)).toArray y_int))) = h2 at gp2 ga2 ho2
    (repeat (first | refine bindP_mk (by simp (disch := first | omega | exact Int.natCast_nonneg _ | assumption) only [decide_true, decide_false, Bool.not_true, Bool.not_false, newP_eq, optP_some, optP_none, bindP_some', condP_true, condP_false, ifP_tt, ifP_ff, ifP_tf, ifP_ft, exP_normal, exP_exit, exP_ret, beqP_true, beqP_false, Option.bind_some, Value.cells_agg, cells_int, cells_bool, intB_add, intB_sub, intB_mul, intB_quo, intB_rem, intB_eql, intB_neq, intB_lss, intB_leq, intB_gtr, intB_geq, intB_shr_u64, intB_shl1_u64, intB_and64, intB_or64, intB_xor64, wr_i64, wr_u8, wr_u64, convI_int, unV_not, boolB_eql, boolB_neq, pickV_true, pickV_false, lenSl_slice, ptr_at, fwdP_at, ixArr_at, load1_own, loadA_own, storeN_own, T.get_upd_same, T.get_upd_ne, cellsIn_some, putIn_cells, tl, ts, if_pos, Nat.zero_add, Nat.mul_one, Nat.add_zero, Int.toNat_natCast, ↓reduceIte, Nat.reduceLeDiff, Nat.reduceAdd, Nat.le_refl, nilCk_at, gp2] <;> rfl) ?_ | refine newP_mk ?_ | refine optP_mk ?_ | with_reducible refine condP_t ?_ | with_reducible refine condP_f ?_ | with_reducible refine ifP_tt' ?_ | with_reducible refine ifP_ff' ?_ | with_reducible refine ifP_tf' ?_ | with_reducible refine ifP_ft' ?_ | with_reducible refine ifP_u' ?_ | refine optP_mk0 ?_))
    have gp3 : (h2.upd p (some (.cells (over (ringC a n first L.length now (w + 1)).toArray.toList 2 [.int .i64 ((L.length : Int) + 1)]).toArray y_ring_Ring))).get p = some (.cells (ringC a n first (L ++ [1]).length now (w + 1)).toArray y_ring_Ring) := by
      rw [T.get_upd_same, List.length_append]; rfl
    refine ⟨_, Sub.refl _, hK _ _ (by omega) ?_ ?_⟩
    · rw [put_other hlast]
      exact ⟨put.set ((first + L.length) % n) now, first, now, gp3, by rw [T.get_upd_ne _ _ (Ne.symm hne)]; exact ga2, hne, by rw [List.length_set]; exact hpl, b1, b2, b3, by omega, hw, put_rel hpl b3 (put_room b1 hlast hpw hb) hrel, put_dec hlast hpw hb, put_in b1 hb⟩
    · exact fun k k1 k2 => by rw [T.get_upd_ne _ _ k1]; exact ho2 k k1 k2
  · have d : decide ((0 : Int) < (L.length : Int)) = true := decide_eq_true (by omega)
    rw [d]
    (repeat (first | refine bindP_mk (by simp (disch := first | omega | exact Int.natCast_nonneg _ | assumption) only [decide_true, decide_false, Bool.not_true, Bool.not_false, newP_eq, optP_some, optP_none, bindP_some', condP_true, condP_false, ifP_tt, ifP_ff, ifP_tf, ifP_ft, exP_normal, exP_exit, exP_ret, beqP_true, beqP_false, Option.bind_some, Value.cells_agg, cells_int, cells_bool, intB_add, intB_sub, intB_mul, intB_quo, intB_rem, intB_eql, intB_neq, intB_lss, intB_leq, intB_gtr, intB_geq, intB_shr_u64, intB_shl1_u64, intB_and64, intB_or64, intB_xor64, wr_i64, wr_u8, wr_u64, convI_int, unV_not, boolB_eql, boolB_neq, pickV_true, pickV_false, lenSl_slice, ptr_at, fwdP_at, ixArr_at, load1_own, loadA_own, storeN_own, T.get_upd_same, T.get_upd_ne, cellsIn_some, putIn_cells, tl, ts, if_pos, Nat.zero_add, Nat.mul_one, Nat.add_zero, Int.toNat_natCast, ↓reduceIte, Nat.reduceLeDiff, Nat.reduceAdd, Nat.le_refl, nilCk_at, gp1] <;> rfl) ?_ | refine newP_mk ?_ | refine optP_mk ?_ | with_reducible refine condP_t ?_ | with_reducible refine condP_f ?_ | with_reducible refine ifP_tt' ?_ | with_reducible refine ifP_ff' ?_ | with_reducible refine ifP_tf' ?_ | with_reducible refine ifP_ft' ?_ | with_reducible refine ifP_u' ?_ | refine optP_mk0 ?_))
    have e : (L.length : Int) - 1 = ((L.length - 1 : Nat) : Int) := by omega
    rw [e]
    refine ring_count_c (i := L.length - 1) hR1 (by omega) fun n4 hn4 => ?_
    (repeat (first | refine bindP_mk (by simp (disch := first | omega | exact Int.natCast_nonneg _ | assumption) only [decide_true, decide_false, Bool.not_true, Bool.not_false, newP_eq, optP_some, optP_none, bindP_some', condP_true, condP_false, ifP_tt, ifP_ff, ifP_tf, ifP_ft, exP_normal, exP_exit, exP_ret, beqP_true, beqP_false, Option.bind_some, Value.cells_agg, cells_int, cells_bool, intB_add, intB_sub, intB_mul, intB_quo, intB_rem, intB_eql, intB_neq, intB_lss, intB_leq, intB_gtr, intB_geq, intB_shr_u64, intB_shl1_u64, intB_and64, intB_or64, intB_xor64, wr_i64, wr_u8, wr_u64, convI_int, unV_not, boolB_eql, boolB_neq, pickV_true, pickV_false, lenSl_slice, ptr_at, fwdP_at, ixArr_at, load1_own, loadA_own, storeN_own, T.get_upd_same, T.get_upd_ne, cellsIn_some, putIn_cells, tl, ts, if_pos, Nat.zero_add, Nat.mul_one, Nat.add_zero, Int.toNat_natCast, ↓reduceIte, Nat.reduceLeDiff, Nat.reduceAdd, Nat.le_refl] <;> rfl) ?_ | refine newP_mk ?_ | refine optP_mk ?_ | with_reducible refine condP_t ?_ | with_reducible refine condP_f ?_ | with_reducible refine ifP_tt' ?_ | with_reducible refine ifP_ff' ?_ | with_reducible refine ifP_tf' ?_ | with_reducible refine ifP_ft' ?_ | with_reducible refine ifP_u' ?_ | refine optP_mk0 ?_))
    by_cases hlast : L.getD (L.length - 1) 0 = 1
    · rw [decide_eq_true (show ((L.getD (L.length - 1) 0 : Nat) : Int) = 1 by omega)]
      (repeat (first | refine bindP_mk (by simp (disch := first | omega | exact Int.natCast_nonneg _ | assumption) only [decide_true, decide_false, Bool.not_true, Bool.not_false, newP_eq, optP_some, optP_none, bindP_some', condP_true, condP_false, ifP_tt, ifP_ff, ifP_tf, ifP_ft, exP_normal, exP_exit, exP_ret, beqP_true, beqP_false, Option.bind_some, Value.cells_agg, cells_int, cells_bool, intB_add, intB_sub, intB_mul, intB_quo, intB_rem, intB_eql, intB_neq, intB_lss, intB_leq, intB_gtr, intB_geq, intB_shr_u64, intB_shl1_u64, intB_and64, intB_or64, intB_xor64, wr_i64, wr_u8, wr_u64, convI_int, unV_not, boolB_eql, boolB_neq, pickV_true, pickV_false, lenSl_slice, ptr_at, fwdP_at, ixArr_at, load1_own, loadA_own, storeN_own, T.get_upd_same, T.get_upd_ne, cellsIn_some, putIn_cells, tl, ts, if_pos, Nat.zero_add, Nat.mul_one, Nat.add_zero, Int.toNat_natCast, ↓reduceIte, Nat.reduceLeDiff, Nat.reduceAdd, Nat.le_refl] <;> rfl) ?_ | refine newP_mk ?_ | refine optP_mk ?_ | with_reducible refine condP_t ?_ | with_reducible refine condP_f ?_ | with_reducible refine ifP_tt' ?_ | with_reducible refine ifP_ff' ?_ | with_reducible refine ifP_tf' ?_ | with_reducible refine ifP_ft' ?_ | with_reducible refine ifP_u' ?_ | refine optP_mk0 ?_))
      refine ⟨_, Sub.refl _, hK _ _ (by omega) ?_ ho1⟩
      unfold putL
      rw [if_pos hlast]
      exact hR1
    rw [decide_eq_false (show ¬ ((L.getD (L.length - 1) 0 : Nat) : Int) = 1 by omega)]
    (repeat (first | refine bindP_mk (by simp (disch := first | omega | exact Int.natCast_nonneg _ | assumption) only [decide_true, decide_false, Bool.not_true, Bool.not_false, newP_eq, optP_some, optP_none, bindP_some', condP_true, condP_false, ifP_tt, ifP_ff, ifP_tf, ifP_ft, exP_normal, exP_exit, exP_ret, beqP_true, beqP_false, Option.bind_some, Value.cells_agg, cells_int, cells_bool, intB_add, intB_sub, intB_mul, intB_quo, intB_rem, intB_eql, intB_neq, intB_lss, intB_leq, intB_gtr, intB_geq, intB_shr_u64, intB_shl1_u64, intB_and64, intB_or64, intB_xor64, wr_i64, wr_u8, wr_u64, convI_int, unV_not, boolB_eql, boolB_neq, pickV_true, pickV_false, lenSl_slice, ptr_at, fwdP_at, ixArr_at, load1_own, loadA_own, storeN_own, T.get_upd_same, T.get_upd_ne, cellsIn_some, putIn_cells, tl, ts, if_pos, Nat.zero_add, Nat.mul_one, Nat.add_zero, Int.toNat_natCast, ↓reduceIte, Nat.reduceLeDiff, Nat.reduceAdd, Nat.le_refl] <;> rfl) ?_ | refine newP_mk ?_ | refine optP_mk ?_ | with_reducible refine condP_t ?_ | with_reducible refine condP_f ?_ | with_reducible refine ifP_tt' ?_ | with_reducible refine ifP_ff' ?_ | with_reducible refine ifP_tf' ?_ | with_reducible refine ifP_ft' ?_ | with_reducible refine ifP_u' ?_ | refine optP_mk0 ?_))
    (repeat (first | refine bindP_mk (by simp (disch := first | omega | exact Int.natCast_nonneg _ | assumption) only [decide_true, decide_false, Bool.not_true, Bool.not_false, newP_eq, optP_some, optP_none, bindP_some', condP_true, condP_false, ifP_tt, ifP_ff, ifP_tf, ifP_ft, exP_normal, exP_exit, exP_ret, beqP_true, beqP_false, Option.bind_some, Value.cells_agg, cells_int, cells_bool, intB_add, intB_sub, intB_mul, intB_quo, intB_rem, intB_eql, intB_neq, intB_lss, intB_leq, intB_gtr, intB_geq, intB_shr_u64, intB_shl1_u64, intB_and64, intB_or64, intB_xor64, wr_i64, wr_u8, wr_u64, convI_int, unV_not, boolB_eql, boolB_neq, pickV_true, pickV_false, lenSl_slice, ptr_at, fwdP_at, ixArr_at, load1_own, loadA_own, storeN_own, T.get_upd_same, T.get_upd_ne, cellsIn_some, putIn_cells, tl, ts, if_pos, Nat.zero_add, Nat.mul_one, Nat.add_zero, Int.toNat_natCast, ↓reduceIte, Nat.reduceLeDiff, Nat.reduceAdd, Nat.le_refl, nilCk_at, gp1, addmod] <;> rfl) ?_ | refine newP_mk ?_ | refine optP_mk ?_ | with_reducible refine condP_t ?_ | with_reducible refine condP_f ?_ | with_reducible refine ifP_tt' ?_ | with_reducible refine ifP_ff' ?_ | with_reducible refine ifP_tf' ?_ | with_reducible refine ifP_ft' ?_ | with_reducible refine ifP_u' ?_ | refine optP_mk0 ?_))
    have hcase : (first + L.length) % n < n := Nat.mod_lt _ (by omega)
    refine bindP_mk (ix_own1 _ _ _ _ hcase) ?_
    refine bindP_mk (store1_own (v := .int .i64 _) (l := putC put) ga1 (by rw [putC_len]; omega) rfl rfl) ?_
    rw [putC_set]
    have gp2 : (h1.upd a (some (.cells (putC (put.set ((first + L.length) % n) now)).toArray y_int))).get p = some (.cells (ringC a n first L.length now (w + 1)).toArray y_ring_Ring) := by rw [T.get_upd_ne _ _ hne]; exact gp1
    have ga2 : (h1.upd a (some (.cells (putC (put.set ((first + L.length) % n) now)).toArray y_int))).get a = some (.cells (putC (put.set ((first + L.length) % n) now)).toArray y_int) := T.get_upd_same _ _ _
    have ho2 : Only h (h1.upd a (some (.cells (putC (put.set ((first + L.length) % n) now)).toArray y_int))) p a := fun k k1 k2 => by rw [T.get_upd_ne _ _ k2]; exact ho1 k k1 k2
    generalize (h1.upd a (some (.cells (putC (put.set ((first + L.length) % n) now)).toArray y_int))) = h2 at gp2 ga2 ho2
    (repeat (first | refine bindP_mk (by simp (disch := first | omega | exact Int.natCast_nonneg _ | assumption) only [decide_true, decide_false, Bool.not_true, Bool.not_false, newP_eq, optP_some, optP_none, bindP_some', condP_true, condP_false, ifP_tt, ifP_ff, ifP_tf, ifP_ft, exP_normal, exP_exit, exP_ret, beqP_true, beqP_false, Option.bind_some, Value.cells_agg, cells_int, cells_bool, intB_add, intB_sub, intB_mul, intB_quo, intB_rem, intB_eql, intB_neq, intB_lss, intB_leq, intB_gtr, intB_geq, intB_shr_u64, intB_shl1_u64, intB_and64, intB_or64, intB_xor64, wr_i64, wr_u8, wr_u64, convI_int, unV_not, boolB_eql, boolB_neq, pickV_true, pickV_false, lenSl_slice, ptr_at, fwdP_at, ixArr_at, load1_own, loadA_own, storeN_own, T.get_upd_same, T.get_upd_ne, cellsIn_some, putIn_cells, tl, ts, if_pos, Nat.zero_add, Nat.mul_one, Nat.add_zero, Int.toNat_natCast, ↓reduceIte, Nat.reduceLeDiff, Nat.reduceAdd, Nat.le_refl, nilCk_at, gp2] <;> rfl) ?_ | refine newP_mk ?_ | refine optP_mk ?_ | with_reducible refine condP_t ?_ | with_reducible refine condP_f ?_ | with_reducible refine ifP_tt' ?_ | with_reducible refine ifP_ff' ?_ | with_reducible refine ifP_tf' ?_ | with_reducible refine ifP_ft' ?_ | with_reducible refine ifP_u' ?_ | refine optP_mk0 ?_))
    have gp3 : (h2.upd p (some (.cells (over (ringC a n first L.length now (w + 1)).toArray.toList 2 [.int .i64 ((L.length : Int) + 1)]).toArray y_ring_Ring))).get p = some (.cells (ringC a n first (L ++ [1]).length now (w + 1)).toArray y_ring_Ring) := by
      rw [T.get_upd_same, List.length_append]; rfl
    refine ⟨_, Sub.refl _, hK _ _ (by omega) ?_ ?_⟩
    · rw [put_other hlast]
      exact ⟨put.set ((first + L.length) % n) now, first, now, gp3, by rw [T.get_upd_ne _ _ (Ne.symm hne)]; exact ga2, hne, by rw [List.length_set]; exact hpl, b1, b2, b3, by omega, hw, put_rel hpl b3 (put_room b1 hlast hpw hb) hrel, put_dec hlast hpw hb, put_in b1 hb⟩
    · exact fun k k1 k2 => by rw [T.get_upd_ne _ _ k1]; exact ho2 k k1 k2
theorem und_i64s : und Tryz.prog y_s_int = some (.slice y_int) := by kernel_rfl
theorem tin_i64 : ∃ i, tin Tryz.prog y_int = some i ∧ i.size = 1 ∧ i.bytes = 8 := by
  have h : (tin Tryz.prog y_int).map (fun i => (i.size, i.bytes)) = some (1, 8) := by kernel_rfl
  cases hi : tin Tryz.prog y_int with
  | none => rw [hi] at h; cases h
  | some i => rw [hi] at h; simp at h; exact ⟨i, rfl, h.1, h.2⟩
theorem zer_i64 : zer Tryz.prog y_int = some (.int .i64 0) := by kernel_rfl
theorem RI.sub {h h' : T Obj} {p a n w : Nat} {L : List Nat} (hR : RI h p a n L w) (hs : Sub h h') : RI h' p a n L w := by
  obtain ⟨put, first, now, gp, ga, hr⟩ := hR
  exact ⟨put, first, now, hs _ _ gp, hs _ _ ga, hr⟩
theorem ring_count_w {ro : Ro} {h : T Obj} {p a n first m now w i x nx : Nat} {put : List Nat} {K : KV} (gp : h.get p = some (.cells (ringC a n first m now w).toArray y_ring_Ring)) (ga : h.get a = some (.cells (putC put).toArray y_int)) (hpl : put.length = n) (h1 : 1 ≤ n) (h2 : n ≤ 4096) (h3 : first < n) (h4 : now ≤ 2000000) (hi : i ≤ 4096) (hr : put.getD ((first + i) % n) 0 + x = now + 1) (hK : ∀ nx', nx ≤ nx' → K (.int .i64 (x : Nat)) h nx') : callP Tryz.prog ro i_ring_Ring_count [ptr p, .int .i64 (i : Int)] h nx K := by
  apply ring_Ring_count_of
  unfold ring_Ring_count
  have hm : (first + i) % n < n := Nat.mod_lt _ (by omega)
  have hm2 : (first + i) % n < put.length := by omega
  (repeat (first | refine bindP_mk (by simp (disch := first | omega | exact Int.natCast_nonneg _ | assumption) only [decide_true, decide_false, Bool.not_true, Bool.not_false, newP_eq, optP_some, optP_none, bindP_some', condP_true, condP_false, ifP_tt, ifP_ff, ifP_tf, ifP_ft, exP_normal, exP_exit, exP_ret, beqP_true, beqP_false, Option.bind_some, Value.cells_agg, cells_int, cells_bool, intB_add, intB_sub, intB_mul, intB_quo, intB_rem, intB_eql, intB_neq, intB_lss, intB_leq, intB_gtr, intB_geq, intB_shr_u64, intB_shl1_u64, intB_and64, intB_or64, intB_xor64, wr_i64, wr_u8, wr_u64, convI_int, unV_not, boolB_eql, boolB_neq, pickV_true, pickV_false, lenSl_slice, ptr_at, fwdP_at, ixArr_at, load1_own, loadA_own, storeN_own, T.get_upd_same, T.get_upd_ne, cellsIn_some, putIn_cells, tl, ts, if_pos, Nat.zero_add, Nat.mul_one, Nat.add_zero, Int.toNat_natCast, ↓reduceIte, Nat.reduceLeDiff, Nat.reduceAdd, Nat.le_refl, nilCk_at, gp, ga, addmod, ix_own1, putC_get] <;> rfl) ?_ | refine newP_mk ?_ | refine optP_mk ?_ | with_reducible refine condP_t ?_ | with_reducible refine condP_f ?_ | with_reducible refine ifP_tt' ?_ | with_reducible refine ifP_ff' ?_ | with_reducible refine ifP_tf' ?_ | with_reducible refine ifP_ft' ?_ | with_reducible refine ifP_u' ?_ | refine optP_mk0 ?_))
  refine ⟨h, Sub.refl _, ?_⟩
  have e : (now : Int) - (put.getD ((first + i) % n) 0 : Nat) + 1 = (x : Nat) := by omega
  rw [e]
  exact hK _ (by omega)
def incL (n : Nat) (L : List Nat) : List Nat := if n ≤ L.getD 0 0 then (L.map (· + 1)).tail else L.map (· + 1)
theorem getD_map1 {L : List Nat} {i : Nat} (hi : i < L.length) : (L.map (· + 1)).getD i 0 = L.getD i 0 + 1 := by
  simp [List.getD, hi]
theorem getD_tail1 {L : List Nat} {i : Nat} (hi : i + 1 < L.length) : (L.map (· + 1)).tail.getD i 0 = L.getD (i + 1) 0 + 1 := by
  simp [List.getD, hi]
theorem dec_map {L : List Nat} (hp : L.Pairwise (fun x y => y < x)) : (L.map (· + 1)).Pairwise (fun x y => y < x) := by
  rw [List.pairwise_map]
  exact hp.imp fun h => by omega
theorem first_max {L : List Nat} {x : Nat} (hp : L.Pairwise (fun x y => y < x)) (hx : x ∈ L) : x ≤ L.getD 0 0 := by
  cases L with
  | nil => cases hx
  | cons y r =>
    rw [List.pairwise_cons] at hp
    rcases List.mem_cons.1 hx with rfl | h
    · exact Nat.le_refl _
    · exact Nat.le_of_lt (hp.1 x h)
theorem inc_in {L : List Nat} {n : Nat} (hp : L.Pairwise (fun x y => y < x)) (hb : ∀ x ∈ L, 1 ≤ x ∧ x ≤ n) : ∀ x ∈ incL n L, 1 ≤ x ∧ x ≤ n := fun x hx => by
  unfold incL at hx
  by_cases h : n ≤ L.getD 0 0
  · rw [if_pos h] at hx
    cases L with
    | nil => cases hx
    | cons y r =>
      rw [List.map_cons, List.tail_cons, List.mem_map] at hx
      obtain ⟨z, hz, rfl⟩ := hx
      rw [List.pairwise_cons] at hp
      have h1 := hp.1 z hz
      have h2 := hb y (List.mem_cons_self ..)
      omega
  · rw [if_neg h, List.mem_map] at hx
    obtain ⟨z, hz, rfl⟩ := hx
    have := first_max hp hz
    omega
theorem inc_dec {L : List Nat} {n : Nat} (hp : L.Pairwise (fun x y => y < x)) : (incL n L).Pairwise (fun x y => y < x) := by
  unfold incL
  by_cases h : n ≤ L.getD 0 0
  · rw [if_pos h]; exact (dec_map hp).sublist (List.tail_sublist _)
  · rw [if_neg h]; exact dec_map hp
theorem mod_succ {f i n : Nat} : ((f + 1) % n + i) % n = (f + (i + 1)) % n := by
  rw [Nat.add_mod, Nat.mod_mod, ← Nat.add_mod]; congr 1; omega
set_option maxRecDepth 4000 in
theorem ring_Inc_c {ro : Ro} {h : T Obj} {p a n w nx : Nat} {L : List Nat} {K : KV} (hR : RI h p a n L w) (hw : w + 1 ≤ 1000000) (hK : ∀ h' nx', nx ≤ nx' → RI h' p a n (incL n L) (w + 1) → Only h h' p a → K (.tuple #[]) h' nx') : callP Tryz.prog ro i_ring_Ring_Inc [ptr p] h nx K := by
  have hln := hR.len
  obtain ⟨put, first, now, gp, ga, hne, hpl, b1, b2, b3, b4, b5, hrel, hpw, hb⟩ := hR
  apply ring_Ring_Inc_of
  unfold ring_Ring_Inc
  (repeat (first | refine bindP_mk (by simp (disch := first | omega | exact Int.natCast_nonneg _ | assumption) only [decide_true, decide_false, Bool.not_true, Bool.not_false, newP_eq, optP_some, optP_none, bindP_some', condP_true, condP_false, ifP_tt, ifP_ff, ifP_tf, ifP_ft, exP_normal, exP_exit, exP_ret, beqP_true, beqP_false, Option.bind_some, Value.cells_agg, cells_int, cells_bool, intB_add, intB_sub, intB_mul, intB_quo, intB_rem, intB_eql, intB_neq, intB_lss, intB_leq, intB_gtr, intB_geq, intB_shr_u64, intB_shl1_u64, intB_and64, intB_or64, intB_xor64, wr_i64, wr_u8, wr_u64, convI_int, unV_not, boolB_eql, boolB_neq, pickV_true, pickV_false, lenSl_slice, ptr_at, fwdP_at, ixArr_at, load1_own, loadA_own, storeN_own, T.get_upd_same, T.get_upd_ne, cellsIn_some, putIn_cells, tl, ts, if_pos, Nat.zero_add, Nat.mul_one, Nat.add_zero, Int.toNat_natCast, ↓reduceIte, Nat.reduceLeDiff, Nat.reduceAdd, Nat.le_refl, ptrB_eql_at, nilCk_at, gp, ga] <;> rfl) ?_ | refine newP_mk ?_ | refine optP_mk ?_ | with_reducible refine condP_t ?_ | with_reducible refine condP_f ?_ | with_reducible refine ifP_tt' ?_ | with_reducible refine ifP_ff' ?_ | with_reducible refine ifP_tf' ?_ | with_reducible refine ifP_ft' ?_ | with_reducible refine ifP_u' ?_ | refine optP_mk0 ?_))
  have gp1 : ((h.upd p (some (.cells (over (ringC a n first L.length now w).toArray.toList 4 [.int .i64 ((w : Int) + 1)]).toArray y_ring_Ring))).upd p (some (.cells (over (over (ringC a n first L.length now w).toArray.toList 4 [.int .i64 ((w : Int) + 1)]).toArray.toList 3 [.int .i64 ((now : Int) + 1)]).toArray y_ring_Ring))).get p = some (.cells (ringC a n first L.length (now + 1) (w + 1)).toArray y_ring_Ring) := by
    rw [T.get_upd_same]; rfl
  have ga1 : ((h.upd p (some (.cells (over (ringC a n first L.length now w).toArray.toList 4 [.int .i64 ((w : Int) + 1)]).toArray y_ring_Ring))).upd p (some (.cells (over (over (ringC a n first L.length now w).toArray.toList 4 [.int .i64 ((w : Int) + 1)]).toArray.toList 3 [.int .i64 ((now : Int) + 1)]).toArray y_ring_Ring))).get a = some (.cells (putC put).toArray y_int) := by rw [T.get_upd_ne _ _ (Ne.symm hne), T.get_upd_ne _ _ (Ne.symm hne)]; exact ga
  have ho1 : Only h ((h.upd p (some (.cells (over (ringC a n first L.length now w).toArray.toList 4 [.int .i64 ((w : Int) + 1)]).toArray y_ring_Ring))).upd p (some (.cells (over (over (ringC a n first L.length now w).toArray.toList 4 [.int .i64 ((w : Int) + 1)]).toArray.toList 3 [.int .i64 ((now : Int) + 1)]).toArray y_ring_Ring))) p a := fun k k1 k2 => by rw [T.get_upd_ne _ _ k1, T.get_upd_ne _ _ k1]
  generalize ((h.upd p (some (.cells (over (ringC a n first L.length now w).toArray.toList 4 [.int .i64 ((w : Int) + 1)]).toArray y_ring_Ring))).upd p (some (.cells (over (over (ringC a n first L.length now w).toArray.toList 4 [.int .i64 ((w : Int) + 1)]).toArray.toList 3 [.int .i64 ((now : Int) + 1)]).toArray y_ring_Ring))) = h1 at gp1 ga1 ho1
  rcases Nat.eq_zero_or_pos L.length with hm | hm
  · have d : decide ((0 : Int) < (L.length : Int)) = false := decide_eq_false (by omega)
    rw [d]
    (repeat (first | refine bindP_mk (by simp (disch := first | omega | exact Int.natCast_nonneg _ | assumption) only [decide_true, decide_false, Bool.not_true, Bool.not_false, newP_eq, optP_some, optP_none, bindP_some', condP_true, condP_false, ifP_tt, ifP_ff, ifP_tf, ifP_ft, exP_normal, exP_exit, exP_ret, beqP_true, beqP_false, Option.bind_some, Value.cells_agg, cells_int, cells_bool, intB_add, intB_sub, intB_mul, intB_quo, intB_rem, intB_eql, intB_neq, intB_lss, intB_leq, intB_gtr, intB_geq, intB_shr_u64, intB_shl1_u64, intB_and64, intB_or64, intB_xor64, wr_i64, wr_u8, wr_u64, convI_int, unV_not, boolB_eql, boolB_neq, pickV_true, pickV_false, lenSl_slice, ptr_at, fwdP_at, ixArr_at, load1_own, loadA_own, storeN_own, T.get_upd_same, T.get_upd_ne, cellsIn_some, putIn_cells, tl, ts, if_pos, Nat.zero_add, Nat.mul_one, Nat.add_zero, Int.toNat_natCast, ↓reduceIte, Nat.reduceLeDiff, Nat.reduceAdd, Nat.le_refl] <;> rfl) ?_ | refine newP_mk ?_ | refine optP_mk ?_ | with_reducible refine condP_t ?_ | with_reducible refine condP_f ?_ | with_reducible refine ifP_tt' ?_ | with_reducible refine ifP_ff' ?_ | with_reducible refine ifP_tf' ?_ | with_reducible refine ifP_ft' ?_ | with_reducible refine ifP_u' ?_ | refine optP_mk0 ?_))
    refine ⟨_, Sub.refl _, hK _ _ (by omega) ?_ ho1⟩
    have hL : L = [] := List.length_eq_zero_iff.1 hm
    subst hL
    have hi : incL n [] = [] := by unfold incL; rw [if_neg (show ¬ n ≤ ([] : List Nat).getD 0 0 by simp; omega)]; rfl
    rw [hi]
    exact ⟨put, first, now + 1, gp1, ga1, hne, hpl, b1, b2, b3, by omega, hw, fun i hi => (by cases hi), List.Pairwise.nil, fun x hx => (by cases hx)⟩
  · have d : decide ((0 : Int) < (L.length : Int)) = true := decide_eq_true (by omega)
    rw [d]
    (repeat (first | refine bindP_mk (by simp (disch := first | omega | exact Int.natCast_nonneg _ | assumption) only [decide_true, decide_false, Bool.not_true, Bool.not_false, newP_eq, optP_some, optP_none, bindP_some', condP_true, condP_false, ifP_tt, ifP_ff, ifP_tf, ifP_ft, exP_normal, exP_exit, exP_ret, beqP_true, beqP_false, Option.bind_some, Value.cells_agg, cells_int, cells_bool, intB_add, intB_sub, intB_mul, intB_quo, intB_rem, intB_eql, intB_neq, intB_lss, intB_leq, intB_gtr, intB_geq, intB_shr_u64, intB_shl1_u64, intB_and64, intB_or64, intB_xor64, wr_i64, wr_u8, wr_u64, convI_int, unV_not, boolB_eql, boolB_neq, pickV_true, pickV_false, lenSl_slice, ptr_at, fwdP_at, ixArr_at, load1_own, loadA_own, storeN_own, T.get_upd_same, T.get_upd_ne, cellsIn_some, putIn_cells, tl, ts, if_pos, Nat.zero_add, Nat.mul_one, Nat.add_zero, Int.toNat_natCast, ↓reduceIte, Nat.reduceLeDiff, Nat.reduceAdd, Nat.le_refl] <;> rfl) ?_ | refine newP_mk ?_ | refine optP_mk ?_ | with_reducible refine condP_t ?_ | with_reducible refine condP_f ?_ | with_reducible refine ifP_tt' ?_ | with_reducible refine ifP_ff' ?_ | with_reducible refine ifP_tf' ?_ | with_reducible refine ifP_ft' ?_ | with_reducible refine ifP_u' ?_ | refine optP_mk0 ?_))
    refine ring_count_w (i := 0) (x := L.getD 0 0 + 1) gp1 ga1 hpl b1 b2 b3 (by omega) (by omega) (by have := hrel 0 hm; omega) fun n4 hn4 => ?_
    (repeat (first | refine bindP_mk (by simp (disch := first | omega | exact Int.natCast_nonneg _ | assumption) only [decide_true, decide_false, Bool.not_true, Bool.not_false, newP_eq, optP_some, optP_none, bindP_some', condP_true, condP_false, ifP_tt, ifP_ff, ifP_tf, ifP_ft, exP_normal, exP_exit, exP_ret, beqP_true, beqP_false, Option.bind_some, Value.cells_agg, cells_int, cells_bool, intB_add, intB_sub, intB_mul, intB_quo, intB_rem, intB_eql, intB_neq, intB_lss, intB_leq, intB_gtr, intB_geq, intB_shr_u64, intB_shl1_u64, intB_and64, intB_or64, intB_xor64, wr_i64, wr_u8, wr_u64, convI_int, unV_not, boolB_eql, boolB_neq, pickV_true, pickV_false, lenSl_slice, ptr_at, fwdP_at, ixArr_at, load1_own, loadA_own, storeN_own, T.get_upd_same, T.get_upd_ne, cellsIn_some, putIn_cells, tl, ts, if_pos, Nat.zero_add, Nat.mul_one, Nat.add_zero, Int.toNat_natCast, ↓reduceIte, Nat.reduceLeDiff, Nat.reduceAdd, Nat.le_refl, nilCk_at, gp1] <;> rfl) ?_ | refine newP_mk ?_ | refine optP_mk ?_ | with_reducible refine condP_t ?_ | with_reducible refine condP_f ?_ | with_reducible refine ifP_tt' ?_ | with_reducible refine ifP_ff' ?_ | with_reducible refine ifP_tf' ?_ | with_reducible refine ifP_ft' ?_ | with_reducible refine ifP_u' ?_ | refine optP_mk0 ?_))
    refine ⟨fun _ => sameV_own gp1 gp1, ?_⟩
    (repeat (first | refine bindP_mk (by simp (disch := first | omega | exact Int.natCast_nonneg _ | assumption) only [decide_true, decide_false, Bool.not_true, Bool.not_false, newP_eq, optP_some, optP_none, bindP_some', condP_true, condP_false, ifP_tt, ifP_ff, ifP_tf, ifP_ft, exP_normal, exP_exit, exP_ret, beqP_true, beqP_false, Option.bind_some, Value.cells_agg, cells_int, cells_bool, intB_add, intB_sub, intB_mul, intB_quo, intB_rem, intB_eql, intB_neq, intB_lss, intB_leq, intB_gtr, intB_geq, intB_shr_u64, intB_shl1_u64, intB_and64, intB_or64, intB_xor64, wr_i64, wr_u8, wr_u64, convI_int, unV_not, boolB_eql, boolB_neq, pickV_true, pickV_false, lenSl_slice, ptr_at, fwdP_at, ixArr_at, load1_own, loadA_own, storeN_own, T.get_upd_same, T.get_upd_ne, cellsIn_some, putIn_cells, tl, ts, if_pos, Nat.zero_add, Nat.mul_one, Nat.add_zero, Int.toNat_natCast, ↓reduceIte, Nat.reduceLeDiff, Nat.reduceAdd, Nat.le_refl] <;> rfl) ?_ | refine newP_mk ?_ | refine optP_mk ?_ | with_reducible refine condP_t ?_ | with_reducible refine condP_f ?_ | with_reducible refine ifP_tt' ?_ | with_reducible refine ifP_ff' ?_ | with_reducible refine ifP_tf' ?_ | with_reducible refine ifP_ft' ?_ | with_reducible refine ifP_u' ?_ | refine optP_mk0 ?_))
    by_cases hx : n ≤ L.getD 0 0
    · rw [decide_eq_true (show (n : Int) < ((L.getD 0 0 + 1 : Nat) : Int) by omega)]
      have hmod : ((first : Int) + 1) % (n : Int) = (((first + 1) % n : Nat) : Int) := addmod first 1 n
      have hml : (first + 1) % n < n := Nat.mod_lt _ (by omega)
      (repeat (first | refine bindP_mk (by simp (disch := first | omega | exact Int.natCast_nonneg _ | assumption) only [decide_true, decide_false, Bool.not_true, Bool.not_false, newP_eq, optP_some, optP_none, bindP_some', condP_true, condP_false, ifP_tt, ifP_ff, ifP_tf, ifP_ft, exP_normal, exP_exit, exP_ret, beqP_true, beqP_false, Option.bind_some, Value.cells_agg, cells_int, cells_bool, intB_add, intB_sub, intB_mul, intB_quo, intB_rem, intB_eql, intB_neq, intB_lss, intB_leq, intB_gtr, intB_geq, intB_shr_u64, intB_shl1_u64, intB_and64, intB_or64, intB_xor64, wr_i64, wr_u8, wr_u64, convI_int, unV_not, boolB_eql, boolB_neq, pickV_true, pickV_false, lenSl_slice, ptr_at, fwdP_at, ixArr_at, load1_own, loadA_own, storeN_own, T.get_upd_same, T.get_upd_ne, cellsIn_some, putIn_cells, tl, ts, if_pos, Nat.zero_add, Nat.mul_one, Nat.add_zero, Int.toNat_natCast, ↓reduceIte, Nat.reduceLeDiff, Nat.reduceAdd, Nat.le_refl, nilCk_at, gp1, hmod] <;> rfl) ?_ | refine newP_mk ?_ | refine optP_mk ?_ | with_reducible refine condP_t ?_ | with_reducible refine condP_f ?_ | with_reducible refine ifP_tt' ?_ | with_reducible refine ifP_ff' ?_ | with_reducible refine ifP_tf' ?_ | with_reducible refine ifP_ft' ?_ | with_reducible refine ifP_u' ?_ | refine optP_mk0 ?_))
      refine ⟨_, Sub.refl _, hK _ _ (by omega) ?_ ?_⟩
      · have hi : incL n L = (L.map (· + 1)).tail := if_pos hx
        have hlen : (incL n L).length = L.length - 1 := by rw [hi]; simp
        refine ⟨put, (first + 1) % n, now + 1, ?_, ?_, hne, hpl, b1, b2, hml, by omega, hw, ?_, inc_dec hpw, inc_in hpw hb⟩
        · rw [T.get_upd_same, hlen]
          have e : (L.length : Int) - 1 = ((L.length - 1 : Nat) : Int) := by omega
          rw [e]; rfl
        · rw [T.get_upd_ne _ _ (Ne.symm hne), T.get_upd_ne _ _ (Ne.symm hne)]; exact ga1
        · intro i hil
          rw [hlen] at hil
          rw [hi, getD_tail1 (by omega), mod_succ]
          have := hrel (i + 1) (by omega)
          omega
      · exact fun k k1 k2 => by rw [T.get_upd_ne _ _ k1, T.get_upd_ne _ _ k1]; exact ho1 k k1 k2
    · rw [decide_eq_false (show ¬ (n : Int) < ((L.getD 0 0 + 1 : Nat) : Int) by omega)]
      (repeat (first | refine bindP_mk (by simp (disch := first | omega | exact Int.natCast_nonneg _ | assumption) only [decide_true, decide_false, Bool.not_true, Bool.not_false, newP_eq, optP_some, optP_none, bindP_some', condP_true, condP_false, ifP_tt, ifP_ff, ifP_tf, ifP_ft, exP_normal, exP_exit, exP_ret, beqP_true, beqP_false, Option.bind_some, Value.cells_agg, cells_int, cells_bool, intB_add, intB_sub, intB_mul, intB_quo, intB_rem, intB_eql, intB_neq, intB_lss, intB_leq, intB_gtr, intB_geq, intB_shr_u64, intB_shl1_u64, intB_and64, intB_or64, intB_xor64, wr_i64, wr_u8, wr_u64, convI_int, unV_not, boolB_eql, boolB_neq, pickV_true, pickV_false, lenSl_slice, ptr_at, fwdP_at, ixArr_at, load1_own, loadA_own, storeN_own, T.get_upd_same, T.get_upd_ne, cellsIn_some, putIn_cells, tl, ts, if_pos, Nat.zero_add, Nat.mul_one, Nat.add_zero, Int.toNat_natCast, ↓reduceIte, Nat.reduceLeDiff, Nat.reduceAdd, Nat.le_refl] <;> rfl) ?_ | refine newP_mk ?_ | refine optP_mk ?_ | with_reducible refine condP_t ?_ | with_reducible refine condP_f ?_ | with_reducible refine ifP_tt' ?_ | with_reducible refine ifP_ff' ?_ | with_reducible refine ifP_tf' ?_ | with_reducible refine ifP_ft' ?_ | with_reducible refine ifP_u' ?_ | refine optP_mk0 ?_))
      refine ⟨_, Sub.refl _, hK _ _ (by omega) ?_ ho1⟩
      have hi : incL n L = L.map (· + 1) := if_neg hx
      have hlen : (incL n L).length = L.length := by rw [hi]; simp
      refine ⟨put, first, now + 1, by rw [hlen]; exact gp1, ga1, hne, hpl, b1, b2, b3, by omega, hw, ?_, inc_dec hpw, inc_in hpw hb⟩
      intro i hil
      rw [hlen] at hil
      rw [hi, getD_map1 hil]
      have := hrel i hil
      omega
set_option maxRecDepth 4000 in
theorem ring_Clear_c {ro : Ro} {h : T Obj} {p a n w nx : Nat} {L : List Nat} {K : KV} (hR : RI h p a n L w) (hw : w + 1 ≤ 1000000) (hK : ∀ h' nx', nx ≤ nx' → RI h' p a n [] (w + 1) → Only h h' p a → K (.tuple #[]) h' nx') : callP Tryz.prog ro i_ring_Ring_Clear [ptr p] h nx K := by
  obtain ⟨put, first, now, gp, ga, hne, hpl, b1, b2, b3, b4, b5, hrel, hpw, hb⟩ := hR
  apply ring_Ring_Clear_of
  unfold ring_Ring_Clear
  (repeat (first | refine bindP_mk (by simp (disch := first | omega | exact Int.natCast_nonneg _ | assumption) only [decide_true, decide_false, Bool.not_true, Bool.not_false, newP_eq, optP_some, optP_none, bindP_some', condP_true, condP_false, ifP_tt, ifP_ff, ifP_tf, ifP_ft, exP_normal, exP_exit, exP_ret, beqP_true, beqP_false, Option.bind_some, Value.cells_agg, cells_int, cells_bool, intB_add, intB_sub, intB_mul, intB_quo, intB_rem, intB_eql, intB_neq, intB_lss, intB_leq, intB_gtr, intB_geq, intB_shr_u64, intB_shl1_u64, intB_and64, intB_or64, intB_xor64, wr_i64, wr_u8, wr_u64, convI_int, unV_not, boolB_eql, boolB_neq, pickV_true, pickV_false, lenSl_slice, ptr_at, fwdP_at, ixArr_at, load1_own, loadA_own, storeN_own, T.get_upd_same, T.get_upd_ne, cellsIn_some, putIn_cells, tl, ts, if_pos, Nat.zero_add, Nat.mul_one, Nat.add_zero, Int.toNat_natCast, ↓reduceIte, Nat.reduceLeDiff, Nat.reduceAdd, Nat.le_refl, ptrB_neq_at, nilCk_at, gp, ga] <;> rfl) ?_ | refine newP_mk ?_ | refine optP_mk ?_ | with_reducible refine condP_t ?_ | with_reducible refine condP_f ?_ | with_reducible refine ifP_tt' ?_ | with_reducible refine ifP_ff' ?_ | with_reducible refine ifP_tf' ?_ | with_reducible refine ifP_ft' ?_ | with_reducible refine ifP_u' ?_ | refine optP_mk0 ?_))
  refine ⟨_, Sub.refl _, hK _ _ (by omega) ?_ ?_⟩
  · refine ⟨put, 0, now, ?_, ?_, hne, hpl, b1, b2, by omega, by omega, hw, fun i hi => (by cases hi), List.Pairwise.nil, fun x hx => (by cases hx)⟩
    · rw [T.get_upd_same]; rfl
    · rw [T.get_upd_ne _ _ (Ne.symm hne), T.get_upd_ne _ _ (Ne.symm hne), T.get_upd_ne _ _ (Ne.symm hne)]; exact ga
  · exact fun k k1 k2 => by rw [T.get_upd_ne _ _ k1, T.get_upd_ne _ _ k1, T.get_upd_ne _ _ k1]
theorem zerosV_i64 : ∀ n : Nat, zerosV [.int .i64 0] n = putC (List.replicate n 0)
  | 0 => rfl
  | n + 1 => by
    have := zerosV_i64 n
    simp only [zerosV, this, putC, List.replicate_succ, List.map_cons]; rfl
theorem make_i64 {aid n : Nat} (h0 : 1 ≤ n) (h1 : n ≤ 1000000) : makeV Tryz.prog y_s_int aid (.int .i64 (n : Int)) (.int .i64 (n : Int)) = some (.slice (some (own aid 1)) n n, some (.cells (putC (List.replicate n 0)).toArray y_int)) := by
  obtain ⟨i, g1, g2, g3⟩ := tin_i64
  have hb : Nat.ble (n * 8) big = true := Nat.ble_eq_true_of_le (by unfold big; omega)
  have e1 : decide ((0 : Int) ≤ (n : Int)) = true := by simp
  have e2 : decide ((n : Int) ≤ (n : Int)) = true := by simp
  have e3 : decide ((n : Int) ≤ 70368744177664) = true := by simp; omega
  have hz : zrow Tryz.prog y_int n = some (putC (List.replicate n 0)) := by
    obtain ⟨m, rfl⟩ : ∃ m, n = m + 1 := ⟨n - 1, by omega⟩
    have hs : siz Tryz.prog y_int = some 1 := by kernel_rfl
    unfold zrow
    simp only [zer_i64, hs, Option.bind_some]
    have h3 : Nat.beq (Value.cells (.int .i64 0)).size 1 = true := rfl
    have h4 : Nat.blt 0 1 = true := rfl
    rw [h3, h4]
    simp only
    rw [← zerosV_i64]; rfl
  unfold makeV
  simp only [und_i64s, e1, e2, g1, Option.bind_some, g3, Int.toNat_natCast, hb, e3, hz, g2]
theorem buildV_ring (a n : Nat) : buildV Tryz.prog y_ring_Ring [(0, .slice (some (own a 1)) n n)] = some (.agg (ringC a n 0 0 0 0).toArray) := by kernel_rfl
set_option maxRecDepth 4000 in
theorem ring_New_c {ro : Ro} {h : T Obj} {n nx : Nat} {K : KV} (hf : Fr h nx) (h1 : 1 ≤ n) (h2 : n ≤ 4096) (hK : ∀ p a h' nx', nx ≤ p → nx ≤ a → nx ≤ nx' → Sub h h' → Fr h' nx' → RI h' p a n [] 0 → K (.tuple #[ptr p, .int .i64 0]) h' nx') : callP Tryz.prog ro i_ring_New [.int .i64 (n : Int)] h nx K := by
  apply ring_New_of
  unfold ring_New
  (repeat (first | refine bindP_mk (by simp (disch := first | omega | exact Int.natCast_nonneg _ | assumption) only [decide_true, decide_false, Bool.not_true, Bool.not_false, newP_eq, optP_some, optP_none, bindP_some', condP_true, condP_false, ifP_tt, ifP_ff, ifP_tf, ifP_ft, exP_normal, exP_exit, exP_ret, beqP_true, beqP_false, Option.bind_some, Value.cells_agg, cells_int, cells_bool, intB_add, intB_sub, intB_mul, intB_quo, intB_rem, intB_eql, intB_neq, intB_lss, intB_leq, intB_gtr, intB_geq, intB_shr_u64, intB_shl1_u64, intB_and64, intB_or64, intB_xor64, wr_i64, wr_u8, wr_u64, convI_int, unV_not, boolB_eql, boolB_neq, pickV_true, pickV_false, lenSl_slice, ptr_at, fwdP_at, ixArr_at, load1_own, loadA_own, storeN_own, T.get_upd_same, T.get_upd_ne, cellsIn_some, putIn_cells, tl, ts, if_pos, Nat.zero_add, Nat.mul_one, Nat.add_zero, Int.toNat_natCast, ↓reduceIte, Nat.reduceLeDiff, Nat.reduceAdd, Nat.le_refl] <;> rfl) ?_ | refine newP_mk ?_ | refine optP_mk ?_ | with_reducible refine condP_t ?_ | with_reducible refine condP_f ?_ | with_reducible refine ifP_tt' ?_ | with_reducible refine ifP_ff' ?_ | with_reducible refine ifP_tf' ?_ | with_reducible refine ifP_ft' ?_ | with_reducible refine ifP_u' ?_ | refine optP_mk0 ?_))
  rw [decide_eq_false (show ¬ (n : Int) < 1 by omega)]
  (repeat (first | refine bindP_mk (by simp (disch := first | omega | exact Int.natCast_nonneg _ | assumption) only [decide_true, decide_false, Bool.not_true, Bool.not_false, newP_eq, optP_some, optP_none, bindP_some', condP_true, condP_false, ifP_tt, ifP_ff, ifP_tf, ifP_ft, exP_normal, exP_exit, exP_ret, beqP_true, beqP_false, Option.bind_some, Value.cells_agg, cells_int, cells_bool, intB_add, intB_sub, intB_mul, intB_quo, intB_rem, intB_eql, intB_neq, intB_lss, intB_leq, intB_gtr, intB_geq, intB_shr_u64, intB_shl1_u64, intB_and64, intB_or64, intB_xor64, wr_i64, wr_u8, wr_u64, convI_int, unV_not, boolB_eql, boolB_neq, pickV_true, pickV_false, lenSl_slice, ptr_at, fwdP_at, ixArr_at, load1_own, loadA_own, storeN_own, T.get_upd_same, T.get_upd_ne, cellsIn_some, putIn_cells, tl, ts, if_pos, Nat.zero_add, Nat.mul_one, Nat.add_zero, Int.toNat_natCast, ↓reduceIte, Nat.reduceLeDiff, Nat.reduceAdd, Nat.le_refl] <;> rfl) ?_ | refine newP_mk ?_ | refine optP_mk ?_ | with_reducible refine condP_t ?_ | with_reducible refine condP_f ?_ | with_reducible refine ifP_tt' ?_ | with_reducible refine ifP_ff' ?_ | with_reducible refine ifP_tf' ?_ | with_reducible refine ifP_ft' ?_ | with_reducible refine ifP_u' ?_ | refine optP_mk0 ?_))
  rw [decide_eq_false (show ¬ (4096 : Int) < (n : Int) by omega)]
  (repeat (first | refine bindP_mk (by simp (disch := first | omega | exact Int.natCast_nonneg _ | assumption) only [decide_true, decide_false, Bool.not_true, Bool.not_false, newP_eq, optP_some, optP_none, bindP_some', condP_true, condP_false, ifP_tt, ifP_ff, ifP_tf, ifP_ft, exP_normal, exP_exit, exP_ret, beqP_true, beqP_false, Option.bind_some, Value.cells_agg, cells_int, cells_bool, intB_add, intB_sub, intB_mul, intB_quo, intB_rem, intB_eql, intB_neq, intB_lss, intB_leq, intB_gtr, intB_geq, intB_shr_u64, intB_shl1_u64, intB_and64, intB_or64, intB_xor64, wr_i64, wr_u8, wr_u64, convI_int, unV_not, boolB_eql, boolB_neq, pickV_true, pickV_false, lenSl_slice, ptr_at, fwdP_at, ixArr_at, load1_own, loadA_own, storeN_own, T.get_upd_same, T.get_upd_ne, cellsIn_some, putIn_cells, tl, ts, if_pos, Nat.zero_add, Nat.mul_one, Nat.add_zero, Int.toNat_natCast, ↓reduceIte, Nat.reduceLeDiff, Nat.reduceAdd, Nat.le_refl] <;> rfl) ?_ | refine newP_mk ?_ | refine optP_mk ?_ | with_reducible refine condP_t ?_ | with_reducible refine condP_f ?_ | with_reducible refine ifP_tt' ?_ | with_reducible refine ifP_ff' ?_ | with_reducible refine ifP_tf' ?_ | with_reducible refine ifP_ft' ?_ | with_reducible refine ifP_u' ?_ | refine optP_mk0 ?_))
  refine bindP_mk (make_i64 h1 (by omega)) (optP_mk ?_)
  refine bindP_mk (buildV_ring _ _) (newP_mk ?_)
  refine ⟨_, Sub.refl _, hK _ (nx + 6 + 1 + 2) _ _ (by omega) (by omega) (by omega) (((Sub.refl h).new hf (by omega)).new hf (by omega)) ((hf.upd (m := nx + 6 + 1 + 7) (by omega) (by omega)).upd (Nat.le_refl _) (by omega)) ?_⟩
  exact ⟨List.replicate n 0, 0, 0, by rw [T.get_upd_same]; rfl, by rw [T.get_upd_ne _ _ (by omega), T.get_upd_same], by omega, List.length_replicate, h1, h2, by omega, Nat.le_refl _, by omega, fun i hi => (by cases hi), List.Pairwise.nil, fun x hx => (by cases hx)⟩
theorem Sub.e (h : T Obj) : Sub .e h := fun k o e => by cases e
theorem RI.only {h h' : T Obj} {p a p2 a2 n w : Nat} {L : List Nat} (hR : RI h p a n L w) (ho : Only h h' p2 a2) (h1 : p ≠ p2) (h2 : p ≠ a2) (h3 : a ≠ p2) (h4 : a ≠ a2) : RI h' p a n L w := by
  obtain ⟨put, first, now, gp, ga, hr⟩ := hR
  exact ⟨put, first, now, by rw [ho _ h1 h2]; exact gp, by rw [ho _ h3 h4]; exact ga, hr⟩
theorem RI.lt {h : T Obj} {p a n w nx : Nat} {L : List Nat} (hR : RI h p a n L w) (hf : Fr h nx) : p < nx ∧ a < nx := by
  obtain ⟨put, first, now, gp, ga, hr⟩ := hR
  exact ⟨hf.lt gp, hf.lt ga⟩
theorem Only.sub {h0 h h' : T Obj} {p a n0 : Nat} (ho : Only h h' p a) (hs : Sub h0 h) (hf : Fr h0 n0) (hp : n0 ≤ p) (ha : n0 ≤ a) : Sub h0 h' := fun k o e => by
  have := hf.lt e
  rw [ho k (by omega) (by omega)]; exact hs k o e
def high (L : List Nat) : Nat := if L.length = 0 then 0 else L.getD 0 0
theorem great0 (L : List Nat) : nth 0 (greatV L) = some (.int .i64 (high L : Nat)) := by
  unfold greatV high
  by_cases h : L.length = 0
  · rw [if_pos h, if_pos h]; rfl
  · rw [if_neg h, if_neg h]; rfl
theorem great1 (L : List Nat) : nth 1 (greatV L) = some (.bool (!decide (L.length = 0))) := by
  unfold greatV
  by_cases h : L.length = 0
  · rw [if_pos h, decide_eq_true h]; rfl
  · rw [if_neg h, decide_eq_false h]; rfl
section
attribute [local irreducible] bindP ifP condP newP optP exP beqP
def isC (n : Nat) (L : List Nat) : List Value := (List.range (n + 1)).map fun i => .bool (decide (i ∈ L))
def WI (h : T Obj) (p a n : Nat) (L : List Nat) (w : Nat) : Prop := h.get p = some (.cells #[.slice (some (V.own a 1)) (n + 1) (n + 1), .int .i64 w] y_raddleref03_Ring) ∧ h.get a = some (.cells (isC n L).toArray y_bool) ∧ p ≠ a ∧ 1 ≤ n ∧ n ≤ 4096 ∧ w ≤ 1000000
end
theorem WI.sub {h h' : T Obj} {p a n w : Nat} {L : List Nat} (hW : WI h p a n L w) (hs : Sub h h') : WI h' p a n L w := ⟨hs _ _ hW.1, hs _ _ hW.2.1, hW.2.2⟩
theorem ne_of_get {h : T Obj} {i j : Nat} {c d : Array Value} {e f : TypeId} (hi : h.get i = some (.cells c e)) (hj : h.get j = some (.cells d f)) (hef : e ≠ f) : i ≠ j := fun e9 => by
  subst e9; rw [hi] at hj; cases hj; exact hef rfl
def low (L : List Nat) : Nat := if L.length = 0 then 0 else L.getD (L.length - 1) 0
theorem least0 (L : List Nat) : nth 0 (leastV L) = some (.int .i64 (low L : Nat)) := by
  unfold leastV low
  by_cases h : L.length = 0
  · rw [if_pos h, if_pos h]; rfl
  · rw [if_neg h, if_neg h]; rfl
theorem least1 (L : List Nat) : nth 1 (leastV L) = some (.bool (!decide (L.length = 0))) := by
  unfold leastV
  by_cases h : L.length = 0
  · rw [if_pos h, decide_eq_true h]; rfl
  · rw [if_neg h, decide_eq_false h]; rfl
theorem RI.in {h : T Obj} {p a n w : Nat} {L : List Nat} (hR : RI h p a n L w) : L.Pairwise (fun x y => y < x) ∧ (∀ x ∈ L, 1 ≤ x ∧ x ≤ n) ∧ 1 ≤ n ∧ n ≤ 4096 := by
  obtain ⟨put, first, now, gp, ga, hne, hpl, b1, b2, b3, b4, b5, hrel, hpw, hb⟩ := hR
  exact ⟨hpw, hb, b1, b2⟩
end V
end Go.Proofs.YtjndkdmkecpllaaGreat
set_option linter.unusedVariables false
set_option linter.unusedSimpArgs false
namespace Go.Proofs.YtjndkdmkecpllaaGreat
namespace V
attribute [local irreducible] bindP ifP condP newP optP exP beqP
abbrev RgD := List Nat × Nat
def noR : RgD := ([], 0)
def clrR (r : RgD) : RgD := ([], r.2 + 1)
def putR (r : RgD) : RgD := (putL r.1, r.2 + 1)
def incR (n : Nat) (r : RgD) : RgD := (incL n r.1, r.2 + 1)
def rgOp (n o : Nat) (r : RgD) : RgD := if o = 3 then putR (clrR r) else if o = 2 then putR (incR n r) else incR n r
structure MacD where
  cur : Int
  rs : List RgD
  steps : Nat
def cntAt (C : List (Int × Int)) (c : Int) : Int × Int := C.getD c.toNat (0, 0)
def rgAt (rs : List RgD) (c : Int) : RgD := rs.getD c.toNat noR
def digM (C : List (Int × Int)) (rs : List RgD) (c : Int) : Nat :=
  if (rgAt rs c).1.length = 0 then 0 else if (((rgAt rs c).1.getD 0 0 : Nat) : Int) < (cntAt C c).1 then 0 else if (((rgAt rs c).1.getD ((rgAt rs c).1.length - 1) 0 : Nat) : Int) < (cntAt C c).2 then 2 else 1
def codeM (C : List (Int × Int)) (rs : List RgD) : List Int → Nat
  | [] => 0
  | c :: r => digM C rs c + 3 * codeM C rs r
def noMv : MoveD := ⟨-1, []⟩
def stAt (d : AutoD) (m : MacD) : StateD := d.states.getD m.cur.toNat noS
def ruleM (d : AutoD) (m : MacD) : Int := if m.cur = -1 then -1 else (stAt d m).rule.getD (codeM d.counts m.rs (stAt d m).r) 0
def moveM (d : AutoD) (m : MacD) (b : Nat) : MoveD := ((stAt d m).next.getD (codeM d.counts m.rs (stAt d m).r) []).getD (d.c.getD b 0) noMv
def nextR (d : AutoD) (t : Int) : List Int := if t = -1 then [] else (d.states.getD t.toNat noS).r
def clrsM (nx : List Int) : List Int → List RgD → List RgD
  | [], rs => rs
  | c :: r, rs => clrsM nx r (if nx.contains c then rs else rs.set c.toNat (clrR (rgAt rs c)))
def opsM (C : List (Int × Int)) : List Int → List Nat → List RgD → List RgD
  | c :: r, o :: os, rs => opsM C r os (rs.set c.toNat (rgOp (cntAt C c).2.toNat o (rgAt rs c)))
  | _, _, rs => rs
def onM (d : AutoD) (m : MacD) (b : Nat) : Bool := !decide (m.cur = -1) && !decide ((moveM d m b).to = -1)
def stepM (d : AutoD) (m : MacD) (b : Nat) : MacD :=
  if m.cur = -1 then m else ⟨(moveM d m b).to, opsM d.counts (nextR d (moveM d m b).to) (moveM d m b).ops (clrsM (nextR d (moveM d m b).to) (stAt d m).r m.rs), m.steps + 1 + (stAt d m).r.length⟩
def rsetR (r : RgD) : RgD := if r.1.length = 0 then r else clrR r
def resetM (m : MacD) : MacD := ⟨0, m.rs.map rsetR, m.steps⟩
def newM (d : AutoD) : MacD := ⟨0, d.counts.map fun _ => noR, 0⟩
def workM (m : MacD) : Nat := m.steps + (m.rs.map (·.2)).sum
def MOk (d : AutoD) (m : MacD) : Prop := (m.cur = -1 ∨ 0 ≤ m.cur ∧ m.cur < d.states.length) ∧ m.rs.length = d.counts.length
theorem autoOk_parts {d : AutoD} (h : autoOk d = true) : rightB d.c d.many = true ∧ d.counts.length ≤ 512 ∧ 1 ≤ d.states.length ∧ d.states.length ≤ 256 ∧ (∀ c ∈ d.counts, 1 ≤ c.1 ∧ c.1 ≤ c.2 ∧ 2 ≤ c.2 ∧ c.2 ≤ 4096) ∧ ∀ s ∈ d.states, stateOk d.states d.many d.counts.length s = true := by
  unfold autoOk at h
  simp only [Bool.and_eq_true, decide_eq_true_eq] at h
  obtain ⟨h1, h2, h3, h4, h5, h6, h7⟩ := h
  refine ⟨h1, h2, h3, h4, fun c hc => ?_, fun s hs => List.all_eq_true.1 h7 s hs⟩
  have := List.all_eq_true.1 h6 c hc
  unfold countOk at this
  simp only [Bool.and_eq_true, decide_eq_true_eq] at this
  exact this
theorem state_parts {S : List StateD} {n : Int} {cn : Nat} {s : StateD} (h : stateOk S n cn s = true) : s.r.length ≤ 3 ∧ (s.rule.length : Int) = codesD s.r.length ∧ (s.next.length : Int) = codesD s.r.length ∧ (∀ c ∈ s.r, 0 ≤ c ∧ c < cn) ∧ rowsOk S s.r n s.rule s.next = true := by
  have h3 := (state_few h).2
  unfold stateOk at h
  simp only [Bool.and_eq_true, decide_eq_true_eq] at h
  obtain ⟨h1, h2, h4, h5, h6, h7⟩ := h
  refine ⟨h3, h2, h4, fun c hc => ?_, h7⟩
  have := rz_mem h6 c hc
  omega
theorem digM_lt (C : List (Int × Int)) (rs : List RgD) (c : Int) : digM C rs c < 3 := by
  unfold digM
  repeat' split
  all_goals omega
theorem codeM_lt (C : List (Int × Int)) (rs : List RgD) : ∀ r : List Int, codeM C rs r < 3 ^ r.length
  | [] => by show 0 < 1; omega
  | c :: r => by
    have := codeM_lt C rs r
    have := digM_lt C rs c
    rw [List.length_cons, Nat.pow_succ]
    unfold codeM
    omega
theorem codeM_codes {C : List (Int × Int)} {rs : List RgD} {r : List Int} (h : r.length ≤ 3) : (codeM C rs r : Int) < codesD r.length := by
  have h1 := codeM_lt C rs r
  generalize r.length = n at h h1
  match n, h with
  | 0, _ => have h2 : codeM C rs r < 1 := h1; show (codeM C rs r : Int) < 1; omega
  | 1, _ => have h2 : codeM C rs r < 3 := h1; show (codeM C rs r : Int) < 3; omega
  | 2, _ => have h2 : codeM C rs r < 9 := h1; show (codeM C rs r : Int) < 9; omega
  | 3, _ => have h2 : codeM C rs r < 27 := h1; show (codeM C rs r : Int) < 27; omega
theorem rows_at {S : List StateD} {R : List Int} {n : Int} : ∀ {us : List Int} {rows : List (List MoveD)}, rowsOk S R n us rows = true → us.length = rows.length → ∀ (i : Nat) row u, rows[i]? = some row → us[i]? = some u → rowOk S R n u row = true
  | [], [], _, _, i, row, u, hr, hu => by simp at hr
  | u :: us, row :: rows, h, hl, i, row', u', hr, hu => by
    rw [rowsOk_cons, Bool.and_eq_true] at h
    cases i with
    | zero => simp at hr hu; subst hr hu; exact h.1
    | succ i => exact rows_at h.2 (by simpa using hl) i row' u' (by simpa using hr) (by simpa using hu)
  | [], _ :: _, _, hl, _, _, _, _, _ => by simp at hl
  | _ :: _, [], _, hl, _, _, _, _, _ => by simp at hl
theorem right_lt {c : List Nat} {n : Int} (hc : c.length = 256) (h : rightB c n = true) : ∀ b, b < 256 → ((c.getD b 0 : Nat) : Int) < n := by
  unfold rightB at h
  split at h
  · rename_i m hm
    simp only [decide_eq_true_eq] at h
    subst h
    have key : ∀ i m, rt c i = some m → ∀ b, b < i → c.getD b 0 < m := by
      intro i
      induction i with
      | zero => intro m _ b hb; omega
      | succ i ih =>
        intro m h b hb
        obtain ⟨k, h1, h2⟩ := bind_some' h
        have := ih k h1
        split at h2
        · cases h2
        · split at h2
          · cases h2
            rcases Nat.lt_or_ge b i with h4 | h4
            · have := this b h4; omega
            · have : b = i := by omega
              subst this; omega
          · cases h2
            rcases Nat.lt_or_ge b i with h4 | h4
            · exact this b h4
            · have : b = i := by omega
              subst this; omega
    intro b hb
    exact_mod_cast key 256 m hm b hb
  · cases h
structure StF (d : AutoD) (s : StateD) (k : Nat) : Prop where
  r3 : s.r.length ≤ 3
  rl : ∀ c ∈ s.r, 0 ≤ c ∧ c < d.counts.length
  kr : k < s.rule.length
  kn : k < s.next.length
  row : ((s.next.getD k []).length : Int) = d.many
  mv : ∀ m ∈ s.next.getD k [], moveOk d.states s.r m = true
  ru : -1 ≤ s.rule.getD k 0 ∧ s.rule.getD k 0 < 512
theorem st_at {d : AutoD} {m : MacD} (ha : autoOk d = true) (hm : MOk d m) (hc : m.cur ≠ -1) : StF d (stAt d m) (codeM d.counts m.rs (stAt d m).r) := by
  obtain ⟨h1, h2, h3, h4, h5, h6⟩ := autoOk_parts ha
  have hcur : 0 ≤ m.cur ∧ m.cur < d.states.length := by rcases hm.1 with h | h <;> omega
  have hi : m.cur.toNat < d.states.length := by omega
  have hs : stAt d m = d.states[m.cur.toNat] := by unfold stAt; rw [List.getD_eq_getElem?_getD, List.getElem?_eq_getElem hi]; rfl
  have hk := h6 _ (List.getElem_mem hi)
  rw [← hs] at hk
  generalize stAt d m = s at hk
  obtain ⟨k1, k2, k3, k4, k5⟩ := state_parts hk
  have hlt := codeM_codes (C := d.counts) (rs := m.rs) k1
  generalize codeM d.counts m.rs s.r = k at hlt
  have kr : k < s.rule.length := by omega
  have kn : k < s.next.length := by omega
  have e1 : s.next[k]? = some s.next[k] := List.getElem?_eq_getElem kn
  have e2 : s.rule[k]? = some s.rule[k] := List.getElem?_eq_getElem kr
  have hro := rows_at k5 (by omega) k _ _ e1 e2
  unfold rowOk at hro
  simp only [Bool.and_eq_true, decide_eq_true_eq] at hro
  refine ⟨k1, k4, kr, kn, ?_, ?_, ?_⟩
  · rw [List.getD_eq_getElem?_getD, e1]; exact hro.2.2.1
  · rw [List.getD_eq_getElem?_getD, e1]; exact fun m hm => List.all_eq_true.1 hro.2.2.2 m hm
  · rw [List.getD_eq_getElem?_getD, e2]; exact ⟨hro.1, hro.2.1⟩
theorem move_at {d : AutoD} {m : MacD} {b : Nat} (ha : autoOk d = true) (hm : MOk d m) (hc : m.cur ≠ -1) (hl : d.c.length = 256) (hb : b < 256) : d.c.getD b 0 < ((stAt d m).next.getD (codeM d.counts m.rs (stAt d m).r) []).length ∧ moveOk d.states (stAt d m).r (moveM d m b) = true := by
  have hs := st_at ha hm hc
  have h1 := right_lt hl (autoOk_parts ha).1 b hb
  have h2 : d.c.getD b 0 < ((stAt d m).next.getD (codeM d.counts m.rs (stAt d m).r) []).length := by have := hs.row; omega
  refine ⟨h2, hs.mv _ ?_⟩
  unfold moveM
  rw [List.getD_eq_getElem?_getD (a := noMv), List.getElem?_eq_getElem h2]
  exact List.getElem_mem h2
theorem move_parts {S : List StateD} {R : List Int} {m : MoveD} (h : moveOk S R m = true) : (m.to = -1 ∧ m.ops = []) ∨ (1 ≤ m.to ∧ m.to < S.length ∧ m.ops.length = (S.getD m.to.toNat noS).r.length ∧ opsOk R m.ops (S.getD m.to.toNat noS).r = true) := by
  unfold moveOk at h
  split at h
  · rename_i ht
    exact .inl ⟨ht, List.length_eq_zero_iff.1 (by simpa using h)⟩
  · simp only [Bool.and_eq_true, decide_eq_true_eq] at h
    exact .inr ⟨h.1, h.2.1, h.2.2.1, h.2.2.2⟩
theorem ops_range {R : List Int} : ∀ {os : List Nat} {rs : List Int}, opsOk R os rs = true → os.length = rs.length → ∀ o ∈ os, 1 ≤ o ∧ o ≤ 3
  | [], _, _, _, o, ho => by cases ho
  | o :: os, [], _, hl, _, _ => by simp at hl
  | o :: os, r :: rs, h, hl, x, hx => by
    rw [opsOk_cons, Bool.and_eq_true] at h
    rcases List.mem_cons.1 hx with rfl | hx
    · have := h.1
      unfold opOk at this
      simp only [Bool.and_eq_true, decide_eq_true_eq] at this
      exact ⟨this.1, this.2.1⟩
    · exact ops_range h.2 (by simpa using hl) x hx
theorem clrs_len (nx : List Int) : ∀ (r : List Int) (rs : List RgD), (clrsM nx r rs).length = rs.length
  | [], rs => rfl
  | c :: r, rs => by
    unfold clrsM
    rw [clrs_len nx r]
    split <;> simp
theorem opsM_len (C : List (Int × Int)) : ∀ (r : List Int) (os : List Nat) (rs : List RgD), (opsM C r os rs).length = rs.length
  | [], _, rs => by simp [opsM]
  | _ :: _, [], rs => by simp [opsM]
  | c :: r, o :: os, rs => by
    unfold opsM
    rw [opsM_len C r os]; simp
theorem step_ok {d : AutoD} {m : MacD} {b : Nat} (ha : autoOk d = true) (hm : MOk d m) (hl : d.c.length = 256) (hb : b < 256) : MOk d (stepM d m b) := by
  unfold stepM
  by_cases hc : m.cur = -1
  · rw [if_pos hc]; exact hm
  · rw [if_neg hc]
    have h1 := move_parts (move_at ha hm hc hl hb).2
    refine ⟨?_, ?_⟩
    · rcases h1 with ⟨h1, _⟩ | ⟨h1, h2, _⟩
      · exact .inl h1
      · exact .inr ⟨by show (0:Int) ≤ (moveM d m b).to; omega, h2⟩
    · show (opsM _ _ _ _).length = _
      rw [opsM_len, clrs_len]; exact hm.2
theorem reset_ok {d : AutoD} {m : MacD} (ha : autoOk d = true) (hm : MOk d m) : MOk d (resetM m) := ⟨.inr ⟨Int.le_refl _, by have := (autoOk_parts ha).2.2.1; show (0 : Int) < _; omega⟩, by show (m.rs.map rsetR).length = _; rw [List.length_map]; exact hm.2⟩
theorem new_ok {d : AutoD} (ha : autoOk d = true) : MOk d (newM d) := ⟨.inr ⟨Int.le_refl _, by have := (autoOk_parts ha).2.2.1; show (0 : Int) < _; omega⟩, by show (d.counts.map _).length = _; rw [List.length_map]⟩
def WLe (B : Nat) (rs : List RgD) : Prop := ∀ r ∈ rs, r.2 ≤ B
theorem WLe.mono {B B' : Nat} {rs : List RgD} (h : WLe B rs) (hb : B ≤ B') : WLe B' rs := fun r hr => Nat.le_trans (h r hr) hb
theorem WLe.set {B : Nat} {rs : List RgD} {i : Nat} {x : RgD} (h : WLe B rs) (hx : x.2 ≤ B) : WLe B (rs.set i x) := fun r hr => by
  rcases List.mem_or_eq_of_mem_set hr with h1 | h1
  · exact h r h1
  · rw [h1]; exact hx
theorem WLe.at {B : Nat} {rs : List RgD} (h : WLe B rs) (c : Int) : (rgAt rs c).2 ≤ B := by
  unfold rgAt
  rw [List.getD_eq_getElem?_getD]
  cases hq : rs[c.toNat]? with
  | none => exact Nat.zero_le _
  | some r => exact h r (List.mem_of_getElem? hq)
theorem rgOp_w (n o : Nat) (r : RgD) : (rgOp n o r).2 ≤ r.2 + 2 := by
  unfold rgOp
  repeat' split
  all_goals simp [putR, clrR, incR]
end V
end Go.Proofs.YtjndkdmkecpllaaGreat
set_option linter.unusedVariables false
set_option linter.unusedSimpArgs false
namespace Go.Proofs.YtjndkdmkecpllaaGreat
namespace V
attribute [local irreducible] bindP ifP condP newP optP exP beqP
def machL (c : List Nat) (n : Int) (cv sv : Value) (cur : Int) (rv : Value) (steps : Nat) : List Value := autL c n cv sv ++ [.int .i64 cur, rv, .int .i64 (steps : Int)]
section
variable {c : List Nat} {n cur : Int} {cv sv rv : Value} {steps : Nat}
theorem machL_len (hc : c.length = 256) : (machL c n cv sv cur rv steps).length = 262 := by simp [machL, autL_len hc]
theorem machL_lo {i : Nat} (hc : c.length = 256) (hi : i < 259) : (machL c n cv sv cur rv steps)[i]? = (autL c n cv sv)[i]? := by
  unfold machL
  rw [List.getElem?_append_left (by rw [autL_len hc]; exact hi)]
theorem machL_hi (i : Nat) (hc : c.length = 256) : (machL c n cv sv cur rv steps)[i + 259]? = [Value.int .i64 cur, rv, .int .i64 (steps : Int)][i]? := by
  unfold machL
  rw [List.getElem?_append_right (by rw [autL_len hc]; omega), autL_len hc, Nat.add_sub_cancel]
theorem machL_257 (hc : c.length = 256) : (machL c n cv sv cur rv steps)[257]? = some cv := by rw [machL_lo hc (by omega), autL_counts hc]
theorem machL_258 (hc : c.length = 256) : (machL c n cv sv cur rv steps)[258]? = some sv := by rw [machL_lo hc (by omega), autL_states hc]
theorem machL_259 (hc : c.length = 256) : (machL c n cv sv cur rv steps)[259]? = some (.int .i64 cur) := machL_hi 0 hc
theorem machL_260 (hc : c.length = 256) : (machL c n cv sv cur rv steps)[260]? = some rv := machL_hi 1 hc
theorem machL_261 (hc : c.length = 256) : (machL c n cv sv cur rv steps)[261]? = some (.int .i64 (steps : Int)) := machL_hi 2 hc
theorem machL_b {b : Nat} (hc : c.length = 256) (hb : b < 256) : (machL c n cv sv cur rv steps)[b]? = some (.int .u8 (c.getD b 0 : Nat)) := by
  rw [machL_lo hc (by omega)]
  unfold autL
  rw [List.getElem?_append_left (by rw [splitLI_len hc]; omega), splitLI_get (by omega)]
  rw [List.getD_eq_getElem?_getD, List.getElem?_eq_getElem (show b < c.length by omega)]; rfl
theorem machL_set259 (hc : c.length = 256) (k : Int) : (machL c n cv sv cur rv steps).set 259 (.int .i64 k) = machL c n cv sv k rv steps := by
  unfold machL
  rw [List.set_append_right _ _ (by rw [autL_len hc]; omega), autL_len hc]; rfl
theorem machL_set260 (hc : c.length = 256) (w : Value) : (machL c n cv sv cur rv steps).set 260 w = machL c n cv sv cur w steps := by
  unfold machL
  rw [List.set_append_right _ _ (by rw [autL_len hc]; omega), autL_len hc]; rfl
theorem machL_set261 (hc : c.length = 256) (k : Nat) : (machL c n cv sv cur rv steps).set 261 (.int .i64 (k : Int)) = machL c n cv sv cur rv k := by
  unfold machL
  rw [List.set_append_right _ _ (by rw [autL_len hc]; omega), autL_len hc]; rfl
end
theorem Sl.ixArr {ro : Ro} {h : T Obj} {v : Value} {z : Nat} {cs : List (List Value)} (hl : Sl ro h v z cs) {i : Nat} (hi : i < cs.length) (n w : Nat) (k : IntKind) {j : Int} (h0 : 0 ≤ j) (h1 : j < n) : V.ixArr n w (elPtr z v i) (.int k j) = some (elPtrK z v i (j.toNat * w)) := by
  have hn : natV (.int k j) = some j.toNat := by simp [natV, h0]
  have hb : Nat.blt j.toNat n = true := by simp [Nat.blt]; omega
  rcases hl with ⟨rfl, rfl⟩ | ⟨a, cap, rfl, h2, h3, h4⟩
  · simp at hi
  · simp only [V.ixArr, hn, elPtr, asP, Option.bind, hb, elPtrK, elt_elt]
def ptrsC (ps : List (Nat × Nat)) : List (List Value) := ps.map fun p => [ptr p.1]
theorem ptrsC_len (ps : List (Nat × Nat)) : (ptrsC ps).length = ps.length := by simp [ptrsC]
abbrev RgP := T Obj → Nat → Nat → Nat → List Nat → Nat → Prop
structure RgOk (RR : RgP) (tp ta : TypeId) : Prop where
  keep : ∀ {h h' : T Obj} {p a n w : Nat} {L : List Nat}, RR h p a n L w → h'.get p = h.get p → h'.get a = h.get a → RR h' p a n L w
  p : ∀ {h : T Obj} {p a n w : Nat} {L : List Nat}, RR h p a n L w → ∃ c, h.get p = some (.cells c tp)
  a : ∀ {h : T Obj} {p a n w : Nat} {L : List Nat}, RR h p a n L w → ∃ c, h.get a = some (.cells c ta)
  ne : tp ≠ ta
  L : ∀ {h : T Obj} {p a n w : Nat} {L : List Nat}, RR h p a n L w → L.Pairwise (fun x y => y < x) ∧ (∀ x ∈ L, 1 ≤ x ∧ x ≤ n) ∧ 1 ≤ n ∧ n ≤ 4096
theorem RI_ok : RgOk RI y_ring_Ring y_int where
  keep := fun ⟨put, first, now, gp, ga, hr⟩ h1 h2 => ⟨put, first, now, by rw [h1]; exact gp, by rw [h2]; exact ga, hr⟩
  p := fun ⟨put, first, now, gp, ga, hr⟩ => ⟨_, gp⟩
  a := fun ⟨put, first, now, gp, ga, hr⟩ => ⟨_, ga⟩
  ne := by decide
  L := fun h => h.in
def WJ : RgP := fun h p a n L w => WI h p a n L w ∧ L.Pairwise (fun x y => y < x) ∧ ∀ x ∈ L, 1 ≤ x ∧ x ≤ n
theorem WJ_ok : RgOk WJ y_raddleref03_Ring y_bool where
  keep := fun ⟨hw, hr⟩ h1 h2 => ⟨⟨by rw [h1]; exact hw.1, by rw [h2]; exact hw.2.1, hw.2.2⟩, hr⟩
  p := fun ⟨hw, hr⟩ => ⟨_, hw.1⟩
  a := fun ⟨hw, hr⟩ => ⟨_, hw.2.1⟩
  ne := by decide
  L := fun ⟨hw, hr⟩ => ⟨hr.1, hr.2, hw.2.2.2.1, hw.2.2.2.2.1⟩
def RsX (RR : RgP) (h : T Obj) (ps : List (Nat × Nat)) (C : List (Int × Int)) (rs : List RgD) : Prop := ps.length = C.length ∧ rs.length = C.length ∧ ∀ (i : Nat) p c r, ps[i]? = some p → C[i]? = some c → rs[i]? = some r → RR h p.1 p.2 c.2.toNat r.1 r.2
def Dst (ps : List (Nat × Nat)) : Prop := ∀ (i j : Nat) p q, ps[i]? = some p → ps[j]? = some q → i ≠ j → p.1 ≠ q.1 ∧ p.2 ≠ q.2
section
variable {RR : RgP} {tp ta : TypeId} {h h' : T Obj} {ps : List (Nat × Nat)} {C : List (Int × Int)} {rs : List RgD}
theorem RsX.at (hr : RsX RR h ps C rs) {c : Int} (h0 : 0 ≤ c) (h1 : c < C.length) : ∃ q, ps[c.toNat]? = some q ∧ RR h q.1 q.2 (cntAt C c).2.toNat (rgAt rs c).1 (rgAt rs c).2 := by
  obtain ⟨r1, r2, r3⟩ := hr
  have hi : c.toNat < C.length := by omega
  have e1 : ps[c.toNat]? = some (ps[c.toNat]'(by omega)) := List.getElem?_eq_getElem _
  have e2 : C[c.toNat]? = some C[c.toNat] := List.getElem?_eq_getElem _
  have e3 : rs[c.toNat]? = some (rs[c.toNat]'(by omega)) := List.getElem?_eq_getElem _
  refine ⟨_, e1, ?_⟩
  have := r3 _ _ _ _ e1 e2 e3
  unfold cntAt rgAt
  rw [List.getD_eq_getElem?_getD, List.getD_eq_getElem?_getD, e2, e3]
  exact this
theorem RsX.lt (hk : RgOk RR tp ta) (hr : RsX RR h ps C rs) {nx : Nat} (hf : Fr h nx) : ∀ q ∈ ps, q.1 < nx ∧ q.2 < nx := fun q hq => by
  obtain ⟨i, hi⟩ := List.getElem?_of_mem hq
  obtain ⟨r1, r2, r3⟩ := hr
  have hl := (List.getElem?_eq_some_iff.1 hi).1
  have := r3 i q _ _ hi (List.getElem?_eq_getElem (by omega)) (List.getElem?_eq_getElem (by omega))
  obtain ⟨c1, h1⟩ := hk.p this
  obtain ⟨c2, h2⟩ := hk.a this
  exact ⟨hf.lt' h1, hf.lt' h2⟩
theorem RsX.ty (hk : RgOk RR tp ta) (hr : RsX RR h ps C rs) : ∀ q ∈ ps, (∃ c, h.get q.1 = some (.cells c tp)) ∧ ∃ c, h.get q.2 = some (.cells c ta) := fun q hq => by
  obtain ⟨i, hi⟩ := List.getElem?_of_mem hq
  obtain ⟨r1, r2, r3⟩ := hr
  have hl := (List.getElem?_eq_some_iff.1 hi).1
  have := r3 i q _ _ hi (List.getElem?_eq_getElem (by omega)) (List.getElem?_eq_getElem (by omega))
  exact ⟨hk.p this, hk.a this⟩
theorem RsX.keep (hk : RgOk RR tp ta) (hr : RsX RR h ps C rs) (hg : ∀ q ∈ ps, h'.get q.1 = h.get q.1 ∧ h'.get q.2 = h.get q.2) : RsX RR h' ps C rs :=
  ⟨hr.1, hr.2.1, fun i p c r h1 h2 h3 => hk.keep (hr.2.2 i p c r h1 h2 h3) (hg p (List.mem_of_getElem? h1)).1 (hg p (List.mem_of_getElem? h1)).2⟩
theorem RsX.sub (hk : RgOk RR tp ta) (hr : RsX RR h ps C rs) (hs : Sub h h') : RsX RR h' ps C rs := hr.keep hk fun q hq => by
  obtain ⟨⟨c1, h1⟩, c2, h2⟩ := hr.ty hk q hq
  rw [h1, h2, hs _ _ h1, hs _ _ h2]; exact ⟨rfl, rfl⟩
theorem RsX.set (hk : RgOk RR tp ta) (hr : RsX RR h ps C rs) (hd : Dst ps) {nx : Nat} (hf : Fr h nx) {i a' : Nat} {q : Nat × Nat} {r : RgD} {c : Int × Int} (hq : ps[i]? = some q) (hc : C[i]? = some c) (hn : RR h' q.1 a' c.2.toNat r.1 r.2) (hg : ∀ k, k < nx → k ≠ q.1 → k ≠ q.2 → h'.get k = h.get k) :
    RsX RR h' (ps.set i (q.1, a')) C (rs.set i r) := by
  have hlt := hr.lt hk hf
  have hty := hr.ty hk
  refine ⟨by rw [List.length_set]; exact hr.1, by rw [List.length_set]; exact hr.2.1, fun j p c2 r2 h1 h2 h3 => ?_⟩
  by_cases hij : i = j
  · subst hij
    have hl := (List.getElem?_eq_some_iff.1 hq).1
    have hl2 : i < rs.length := by have := hr.1; have := hr.2.1; omega
    rw [List.getElem?_set_self hl] at h1
    rw [List.getElem?_set_self hl2] at h3
    rw [hc] at h2
    cases h1; cases h2; cases h3
    exact hn
  · rw [List.getElem?_set_ne hij] at h1
    rw [List.getElem?_set_ne hij] at h3
    have hd2 := hd i j q p hq h1 hij
    have hm := List.mem_of_getElem? h1
    have hm2 := List.mem_of_getElem? hq
    obtain ⟨⟨c3, t1⟩, c4, t2⟩ := hty p hm
    obtain ⟨⟨c5, t3⟩, c6, t4⟩ := hty q hm2
    have n1 : p.1 ≠ q.2 := fun e => by rw [e, t4] at t1; simp only [Option.some.injEq, Obj.cells.injEq] at t1; exact hk.ne t1.2.1.symm
    have n2 : p.2 ≠ q.1 := fun e => by rw [e, t3] at t2; simp only [Option.some.injEq, Obj.cells.injEq] at t2; exact hk.ne t2.2.1
    exact hk.keep (hr.2.2 j p c2 r2 h1 h2 h3) (hg _ (hlt p hm).1 (Ne.symm hd2.1) n1) (hg _ (hlt p hm).2 n2 (Ne.symm hd2.2))
theorem Dst.set (hd : Dst ps) {i a' : Nat} {q : Nat × Nat} (hq : ps[i]? = some q) (ha : a' = q.2 ∨ ∀ p ∈ ps, p.2 < a') : Dst (ps.set i (q.1, a')) := by
  intro j k p p2 h1 h2 hjk
  have hl := (List.getElem?_eq_some_iff.1 hq).1
  by_cases hj : i = j
  · subst hj
    rw [List.getElem?_set_self hl] at h1
    cases h1
    rw [List.getElem?_set_ne hjk] at h2
    have h3 := hd i k q p2 hq h2 hjk
    refine ⟨h3.1, ?_⟩
    rcases ha with rfl | ha
    · exact h3.2
    · have := ha p2 (List.mem_of_getElem? h2); show a' ≠ p2.2; omega
  · rw [List.getElem?_set_ne hj] at h1
    by_cases hk : i = k
    · subst hk
      rw [List.getElem?_set_self hl] at h2
      cases h2
      have h3 := hd j i p q h1 hq hjk
      refine ⟨h3.1, ?_⟩
      rcases ha with rfl | ha
      · exact h3.2
      · have := ha p (List.mem_of_getElem? h1); show p.2 ≠ a'; omega
    · rw [List.getElem?_set_ne hk] at h2
      exact hd j k p p2 h1 h2 hjk
theorem set_same {i : Nat} {q : Nat × Nat} (hq : ps[i]? = some q) : ps.set i (q.1, q.2) = ps := by
  apply List.ext_getElem?
  intro j
  by_cases hj : i = j
  · subst hj
    rw [List.getElem?_set_self (List.getElem?_eq_some_iff.1 hq).1, hq]
  · rw [List.getElem?_set_ne hj]
theorem ptrsC_set {i a' : Nat} {q : Nat × Nat} (hq : ps[i]? = some q) : ptrsC (ps.set i (q.1, a')) = ptrsC ps := by
  unfold ptrsC
  apply List.ext_getElem?
  intro j
  rw [List.getElem?_map, List.getElem?_map]
  by_cases hj : i = j
  · subst hj
    rw [List.getElem?_set_self (List.getElem?_eq_some_iff.1 hq).1, hq]; rfl
  · rw [List.getElem?_set_ne hj]
end
def blks (ps : List (Nat × Nat)) : List Nat := ps.flatMap fun q => [q.1, q.2]
theorem mem_blks {ps : List (Nat × Nat)} {k : Nat} : k ∈ blks ps ↔ ∃ q ∈ ps, k = q.1 ∨ k = q.2 := by simp [blks]
def MX (RR : RgP) (ty : TypeId) (ro : Ro) (h : T Obj) (X : List Nat) (p : Nat) (ps : List (Nat × Nat)) (d : AutoD) (m : MacD) : Prop := ∃ cv sv rv, h.get p = some (.cells (machL d.c d.many cv sv m.cur rv m.steps).toArray ty) ∧ RAuto ro (del h X) (autL d.c d.many cv sv) d ∧
  Sl ro (del h X) rv 1 (ptrsC ps) ∧ RsX RR h ps d.counts m.rs ∧ Dst ps ∧ p ∈ X ∧ ∀ k ∈ blks ps, k ∈ X
abbrev MI := MX RI y_exec_Machine
abbrev MW := MX WJ y_raddleref13_Machine
theorem del_re {h h' : T Obj} {X : List Nat} (hs : Sub (del h X) h') : Sub (del h X) (del h' X) := fun k o hk => by
  have h1 := hk
  rw [del_get] at h1
  split at h1
  · cases h1
  · rename_i hn; exact del_some (hs k o hk) hn
theorem del_re2 {h h' : T Obj} {X X' : List Nat} (hs : Sub (del h X) h') (hx : ∀ k ∈ X', k ∈ X ∨ h.get k = none) : Sub (del h X) (del h' X') := fun k o hk => by
  have h1 := hk
  rw [del_get] at h1
  split at h1
  · cases h1
  · rename_i hn
    refine del_some (hs k o hk) fun hm => ?_
    rcases hx k hm with h2 | h2
    · exact hn h2
    · rw [h2] at h1; cases h1
section
variable {RR : RgP} {tp ta ty : TypeId} {ro : Ro} {h h' : T Obj} {X X' : List Nat} {p : Nat} {ps : List (Nat × Nat)} {d : AutoD} {m : MacD}
theorem RAuto.sub {x : List Value} (hd : RAuto ro h x d) (hs : Sub h h') : RAuto ro h' x d := by
  obtain ⟨cv, sv, h1, h2, h3, h4, h5, h6⟩ := hd
  exact ⟨cv, sv, h1, h2, h3, h4.sub hs fun _ _ h => h, h5.sub hs (RState.sub hs), h6⟩
theorem MX.keep {ids : List Nat} (hk : RgOk RR tp ta) (hm : MX RR ty ro h X p ps d m) (hs : Keep ids h h') (h1 : ∀ k ∈ ids, k ∈ X) (h2 : ∀ k ∈ ids, k ≠ p ∧ k ∉ blks ps) (h3 : ∀ k ∈ X', k ∈ X ∨ h.get k = none) (h4 : ∀ k ∈ X, k ∈ X') : MX RR ty ro h' X' p ps d m := by
  obtain ⟨cv, sv, rv, g1, g2, g3, g4, g5, g6, g7⟩ := hm
  have hD := hs.del h1 h3
  refine ⟨cv, sv, rv, hs p _ g1 fun hp => (h2 p hp).1 rfl, g2.sub hD, g3.sub hD, g4.keep hk fun q hq => ?_, g5, h4 p g6, fun k hk => h4 k (g7 k hk)⟩
  obtain ⟨⟨c1, t1⟩, c2, t2⟩ := g4.ty hk q hq
  rw [t1, t2, hs _ _ t1 fun hm => (h2 _ hm).2 (mem_blks.2 ⟨q, hq, .inl rfl⟩), hs _ _ t2 fun hm => (h2 _ hm).2 (mem_blks.2 ⟨q, hq, .inr rfl⟩)]
  exact ⟨rfl, rfl⟩
theorem MX.sub (hk : RgOk RR tp ta) (hm : MX RR ty ro h X p ps d m) (hs : Sub h h') (h3 : ∀ k ∈ X', k ∈ X ∨ h.get k = none) (h4 : ∀ k ∈ X, k ∈ X') : MX RR ty ro h' X' p ps d m := hm.keep (ids := []) hk hs.keepL (fun k hk => by cases hk) (fun k hk => by cases hk) h3 h4
theorem MX.subX (hk : RgOk RR tp ta) (hm : MX RR ty ro h X p ps d m) (hs : Sub h h') : MX RR ty ro h' X p ps d m := hm.sub hk hs (fun k hk => .inl hk) fun k hk => hk
theorem MX.lt (hk : RgOk RR tp ta) (hm : MX RR ty ro h X p ps d m) {nx : Nat} (hf : Fr h nx) : p < nx ∧ ∀ k ∈ blks ps, k < nx := by
  obtain ⟨cv, sv, rv, g1, g2, g3, g4, g5, g6, g7⟩ := hm
  refine ⟨hf.lt' g1, fun k hk2 => ?_⟩
  obtain ⟨q, hq, h1⟩ := mem_blks.1 hk2
  have := g4.lt hk hf q hq
  omega
end
end V
end Go.Proofs.YtjndkdmkecpllaaGreat
set_option linter.unusedVariables false
set_option linter.unusedSimpArgs false
namespace Go.Proofs.YtjndkdmkecpllaaGreat
namespace V
attribute [local irreducible] bindP ifP condP newP optP exP beqP
theorem RAuto.parts {ro : Ro} {h : T Obj} {d : AutoD} {cv sv : Value} (hd : RAuto ro h (autL d.c d.many cv sv) d) : d.c.length = 256 ∧ (∀ x ∈ d.c, x < 256) ∧ SlR ro h cv 2 RCount d.counts ∧ SlR ro h sv 4 (RState ro h) d.states := by
  obtain ⟨cv', sv', h1, h2, h3, h4, h5, h6⟩ := hd
  unfold autL at h1
  have := List.append_cancel_left h1
  simp only [List.cons.injEq, and_true] at this
  obtain ⟨rfl, rfl⟩ := this
  exact ⟨h2, h3, h4, h5⟩
theorem Sl.ixI {ro : Ro} {h : T Obj} {v : Value} {z : Nat} {l : List (List Value)} (hl : Sl ro h v z l) (k : IntKind) {i : Int} (h0 : 0 ≤ i) (hi : i < l.length) : ixSl z v (.int k i) = some (elPtr z v i.toNat) := by
  have := hl.ix k (i := i.toNat) (by omega)
  rwa [Int.toNat_of_nonneg h0] at this
theorem SlR.sl' {D : Type} {ro : Ro} {h : T Obj} {v : Value} {z : Nat} {R : List Value → D → Prop} {l : List D} (hl : SlR ro h v z R l) {i : Nat} (hi : i < l.length) (n w : Nat) (k : IntKind) {j : Int} (h0 : 0 ≤ j) (h1 : j < n) : ixArr n w (elPtr z v i) (.int k j) = some (elPtrK z v i (j.toNat * w)) := by
  obtain ⟨cs, g1, g2, g3⟩ := hl
  exact g1.ixArr (by omega) n w k h0 h1
theorem ptrs_get {ps : List (Nat × Nat)} {i : Nat} {q : Nat × Nat} (hq : ps[i]? = some q) : (ptrsC ps)[i]? = some [ptr q.1] := by simp [ptrsC, hq]
theorem cnt_get {C : List (Int × Int)} {c : Int} (h0 : 0 ≤ c) (h1 : c < C.length) : C[c.toNat]'(by omega) = cntAt C c := by
  unfold cntAt
  rw [List.getD_eq_getElem?_getD, List.getElem?_eq_getElem (by omega)]; rfl
section
variable {ro : Ro} {h : T Obj} {nx : Nat} {X : List Nat} {p : Nat} {ps : List (Nat × Nat)} {d : AutoD} {m : MacD} {K : KV}
theorem exec_State_c (hm : MI ro h X p ps d m) (hK : ∀ nx', nx ≤ nx' → K (.int .i64 m.cur) h nx') : callP Tryz.prog ro i_exec_Machine_State [ptr p] h nx K := by
  obtain ⟨cv, sv, rv, gp, hA, _⟩ := hm
  have m9 := machL_259 (n := d.many) (cv := cv) (sv := sv) (cur := m.cur) (rv := rv) (steps := m.steps) hA.parts.1
  apply exec_Machine_State_of
  unfold exec_Machine_State
  (repeat (first | refine bindP_mk (by simp (disch := first | omega | exact Int.natCast_nonneg _ | assumption) only [BB, B2, ↓reduceIte, Nat.reduceLeDiff, Nat.reduceAdd, CC, ptrB_eql_at, nilCk_at, gp, m9] <;> rfl) ?_ | refine newP_mk ?_ | refine optP_mk ?_ | with_reducible first | refine condP_t ?_ | refine condP_f ?_ | refine ifP_tt' ?_ | refine ifP_ff' ?_ | refine ifP_tf' ?_ | refine ifP_ft' ?_ | refine ifP_u' ?_ | refine optP_mk0 ?_))
  exact ⟨h, Sub.refl _, hK _ (by omega)⟩
set_option maxRecDepth 8000 in
theorem exec_digit_c {c : Int} (hm : MI ro h X p ps d m) (hc0 : 0 ≤ c) (hc : c < d.counts.length) (hK : ∀ nx', nx ≤ nx' → K (.int .i64 (digM d.counts m.rs c : Nat)) h nx') : callP Tryz.prog ro i_exec_Machine_digit [ptr p, .int .i64 c] h nx K := by
  obtain ⟨cv, sv, rv, gp, hA, hP, hR, hD, hpX, hbX⟩ := hm
  obtain ⟨hcl, hclt, hcv, hsv⟩ := hA.parts
  have hP := hP.sub (del_sub h X)
  have hcv := hcv.sub (del_sub h X) fun _ _ h => h
  have m0 := machL_260 (n := d.many) (cv := cv) (sv := sv) (cur := m.cur) (rv := rv) (steps := m.steps) hcl
  have m7 := machL_257 (n := d.many) (cv := cv) (sv := sv) (cur := m.cur) (rv := rv) (steps := m.steps) hcl
  obtain ⟨q, hq, hri⟩ := hR.at hc0 hc
  have hi : c.toNat < d.counts.length := by omega
  have hpi := hP.ixI .i64 hc0 (by rw [ptrsC_len, hR.1]; exact hc)
  have hp1 := hP.load1 (ptrs_get hq)
  have hci := hcv.ixI .i64 hc0 hc
  obtain ⟨x, hx1, hx2, hx3, hx4, hx5⟩ := hcv.at hi
  rw [cnt_get hc0 hc] at hx1
  have ha0 : V.ixArr 2 1 (elPtr 2 cv c.toNat) (.int .i64 0) = some (elPtrK 2 cv c.toNat 0) := hcv.sl' hi 2 1 .i64 (j := 0) (by omega) (by omega)
  have ha1 : V.ixArr 2 1 (elPtr 2 cv c.toNat) (.int .i64 1) = some (elPtrK 2 cv c.toNat 1) := hcv.sl' hi 2 1 .i64 (j := 1) (by omega) (by omega)
  obtain rfl : x = [.int .i64 (cntAt d.counts c).1, .int .i64 (cntAt d.counts c).2] := hx1
  have hl0 := hx5 0 _ rfl
  have hl1 := hx5 1 _ rfl
  have hL := RI_ok.L hri
  apply exec_Machine_digit_of
  unfold exec_Machine_digit
  unfold digM at hK
  generalize (cntAt d.counts c) = ct at hri hl0 hl1 hL hK
  generalize (rgAt m.rs c) = r at hri hL hK
  (repeat (first | refine bindP_mk (by simp (disch := first | omega | exact Int.natCast_nonneg _ | assumption) only [BB, B2, ↓reduceIte, Nat.reduceLeDiff, Nat.reduceAdd, CC, nilCk_at, gp, m0, hpi, hp1] <;> rfl) ?_ | refine newP_mk ?_ | refine optP_mk ?_ | with_reducible first | refine condP_t ?_ | refine condP_f ?_ | refine ifP_tt' ?_ | refine ifP_ff' ?_ | refine ifP_tf' ?_ | refine ifP_ft' ?_ | refine ifP_u' ?_ | refine optP_mk0 ?_))
  refine ring_Min_c hri fun n1 hn1 => ?_
  refine bindP_mk (least0 _) (bindP_mk (least1 _) ?_)
  (repeat (first | refine bindP_mk (by simp (disch := first | omega | exact Int.natCast_nonneg _ | assumption) only [BB, B2, ↓reduceIte, Nat.reduceLeDiff, Nat.reduceAdd, CC, nilCk_at, gp, m0, hpi, hp1] <;> rfl) ?_ | refine newP_mk ?_ | refine optP_mk ?_ | with_reducible first | refine condP_t ?_ | refine condP_f ?_ | refine ifP_tt' ?_ | refine ifP_ff' ?_ | refine ifP_tf' ?_ | refine ifP_ft' ?_ | refine ifP_u' ?_ | refine optP_mk0 ?_))
  refine ring_Max_c hri fun n2 hn2 => ?_
  refine bindP_mk (great0 _) (bindP_mk (great1 _) ?_)
  have hend : ∀ (k : Nat) n, nx ≤ n → (if r.1.length = 0 then 0 else if ((r.1.getD 0 0 : Nat) : Int) < ct.1 then 0 else if ((r.1.getD (r.1.length - 1) 0 : Nat) : Int) < ct.2 then 2 else 1) = k → ∃ h', Sub h' h ∧ K (.int .i64 (k : Int)) h' n := fun k n hn e => by
    subst e; exact ⟨h, Sub.refl _, hK _ hn⟩
  by_cases h0 : r.1.length = 0
  · rw [decide_eq_true h0]
    (repeat (first | refine bindP_mk (by simp (disch := first | omega | exact Int.natCast_nonneg _ | assumption) only [BB, B2, ↓reduceIte, Nat.reduceLeDiff, Nat.reduceAdd, CC] <;> rfl) ?_ | refine newP_mk ?_ | refine optP_mk ?_ | with_reducible first | refine condP_t ?_ | refine condP_f ?_ | refine ifP_tt' ?_ | refine ifP_ff' ?_ | refine ifP_tf' ?_ | refine ifP_ft' ?_ | refine ifP_u' ?_ | refine optP_mk0 ?_))
    exact hend 0 _ (by omega) (by rw [if_pos h0])
  · rw [decide_eq_false h0]
    have e1 : high r.1 = r.1.getD 0 0 := by unfold high; rw [if_neg h0]
    have e2 : low r.1 = r.1.getD (r.1.length - 1) 0 := by unfold low; rw [if_neg h0]
    rw [e1, e2]
    simp only [if_neg h0] at hend
    (repeat (first | refine bindP_mk (by simp (disch := first | omega | exact Int.natCast_nonneg _ | assumption) only [BB, B2, ↓reduceIte, Nat.reduceLeDiff, Nat.reduceAdd, CC, nilCk_at, gp, m7, hci, ha0, hl0] <;> rfl) ?_ | refine newP_mk ?_ | refine optP_mk ?_ | with_reducible first | refine condP_t ?_ | refine condP_f ?_ | refine ifP_tt' ?_ | refine ifP_ff' ?_ | refine ifP_tf' ?_ | refine ifP_ft' ?_ | refine ifP_u' ?_ | refine optP_mk0 ?_))
    refine lss_s (fun h1 => ?_) (fun h1 => ?_)
    · (repeat (first | refine bindP_mk (by simp (disch := first | omega | exact Int.natCast_nonneg _ | assumption) only [BB, B2, ↓reduceIte, Nat.reduceLeDiff, Nat.reduceAdd, CC] <;> rfl) ?_ | refine newP_mk ?_ | refine optP_mk ?_ | with_reducible first | refine condP_t ?_ | refine condP_f ?_ | refine ifP_tt' ?_ | refine ifP_ff' ?_ | refine ifP_tf' ?_ | refine ifP_ft' ?_ | refine ifP_u' ?_ | refine optP_mk0 ?_))
      exact hend 0 _ (by omega) (by rw [if_pos h1])
    · simp only [if_neg (show ¬ ((r.1.getD 0 0 : Nat) : Int) < ct.1 by omega)] at hend
      (repeat (first | refine bindP_mk (by simp (disch := first | omega | exact Int.natCast_nonneg _ | assumption) only [BB, B2, ↓reduceIte, Nat.reduceLeDiff, Nat.reduceAdd, CC, nilCk_at, gp, m7, hci, ha1, hl1] <;> rfl) ?_ | refine newP_mk ?_ | refine optP_mk ?_ | with_reducible first | refine condP_t ?_ | refine condP_f ?_ | refine ifP_tt' ?_ | refine ifP_ff' ?_ | refine ifP_tf' ?_ | refine ifP_ft' ?_ | refine ifP_u' ?_ | refine optP_mk0 ?_))
      refine lss_s (fun h2 => ?_) (fun h2 => ?_)
      · (repeat (first | refine bindP_mk (by simp (disch := first | omega | exact Int.natCast_nonneg _ | assumption) only [BB, B2, ↓reduceIte, Nat.reduceLeDiff, Nat.reduceAdd, CC] <;> rfl) ?_ | refine newP_mk ?_ | refine optP_mk ?_ | with_reducible first | refine condP_t ?_ | refine condP_f ?_ | refine ifP_tt' ?_ | refine ifP_ff' ?_ | refine ifP_tf' ?_ | refine ifP_ft' ?_ | refine ifP_u' ?_ | refine optP_mk0 ?_))
        exact hend 2 _ (by omega) (by rw [if_pos h2])
      · (repeat (first | refine bindP_mk (by simp (disch := first | omega | exact Int.natCast_nonneg _ | assumption) only [BB, B2, ↓reduceIte, Nat.reduceLeDiff, Nat.reduceAdd, CC] <;> rfl) ?_ | refine newP_mk ?_ | refine optP_mk ?_ | with_reducible first | refine condP_t ?_ | refine condP_f ?_ | refine ifP_tt' ?_ | refine ifP_ff' ?_ | refine ifP_tf' ?_ | refine ifP_ft' ?_ | refine ifP_u' ?_ | refine optP_mk0 ?_))
        exact hend 1 _ (by omega) (by rw [if_neg (by omega)])
set_option maxRecDepth 8000 in
theorem exec_code_c {lv rv' uv nv : Value} {R : List Int} (hm : MI ro h X p ps d m) (hf : Fr h nx) (hR3 : R.length ≤ 3) (hRl : ∀ c ∈ R, 0 ≤ c ∧ c < d.counts.length) (hr : ZI ro h rv' R) (hK : ∀ nx', nx ≤ nx' → K (.int .i64 (codeM d.counts m.rs R : Nat)) h nx') : callP Tryz.prog ro i_exec_Machine_code [ptr p, .agg #[lv, rv', uv, nv]] h nx K := by
  apply exec_Machine_code_of
  unfold exec_Machine_code
  refine param_mk hf (Nat.le_refl _) fun h1 hs1 hf1 g1 _ => ?_
  have g1 : h1.get nx = some (.cells #[lv, rv', uv, nv] y_api_State) := g1
  have hr := hr.sub hs1
  have hrl := hr.len
  have hm1 := hm.subX RI_ok hs1
  have htot : codeM d.counts m.rs R ≤ 26 := by
    have h9 := codeM_codes (C := d.counts) (rs := m.rs) hR3
    have h10 := codes_le (R.length : Int)
    omega
  (repeat (first | refine bindP_mk (by simp (disch := first | omega | exact Int.natCast_nonneg _ | assumption) only [BB, B2, ↓reduceIte, Nat.reduceLeDiff, Nat.reduceAdd, CC, g1, hrl] <;> rfl) ?_ | refine newP_mk ?_ | refine optP_mk ?_ | with_reducible first | refine condP_t ?_ | refine condP_f ?_ | refine ifP_tt' ?_ | refine ifP_ff' ?_ | refine ifP_tf' ?_ | refine ifP_ft' ?_ | refine ifP_u' ?_ | refine optP_mk0 ?_))
  generalize hT : codeM d.counts m.rs R = tot at hK htot
  refine loopP_rule (fun j e h' nx' => ∃ (k n w : Nat), k + j = R.length ∧ nx ≤ nx' ∧ h' = h1 ∧ e 0 = ptr p ∧ e 5 = .int .i64 (n : Int) ∧ e 6 = .int .i64 (w : Int) ∧ e 10 = rv' ∧ e 11 = .int .i64 R.length ∧ e 12 = .int .i64 k ∧ n + w * codeM d.counts m.rs (R.drop k) = tot ∧ (k = 0 ∧ w = 1 ∨ k = 1 ∧ w = 3 ∨ k = 2 ∧ w = 9 ∨ k = 3 ∧ w = 27)) ?_ (n := R.length) ⟨0, 0, 1, by omega, by omega, rfl, rfl, rfl, rfl, rfl, rfl, rfl, by rw [List.drop_zero, hT]; omega, by omega⟩
  rintro j e h' nx' ⟨k, n, w, hj, hnx, rfl, e0, e5, e6, e10, e11, e12, ht, hw⟩ Q' hq hx
  unfold exec_Machine_code_L1
  rw [e0, e5, e6, e10, e11, e12]
  refine lss_s (fun hk => ?_) (fun hk => ?_)
  · have hk : k < R.length := by omega
    rw [drop_cons hk] at ht
    have hcm := hRl _ (List.getElem_mem hk)
    (repeat (first | refine bindP_mk (by simp (disch := first | omega | exact Int.natCast_nonneg _ | assumption) only [BB, B2, ↓reduceIte, Nat.reduceLeDiff, Nat.reduceAdd, CC] <;> rfl) ?_ | refine newP_mk ?_ | refine optP_mk ?_ | with_reducible first | refine condP_t ?_ | refine condP_f ?_ | refine ifP_tt' ?_ | refine ifP_ff' ?_ | refine ifP_tf' ?_ | refine ifP_ft' ?_ | refine ifP_u' ?_ | refine optP_mk0 ?_))
    refine bindP_mk (hr.ix _ hk) (bindP_mk (hr.load hk) ?_)
    generalize R[k] = c at ht hcm
    refine exec_digit_c hm1 hcm.1 hcm.2 fun n2 hn2 => ?_
    change n + w * (digM d.counts m.rs c + 3 * codeM d.counts m.rs (R.drop (k + 1))) = tot at ht
    have hdl := digM_lt d.counts m.rs c
    generalize digM d.counts m.rs c = g at ht hdl
    have hw27 : w ≤ 27 := by omega
    have hwg : w * g ≤ 54 := Nat.mul_le_mul hw27 (show g ≤ 2 by omega)
    have hmul : intB .mul (.int .i64 (w : Int)) (.int .i64 (g : Int)) = some (.int .i64 ((w * g : Nat) : Int)) := by
      rw [intB_mul, ← Int.natCast_mul, wr_i64 (by omega) (by omega)]
    rw [Nat.mul_add, ← Nat.mul_assoc] at ht
    have hadd : intB .add (.int .i64 (n : Int)) (.int .i64 ((w * g : Nat) : Int)) = some (.int .i64 ((n + w * g : Nat) : Int)) := by
      rw [intB_add, ← Int.natCast_add, wr_i64 (by omega) (by omega)]
    have hmul3 : intB .mul (.int .i64 (w : Int)) (.int .i64 3) = some (.int .i64 ((w * 3 : Nat) : Int)) := by
      rw [intB_mul, wr_i64 (by omega) (by omega)]; simp
    refine bindP_mk hmul (bindP_mk hadd (bindP_mk hmul3 ?_))
    (repeat (first | refine bindP_mk (by simp (disch := first | omega | exact Int.natCast_nonneg _ | assumption) only [BB, B2, ↓reduceIte, Nat.reduceLeDiff, Nat.reduceAdd, CC] <;> rfl) ?_ | refine newP_mk ?_ | refine optP_mk ?_ | with_reducible first | refine condP_t ?_ | refine condP_f ?_ | refine ifP_tt' ?_ | refine ifP_ff' ?_ | refine ifP_tf' ?_ | refine ifP_ft' ?_ | refine ifP_u' ?_ | refine optP_mk0 ?_))
    exact hq (j - 1) _ _ _ _ (by omega) ⟨k + 1, n + w * g, w * 3, by omega, by omega, rfl, e0, rfl, rfl, e10, e11, rfl, by omega, by omega⟩ (Sub.refl _)
  · (repeat (first | refine bindP_mk (by simp (disch := first | omega | exact Int.natCast_nonneg _ | assumption) only [BB, B2, ↓reduceIte, Nat.reduceLeDiff, Nat.reduceAdd, CC] <;> rfl) ?_ | refine newP_mk ?_ | refine optP_mk ?_ | with_reducible first | refine condP_t ?_ | refine condP_f ?_ | refine ifP_tt' ?_ | refine ifP_ff' ?_ | refine ifP_tf' ?_ | refine ifP_ft' ?_ | refine ifP_u' ?_ | refine optP_mk0 ?_))
    refine hx _ _ _ _ (fun e => by cases e) (exP_e (beqP_t ?_))
    unfold exec_Machine_code_j1
    rw [drop_all (by omega)] at ht
    have ht : n + w * 0 = tot := ht
    have f5 : ∀ (e' : Env) n', e' 5 = .int .i64 (n : Int) → nx ≤ n' → ∃ h2, Sub h2 h' ∧ K (e' 5) h2 n' := fun e' n' h5 hn => by
      rw [h5]
      exact ⟨h, hs1, ki hK (by omega) hn⟩
    exact f5 _ _ e5 (by omega)
set_option maxRecDepth 8000 in
theorem exec_Rule_c (hm : MI ro h X p ps d m) (ha : autoOk d = true) (ho : MOk d m) (hf : Fr h nx) (hK : ∀ nx', nx ≤ nx' → K (.int .i64 (ruleM d m)) h nx') : callP Tryz.prog ro i_exec_Machine_Rule [ptr p] h nx K := by
  apply exec_Machine_Rule_of
  unfold exec_Machine_Rule
  refine exec_State_c hm fun n1 hn1 => ?_
  unfold ruleM at hK
  by_cases hc : m.cur = -1
  · rw [if_pos hc] at hK
    refine eql_t hc ?_
    (repeat (first | refine bindP_mk (by simp (disch := first | omega | exact Int.natCast_nonneg _ | assumption) only [BB, B2, ↓reduceIte, Nat.reduceLeDiff, Nat.reduceAdd, CC] <;> rfl) ?_ | refine newP_mk ?_ | refine optP_mk ?_ | with_reducible first | refine condP_t ?_ | refine condP_f ?_ | refine ifP_tt' ?_ | refine ifP_ff' ?_ | refine ifP_tf' ?_ | refine ifP_ft' ?_ | refine ifP_u' ?_ | refine optP_mk0 ?_))
    exact ⟨h, Sub.refl _, hK _ (by omega)⟩
  · rw [if_neg hc] at hK
    have hst := st_at ha ho hc
    obtain ⟨cv, sv, rv, gp, hA, hP, hR, hD, hpX, hbX⟩ := id hm
    obtain ⟨hcl, hclt, hcv, hsv⟩ := hA.parts
    have hsv := hsv.sub (del_sub h X) (RState.sub (del_sub h X))
    have m8 := machL_258 (n := d.many) (cv := cv) (sv := sv) (cur := m.cur) (rv := rv) (steps := m.steps) hcl
    have m9 := machL_259 (n := d.many) (cv := cv) (sv := sv) (cur := m.cur) (rv := rv) (steps := m.steps) hcl
    have hcur : 0 ≤ m.cur ∧ m.cur < d.states.length := by rcases ho.1 with h | h <;> omega
    have hi : m.cur.toNat < d.states.length := by omega
    have hs : d.states[m.cur.toNat] = stAt d m := by unfold stAt; rw [List.getD_eq_getElem?_getD, List.getElem?_eq_getElem hi]; rfl
    have hsi := hsv.ixI .i64 hcur.1 hcur.2
    obtain ⟨x, ⟨lv, rv', uv, nv, rfl, y1, y2, y3, y4, y5⟩, hx2, hx3, hx4, hx5⟩ := hsv.at hi
    rw [hs] at y1 y2 y3 y4 y5
    generalize stAt d m = s at hst y1 y2 y3 y4 y5 hK
    refine eql_f hc ?_
    (repeat (first | refine bindP_mk (by simp (disch := first | omega | exact Int.natCast_nonneg _ | assumption) only [BB, B2, ↓reduceIte, Nat.reduceLeDiff, Nat.reduceAdd, CC, nilCk_at, gp, m8, m9, hsi, hx3] <;> rfl) ?_ | refine newP_mk ?_ | refine optP_mk ?_ | with_reducible first | refine condP_t ?_ | refine condP_f ?_ | refine ifP_tt' ?_ | refine ifP_ff' ?_ | refine ifP_tf' ?_ | refine ifP_ft' ?_ | refine ifP_u' ?_ | refine optP_mk0 ?_))
    refine local_mk (x := [lv, rv', uv, nv]) zer_State rfl rfl rfl (by simp [y1.ok, y2.ok, y3.ok, SlR.okC y4]) hf (by omega) fun h2 hs2 hf2 g2 _ => ?_
    (repeat (first | refine bindP_mk (by simp (disch := first | omega | exact Int.natCast_nonneg _ | assumption) only [BB, B2, ↓reduceIte, Nat.reduceLeDiff, Nat.reduceAdd, CC, g2] <;> rfl) ?_ | refine newP_mk ?_ | refine optP_mk ?_ | with_reducible first | refine condP_t ?_ | refine condP_f ?_ | refine ifP_tt' ?_ | refine ifP_ff' ?_ | refine ifP_tf' ?_ | refine ifP_ft' ?_ | refine ifP_u' ?_ | refine optP_mk0 ?_))
    refine exec_code_c (hm.subX RI_ok hs2) (hf2.mono (by omega)) hst.r3 hst.rl (y2.sub hs2) fun n3 hn3 => ?_
    refine ⟨sameV_own g2 g2, ?_⟩
    have hkr := hst.kr
    have y3 := y3.sub hs2
    refine bindP_mk (y3.ix _ hkr) (bindP_mk (y3.load hkr) ?_)
    refine ⟨h, hs2, ?_⟩
    rw [List.getD_eq_getElem?_getD, List.getElem?_eq_getElem hkr] at hK
    exact hK _ (by omega)
end
end V
end Go.Proofs.YtjndkdmkecpllaaGreat
set_option linter.unusedVariables false
set_option linter.unusedSimpArgs false
namespace Go.Proofs.YtjndkdmkecpllaaGreat
namespace V
attribute [local irreducible] bindP ifP condP newP optP exP beqP
theorem Only.trans {a b c : T Obj} {p q : Nat} (h1 : Only a b p q) (h2 : Only b c p q) : Only a c p q := fun k k1 k2 => by rw [h2 k k1 k2, h1 k k1 k2]
theorem Only.get {h h' : T Obj} {p a n w k : Nat} {L : List Nat} {c : Array Value} {e : TypeId} (ho : Only h h' p a) (hR : RI h p a n L w) (hg : h.get k = some (.cells c e)) (h1 : e ≠ y_ring_Ring) (h2 : e ≠ y_int) : h'.get k = some (.cells c e) := by
  obtain ⟨c1, t1⟩ := RI_ok.p hR
  obtain ⟨c2, t2⟩ := RI_ok.a hR
  rw [ho k (ne_of_get hg t1 h1) (ne_of_get hg t2 h2)]; exact hg
theorem Only.frR {h h' : T Obj} {p a n w nx : Nat} {L : List Nat} (ho : Only h h' p a) (hR : RI h p a n L w) (hf : Fr h nx) : Fr h' nx := fun k hk => by
  obtain ⟨c1, t1⟩ := RI_ok.p hR
  obtain ⟨c2, t2⟩ := RI_ok.a hR
  have := hf.lt' t1
  have := hf.lt' t2
  rw [ho k (by omega) (by omega)]; exact hf k hk
theorem exec_change_c {ro : Ro} {h : T Obj} {p a n w o nx : Nat} {L : List Nat} {K : KV} (hR : RI h p a n L w) (ho : 1 ≤ o ∧ o ≤ 3) (hw : w + 2 ≤ 1000000) (hK : ∀ h' nx', nx ≤ nx' → RI h' p a n (rgOp n o (L, w)).1 (rgOp n o (L, w)).2 → Only h h' p a → K (.tuple #[]) h' nx') : callP Tryz.prog ro i_exec_change [ptr p, .int .u8 (o : Int)] h nx K := by
  apply exec_change_of
  unfold exec_change
  unfold rgOp at hK
  refine eql_s (fun h3 => ?_) (fun h3 => ?_)
  · rw [if_pos (by omega)] at hK
    (repeat (first | refine bindP_mk (by simp (disch := first | omega | exact Int.natCast_nonneg _ | assumption) only [BB, B2, ↓reduceIte, Nat.reduceLeDiff, Nat.reduceAdd, CC] <;> rfl) ?_ | refine newP_mk ?_ | refine optP_mk ?_ | with_reducible first | refine condP_t ?_ | refine condP_f ?_ | refine ifP_tt' ?_ | refine ifP_ff' ?_ | refine ifP_tf' ?_ | refine ifP_ft' ?_ | refine ifP_u' ?_ | refine optP_mk0 ?_))
    refine ring_Clear_c hR (by omega) fun h1 n1 hn1 hR1 ho1 => ?_
    refine ring_Put_c hR1 (by omega) fun h2 n2 hn2 hR2 ho2 => ?_
    exact ⟨_, Sub.refl _, hK _ _ (by omega) hR2 (ho1.trans ho2)⟩
  · rw [if_neg (by omega)] at hK
    (repeat (first | refine bindP_mk (by simp (disch := first | omega | exact Int.natCast_nonneg _ | assumption) only [BB, B2, ↓reduceIte, Nat.reduceLeDiff, Nat.reduceAdd, CC] <;> rfl) ?_ | refine newP_mk ?_ | refine optP_mk ?_ | with_reducible first | refine condP_t ?_ | refine condP_f ?_ | refine ifP_tt' ?_ | refine ifP_ff' ?_ | refine ifP_tf' ?_ | refine ifP_ft' ?_ | refine ifP_u' ?_ | refine optP_mk0 ?_))
    refine eql_s (fun h2 => ?_) (fun h2 => ?_)
    · rw [if_pos (by omega)] at hK
      (repeat (first | refine bindP_mk (by simp (disch := first | omega | exact Int.natCast_nonneg _ | assumption) only [BB, B2, ↓reduceIte, Nat.reduceLeDiff, Nat.reduceAdd, CC] <;> rfl) ?_ | refine newP_mk ?_ | refine optP_mk ?_ | with_reducible first | refine condP_t ?_ | refine condP_f ?_ | refine ifP_tt' ?_ | refine ifP_ff' ?_ | refine ifP_tf' ?_ | refine ifP_ft' ?_ | refine ifP_u' ?_ | refine optP_mk0 ?_))
      refine ring_Inc_c hR (by omega) fun h1 n1 hn1 hR1 ho1 => ?_
      refine ring_Put_c hR1 (by omega) fun h2 n2 hn2 hR2 ho2 => ?_
      exact ⟨_, Sub.refl _, hK _ _ (by omega) hR2 (ho1.trans ho2)⟩
    · rw [if_neg (by omega)] at hK
      (repeat (first | refine bindP_mk (by simp (disch := first | omega | exact Int.natCast_nonneg _ | assumption) only [BB, B2, ↓reduceIte, Nat.reduceLeDiff, Nat.reduceAdd, CC] <;> rfl) ?_ | refine newP_mk ?_ | refine optP_mk ?_ | with_reducible first | refine condP_t ?_ | refine condP_f ?_ | refine ifP_tt' ?_ | refine ifP_ff' ?_ | refine ifP_tf' ?_ | refine ifP_ft' ?_ | refine ifP_u' ?_ | refine optP_mk0 ?_))
      refine ring_Inc_c hR (by omega) fun h1 n1 hn1 hR1 ho1 => ?_
      exact ⟨_, Sub.refl _, hK _ _ (by omega) hR1 ho1⟩
def SIn (D hs : T Obj) (p sb mb : Nat) (pc sc mc : List Value) (ps : List (Nat × Nat)) (C : List (Int × Int)) (h : T Obj) (nx : Nat) (rs : List RgD) : Prop :=
  h.get p = some (.cells pc.toArray y_exec_Machine) ∧ h.get sb = some (.cells sc.toArray y_api_State) ∧ h.get mb = some (.cells mc.toArray y_api_Move) ∧ Sub D h ∧ RsX RI h ps C rs ∧ Keep (p :: blks ps) hs h ∧ Fr h nx
theorem Only.subD {h0 h h' : T Obj} {p a : Nat} {X : List Nat} (ho : Only h h' p a) (hp : p ∈ X) (ha : a ∈ X) (hs : Sub (del h0 X) h) : Sub (del h0 X) h' := fun k o hk => by
  have h1 := hk
  rw [del_get] at h1
  split at h1
  · cases h1
  · rename_i hn
    rw [ho k (fun e => hn (by rw [e]; exact hp)) (fun e => hn (by rw [e]; exact ha))]
    exact hs k o hk
section
variable {ro : Ro} {h0 hs h h' : T Obj} {X : List Nat} {p sb mb nx : Nat} {pc sc mc : List Value} {ps : List (Nat × Nat)} {C : List (Int × Int)} {rs : List RgD} {K : KV}
theorem SIn.mono {n' : Nat} (hi : SIn (del h0 X) hs p sb mb pc sc mc ps C h nx rs) (hn : nx ≤ n') : SIn (del h0 X) hs p sb mb pc sc mc ps C h n' rs := by
  obtain ⟨g1, g2, g3, g4, g5, g6, g7⟩ := hi
  exact ⟨g1, g2, g3, g4, g5, g6, g7.mono hn⟩
theorem SIn.ring {i n' : Nat} {q : Nat × Nat} {c : Int × Int} {L : List Nat} {w n : Nat} {r : RgD} (hi : SIn (del h0 X) hs p sb mb pc sc mc ps C h nx rs) (hd : Dst ps) (hX : ∀ k ∈ blks ps, k ∈ X) (hq : ps[i]? = some q) (hc : C[i]? = some c) (hR : RI h q.1 q.2 n L w) (hR' : RI h' q.1 q.2 c.2.toNat r.1 r.2) (ho : Only h h' q.1 q.2) (hn : nx ≤ n') :
    SIn (del h0 X) hs p sb mb pc sc mc ps C h' n' (rs.set i r) := by
  obtain ⟨g1, g2, g3, g4, g5, g6, g7⟩ := hi
  have hm := List.mem_of_getElem? hq
  have m1 : q.1 ∈ blks ps := mem_blks.2 ⟨q, hm, .inl rfl⟩
  have m2 : q.2 ∈ blks ps := mem_blks.2 ⟨q, hm, .inr rfl⟩
  have hr := g5.set RI_ok hd g7 hq hc hR' fun k _ k1 k2 => ho k k1 k2
  rw [set_same hq] at hr
  refine ⟨ho.get hR g1 (by decide) (by decide), ho.get hR g2 (by decide) (by decide), ho.get hR g3 (by decide) (by decide), ho.subD (hX _ m1) (hX _ m2) g4, hr, fun k o hk hn => ?_, (ho.frR hR g7).mono hn⟩
  rw [ho k (fun e => hn (List.mem_cons_of_mem _ (by rw [e]; exact m1))) (fun e => hn (List.mem_cons_of_mem _ (by rw [e]; exact m2)))]
  exact g6 k o hk hn
variable {cc : List Nat} {many cur : Int} {cv sv rv : Value} {steps : Nat} {to : Int} {ov nxv : Value} {ops : List Nat} {R : List Int}
set_option maxRecDepth 8000 in
theorem step_j2_c {e : Env} {B : Nat} (hcl : cc.length = 256) (e0 : e 0 = ptr p) (e6 : e 6 = ptr mb) (e7 : e 7 = nxv) (hi : SIn (del h0 X) hs p sb mb (machL cc many cv sv cur rv steps) sc [.int .i64 to, ov] ps C h nx rs) (hd : Dst ps) (hX : ∀ k ∈ blks ps, k ∈ X) (hP : Sl ro (del h0 X) rv 1 (ptrsC ps))
    (hR : ZI ro (del h0 X) nxv R) (ho : SlR ro (del h0 X) ov 1 RU8 ops) (hl : ops.length = R.length) (hor : ∀ o ∈ ops, 1 ≤ o ∧ o ≤ 3) (hRl : ∀ c ∈ R, 0 ≤ c ∧ c < C.length) (hR3 : R.length ≤ 3) (hB : WLe B rs) (hB2 : B + 8 ≤ 1000000)
    (fin : ∀ h' n', nx ≤ n' → SIn (del h0 X) hs p sb mb (machL cc many cv sv cur rv steps) sc [.int .i64 to, ov] ps C h' n' (opsM C R ops rs) → K (.bool (!decide (to = -1))) h' n') : exec_Machine_Step_j2 ro K e h nx := by
  unfold exec_Machine_Step_j2
  rw [e7]
  refine bindP_mk hR.len ?_
  have m0 := machL_260 (n := many) (cv := cv) (sv := sv) (cur := cur) (rv := rv) (steps := steps) hcl
  generalize hF : opsM C R ops rs = fin0 at fin
  refine loopP_rule (fun j e h' nx' => ∃ (k : Nat) (rs' : List RgD), k + j = R.length ∧ nx ≤ nx' ∧ e 0 = ptr p ∧ e 6 = ptr mb ∧ e 7 = nxv ∧ e 92 = nxv ∧ e 93 = .int .i64 R.length ∧ e 94 = .int .i64 k ∧
    SIn (del h0 X) hs p sb mb (machL cc many cv sv cur rv steps) sc [.int .i64 to, ov] ps C h' nx' rs' ∧ WLe (B + 2 * k) rs' ∧ opsM C (R.drop k) (ops.drop k) rs' = fin0) ?_ (n := R.length) ⟨0, rs, by omega, by omega, e0, e6, e7, rfl, rfl, rfl, hi.mono (by omega), hB.mono (by omega), hF⟩
  rintro j e h' nx' ⟨k, rs', hj, hnx, e0, e6, e7, e92, e93, e94, hi, hw, hF⟩ Q' hq hx
  obtain ⟨g1, g2, g3, g4, g5, g6, g7⟩ := id hi
  unfold exec_Machine_Step_L1
  rw [e0, e6, e92, e93, e94]
  refine lss_s (fun hk => ?_) (fun hk => ?_)
  · have hk : k < R.length := by omega
    have hko : k < ops.length := by omega
    rw [drop_cons hk, drop_cons hko] at hF
    have hcm := hRl _ (List.getElem_mem hk)
    have hom := hor _ (List.getElem_mem hko)
    have hR' := hR.sub g4
    have hP' := hP.sub g4
    have ho' := ho.sub g4 fun _ _ h => h
    have rix := hR'.ix .i64 hk
    have rld := hR'.load hk
    have oix := ho'.ix .i64 hko
    obtain ⟨w, ⟨ow, olt⟩, o1⟩ := ho'.at1 hko
    simp only [List.cons.injEq, and_true] at ow
    subst ow
    generalize R[k] = c at hF hcm rld
    generalize ops[k] = o at hF hom o1 olt
    change opsM C _ _ (rs'.set c.toNat (rgOp (cntAt C c).2.toNat o (rgAt rs' c))) = fin0 at hF
    obtain ⟨q, hq', hri⟩ := g5.at hcm.1 hcm.2
    have hpi := hP'.ixI .i64 hcm.1 (by rw [ptrsC_len, g5.1]; exact hcm.2)
    have hp1 := hP'.load1 (ptrs_get hq')
    have hwc := hw.at c
    have hci : C[c.toNat]? = some (cntAt C c) := by rw [← cnt_get hcm.1 hcm.2]; exact List.getElem?_eq_getElem _
    (repeat (first | refine bindP_mk (by simp (disch := first | omega | exact Int.natCast_nonneg _ | assumption) only [BB, B2, ↓reduceIte, Nat.reduceLeDiff, Nat.reduceAdd, CC, nilCk_at, rix, rld, g1, m0, hpi, hp1, g3, oix, o1] <;> rfl) ?_ | refine newP_mk ?_ | refine optP_mk ?_ | with_reducible first | refine condP_t ?_ | refine condP_f ?_ | refine ifP_tt' ?_ | refine ifP_ff' ?_ | refine ifP_tf' ?_ | refine ifP_ft' ?_ | refine ifP_u' ?_ | refine optP_mk0 ?_))
    refine exec_change_c hri hom (by omega) fun h2 n2 hn2 hR2 ho2 => ?_
    have hwo := rgOp_w (cntAt C c).2.toNat o (rgAt rs' c)
    (repeat (first | refine bindP_mk (by simp (disch := first | omega | exact Int.natCast_nonneg _ | assumption) only [BB, B2, ↓reduceIte, Nat.reduceLeDiff, Nat.reduceAdd, CC] <;> rfl) ?_ | refine newP_mk ?_ | refine optP_mk ?_ | with_reducible first | refine condP_t ?_ | refine condP_f ?_ | refine ifP_tt' ?_ | refine ifP_ff' ?_ | refine ifP_tf' ?_ | refine ifP_ft' ?_ | refine ifP_u' ?_ | refine optP_mk0 ?_))
    exact hq (j - 1) _ _ _ _ (by omega) ⟨k + 1, _, by omega, by omega, e0, e6, e7, e92, e93, rfl, hi.ring (r := rgOp (cntAt C c).2.toNat o (rgAt rs' c)) hd hX hq' hci hri hR2 ho2 (by omega), (hw.mono (by omega)).set (by omega), hF⟩ (Sub.refl _)
  · (repeat (first | refine bindP_mk (by simp (disch := first | omega | exact Int.natCast_nonneg _ | assumption) only [BB, B2, ↓reduceIte, Nat.reduceLeDiff, Nat.reduceAdd, CC] <;> rfl) ?_ | refine newP_mk ?_ | refine optP_mk ?_ | with_reducible first | refine condP_t ?_ | refine condP_f ?_ | refine ifP_tt' ?_ | refine ifP_ff' ?_ | refine ifP_tf' ?_ | refine ifP_ft' ?_ | refine ifP_u' ?_ | refine optP_mk0 ?_))
    refine hx _ _ _ _ (fun e => by cases e) (exP_e (beqP_t ?_))
    rw [drop_all (by omega)] at hF
    have hF : rs' = fin0 := hF
    subst hF
    have hj3 : ∀ (e' : Env) n', e' 6 = ptr mb → nx' ≤ n' → exec_Machine_Step_j3 ro K e' h' n' := by
      intro e' n' f6 hn
      unfold exec_Machine_Step_j3
      rw [f6]
      (repeat (first | refine bindP_mk (by simp (disch := first | omega | exact Int.natCast_nonneg _ | assumption) only [BB, B2, ↓reduceIte, Nat.reduceLeDiff, Nat.reduceAdd, CC, g3] <;> rfl) ?_ | refine newP_mk ?_ | refine optP_mk ?_ | with_reducible first | refine condP_t ?_ | refine condP_f ?_ | refine ifP_tt' ?_ | refine ifP_ff' ?_ | refine ifP_tf' ?_ | refine ifP_ft' ?_ | refine ifP_u' ?_ | refine optP_mk0 ?_))
      refine bindP_mk (intB_neq _ _ _) ?_
      exact ⟨h', Sub.refl _, fin _ _ (by omega) (hi.mono (by omega))⟩
    exact hj3 _ _ e6 (by omega)
set_option maxRecDepth 8000 in
theorem step_j1_c {e : Env} {B : Nat} {lv rv' uv nv : Value} {S : List Int} (hcl : cc.length = 256) (e0 : e 0 = ptr p) (e5 : e 5 = ptr sb) (e6 : e 6 = ptr mb) (e7 : e 7 = nxv) (hi : SIn (del h0 X) hs p sb mb (machL cc many cv sv cur rv steps) [lv, rv', uv, nv] [.int .i64 to, ov] ps C h nx rs) (hd : Dst ps) (hX : ∀ k ∈ blks ps, k ∈ X) (hP : Sl ro (del h0 X) rv 1 (ptrsC ps))
    (hS : ZI ro (del h0 X) rv' S) (hSl : ∀ c ∈ S, 0 ≤ c ∧ c < C.length) (hS3 : S.length ≤ 3)
    (hR : ZI ro (del h0 X) nxv R) (ho : SlR ro (del h0 X) ov 1 RU8 ops) (hl : ops.length = R.length) (hor : ∀ o ∈ ops, 1 ≤ o ∧ o ≤ 3) (hRl : ∀ c ∈ R, 0 ≤ c ∧ c < C.length) (hR3 : R.length ≤ 3) (hB : WLe B rs) (hB2 : B + 20 ≤ 1000000)
    (fin : ∀ h' n', nx ≤ n' → SIn (del h0 X) hs p sb mb (machL cc many cv sv cur rv steps) [lv, rv', uv, nv] [.int .i64 to, ov] ps C h' n' (opsM C R ops (clrsM R S rs)) → K (.bool (!decide (to = -1))) h' n') : exec_Machine_Step_j1 ro K e h nx := by
  unfold exec_Machine_Step_j1
  rw [e5]
  have g2 := hi.2.1
  have hSh := (hS.sub hi.2.2.2.1).len
  (repeat (first | refine bindP_mk (by simp (disch := first | omega | exact Int.natCast_nonneg _ | assumption) only [BB, B2, ↓reduceIte, Nat.reduceLeDiff, Nat.reduceAdd, CC, g2, hSh] <;> rfl) ?_ | refine newP_mk ?_ | refine optP_mk ?_ | with_reducible first | refine condP_t ?_ | refine condP_f ?_ | refine ifP_tt' ?_ | refine ifP_ff' ?_ | refine ifP_tf' ?_ | refine ifP_ft' ?_ | refine ifP_u' ?_ | refine optP_mk0 ?_))
  have m0 := machL_260 (n := many) (cv := cv) (sv := sv) (cur := cur) (rv := rv) (steps := steps) hcl
  generalize hF : clrsM R S rs = fin0 at fin
  refine loopP_rule (fun j e h' nx' => ∃ (k : Nat) (rs' : List RgD), k + j = S.length ∧ nx ≤ nx' ∧ e 0 = ptr p ∧ e 6 = ptr mb ∧ e 7 = nxv ∧ e 73 = rv' ∧ e 74 = .int .i64 S.length ∧ e 75 = .int .i64 k ∧
    SIn (del h0 X) hs p sb mb (machL cc many cv sv cur rv steps) [lv, rv', uv, nv] [.int .i64 to, ov] ps C h' nx' rs' ∧ WLe (B + 2 * k) rs' ∧ clrsM R (S.drop k) rs' = fin0) ?_ (n := S.length) ⟨0, rs, by omega, by omega, e0, e6, e7, rfl, rfl, rfl, hi.mono (by omega), hB.mono (by omega), hF⟩
  rintro j e h' nx' ⟨k, rs', hj, hnx, e0, e6, e7, e73, e74, e75, hi, hw, hF⟩ Q' hq hx
  obtain ⟨g1, g2, g3, g4, g5, g6, g7⟩ := id hi
  unfold exec_Machine_Step_L2
  rw [e0, e7, e73, e74, e75]
  refine lss_s (fun hk => ?_) (fun hk => ?_)
  · have hk : k < S.length := by omega
    rw [drop_cons hk] at hF
    have hcm := hSl _ (List.getElem_mem hk)
    have hS' := hS.sub g4
    have hR' := hR.sub g4
    have hP' := hP.sub g4
    have six := hS'.ix .i64 hk
    have sld := hS'.load hk
    generalize S[k] = c at hF hcm sld
    change clrsM R _ (if R.contains c then rs' else rs'.set c.toNat (clrR (rgAt rs' c))) = fin0 at hF
    obtain ⟨q, hq', hri⟩ := g5.at hcm.1 hcm.2
    have hpi := hP'.ixI .i64 hcm.1 (by rw [ptrsC_len, g5.1]; exact hcm.2)
    have hp1 := hP'.load1 (ptrs_get hq')
    have hwc := hw.at c
    have hci : C[c.toNat]? = some (cntAt C c) := by rw [← cnt_get hcm.1 hcm.2]; exact List.getElem?_eq_getElem _
    have hj4 : ∀ (e' : Env) h2 n2 rs2, e' 0 = ptr p → e' 6 = ptr mb → e' 7 = nxv → e' 73 = rv' → e' 74 = .int .i64 S.length → e' 75 = .int .i64 k → nx ≤ n2 → SIn (del h0 X) hs p sb mb (machL cc many cv sv cur rv steps) [lv, rv', uv, nv] [.int .i64 to, ov] ps C h2 n2 rs2 → WLe (B + 2 * (k + 1)) rs2 → clrsM R (S.drop (k + 1)) rs2 = fin0 → exec_Machine_Step_j4 ro Q' e' h2 n2 := by
      intro e' h2 n2 rs2 f0 f6 f7 f73 f74 f75 hn hi2 hw2 hF2
      unfold exec_Machine_Step_j4
      rw [f75]
      (repeat (first | refine bindP_mk (by simp (disch := first | omega | exact Int.natCast_nonneg _ | assumption) only [BB, B2, ↓reduceIte, Nat.reduceLeDiff, Nat.reduceAdd, CC] <;> rfl) ?_ | refine newP_mk ?_ | refine optP_mk ?_ | with_reducible first | refine condP_t ?_ | refine condP_f ?_ | refine ifP_tt' ?_ | refine ifP_ff' ?_ | refine ifP_tf' ?_ | refine ifP_ft' ?_ | refine ifP_u' ?_ | refine optP_mk0 ?_))
      exact hq (j - 1) _ _ _ _ (by omega) ⟨k + 1, rs2, by omega, by omega, f0, f6, f7, f73, f74, rfl, hi2.mono (by omega), hw2, hF2⟩ (Sub.refl _)
    (repeat (first | refine bindP_mk (by simp (disch := first | omega | exact Int.natCast_nonneg _ | assumption) only [BB, B2, ↓reduceIte, Nat.reduceLeDiff, Nat.reduceAdd, CC, six, sld] <;> rfl) ?_ | refine newP_mk ?_ | refine optP_mk ?_ | with_reducible first | refine condP_t ?_ | refine condP_f ?_ | refine ifP_tt' ?_ | refine ifP_ff' ?_ | refine ifP_tf' ?_ | refine ifP_ft' ?_ | refine ifP_u' ?_ | refine optP_mk0 ?_))
    refine slices_Contains_c (by omega) hR' fun n2 hn2 => ?_
    cases hcn : R.contains c with
    | true =>
      rw [hcn, if_pos rfl] at hF
      (repeat (first | refine bindP_mk (by simp (disch := first | omega | exact Int.natCast_nonneg _ | assumption) only [BB, B2, ↓reduceIte, Nat.reduceLeDiff, Nat.reduceAdd, CC] <;> rfl) ?_ | refine newP_mk ?_ | refine optP_mk ?_ | with_reducible first | refine condP_t ?_ | refine condP_f ?_ | refine ifP_tt' ?_ | refine ifP_ff' ?_ | refine ifP_tf' ?_ | refine ifP_ft' ?_ | refine ifP_u' ?_ | refine optP_mk0 ?_))
      exact hj4 _ _ _ rs' e0 e6 e7 e73 e74 e75 (by omega) (hi.mono (by omega)) (hw.mono (by omega)) hF
    | false =>
      rw [hcn, if_neg (by decide)] at hF
      (repeat (first | refine bindP_mk (by simp (disch := first | omega | exact Int.natCast_nonneg _ | assumption) only [BB, B2, ↓reduceIte, Nat.reduceLeDiff, Nat.reduceAdd, CC, nilCk_at, g1, m0, hpi, hp1] <;> rfl) ?_ | refine newP_mk ?_ | refine optP_mk ?_ | with_reducible first | refine condP_t ?_ | refine condP_f ?_ | refine ifP_tt' ?_ | refine ifP_ff' ?_ | refine ifP_tf' ?_ | refine ifP_ft' ?_ | refine ifP_u' ?_ | refine optP_mk0 ?_))
      refine ring_Clear_c hri (by omega) fun h2 n3 hn3 hR2 ho2 => ?_
      exact hj4 _ _ _ _ e0 e6 e7 e73 e74 e75 (by omega) (hi.ring (r := clrR (rgAt rs' c)) hd hX hq' hci hri hR2 ho2 (by omega)) ((hw.mono (by omega)).set (by show (rgAt rs' c).2 + 1 ≤ _; omega)) hF
  · (repeat (first | refine bindP_mk (by simp (disch := first | omega | exact Int.natCast_nonneg _ | assumption) only [BB, B2, ↓reduceIte, Nat.reduceLeDiff, Nat.reduceAdd, CC] <;> rfl) ?_ | refine newP_mk ?_ | refine optP_mk ?_ | with_reducible first | refine condP_t ?_ | refine condP_f ?_ | refine ifP_tt' ?_ | refine ifP_ff' ?_ | refine ifP_tf' ?_ | refine ifP_ft' ?_ | refine ifP_u' ?_ | refine optP_mk0 ?_))
    refine hx _ _ _ _ (fun e => by cases e) (exP_e (beqP_t ?_))
    rw [drop_all (by omega)] at hF
    have hF : rs' = fin0 := hF
    subst hF
    have hj2 : ∀ (e' : Env) n', e' 0 = ptr p → e' 6 = ptr mb → e' 7 = nxv → nx' ≤ n' → exec_Machine_Step_j2 ro K e' h' n' := fun e' n' f0 f6 f7 hn =>
      step_j2_c hcl f0 f6 f7 (hi.mono hn) hd hX hP hR ho hl hor hRl hR3 hw (by omega) fun h2 n2 hn2 hi2 => fin h2 n2 (by omega) hi2
    exact hj2 _ _ e0 e6 e7 (by omega)
end
end V
end Go.Proofs.YtjndkdmkecpllaaGreat
set_option linter.unusedVariables false
set_option linter.unusedSimpArgs false
namespace Go.Proofs.YtjndkdmkecpllaaGreat
namespace V
attribute [local irreducible] bindP ifP condP newP optP exP beqP
theorem ops_all {d : AutoD} {R S : List Int} {m : MoveD} (ha : autoOk d = true) (h : moveOk d.states R m = true) : m.ops.length = (nextR d m.to).length ∧ (∀ o ∈ m.ops, 1 ≤ o ∧ o ≤ 3) ∧ (∀ c ∈ nextR d m.to, 0 ≤ c ∧ c < d.counts.length) ∧ (nextR d m.to).length ≤ 3 := by
  rcases move_parts h with ⟨h1, h2⟩ | ⟨h1, h2, h3, h4⟩
  · unfold nextR
    rw [if_pos h1, h2]
    exact ⟨rfl, (fun o ho => by cases ho), (fun o ho => by cases ho), by simp⟩
  · have hne : m.to ≠ -1 := by omega
    unfold nextR
    rw [if_neg hne]
    have hi : m.to.toNat < d.states.length := by omega
    have hs : d.states.getD m.to.toNat noS = d.states[m.to.toNat] := by rw [List.getD_eq_getElem?_getD, List.getElem?_eq_getElem hi]; rfl
    have hk := state_parts ((autoOk_parts ha).2.2.2.2.2 _ (List.getElem_mem hi))
    rw [← hs] at hk
    exact ⟨h3, ops_range h4 h3, hk.2.2.2.1, hk.1⟩
theorem clrs_w {nx : List Int} {B : Nat} : ∀ {S : List Int} {rs : List RgD}, WLe B rs → WLe (B + S.length) (clrsM nx S rs)
  | [], rs, h => h
  | c :: r, rs, h => by
    unfold clrsM
    have h1 : WLe (B + 1) (if nx.contains c then rs else rs.set c.toNat (clrR (rgAt rs c))) := by
      split
      · exact h.mono (by omega)
      · exact (h.mono (by omega)).set (by show (rgAt rs c).2 + 1 ≤ _; have := h.at c; omega)
    have := clrs_w (nx := nx) (S := r) h1
    rw [List.length_cons]
    exact this.mono (by omega)
theorem ops_w {C : List (Int × Int)} {B : Nat} : ∀ {R : List Int} {os : List Nat} {rs : List RgD}, WLe B rs → WLe (B + 2 * R.length) (opsM C R os rs)
  | [], _, rs, h => by simpa [opsM] using h
  | c :: r, [], rs, h => by
    unfold opsM; exact h.mono (by omega)
  | c :: r, o :: os, rs, h => by
    unfold opsM
    have := ops_w (C := C) (R := r) (os := os) (show WLe (B + 2) (rs.set c.toNat (rgOp (cntAt C c).2.toNat o (rgAt rs c))) from (h.mono (by omega)).set (by have := h.at c; have := rgOp_w (cntAt C c).2.toNat o (rgAt rs c); omega))
    rw [List.length_cons]
    exact this.mono (by omega)
theorem step_w {d : AutoD} {m : MacD} {b B : Nat} (ha : autoOk d = true) (ho : MOk d m) (hcl : d.c.length = 256) (hb : b < 256) (h : WLe B m.rs) : WLe (B + 9) (stepM d m b).rs := by
  unfold stepM
  by_cases hc : m.cur = -1
  · rw [if_pos hc]; exact h.mono (by omega)
  · rw [if_neg hc]
    have h1 := (st_at ha ho hc).r3
    have h2 := ops_all (S := []) ha (move_at ha ho hc hcl hb).2
    have h3 := ops_w (C := d.counts) (R := nextR d (moveM d m b).to) (os := (moveM d m b).ops) (clrs_w (nx := nextR d (moveM d m b).to) (S := (stAt d m).r) h)
    exact h3.mono (by omega)
section
variable {ro : Ro} {h : T Obj} {nx : Nat} {X : List Nat} {p : Nat} {ps : List (Nat × Nat)} {d : AutoD} {m : MacD} {K : KV}
set_option maxRecDepth 8000 in
set_option maxHeartbeats 1000000 in
theorem exec_Step_c {b B : Nat} (hm : MI ro h X p ps d m) (ha : autoOk d = true) (ho : MOk d m) (hb : b < 256) (hf : Fr h nx) (hB : WLe B m.rs) (hB2 : B + 20 ≤ 1000000) (hst : m.steps ≤ 1000000000)
    (hK : ∀ h' nx', nx ≤ nx' → Fr h' nx' → Keep (p :: blks ps) h h' → MI ro h' X p ps d (stepM d m b) → K (.bool (onM d m b)) h' nx') : callP Tryz.prog ro i_exec_Machine_Step [ptr p, .int .u8 (b : Int)] h nx K := by
  apply exec_Machine_Step_of
  unfold exec_Machine_Step
  refine exec_State_c hm fun n1 hn1 => ?_
  unfold onM stepM at hK
  by_cases hc : m.cur = -1
  · rw [if_pos hc, decide_eq_true hc] at hK
    refine eql_t hc ?_
    (repeat (first | refine bindP_mk (by simp (disch := first | omega | exact Int.natCast_nonneg _ | assumption) only [BB, B2, ↓reduceIte, Nat.reduceLeDiff, Nat.reduceAdd, CC] <;> rfl) ?_ | refine newP_mk ?_ | refine optP_mk ?_ | with_reducible first | refine condP_t ?_ | refine condP_f ?_ | refine ifP_tt' ?_ | refine ifP_ff' ?_ | refine ifP_tf' ?_ | refine ifP_ft' ?_ | refine ifP_u' ?_ | refine optP_mk0 ?_))
    exact ⟨h, Sub.refl _, hK _ _ (by omega) (hf.mono (by omega)) (Sub.refl _).keepL hm⟩
  · rw [if_neg hc, decide_eq_false hc] at hK
    have hsf := st_at ha ho hc
    obtain ⟨cv, sv, rv, gp, hA, hP, hR, hD, hpX, hbX⟩ := id hm
    obtain ⟨hcl, hclt, hcv, hsv⟩ := hA.parts
    have hmv := move_at ha ho hc hcl hb
    have hops := ops_all (S := []) ha hmv.2
    have hmp := move_parts hmv.2
    have hsvD := hsv
    have hsv := hsv.sub (del_sub h X) (RState.sub (del_sub h X))
    have m8 := machL_258 (n := d.many) (cv := cv) (sv := sv) (cur := m.cur) (rv := rv) (steps := m.steps) hcl
    have m9 := machL_259 (n := d.many) (cv := cv) (sv := sv) (cur := m.cur) (rv := rv) (steps := m.steps) hcl
    have m1 := machL_261 (n := d.many) (cv := cv) (sv := sv) (cur := m.cur) (rv := rv) (steps := m.steps) hcl
    have mb := machL_b (n := d.many) (cv := cv) (sv := sv) (cur := m.cur) (rv := rv) (steps := m.steps) hcl hb
    have hcur : 0 ≤ m.cur ∧ m.cur < d.states.length := by rcases ho.1 with h | h <;> omega
    have hi : m.cur.toNat < d.states.length := by omega
    have hs : d.states[m.cur.toNat] = stAt d m := by unfold stAt; rw [List.getD_eq_getElem?_getD, List.getElem?_eq_getElem hi]; rfl
    have hsi := hsv.ixI .i64 hcur.1 hcur.2
    obtain ⟨x, ⟨lv, rv', uv, nv, rfl, y1, y2, y3, y4, y5⟩, hx2, hx3, hx4, hx5⟩ := hsv.at hi
    obtain ⟨xD, ⟨lvD, rvD, uvD, nvD, rfl, z1, z2, z3, z4, z5⟩, w2, w3, w4, w5⟩ := hsvD.at hi
    have hsame : [lv, rv', uv, nv] = [lvD, rvD, uvD, nvD] := by
      have := loadA_sub (del_sub h X) w3
      rw [hx3] at this
      simpa using this
    simp only [List.cons.injEq, and_true] at hsame
    obtain ⟨rfl, rfl, rfl, rfl⟩ := hsame
    rw [hs] at y1 y2 y3 y4 y5 z2 z4
    refine eql_f hc ?_
    (repeat (first | refine bindP_mk (by simp (disch := first | omega | exact Int.natCast_nonneg _ | assumption) only [BB, B2, ↓reduceIte, Nat.reduceLeDiff, Nat.reduceAdd, CC, nilCk_at, gp, m8, m9, hsi, hx3] <;> rfl) ?_ | refine newP_mk ?_ | refine optP_mk ?_ | with_reducible first | refine condP_t ?_ | refine condP_f ?_ | refine ifP_tt' ?_ | refine ifP_ff' ?_ | refine ifP_tf' ?_ | refine ifP_ft' ?_ | refine ifP_u' ?_ | refine optP_mk0 ?_))
    refine local_mk (x := [lv, rv', uv, nv]) zer_State rfl rfl rfl (by simp [y1.ok, y2.ok, y3.ok, SlR.okC y4]) hf (by omega) fun h2 hs2 hf2 g2 _ => ?_
    (repeat (first | refine bindP_mk (by simp (disch := first | omega | exact Int.natCast_nonneg _ | assumption) only [BB, B2, ↓reduceIte, Nat.reduceLeDiff, Nat.reduceAdd, CC, g2] <;> rfl) ?_ | refine newP_mk ?_ | refine optP_mk ?_ | with_reducible first | refine condP_t ?_ | refine condP_f ?_ | refine ifP_tt' ?_ | refine ifP_ff' ?_ | refine ifP_tf' ?_ | refine ifP_ft' ?_ | refine ifP_u' ?_ | refine optP_mk0 ?_))
    have hm2 := hm.subX RI_ok hs2
    have gp2 := hs2 _ _ gp
    refine exec_code_c hm2 (hf2.mono (by omega)) hsf.r3 hsf.rl (y2.sub hs2) fun n3 hn3 => ?_
    have hkn := hsf.kn
    have z4' := z4.sub ((del_sub h X).trans hs2) (RRow.sub ((del_sub h X).trans hs2))
    have nix := z4'.ix .i64 hkn
    obtain ⟨w, ⟨w', hw1, hw2, hw3⟩, hw4⟩ := z4'.at1 hkn
    simp only [List.cons.injEq, and_true] at hw1
    subst hw1
    have hrow : (stAt d m).next[codeM d.counts m.rs (stAt d m).r] = (stAt d m).next.getD (codeM d.counts m.rs (stAt d m).r) [] := by rw [List.getD_eq_getElem?_getD, List.getElem?_eq_getElem hkn]; rfl
    rw [hrow] at hw2 hw3
    -- the row as memory without X has it
    have hrowD : SlR ro (del h X) w 2 (RMove ro (del h X)) ((stAt d m).next.getD (codeM d.counts m.rs (stAt d m).r) []) := by
      obtain ⟨u, ⟨u', hu1, hu2, hu3⟩, hu4⟩ := z4.at1 hkn
      simp only [List.cons.injEq, and_true] at hu1
      subst hu1
      have := load1_sub ((del_sub h X).trans hs2) hu4
      rw [hw4] at this
      cases this
      rw [hrow] at hu2
      exact hu2
    generalize hcb : d.c.getD b 0 = cb at mb hmv
    have hci : cb < ((stAt d m).next.getD (codeM d.counts m.rs (stAt d m).r) []).length := hmv.1
    have hmvd : moveM d m b = ((stAt d m).next.getD (codeM d.counts m.rs (stAt d m).r) [])[cb] := by
      unfold moveM
      rw [hcb, List.getD_eq_getElem?_getD (a := noMv), List.getElem?_eq_getElem hci]; rfl
    refine ⟨sameV_own g2 g2, ?_⟩
    have rix := hw2.ix .u8 hci
    obtain ⟨x, ⟨ov, rfl, hov, hol⟩, v2, v3, v4, v5⟩ := hw2.at hci
    obtain ⟨xD, ⟨ovD, rfl, hovD, holD⟩, u2, u3, u4, u5⟩ := hrowD.at hci
    have hsame2 : [Value.int .i64 ((stAt d m).next.getD (codeM d.counts m.rs (stAt d m).r) [])[cb].to, ov] = [Value.int .i64 ((stAt d m).next.getD (codeM d.counts m.rs (stAt d m).r) [])[cb].to, ovD] := by
      have := loadA_sub ((del_sub h X).trans hs2) u3
      rw [v3] at this
      simpa using this
    simp only [List.cons.injEq, and_true, true_and] at hsame2
    subst hsame2
    rw [← hmvd] at v3 hovD hov
    refine bindP_mk nix (bindP_mk hw4 ?_)
    (repeat (first | refine bindP_mk (by simp (disch := first | omega | exact Int.natCast_nonneg _ | assumption) only [BB, B2, ↓reduceIte, Nat.reduceLeDiff, Nat.reduceAdd, CC, nilCk_at, gp2, mb] <;> rfl) ?_ | refine newP_mk ?_ | refine optP_mk ?_ | with_reducible first | refine condP_t ?_ | refine condP_f ?_ | refine ifP_tt' ?_ | refine ifP_ff' ?_ | refine ifP_tf' ?_ | refine ifP_ft' ?_ | refine ifP_u' ?_ | refine optP_mk0 ?_))
    refine ⟨sameV_own gp2 gp2, ?_⟩
    refine bindP_mk rix (bindP_mk v3 ?_)
    generalize hMV : moveM d m b = mv at hK hops hmp hovD hov
    refine local_mk (x := [.int .i64 mv.to, ov]) zer_Move rfl rfl rfl (by simp [show cellOk ov = true from SlR.okC hov, show cellOk (Value.int .i64 mv.to) = true from rfl]) hf2 (by omega) fun h3 hs3 hf3 g3 _ => ?_
    have gp3 := hs3 _ _ gp2
    have g23 := hs3 _ _ g2
    (repeat (first | refine bindP_mk (by simp (disch := first | omega | exact Int.natCast_nonneg _ | assumption) only [BB, B2, ↓reduceIte, Nat.reduceLeDiff, Nat.reduceAdd, CC, nilCk_at] <;> rfl) ?_ | refine newP_mk ?_ | refine optP_mk ?_ | with_reducible first | refine condP_t ?_ | refine condP_f ?_ | refine ifP_tt' ?_ | refine ifP_ff' ?_ | refine ifP_tf' ?_ | refine ifP_ft' ?_ | refine ifP_u' ?_ | refine optP_mk0 ?_))
    refine bindP_mk (load1_get gp3 m1) ?_
    (repeat (first | refine bindP_mk (by simp (disch := first | omega | exact Int.natCast_nonneg _ | assumption) only [BB, B2, ↓reduceIte, Nat.reduceLeDiff, Nat.reduceAdd, CC] <;> rfl) ?_ | refine newP_mk ?_ | refine optP_mk ?_ | with_reducible first | refine condP_t ?_ | refine condP_f ?_ | refine ifP_tt' ?_ | refine ifP_ff' ?_ | refine ifP_tf' ?_ | refine ifP_ft' ?_ | refine ifP_u' ?_ | refine optP_mk0 ?_))
    refine bindP_mk (load1_get (l := [lv, rv', uv, nv]) g23 rfl) ?_
    refine bindP_mk y2.len ?_
    have hr3 := hsf.r3
    (repeat (first | refine bindP_mk (by simp (disch := first | omega | exact Int.natCast_nonneg _ | assumption) only [BB, B2, ↓reduceIte, Nat.reduceLeDiff, Nat.reduceAdd, CC, nilCk_at] <;> rfl) ?_ | refine newP_mk ?_ | refine optP_mk ?_ | with_reducible first | refine condP_t ?_ | refine condP_f ?_ | refine ifP_tt' ?_ | refine ifP_ff' ?_ | refine ifP_tf' ?_ | refine ifP_ft' ?_ | refine ifP_u' ?_ | refine optP_mk0 ?_))
    have esteps : (m.steps : Int) + (1 + ((stAt d m).r.length : Int)) = ((m.steps + 1 + (stAt d m).r.length : Nat) : Int) := by omega
    rw [esteps]
    refine bindP_mk (store1_own (v := .int .i64 ((m.steps + 1 + (stAt d m).r.length : Nat) : Int)) gp3 (by rw [machL_len hcl]; omega) rfl rfl) ?_
    rw [machL_set261 hcl]
    have n2lt := hf.lt' gp
    have gp4 : (h3.upd p (some (.cells (machL d.c d.many cv sv m.cur rv (m.steps + 1 + (stAt d m).r.length)).toArray y_exec_Machine))).get p = some (.cells (machL d.c d.many cv sv m.cur rv (m.steps + 1 + (stAt d m).r.length)).toArray y_exec_Machine) := T.get_upd_same _ _ _
    have ho4 : ∀ k, k ≠ p → (h3.upd p (some (.cells (machL d.c d.many cv sv m.cur rv (m.steps + 1 + (stAt d m).r.length)).toArray y_exec_Machine))).get k = h3.get k := fun k hk => T.get_upd_ne _ _ hk
    generalize (h3.upd p (some (.cells (machL d.c d.many cv sv m.cur rv (m.steps + 1 + (stAt d m).r.length)).toArray y_exec_Machine))) = h4 at gp4 ho4
    have g24 := (ho4 (n1 + 12) (by omega)).trans g23
    have g34 := (ho4 (n1 + 31) (by omega)).trans g3
    (repeat (first | refine bindP_mk (by simp (disch := first | omega | exact Int.natCast_nonneg _ | assumption) only [BB, B2, ↓reduceIte, Nat.reduceLeDiff, Nat.reduceAdd, CC] <;> rfl) ?_ | refine newP_mk ?_ | refine optP_mk ?_ | with_reducible first | refine condP_t ?_ | refine condP_f ?_ | refine ifP_tt' ?_ | refine ifP_ff' ?_ | refine ifP_tf' ?_ | refine ifP_ft' ?_ | refine ifP_u' ?_ | refine optP_mk0 ?_))
    refine bindP_mk (load1_get (l := [.int .i64 mv.to, ov]) g34 rfl) ?_
    (repeat (first | refine bindP_mk (by simp (disch := first | omega | exact Int.natCast_nonneg _ | assumption) only [BB, B2, ↓reduceIte, Nat.reduceLeDiff, Nat.reduceAdd, CC, nilCk_at] <;> rfl) ?_ | refine newP_mk ?_ | refine optP_mk ?_ | with_reducible first | refine condP_t ?_ | refine condP_f ?_ | refine ifP_tt' ?_ | refine ifP_ff' ?_ | refine ifP_tf' ?_ | refine ifP_ft' ?_ | refine ifP_u' ?_ | refine optP_mk0 ?_))
    refine bindP_mk (store1_own (v := .int .i64 mv.to) gp4 (by rw [machL_len hcl]; omega) rfl rfl) ?_
    rw [machL_set259 hcl]
    have gp5 : (h4.upd p (some (.cells (machL d.c d.many cv sv mv.to rv (m.steps + 1 + (stAt d m).r.length)).toArray y_exec_Machine))).get p = some (.cells (machL d.c d.many cv sv mv.to rv (m.steps + 1 + (stAt d m).r.length)).toArray y_exec_Machine) := T.get_upd_same _ _ _
    have ho5 : ∀ k, k ≠ p → (h4.upd p (some (.cells (machL d.c d.many cv sv mv.to rv (m.steps + 1 + (stAt d m).r.length)).toArray y_exec_Machine))).get k = h3.get k := fun k hk => (T.get_upd_ne _ _ hk).trans (ho4 k hk)
    generalize (h4.upd p (some (.cells (machL d.c d.many cv sv mv.to rv (m.steps + 1 + (stAt d m).r.length)).toArray y_exec_Machine))) = h5 at gp5 ho5
    have g25 := (ho5 (n1 + 12) (by omega)).trans g23
    have g35 := (ho5 (n1 + 31) (by omega)).trans g3
    have hs5 : Sub h h3 := hs2.trans hs3
    have hD5 : Sub (del h X) h5 := fun k o hk => by
      have h9 := hk
      rw [del_get] at h9
      split at h9
      · cases h9
      · rename_i hn
        rw [ho5 k (fun e => hn (by rw [e]; exact hpX))]
        exact hs5 _ _ h9
    have hf5 : Fr h5 (n1 + 32) := fun k hk => by rw [ho5 k (by omega)]; exact hf3 k (by omega)
    have hSI : SIn (del h X) h p (n1 + 12) (n1 + 31) (machL d.c d.many cv sv mv.to rv (m.steps + 1 + (stAt d m).r.length)) [lv, rv', uv, nv] [.int .i64 mv.to, ov] ps d.counts h5 (n1 + 32) m.rs := by
      refine ⟨gp5, g25, g35, hD5, hR.keep RI_ok fun q hq => ?_, fun k o hk hn => ?_, hf5⟩
      · obtain ⟨⟨c1, t1⟩, c2, t2⟩ := hR.ty RI_ok q hq
        rw [ho5 _ (ne_of_get t1 gp (by decide)), ho5 _ (ne_of_get t2 gp (by decide)), t1, t2, hs5 _ _ t1, hs5 _ _ t2]
        exact ⟨rfl, rfl⟩
      · rw [ho5 k fun e => hn (by rw [e]; exact List.mem_cons_self ..)]
        exact hs5 _ _ hk
    have hfin : ∀ h' n', n1 + 32 ≤ n' → SIn (del h X) h p (n1 + 12) (n1 + 31) (machL d.c d.many cv sv mv.to rv (m.steps + 1 + (stAt d m).r.length)) [lv, rv', uv, nv] [.int .i64 mv.to, ov] ps d.counts h' n' (opsM d.counts (nextR d mv.to) mv.ops (clrsM (nextR d mv.to) (stAt d m).r m.rs)) → K (.bool (!decide (mv.to = -1))) h' n' := by
      intro h' n' hn' hi'
      obtain ⟨q1, q2, q3, q4, q5, q6, q7⟩ := hi'
      have hre := del_re q4
      have := hK h' n' (by omega) q7 q6 ⟨cv, sv, rv, q1, hA.sub hre, hP.sub hre, q5, hD, hpX, hbX⟩
      simpa using this
    have hj1 : ∀ (e' : Env) n' nxv, e' 0 = ptr p → e' 5 = ptr (n1 + 12) → e' 6 = ptr (n1 + 31) → e' 7 = nxv → ZI ro (del h X) nxv (nextR d mv.to) → n1 + 32 ≤ n' → exec_Machine_Step_j1 ro K e' h5 n' := fun e' n' nxv f0 f5 f6 f7 hz hn' =>
      step_j1_c hcl f0 f5 f6 f7 (hSI.mono hn') hD hbX hP z2 hsf.rl hsf.r3 hz hovD hops.1 hops.2.1 hops.2.2.1 hops.2.2.2 hB hB2 fun h' n'' hn'' hi' => hfin h' n'' (by omega) hi'
    have m85 := machL_258 (n := d.many) (cv := cv) (sv := sv) (cur := mv.to) (rv := rv) (steps := m.steps + 1 + (stAt d m).r.length) hcl
    (repeat (first | refine bindP_mk (by simp (disch := first | omega | exact Int.natCast_nonneg _ | assumption) only [BB, B2, ↓reduceIte, Nat.reduceLeDiff, Nat.reduceAdd, CC] <;> rfl) ?_ | refine newP_mk ?_ | refine optP_mk ?_ | with_reducible first | refine condP_t ?_ | refine condP_f ?_ | refine ifP_tt' ?_ | refine ifP_ff' ?_ | refine ifP_tf' ?_ | refine ifP_ft' ?_ | refine ifP_u' ?_ | refine optP_mk0 ?_))
    refine bindP_mk (load1_get (l := [.int .i64 mv.to, ov]) g35 rfl) ?_
    by_cases hto : mv.to = -1
    · refine neq_f hto ?_
      (repeat (first | refine bindP_mk (by simp (disch := first | omega | exact Int.natCast_nonneg _ | assumption) only [BB, B2, ↓reduceIte, Nat.reduceLeDiff, Nat.reduceAdd, CC] <;> rfl) ?_ | refine newP_mk ?_ | refine optP_mk ?_ | with_reducible first | refine condP_t ?_ | refine condP_f ?_ | refine ifP_tt' ?_ | refine ifP_ff' ?_ | refine ifP_tf' ?_ | refine ifP_ft' ?_ | refine ifP_u' ?_ | refine optP_mk0 ?_))
      refine hj1 _ _ (.slice none 0 0) rfl rfl rfl rfl ?_ (by omega)
      unfold nextR
      rw [if_pos hto]
      exact Sl.nil
    · refine neq_t hto ?_
      have htr : 1 ≤ mv.to ∧ mv.to < d.states.length := by rcases hmp with h | h <;> omega
      have hti : mv.to.toNat < d.states.length := by omega
      have hsv5 := hsvD.sub hD5 (RState.sub hD5)
      have tix := hsv5.ixI .i64 (show 0 ≤ mv.to by omega) htr.2
      obtain ⟨x, ⟨lv2, rv2, uv2, nv2, rfl, a1, a2, a3, a4, a5⟩, b2, b3, b4, b5⟩ := hsvD.at hti
      have hl5 := load1_sub hD5 (b5 1 rv2 rfl)
      have b4' := b4 1
      (repeat (first | refine bindP_mk (by simp (disch := first | omega | exact Int.natCast_nonneg _ | assumption) only [BB, B2, ↓reduceIte, Nat.reduceLeDiff, Nat.reduceAdd, CC, nilCk_at] <;> rfl) ?_ | refine newP_mk ?_ | refine optP_mk ?_ | with_reducible first | refine condP_t ?_ | refine condP_f ?_ | refine ifP_tt' ?_ | refine ifP_ff' ?_ | refine ifP_tf' ?_ | refine ifP_ft' ?_ | refine ifP_u' ?_ | refine optP_mk0 ?_))
      refine bindP_mk (load1_get gp5 m85) ?_
      (repeat (first | refine bindP_mk (by simp (disch := first | omega | exact Int.natCast_nonneg _ | assumption) only [BB, B2, ↓reduceIte, Nat.reduceLeDiff, Nat.reduceAdd, CC] <;> rfl) ?_ | refine newP_mk ?_ | refine optP_mk ?_ | with_reducible first | refine condP_t ?_ | refine condP_f ?_ | refine ifP_tt' ?_ | refine ifP_ff' ?_ | refine ifP_tf' ?_ | refine ifP_ft' ?_ | refine ifP_u' ?_ | refine optP_mk0 ?_))
      refine bindP_mk (load1_get (l := [.int .i64 mv.to, ov]) g35 rfl) ?_
      refine bindP_mk tix (bindP_mk b4' (bindP_mk hl5 ?_))
      refine hj1 _ _ rv2 rfl rfl rfl rfl ?_ (by omega)
      unfold nextR
      rw [if_neg hto, List.getD_eq_getElem?_getD, List.getElem?_eq_getElem hti]
      exact a2
end
end V
end Go.Proofs.YtjndkdmkecpllaaGreat
set_option linter.unusedVariables false
set_option linter.unusedSimpArgs false
namespace Go.Proofs.YtjndkdmkecpllaaGreat
namespace V
attribute [local irreducible] bindP ifP condP newP optP exP beqP
def bts (s : ByteArray) : List Nat := s.data.toList.map (·.toNat)
theorem bts_len (s : ByteArray) : (bts s).length = s.size := by unfold bts; rw [List.length_map]; rfl
theorem bts_lt {s : ByteArray} : ∀ b ∈ bts s, b < 256 := fun b hb => by
  unfold bts at hb
  rw [List.mem_map] at hb
  obtain ⟨x, _, rfl⟩ := hb
  exact x.toNat_lt
theorem lenStr_bts (s : ByteArray) : lenStr (.string s) = some (.int .i64 (bts s).length) := by rw [bts_len]; rfl
theorem ixStr_bts {s : ByteArray} {k : IntKind} {i : Nat} (hi : i < (bts s).length) : ixStr (.string s) (.int k (i : Int)) = some (.int .u8 ((bts s)[i] : Nat)) := by
  have hn : natV (.int k (i : Int)) = some i := by simp [natV]
  have hl : i < s.data.toList.length := by simpa [bts] using hi
  unfold ixStr
  rw [hn]
  simp only [Option.bind]
  rw [List.getElem?_eq_getElem hl]
  simp [bts]
theorem bts_extract (s : ByteArray) (n : Nat) : bts (s.extract 0 n) = (bts s).take n := by
  unfold bts
  rw [← List.map_take]
  congr 1
  simp
def longL (d : AutoD) : List Nat → Int → MacD → Int × Int × Bool → (Int × Int × Bool) × MacD
  | [], _, m, r => (r, m)
  | b :: bs, i, m, r => if onM d m b = true then longL d bs (i + 1) (stepM d m b) (if ruleM d (stepM d m b) = -1 then r else (i + 1, ruleM d (stepM d m b), true)) else (r, stepM d m b)
def longM (d : AutoD) (s : List Nat) (from_ : Int) (m : MacD) : (Int × Int × Bool) × MacD := if from_ < 0 ∨ (s.length : Int) < from_ then ((0, 0, false), m) else longL d (s.drop from_.toNat) from_ (resetM m) (0, 0, false)
theorem longL_cons (d : AutoD) (b : Nat) (bs : List Nat) (i : Int) (m : MacD) (r : Int × Int × Bool) : longL d (b :: bs) i m r = if onM d m b = true then longL d bs (i + 1) (stepM d m b) (if ruleM d (stepM d m b) = -1 then r else (i + 1, ruleM d (stepM d m b), true)) else (r, stepM d m b) := rfl
theorem step_steps {d : AutoD} {m : MacD} {b : Nat} (ha : autoOk d = true) (ho : MOk d m) : (stepM d m b).steps ≤ m.steps + 4 := by
  unfold stepM
  by_cases hc : m.cur = -1
  · rw [if_pos hc]; omega
  · rw [if_neg hc]
    have := (st_at ha ho hc).r3
    show m.steps + 1 + _ ≤ _
    omega
theorem reset_w {B : Nat} {m : MacD} (h : WLe B m.rs) : WLe (B + 1) (resetM m).rs := fun r hr => by
  obtain ⟨x, hx, rfl⟩ := List.mem_map.1 hr
  have := h x hx
  unfold rsetR
  split
  · omega
  · show x.2 + 1 ≤ _; omega
theorem sum_take {l : List Nat} {k x : Nat} (hk : l[k]? = some x) : (l.take (k + 1)).sum = (l.take k).sum + x := by
  obtain ⟨h1, h2⟩ := List.getElem?_eq_some_iff.1 hk
  rw [List.take_succ_eq_append_getElem h1, List.sum_append, h2]; simp
theorem sum_le {B : Nat} : ∀ {l : List Nat}, (∀ x ∈ l, x ≤ B) → l.sum ≤ B * l.length
  | [], _ => by simp
  | x :: r, h => by
    have h1 := h x (List.mem_cons_self ..)
    have h2 := sum_le (l := r) fun y hy => h y (List.mem_cons_of_mem _ hy)
    rw [List.sum_cons, List.length_cons, Nat.mul_succ]; omega
theorem rgAt_nat {rs : List RgD} {k : Nat} (hk : k < rs.length) : rgAt rs (k : Int) = rs[k] := by
  unfold rgAt
  rw [Int.toNat_natCast, List.getD_eq_getElem?_getD, List.getElem?_eq_getElem hk]; rfl
def SJn (D hs : T Obj) (p : Nat) (pc : List Value) (ps : List (Nat × Nat)) (C : List (Int × Int)) (h : T Obj) (nx : Nat) (rs : List RgD) : Prop :=
  h.get p = some (.cells pc.toArray y_exec_Machine) ∧ Sub D h ∧ RsX RI h ps C rs ∧ Keep (p :: blks ps) hs h ∧ Fr h nx
section
variable {ro : Ro} {h0 hs h h' : T Obj} {X : List Nat} {p nx : Nat} {pc : List Value} {ps : List (Nat × Nat)} {C : List (Int × Int)} {rs : List RgD} {K : KV}
theorem SJn.mono {n' : Nat} (hi : SJn (del h0 X) hs p pc ps C h nx rs) (hn : nx ≤ n') : SJn (del h0 X) hs p pc ps C h n' rs := by
  obtain ⟨g1, g4, g5, g6, g7⟩ := hi
  exact ⟨g1, g4, g5, g6, g7.mono hn⟩
theorem SJn.ring {i n' : Nat} {q : Nat × Nat} {c : Int × Int} {L : List Nat} {w n : Nat} {r : RgD} (hi : SJn (del h0 X) hs p pc ps C h nx rs) (hd : Dst ps) (hX : ∀ k ∈ blks ps, k ∈ X) (hq : ps[i]? = some q) (hc : C[i]? = some c) (hR : RI h q.1 q.2 n L w) (hR' : RI h' q.1 q.2 c.2.toNat r.1 r.2) (ho : Only h h' q.1 q.2) (hn : nx ≤ n') :
    SJn (del h0 X) hs p pc ps C h' n' (rs.set i r) := by
  obtain ⟨g1, g4, g5, g6, g7⟩ := hi
  have hm := List.mem_of_getElem? hq
  have m1 : q.1 ∈ blks ps := mem_blks.2 ⟨q, hm, .inl rfl⟩
  have m2 : q.2 ∈ blks ps := mem_blks.2 ⟨q, hm, .inr rfl⟩
  have hr := g5.set RI_ok hd g7 hq hc hR' fun k _ k1 k2 => ho k k1 k2
  rw [set_same hq] at hr
  refine ⟨ho.get hR g1 (by decide) (by decide), ho.subD (hX _ m1) (hX _ m2) g4, hr, fun k o hk hn => ?_, (ho.frR hR g7).mono hn⟩
  rw [ho k (fun e => hn (List.mem_cons_of_mem _ (by rw [e]; exact m1))) (fun e => hn (List.mem_cons_of_mem _ (by rw [e]; exact m2)))]
  exact g6 k o hk hn
end
section
variable {ro : Ro} {h : T Obj} {nx : Nat} {X : List Nat} {p : Nat} {ps : List (Nat × Nat)} {d : AutoD} {m : MacD} {K : KV}
set_option maxRecDepth 8000 in
theorem exec_Reset_c {B : Nat} (hm : MI ro h X p ps d m) (ho : MOk d m) (hC : d.counts.length ≤ 512) (hf : Fr h nx) (hB : WLe B m.rs) (hB2 : B + 1 ≤ 1000000)
    (hK : ∀ h' nx', nx ≤ nx' → Fr h' nx' → Keep (p :: blks ps) h h' → MI ro h' X p ps d (resetM m) → K (.tuple #[]) h' nx') : callP Tryz.prog ro i_exec_Machine_Reset [ptr p] h nx K := by
  obtain ⟨cv, sv, rv, gp, hA, hP, hR, hD, hpX, hbX⟩ := id hm
  obtain ⟨hcl, hclt, hcv, hsv⟩ := hA.parts
  have n2lt := hf.lt' gp
  apply exec_Machine_Reset_of
  unfold exec_Machine_Reset
  refine bindP_mk (ptrB_eql_at _ _ _) ?_
  (repeat (first | refine bindP_mk (by simp (disch := first | omega | exact Int.natCast_nonneg _ | assumption) only [BB, B2, ↓reduceIte, Nat.reduceLeDiff, Nat.reduceAdd, CC, nilCk_at] <;> rfl) ?_ | refine newP_mk ?_ | refine optP_mk ?_ | with_reducible first | refine condP_t ?_ | refine condP_f ?_ | refine ifP_tt' ?_ | refine ifP_ff' ?_ | refine ifP_tf' ?_ | refine ifP_ft' ?_ | refine ifP_u' ?_ | refine optP_mk0 ?_))
  refine bindP_mk (store1_own (v := .int .i64 0) gp (by rw [machL_len hcl]; omega) rfl rfl) ?_
  rw [machL_set259 hcl]
  have gp4 : (h.upd p (some (.cells (machL d.c d.many cv sv 0 rv m.steps).toArray y_exec_Machine))).get p = some (.cells (machL d.c d.many cv sv 0 rv m.steps).toArray y_exec_Machine) := T.get_upd_same _ _ _
  have ho4 : ∀ k, k ≠ p → (h.upd p (some (.cells (machL d.c d.many cv sv 0 rv m.steps).toArray y_exec_Machine))).get k = h.get k := fun k hk => T.get_upd_ne _ _ hk
  generalize (h.upd p (some (.cells (machL d.c d.many cv sv 0 rv m.steps).toArray y_exec_Machine))) = h4 at gp4 ho4
  have m0 := machL_260 (n := d.many) (cv := cv) (sv := sv) (cur := 0) (rv := rv) (steps := m.steps) hcl
  have hSJ : SJn (del h X) h p (machL d.c d.many cv sv 0 rv m.steps) ps d.counts h4 nx m.rs := by
    refine ⟨gp4, fun k o hk => ?_, hR.keep RI_ok fun q hq => ?_, fun k o hk hn => ?_, fun k hk => by rw [ho4 k (by omega)]; exact hf k hk⟩
    · have h9 := hk
      rw [del_get] at h9
      split at h9
      · cases h9
      · rename_i hn
        rw [ho4 k (fun e => hn (by rw [e]; exact hpX))]; exact h9
    · obtain ⟨⟨c1, t1⟩, c2, t2⟩ := hR.ty RI_ok q hq
      exact ⟨ho4 _ (ne_of_get t1 gp (by decide)), ho4 _ (ne_of_get t2 gp (by decide))⟩
    · rw [ho4 k fun e => hn (by rw [e]; exact List.mem_cons_self ..)]; exact hk
  have hPh := hP.sub hSJ.2.1
  have hpl := hPh.len
  rw [ptrsC_len, hR.1] at hpl
  (repeat (first | refine bindP_mk (by simp (disch := first | omega | exact Int.natCast_nonneg _ | assumption) only [BB, B2, ↓reduceIte, Nat.reduceLeDiff, Nat.reduceAdd, CC, nilCk_at, gp4, m0, hpl] <;> rfl) ?_ | refine newP_mk ?_ | refine optP_mk ?_ | with_reducible first | refine condP_t ?_ | refine condP_f ?_ | refine ifP_tt' ?_ | refine ifP_ff' ?_ | refine ifP_tf' ?_ | refine ifP_ft' ?_ | refine ifP_u' ?_ | refine optP_mk0 ?_))
  have hrl := ho.2
  have hfin : ∀ h' n', nx ≤ n' → SJn (del h X) h p (machL d.c d.many cv sv 0 rv m.steps) ps d.counts h' n' (m.rs.map rsetR) → K (.tuple #[]) h' n' := by
    intro h' n' hn' hi'
    obtain ⟨q1, q4, q5, q6, q7⟩ := hi'
    have hre := del_re q4
    exact hK h' n' hn' q7 q6 ⟨cv, sv, rv, q1, hA.sub hre, hP.sub hre, q5, hD, hpX, hbX⟩
  refine loopP_rule (fun j e h' nx' => ∃ (k : Nat), k + j = d.counts.length ∧ nx ≤ nx' ∧ e 12 = rv ∧ e 13 = .int .i64 d.counts.length ∧ e 14 = .int .i64 k ∧ SJn (del h X) h p (machL d.c d.many cv sv 0 rv m.steps) ps d.counts h' nx' ((m.rs.take k).map rsetR ++ m.rs.drop k)) ?_ (n := d.counts.length) ⟨0, by omega, by omega, rfl, rfl, rfl, hSJ.mono (by omega)⟩
  rintro j e h' nx' ⟨k, hj, hnx, e12, e13, e14, hi⟩ Q' hq hx
  obtain ⟨g1, g4, g5, g6, g7⟩ := id hi
  unfold exec_Machine_Reset_L1
  rw [e12, e13, e14]
  refine lss_s (fun hk => ?_) (fun hk => ?_)
  · have hk : k < d.counts.length := by omega
    have hkr : k < m.rs.length := by omega
    have hP' := hP.sub g4
    obtain ⟨q, hq', hri⟩ := g5.at (c := (k : Int)) (by omega) (by omega)
    rw [Int.toNat_natCast] at hq'
    have hlen : ((m.rs.take k).map rsetR).length = k := by simp; omega
    have hg : rgAt ((m.rs.take k).map rsetR ++ m.rs.drop k) (k : Int) = m.rs[k] := by
      unfold rgAt
      rw [Int.toNat_natCast, List.getD_eq_getElem?_getD, List.getElem?_append_right (by omega), hlen, Nat.sub_self, List.getElem?_drop, Nat.add_zero, List.getElem?_eq_getElem hkr]; rfl
    rw [hg] at hri
    have hset : ∀ x, ((m.rs.take k).map rsetR ++ m.rs.drop k).set k x = (m.rs.take k).map rsetR ++ [x] ++ m.rs.drop (k + 1) := fun x => by
      rw [List.set_append_right _ _ (by omega), hlen, Nat.sub_self, drop_cons hkr, List.append_assoc]; rfl
    have htk : (m.rs.take (k + 1)).map rsetR = (m.rs.take k).map rsetR ++ [rsetR m.rs[k]] := by rw [List.take_succ_eq_append_getElem hkr, List.map_append]; rfl
    have hci : d.counts[k]? = some (cntAt d.counts (k : Int)) := by
      rw [← cnt_get (by omega) (by omega)]
      simp only [Int.toNat_natCast]
      exact List.getElem?_eq_getElem _
    have hj1 : ∀ (e' : Env) h2 n2, e' 12 = rv → e' 13 = .int .i64 d.counts.length → e' 14 = .int .i64 k → nx' ≤ n2 → SJn (del h X) h p (machL d.c d.many cv sv 0 rv m.steps) ps d.counts h2 n2 ((m.rs.take (k + 1)).map rsetR ++ m.rs.drop (k + 1)) → exec_Machine_Reset_j1 ro Q' e' h2 n2 := by
      intro e' h2 n2 f12 f13 f14 hn hi2
      unfold exec_Machine_Reset_j1
      rw [f14]
      (repeat (first | refine bindP_mk (by simp (disch := first | omega | exact Int.natCast_nonneg _ | assumption) only [BB, B2, ↓reduceIte, Nat.reduceLeDiff, Nat.reduceAdd, CC] <;> rfl) ?_ | refine newP_mk ?_ | refine optP_mk ?_ | with_reducible first | refine condP_t ?_ | refine condP_f ?_ | refine ifP_tt' ?_ | refine ifP_ff' ?_ | refine ifP_tf' ?_ | refine ifP_ft' ?_ | refine ifP_u' ?_ | refine optP_mk0 ?_))
      exact hq (j - 1) _ _ _ _ (by omega) ⟨k + 1, by omega, by omega, f12, f13, rfl, hi2.mono (by omega)⟩ (Sub.refl _)
    have hdk : m.rs.drop k = [m.rs[k]] ++ m.rs.drop (k + 1) := drop_cons hkr
    have hw : (m.rs[k]).2 ≤ B := hB _ (List.getElem_mem hkr)
    generalize m.rs[k] = r at hri htk hw hdk
    (repeat (first | refine bindP_mk (by simp (disch := first | omega | exact Int.natCast_nonneg _ | assumption) only [BB, B2, ↓reduceIte, Nat.reduceLeDiff, Nat.reduceAdd, CC] <;> rfl) ?_ | refine newP_mk ?_ | refine optP_mk ?_ | with_reducible first | refine condP_t ?_ | refine condP_f ?_ | refine ifP_tt' ?_ | refine ifP_ff' ?_ | refine ifP_tf' ?_ | refine ifP_ft' ?_ | refine ifP_u' ?_ | refine optP_mk0 ?_))
    refine bindP_mk (hP'.ix _ (by rw [ptrsC_len, hR.1]; exact hk)) (bindP_mk (hP'.load1 (ptrs_get hq')) ?_)
    refine ring_Len_c hri fun n2 hn2 => ?_
    refine gtr_s (fun hl => ?_) (fun hl => ?_)
    · have hx1 : rsetR r = clrR r := if_neg (by omega)
      rw [hx1] at htk
      (repeat (first | refine bindP_mk (by simp (disch := first | omega | exact Int.natCast_nonneg _ | assumption) only [BB, B2, ↓reduceIte, Nat.reduceLeDiff, Nat.reduceAdd, CC] <;> rfl) ?_ | refine newP_mk ?_ | refine optP_mk ?_ | with_reducible first | refine condP_t ?_ | refine condP_f ?_ | refine ifP_tt' ?_ | refine ifP_ff' ?_ | refine ifP_tf' ?_ | refine ifP_ft' ?_ | refine ifP_u' ?_ | refine optP_mk0 ?_))
      refine ring_Clear_c hri (by omega) fun h2 n3 hn3 hR2 ho2 => ?_
      have := hi.ring (r := clrR r) (n' := n3) hD hbX hq' hci hri hR2 ho2 (by omega)
      rw [hset, ← htk] at this
      exact hj1 _ _ _ e12 e13 e14 (by omega) this
    · have hx1 : rsetR r = r := if_pos (by omega)
      rw [hx1] at htk
      (repeat (first | refine bindP_mk (by simp (disch := first | omega | exact Int.natCast_nonneg _ | assumption) only [BB, B2, ↓reduceIte, Nat.reduceLeDiff, Nat.reduceAdd, CC] <;> rfl) ?_ | refine newP_mk ?_ | refine optP_mk ?_ | with_reducible first | refine condP_t ?_ | refine condP_f ?_ | refine ifP_tt' ?_ | refine ifP_ff' ?_ | refine ifP_tf' ?_ | refine ifP_ft' ?_ | refine ifP_u' ?_ | refine optP_mk0 ?_))
      refine hj1 _ _ _ e12 e13 e14 (by omega) ?_
      have e2 : (m.rs.take (k + 1)).map rsetR ++ m.rs.drop (k + 1) = (m.rs.take k).map rsetR ++ m.rs.drop k := by
        rw [htk, List.append_assoc, hdk]
      rw [e2]
      exact hi.mono (by omega)
  · (repeat (first | refine bindP_mk (by simp (disch := first | omega | exact Int.natCast_nonneg _ | assumption) only [BB, B2, ↓reduceIte, Nat.reduceLeDiff, Nat.reduceAdd, CC] <;> rfl) ?_ | refine newP_mk ?_ | refine optP_mk ?_ | with_reducible first | refine condP_t ?_ | refine condP_f ?_ | refine ifP_tt' ?_ | refine ifP_ff' ?_ | refine ifP_tf' ?_ | refine ifP_ft' ?_ | refine ifP_u' ?_ | refine optP_mk0 ?_))
    refine hx _ _ _ _ (fun e => by cases e) (exP_e (beqP_t ?_))
    rw [List.take_of_length_le (by omega), List.drop_eq_nil_of_le (by omega), List.append_nil] at hi
    exact ⟨h', Sub.refl _, hfin _ _ (by omega) (hi.mono (by omega))⟩
set_option maxRecDepth 8000 in
theorem exec_Work_c {B : Nat} (hm : MI ro h X p ps d m) (ho : MOk d m) (hC : d.counts.length ≤ 512) (hB : WLe B m.rs) (hB2 : B ≤ 1000000) (hst : m.steps ≤ 1000000000) (hK : ∀ nx', nx ≤ nx' → K (.int .i64 (workM m : Nat)) h nx') : callP Tryz.prog ro i_exec_Machine_Work [ptr p] h nx K := by
  obtain ⟨cv, sv, rv, gp, hA, hP, hR, hD, hpX, hbX⟩ := id hm
  obtain ⟨hcl, hclt, hcv, hsv⟩ := hA.parts
  have m0 := machL_260 (n := d.many) (cv := cv) (sv := sv) (cur := m.cur) (rv := rv) (steps := m.steps) hcl
  have m1 := machL_261 (n := d.many) (cv := cv) (sv := sv) (cur := m.cur) (rv := rv) (steps := m.steps) hcl
  have hPh := hP.sub (del_sub h X)
  have hpl := hPh.len
  rw [ptrsC_len, hR.1] at hpl
  apply exec_Machine_Work_of
  unfold exec_Machine_Work
  unfold workM at hK
  (repeat (first | refine bindP_mk (by simp (disch := first | omega | exact Int.natCast_nonneg _ | assumption) only [BB, B2, ↓reduceIte, Nat.reduceLeDiff, Nat.reduceAdd, CC, ptrB_eql_at, nilCk_at, gp, m0, m1, hpl] <;> rfl) ?_ | refine newP_mk ?_ | refine optP_mk ?_ | with_reducible first | refine condP_t ?_ | refine condP_f ?_ | refine ifP_tt' ?_ | refine ifP_ff' ?_ | refine ifP_tf' ?_ | refine ifP_ft' ?_ | refine ifP_u' ?_ | refine optP_mk0 ?_))
  have hrl := ho.2
  have hsl : (m.rs.map (·.2)).length = d.counts.length := by rw [List.length_map]; exact hrl
  have hwb : ∀ x ∈ m.rs.map (·.2), x ≤ 1000000 := fun x hx => by
    obtain ⟨r, hr, rfl⟩ := List.mem_map.1 hx
    exact Nat.le_trans (hB r hr) hB2
  have hwat : ∀ (i : Nat) (hi : i < m.rs.length), (m.rs.map (·.2))[i]? = some (m.rs[i]).2 := fun i hi => by rw [List.getElem?_map, List.getElem?_eq_getElem hi]; rfl
  generalize m.rs.map (·.2) = ws at hK hsl hwb hwat
  refine loopP_rule (fun j e h' nx' => ∃ (k : Nat), k + j = d.counts.length ∧ nx ≤ nx' ∧ h' = h ∧ e 3 = .int .i64 ((m.steps + (ws.take k).sum : Nat) : Int) ∧ e 15 = rv ∧ e 16 = .int .i64 d.counts.length ∧ e 17 = .int .i64 k) ?_ (n := d.counts.length) ⟨0, by omega, by omega, rfl, rfl, rfl, rfl, rfl⟩
  rintro j e h' nx' ⟨k, hj, hnx, rfl, e3, e15, e16, e17⟩ Q' hq hx
  unfold exec_Machine_Work_L1
  rw [e3, e15, e16, e17]
  refine lss_s (fun hk => ?_) (fun hk => ?_)
  · have hk : k < d.counts.length := by omega
    have hkr : k < m.rs.length := by omega
    obtain ⟨q, hq', hri⟩ := hR.at (c := (k : Int)) (by omega) (by omega)
    rw [Int.toNat_natCast] at hq'
    rw [rgAt_nat hkr] at hri
    have hws := sum_take (hwat k hkr)
    have h1 := sum_le (l := ws.take k) fun x hx => hwb x (List.mem_of_mem_take hx)
    have h2 : (ws.take k).length ≤ 512 := by rw [List.length_take]; omega
    have h3 := Nat.mul_le_mul_left 1000000 h2
    have h4 := hB _ (List.getElem_mem hkr)
    (repeat (first | refine bindP_mk (by simp (disch := first | omega | exact Int.natCast_nonneg _ | assumption) only [BB, B2, ↓reduceIte, Nat.reduceLeDiff, Nat.reduceAdd, CC] <;> rfl) ?_ | refine newP_mk ?_ | refine optP_mk ?_ | with_reducible first | refine condP_t ?_ | refine condP_f ?_ | refine ifP_tt' ?_ | refine ifP_ff' ?_ | refine ifP_tf' ?_ | refine ifP_ft' ?_ | refine ifP_u' ?_ | refine optP_mk0 ?_))
    refine bindP_mk (hPh.ix _ (by rw [ptrsC_len, hR.1]; exact hk)) (bindP_mk (hPh.load1 (ptrs_get hq')) ?_)
    refine ring_Work_c hri fun n2 hn2 => ?_
    have hadd : intB .add (.int .i64 ((m.steps + (ws.take k).sum : Nat) : Int)) (.int .i64 ((m.rs[k].2 : Nat) : Int)) = some (.int .i64 ((m.steps + (ws.take (k + 1)).sum : Nat) : Int)) := by
      rw [intB_add, ← Int.natCast_add, hws, wr_i64 (by omega) (by omega), Nat.add_assoc]
    refine bindP_mk hadd ?_
    (repeat (first | refine bindP_mk (by simp (disch := first | omega | exact Int.natCast_nonneg _ | assumption) only [BB, B2, ↓reduceIte, Nat.reduceLeDiff, Nat.reduceAdd, CC] <;> rfl) ?_ | refine newP_mk ?_ | refine optP_mk ?_ | with_reducible first | refine condP_t ?_ | refine condP_f ?_ | refine ifP_tt' ?_ | refine ifP_ff' ?_ | refine ifP_tf' ?_ | refine ifP_ft' ?_ | refine ifP_u' ?_ | refine optP_mk0 ?_))
    exact hq (j - 1) _ _ _ _ (by omega) ⟨k + 1, by omega, by omega, rfl, rfl, e15, e16, rfl⟩ (Sub.refl _)
  · (repeat (first | refine bindP_mk (by simp (disch := first | omega | exact Int.natCast_nonneg _ | assumption) only [BB, B2, ↓reduceIte, Nat.reduceLeDiff, Nat.reduceAdd, CC] <;> rfl) ?_ | refine newP_mk ?_ | refine optP_mk ?_ | with_reducible first | refine condP_t ?_ | refine condP_f ?_ | refine ifP_tt' ?_ | refine ifP_ff' ?_ | refine ifP_tf' ?_ | refine ifP_ft' ?_ | refine ifP_u' ?_ | refine optP_mk0 ?_))
    refine hx _ _ _ _ (fun e => by cases e) (exP_e (beqP_t ?_))
    unfold exec_Machine_Work_j1
    rw [List.take_of_length_le (by omega)] at e3
    have f3 : ∀ (e' : Env) n', e' 3 = .int .i64 ((m.steps + ws.sum : Nat) : Int) → nx ≤ n' → ∃ h2, Sub h2 h' ∧ K (e' 3) h2 n' := fun e' n' h3 hn => by
      rw [h3]
      exact ⟨h', Sub.refl _, hK _ hn⟩
    exact f3 _ _ e3 (by omega)
set_option maxRecDepth 8000 in
theorem exec_Longest_c {B : Nat} {s : ByteArray} {from_ : Int} (hm : MI ro h X p ps d m) (ha : autoOk d = true) (ho : MOk d m) (hf : Fr h nx) (hB : WLe B m.rs) (hl : (bts s).length ≤ 10000) (hB2 : B + 100000 ≤ 1000000) (hst : m.steps ≤ 1000000)
    (hK : ∀ h' nx', nx ≤ nx' → Fr h' nx' → Keep (p :: blks ps) h h' → MI ro h' X p ps d (longM d (bts s) from_ m).2 → K (.tuple #[.int .i64 (longM d (bts s) from_ m).1.1, .int .i64 (longM d (bts s) from_ m).1.2.1, .bool (longM d (bts s) from_ m).1.2.2]) h' nx') : callP Tryz.prog ro i_exec_Machine_Longest [ptr p, .string s, .int .i64 from_] h nx K := by
  have hC := (autoOk_parts ha).2.1
  have hcl : d.c.length = 256 := by obtain ⟨cv, sv, rv, gp, hA, _⟩ := id hm; exact hA.parts.1
  have hln := lenStr_bts s
  apply exec_Machine_Longest_of
  unfold exec_Machine_Longest
  unfold longM at hK
  (repeat (first | refine bindP_mk (by simp (disch := first | omega | exact Int.natCast_nonneg _ | assumption) only [BB, B2, ↓reduceIte, Nat.reduceLeDiff, Nat.reduceAdd, CC, ptrB_eql_at] <;> rfl) ?_ | refine newP_mk ?_ | refine optP_mk ?_ | with_reducible first | refine condP_t ?_ | refine condP_f ?_ | refine ifP_tt' ?_ | refine ifP_ff' ?_ | refine ifP_tf' ?_ | refine ifP_ft' ?_ | refine ifP_u' ?_ | refine optP_mk0 ?_))
  refine lss_s (fun h1 => ?_) (fun h1 => ?_)
  · rw [if_pos (.inl h1)] at hK
    (repeat (first | refine bindP_mk (by simp (disch := first | omega | exact Int.natCast_nonneg _ | assumption) only [BB, B2, ↓reduceIte, Nat.reduceLeDiff, Nat.reduceAdd, CC] <;> rfl) ?_ | refine newP_mk ?_ | refine optP_mk ?_ | with_reducible first | refine condP_t ?_ | refine condP_f ?_ | refine ifP_tt' ?_ | refine ifP_ff' ?_ | refine ifP_tf' ?_ | refine ifP_ft' ?_ | refine ifP_u' ?_ | refine optP_mk0 ?_))
    exact ⟨h, Sub.refl _, hK _ _ (by omega) (hf.mono (by omega)) (Sub.refl _).keepL hm⟩
  · (repeat (first | refine bindP_mk (by simp (disch := first | omega | exact Int.natCast_nonneg _ | assumption) only [BB, B2, ↓reduceIte, Nat.reduceLeDiff, Nat.reduceAdd, CC, hln] <;> rfl) ?_ | refine newP_mk ?_ | refine optP_mk ?_ | with_reducible first | refine condP_t ?_ | refine condP_f ?_ | refine ifP_tt' ?_ | refine ifP_ff' ?_ | refine ifP_tf' ?_ | refine ifP_ft' ?_ | refine ifP_u' ?_ | refine optP_mk0 ?_))
    refine gtr_s (fun h2 => ?_) (fun h2 => ?_)
    · rw [if_pos (.inr h2)] at hK
      (repeat (first | refine bindP_mk (by simp (disch := first | omega | exact Int.natCast_nonneg _ | assumption) only [BB, B2, ↓reduceIte, Nat.reduceLeDiff, Nat.reduceAdd, CC] <;> rfl) ?_ | refine newP_mk ?_ | refine optP_mk ?_ | with_reducible first | refine condP_t ?_ | refine condP_f ?_ | refine ifP_tt' ?_ | refine ifP_ff' ?_ | refine ifP_tf' ?_ | refine ifP_ft' ?_ | refine ifP_u' ?_ | refine optP_mk0 ?_))
      exact ⟨h, Sub.refl _, hK _ _ (by omega) (hf.mono (by omega)) (Sub.refl _).keepL hm⟩
    · rw [if_neg (by omega)] at hK
      (repeat (first | refine bindP_mk (by simp (disch := first | omega | exact Int.natCast_nonneg _ | assumption) only [BB, B2, ↓reduceIte, Nat.reduceLeDiff, Nat.reduceAdd, CC] <;> rfl) ?_ | refine newP_mk ?_ | refine optP_mk ?_ | with_reducible first | refine condP_t ?_ | refine condP_f ?_ | refine ifP_tt' ?_ | refine ifP_ff' ?_ | refine ifP_tf' ?_ | refine ifP_ft' ?_ | refine ifP_u' ?_ | refine optP_mk0 ?_))
      refine exec_Reset_c hm ho hC (hf.mono (by omega)) hB (by omega) fun h3 n3 hn3 hf3 hk3 hm3 => ?_
      generalize hR : longL d ((bts s).drop from_.toNat) from_ (resetM m) (0, 0, false) = R at hK
      refine loopP_rule (fun j e h' nx' => ∃ (k : Nat) (m' : MacD) (r : Int × Int × Bool), k + j = (bts s).length ∧ n3 ≤ nx' ∧ from_.toNat ≤ k ∧ e 0 = ptr p ∧ e 1 = .string s ∧ e 6 = .int .i64 r.1 ∧ e 7 = .int .i64 r.2.1 ∧ e 8 = .bool r.2.2 ∧ e 9 = .int .i64 k ∧ Fr h' nx' ∧ Keep (p :: blks ps) h h' ∧ MI ro h' X p ps d m' ∧ MOk d m' ∧ WLe (B + 1 + 9 * k) m'.rs ∧ m'.steps ≤ m.steps + 4 * k ∧ longL d ((bts s).drop k) k m' r = R) ?_ (n := (bts s).length - from_.toNat)
        ⟨from_.toNat, resetM m, (0, 0, false), by omega, by omega, by omega, rfl, rfl, rfl, rfl, rfl, by show Value.int .i64 from_ = _; rw [Int.toNat_of_nonneg h1], hf3.mono (by omega), hk3, hm3, reset_ok ha ho, (reset_w hB).mono (by omega), by show m.steps ≤ _; omega, by rw [Int.toNat_of_nonneg h1]; exact hR⟩
      rintro j e h' nx' ⟨k, m', r, hj, hnx, hfk, e0, e1, e6, e7, e8, e9, hf', hk', hm', ho', hw', hs', hr⟩ Q' hq hx
      have hend : ∀ (e' : Env) h2 n2, e' 6 = .int .i64 R.1.1 → e' 7 = .int .i64 R.1.2.1 → e' 8 = .bool R.1.2.2 → nx ≤ n2 → Fr h2 n2 → Keep (p :: blks ps) h h2 → MI ro h2 X p ps d R.2 → exec_Machine_Longest_j1 ro K e' h2 n2 := by
        intro e' h2 n2 f6 f7 f8 hn hf2 hk2 hm2
        unfold exec_Machine_Longest_j1
        rw [f6, f7, f8]
        exact ⟨h2, Sub.refl _, hK _ _ (by omega) (hf2.mono (by omega)) hk2 hm2⟩
      unfold exec_Machine_Longest_L1
      rw [e0, e1, e9]
      refine bindP_mk hln ?_
      refine lss_s (fun hk => ?_) (fun hk => ?_)
      · have hk : k < (bts s).length := by omega
        have hb := bts_lt _ (List.getElem_mem hk)
        rw [drop_cons hk, longL_cons] at hr
        (repeat (first | refine bindP_mk (by simp (disch := first | omega | exact Int.natCast_nonneg _ | assumption) only [BB, B2, ↓reduceIte, Nat.reduceLeDiff, Nat.reduceAdd, CC] <;> rfl) ?_ | refine newP_mk ?_ | refine optP_mk ?_ | with_reducible first | refine condP_t ?_ | refine condP_f ?_ | refine ifP_tt' ?_ | refine ifP_ff' ?_ | refine ifP_tf' ?_ | refine ifP_ft' ?_ | refine ifP_u' ?_ | refine optP_mk0 ?_))
        refine bindP_mk (ixStr_bts hk) ?_
        generalize (bts s)[k] = b at hr hb
        refine exec_Step_c hm' ha ho' hb (hf'.mono (by omega)) hw' (by omega) (by omega) fun h4 n4 hn4 hf4 hk4 hm4 => ?_
        have ho4 := step_ok ha ho' hcl hb
        have hw4 := step_w ha ho' hcl hb hw'
        have hs4 := step_steps (b := b) ha ho'
        cases hon : onM d m' b with
        | false =>
          rw [hon, if_neg (by decide)] at hr
          (repeat (first | refine bindP_mk (by simp (disch := first | omega | exact Int.natCast_nonneg _ | assumption) only [BB, B2, ↓reduceIte, Nat.reduceLeDiff, Nat.reduceAdd, CC] <;> rfl) ?_ | refine newP_mk ?_ | refine optP_mk ?_ | with_reducible first | refine condP_t ?_ | refine condP_f ?_ | refine ifP_tt' ?_ | refine ifP_ff' ?_ | refine ifP_tf' ?_ | refine ifP_ft' ?_ | refine ifP_u' ?_ | refine optP_mk0 ?_))
          refine hx _ _ _ _ (fun e => by cases e) (exP_e (beqP_t ?_))
          subst hr
          exact hend _ _ _ e6 e7 e8 (by omega) (hf4.mono (by omega)) (hk'.trans hk4) hm4
        | true =>
          rw [hon, if_pos rfl] at hr
          have hj2 : ∀ (e' : Env) n' (r' : Int × Int × Bool), e' 0 = ptr p → e' 1 = .string s → e' 6 = .int .i64 r'.1 → e' 7 = .int .i64 r'.2.1 → e' 8 = .bool r'.2.2 → e' 9 = .int .i64 k → n4 ≤ n' → longL d ((bts s).drop (k + 1)) ((k : Int) + 1) (stepM d m' b) r' = R → exec_Machine_Longest_j2 ro Q' e' h4 n' := by
            intro e' n' r' f0 f1 f6 f7 f8 f9 hn' hr'
            unfold exec_Machine_Longest_j2
            rw [f9]
            (repeat (first | refine bindP_mk (by simp (disch := first | omega | exact Int.natCast_nonneg _ | assumption) only [BB, B2, ↓reduceIte, Nat.reduceLeDiff, Nat.reduceAdd, CC] <;> rfl) ?_ | refine newP_mk ?_ | refine optP_mk ?_ | with_reducible first | refine condP_t ?_ | refine condP_f ?_ | refine ifP_tt' ?_ | refine ifP_ff' ?_ | refine ifP_tf' ?_ | refine ifP_ft' ?_ | refine ifP_u' ?_ | refine optP_mk0 ?_))
            exact hq (j - 1) _ _ _ _ (by omega) ⟨k + 1, stepM d m' b, r', by omega, by omega, by omega, f0, f1, f6, f7, f8, rfl, hf4.mono (by omega), hk'.trans hk4, hm4, ho4, hw4.mono (by omega), by omega, hr'⟩ (Sub.refl _)
          (repeat (first | refine bindP_mk (by simp (disch := first | omega | exact Int.natCast_nonneg _ | assumption) only [BB, B2, ↓reduceIte, Nat.reduceLeDiff, Nat.reduceAdd, CC] <;> rfl) ?_ | refine newP_mk ?_ | refine optP_mk ?_ | with_reducible first | refine condP_t ?_ | refine condP_f ?_ | refine ifP_tt' ?_ | refine ifP_ff' ?_ | refine ifP_tf' ?_ | refine ifP_ft' ?_ | refine ifP_u' ?_ | refine optP_mk0 ?_))
          refine exec_Rule_c hm4 ha ho4 (hf4.mono (by omega)) fun n5 hn5 => ?_
          refine neq_s (fun hu => ?_) (fun hu => ?_)
          · rw [if_neg hu] at hr
            (repeat (first | refine bindP_mk (by simp (disch := first | omega | exact Int.natCast_nonneg _ | assumption) only [BB, B2, ↓reduceIte, Nat.reduceLeDiff, Nat.reduceAdd, CC] <;> rfl) ?_ | refine newP_mk ?_ | refine optP_mk ?_ | with_reducible first | refine condP_t ?_ | refine condP_f ?_ | refine ifP_tt' ?_ | refine ifP_ff' ?_ | refine ifP_tf' ?_ | refine ifP_ft' ?_ | refine ifP_u' ?_ | refine optP_mk0 ?_))
            refine exec_Rule_c hm4 ha ho4 (hf4.mono (by omega)) fun n6 hn6 => ?_
            exact hj2 _ _ ((k : Int) + 1, ruleM d (stepM d m' b), true) e0 e1 rfl rfl rfl e9 (by omega) hr
          · rw [if_pos hu] at hr
            (repeat (first | refine bindP_mk (by simp (disch := first | omega | exact Int.natCast_nonneg _ | assumption) only [BB, B2, ↓reduceIte, Nat.reduceLeDiff, Nat.reduceAdd, CC] <;> rfl) ?_ | refine newP_mk ?_ | refine optP_mk ?_ | with_reducible first | refine condP_t ?_ | refine condP_f ?_ | refine ifP_tt' ?_ | refine ifP_ff' ?_ | refine ifP_tf' ?_ | refine ifP_ft' ?_ | refine ifP_u' ?_ | refine optP_mk0 ?_))
            exact hj2 _ _ r e0 e1 e6 e7 e8 e9 (by omega) hr
      · (repeat (first | refine bindP_mk (by simp (disch := first | omega | exact Int.natCast_nonneg _ | assumption) only [BB, B2, ↓reduceIte, Nat.reduceLeDiff, Nat.reduceAdd, CC] <;> rfl) ?_ | refine newP_mk ?_ | refine optP_mk ?_ | with_reducible first | refine condP_t ?_ | refine condP_f ?_ | refine ifP_tt' ?_ | refine ifP_ff' ?_ | refine ifP_tf' ?_ | refine ifP_ft' ?_ | refine ifP_u' ?_ | refine optP_mk0 ?_))
        refine hx _ _ _ _ (fun e => by cases e) (exP_e (beqP_t ?_))
        rw [drop_all (by omega)] at hr
        have hr : (r, m') = R := hr
        subst hr
        exact hend _ _ _ e6 e7 e8 (by omega) (hf'.mono (by omega)) hk' hm'
end
end V
end Go.Proofs.YtjndkdmkecpllaaGreat
set_option linter.unusedVariables false
set_option linter.unusedSimpArgs false
namespace Go.Proofs.YtjndkdmkecpllaaGreat
namespace V
attribute [local irreducible] bindP ifP condP newP optP exP beqP
section
variable {ro : Ro} {h : T Obj} {p a n w nx : Nat} {L : List Nat} {K : KV}
end
def Lo (h : T Obj) (L : List (Nat × List Value × TypeId)) : Prop := ∀ b ∈ L, h.get b.1 = some (.cells b.2.1.toArray b.2.2) ∧ b.2.2 ≠ y_raddleref03_Ring ∧ b.2.2 ≠ y_bool
def SW (hs : T Obj) (X : List Nat) (n0 : Nat) (p : Nat) (pc : List Value) (L : List (Nat × List Value × TypeId)) (ps0 : List (Nat × Nat)) (C : List (Int × Int)) (h : T Obj) (nx : Nat) (rs : List RgD) (ps : List (Nat × Nat)) : Prop :=
  h.get p = some (.cells pc.toArray y_raddleref13_Machine) ∧ Lo h L ∧ Sub (del hs X) h ∧ RsX WJ h ps C rs ∧ Dst ps ∧ ptrsC ps = ptrsC ps0 ∧ (∀ q ∈ ps, q.1 ∈ ps0.map (·.1) ∧ (q.2 ∈ ps0.map (·.2) ∨ n0 ≤ q.2)) ∧ Keep (p :: blks ps0) hs h ∧ Fr h nx ∧ n0 ≤ nx ∧ Fr hs n0 ∧ ∀ k ∈ p :: blks ps0, k ∈ X
section
variable {ro : Ro} {hs h h' : T Obj} {X : List Nat} {n0 p nx : Nat} {pc : List Value} {L : List (Nat × List Value × TypeId)} {ps0 ps : List (Nat × Nat)} {C : List (Int × Int)} {rs : List RgD} {K : KV}
theorem SW.mono {n' : Nat} (hi : SW hs X n0 p pc L ps0 C h nx rs ps) (hn : nx ≤ n') : SW hs X n0 p pc L ps0 C h n' rs ps := by
  obtain ⟨g1, g2, g3, g4, g5, g6, g7, g8, g9, g10, g11⟩ := hi
  exact ⟨g1, g2, g3, g4, g5, g6, g7, g8, g9.mono hn, by omega, g11⟩
theorem SW.sub {n' : Nat} (hi : SW hs X n0 p pc L ps0 C h nx rs ps) (hs' : Sub h h') (hf : Fr h' n') (hn : nx ≤ n') : SW hs X n0 p pc L ps0 C h' n' rs ps := by
  obtain ⟨g1, g2, g3, g4, g5, g6, g7, g8, g9, g10, g11⟩ := hi
  exact ⟨hs' _ _ g1, fun b hb => ⟨hs' _ _ (g2 b hb).1, (g2 b hb).2⟩, g3.trans hs', g4.sub WJ_ok hs', g5, g6, g7, fun k o hk hn => hs' _ _ (g8 k o hk hn), hf, by omega, g11⟩
theorem mem_fst {ps : List (Nat × Nat)} {k : Nat} (h : k ∈ ps.map (·.1)) : k ∈ blks ps := by
  obtain ⟨q, hq, rfl⟩ := List.mem_map.1 h
  exact mem_blks.2 ⟨q, hq, .inl rfl⟩
theorem mem_snd {ps : List (Nat × Nat)} {k : Nat} (h : k ∈ ps.map (·.2)) : k ∈ blks ps := by
  obtain ⟨q, hq, rfl⟩ := List.mem_map.1 h
  exact mem_blks.2 ⟨q, hq, .inr rfl⟩
theorem SW.ring {i n' a' w n : Nat} {q : Nat × Nat} {c : Int × Int} {M : List Nat} {r : RgD} (hi : SW hs X n0 p pc L ps0 C h nx rs ps) (hq : ps[i]? = some q) (hc : C[i]? = some c) (hR : WJ h q.1 q.2 n M w) (hR' : WJ h' q.1 a' c.2.toNat r.1 r.2) (ha : a' = q.2 ∨ nx ≤ a') (hg : ∀ k, k < nx → k ≠ q.1 → k ≠ q.2 → h'.get k = h.get k) (hf : Fr h' n') (hn : nx ≤ n') :
    SW hs X n0 p pc L ps0 C h' n' (rs.set i r) (ps.set i (q.1, a')) := by
  obtain ⟨g1, g2, g3, g4, g5, g6, g7, g8, g9, g10, g11, g12⟩ := hi
  have hm := List.mem_of_getElem? hq
  obtain ⟨m1, m2⟩ := g7 q hm
  obtain ⟨c1, t1⟩ := WJ_ok.p hR
  obtain ⟨c2, t2⟩ := WJ_ok.a hR
  have hlt := g4.lt WJ_ok g9
  have hget : ∀ {k : Nat} {c : Array Value} {e : TypeId}, h.get k = some (.cells c e) → e ≠ y_raddleref03_Ring → e ≠ y_bool → h'.get k = some (.cells c e) := fun hk h1 h2 => by
    rw [hg _ (g9.lt' hk) (ne_of_get hk t1 h1) (ne_of_get hk t2 h2)]; exact hk
  refine ⟨hget g1 (by decide) (by decide), fun b hb => ⟨hget (g2 b hb).1 (g2 b hb).2.1 (g2 b hb).2.2, (g2 b hb).2⟩, fun k o hk => ?_, g4.set WJ_ok g5 g9 hq hc hR' hg, g5.set hq ?_, (ptrsC_set hq).trans g6, fun r hr => ?_, fun k o hk hkn => ?_, hf, by omega, g11, g12⟩
  · have h1 := hk
    rw [del_get] at h1
    split at h1
    · cases h1
    · rename_i hnX
      have hk0 := g11.lt' h1
      rw [hg k (by omega) (fun e => hnX (by rw [e]; exact g12 _ (List.mem_cons_of_mem _ (mem_fst m1)))) (fun e => ?_)]
      · exact g3 k o hk
      · rcases m2 with m2 | m2
        · exact hnX (by rw [e]; exact g12 _ (List.mem_cons_of_mem _ (mem_snd m2)))
        · omega
  · rcases ha with ha | ha
    · exact .inl ha
    · exact .inr fun s hs => by have := (hlt s hs).2; omega
  · rcases List.mem_or_eq_of_mem_set hr with h1 | h1
    · exact g7 r h1
    · subst h1
      refine ⟨m1, ?_⟩
      rcases ha with ha | ha
      · subst ha; exact m2
      · exact .inr (show n0 ≤ a' by omega)
  · have hk0 := g11.lt' hk
    rw [hg k (by omega) (fun e => hkn (by rw [e]; exact List.mem_cons_of_mem _ (mem_fst m1))) (fun e => ?_)]
    · exact g8 k o hk hkn
    · rcases m2 with m2 | m2
      · exact hkn (by rw [e]; exact List.mem_cons_of_mem _ (mem_snd m2))
      · omega
theorem SW.cell {pc' : List Value} (hi : SW hs X n0 p pc L ps0 C h nx rs ps) (h1 : h'.get p = some (.cells pc'.toArray y_raddleref13_Machine)) (h2 : ∀ k, k ≠ p → h'.get k = h.get k) (hL : ∀ b ∈ L, b.2.2 ≠ y_raddleref13_Machine) : SW hs X n0 p pc' L ps0 C h' nx rs ps := by
  obtain ⟨g1, g2, g3, g4, g5, g6, g7, g8, g9, g10, g11, g12⟩ := hi
  have hp := g9.lt' g1
  refine ⟨h1, fun b hb => ⟨?_, (g2 b hb).2⟩, fun k o hk => ?_, g4.keep WJ_ok fun q hq => ?_, g5, g6, g7, fun k o hk hkn => ?_, fun k hk => by rw [h2 k (by omega)]; exact g9 k hk, g10, g11, g12⟩
  · rw [h2 _ (ne_of_get (g2 b hb).1 g1 (hL b hb))]; exact (g2 b hb).1
  · have h9 := hk
    rw [del_get] at h9
    split at h9
    · cases h9
    · rename_i hnX
      rw [h2 k (fun e => hnX (by rw [e]; exact g12 _ (List.mem_cons_self ..)))]; exact g3 k o hk
  · obtain ⟨⟨c1, t1⟩, c2, t2⟩ := g4.ty WJ_ok q hq
    exact ⟨h2 _ (ne_of_get t1 g1 (by decide)), h2 _ (ne_of_get t2 g1 (by decide))⟩
  · rw [h2 k fun e => hkn (by rw [e]; exact List.mem_cons_self ..)]
    exact g8 k o hk hkn
def X2 (X : List Nat) (ps : List (Nat × Nat)) : List Nat := ps.map (·.2) ++ X
end
def LeftM (ro : Ro) (h : T Obj) (nx : Nat) (X : List Nat) (p : Nat) (ps : List (Nat × Nat)) (d : AutoD) (m' : MacD) (h' : T Obj) (nx' : Nat) (X' : List Nat) (ps' : List (Nat × Nat)) : Prop :=
  nx ≤ nx' ∧ Fr h' nx' ∧ Keep (p :: blks ps) h h' ∧ (∀ k ∈ X', k ∈ X ∨ h.get k = none) ∧ (∀ k ∈ X, k ∈ X') ∧ (∀ k ∈ blks ps', k ∈ blks ps ∨ nx ≤ k) ∧ MW ro h' X' p ps' d m'
section
variable {ro : Ro} {h h' : T Obj} {X : List Nat} {n0 p nx n' : Nat} {L : List (Nat × List Value × TypeId)} {ps ps' : List (Nat × Nat)} {d : AutoD} {m m' : MacD} {cv sv rv : Value} {K : KV}
theorem SW.left (hA : RAuto ro (del h X) (autL d.c d.many cv sv) d) (hP : Sl ro (del h X) rv 1 (ptrsC ps)) (hn : nx ≤ n0) (hi : SW h X n0 p (machL d.c d.many cv sv m'.cur rv m'.steps) L ps d.counts h' n' m'.rs ps') : LeftM ro h nx X p ps d m' h' n' (X2 X ps') ps' := by
  obtain ⟨g1, g2, g3, g4, g5, g6, g7, g8, g9, g10, g11, g12⟩ := hi
  have hX : ∀ k ∈ X2 X ps', k ∈ X ∨ h.get k = none := fun k hk => by
    rcases List.mem_append.1 hk with h1 | h1
    · obtain ⟨q, hq, rfl⟩ := List.mem_map.1 h1
      rcases (g7 q hq).2 with h2 | h2
      · exact .inl (g12 _ (List.mem_cons_of_mem _ (mem_snd h2)))
      · exact .inr (g11 _ h2)
    · exact .inl h1
  have hre := del_re2 g3 hX
  refine ⟨by omega, g9, g8, hX, fun k hk => List.mem_append.2 (.inr hk), fun k hk => ?_, cv, sv, rv, g1, hA.sub hre, by rw [g6]; exact hP.sub hre, g4, g5, List.mem_append.2 (.inr (g12 _ (List.mem_cons_self ..))), fun k hk => ?_⟩
  · obtain ⟨q, hq, h1⟩ := mem_blks.1 hk
    rcases h1 with rfl | rfl
    · exact .inl (mem_fst (g7 q hq).1)
    · rcases (g7 q hq).2 with h2 | h2
      · exact .inl (mem_snd h2)
      · exact .inr (by omega)
  obtain ⟨q, hq, h1⟩ := mem_blks.1 hk
  rcases h1 with rfl | rfl
  · exact List.mem_append.2 (.inr (g12 _ (List.mem_cons_of_mem _ (mem_fst (g7 q hq).1))))
  · exact List.mem_append.2 (.inl (List.mem_map.2 ⟨q, hq, rfl⟩))
theorem LeftM.refl (hm : MW ro h X p ps d m) (hf : Fr h nx) (hn : nx ≤ n') : LeftM ro h nx X p ps d m h n' X ps := ⟨hn, hf.mono hn, (Sub.refl h).keepL, fun k hk => .inl hk, fun k hk => hk, fun k hk => .inl hk, hm⟩
theorem LeftM.trans {h1 h2 : T Obj} {n1 n2 : Nat} {X1 X2 : List Nat} {ps1 ps2 : List (Nat × Nat)} {m1 m2 : MacD} (hf : Fr h nx) (hX : ∀ k ∈ p :: blks ps, k ∈ X) (a : LeftM ro h nx X p ps d m1 h1 n1 X1 ps1) (b : LeftM ro h1 n1 X1 p ps1 d m2 h2 n2 X2 ps2) : LeftM ro h nx X p ps d m2 h2 n2 X2 ps2 := by
  obtain ⟨a1, a2, a3, a4, a5, hb, a6⟩ := a
  obtain ⟨b1, b2, b3, b4, b5, hb2, b6⟩ := b
  refine ⟨by omega, b2, fun k o hk hn => b3 k o (a3 k o hk hn) fun hm => ?_, fun k hk => ?_, fun k hk => b5 k (a5 k hk), fun k hk => ?_, b6⟩
  · have hlt := hf.lt' hk
    rcases List.mem_cons.1 hm with rfl | hm
    · exact hn (List.mem_cons_self ..)
    · rcases hb k hm with h9 | h9
      · exact hn (List.mem_cons_of_mem _ h9)
      · omega
  · rcases b4 k hk with h9 | h9
    · exact a4 k h9
    · by_cases hp : k ∈ p :: blks ps
      · exact .inl (hX k hp)
      · cases hq : h.get k with
        | none => exact .inr rfl
        | some o => rw [a3 k o hq hp] at h9; cases h9
  · rcases hb2 k hk with h9 | h9
    · exact hb k h9
    · exact .inr (by omega)
theorem LeftM.mono {n2 : Nat} {X' : List Nat} (a : LeftM ro h nx X p ps d m h' n' X' ps') (hn : n' ≤ n2) : LeftM ro h nx X p ps d m h' n2 X' ps' := by
  obtain ⟨a1, a2, a3⟩ := a
  exact ⟨by omega, a2.mono hn, a3⟩
end
end V
end Go.Proofs.YtjndkdmkecpllaaGreat
set_option linter.unusedVariables false
set_option linter.unusedSimpArgs false
namespace Go.Proofs.YtjndkdmkecpllaaGreat
namespace V
attribute [local irreducible] bindP ifP condP newP optP exP beqP
section
variable {ro : Ro} {hs h h' : T Obj} {X : List Nat} {n0 p sb mb nx : Nat} {lv rv' uv nv : Value} {ps0 ps : List (Nat × Nat)} {C : List (Int × Int)} {rs : List RgD} {K : KV}
variable {cc : List Nat} {many cur : Int} {cv sv rv : Value} {steps : Nat} {to : Int} {ov nxv : Value} {ops : List Nat} {R : List Int}
end
section
variable {ro : Ro} {h : T Obj} {nx : Nat} {X : List Nat} {p : Nat} {ps : List (Nat × Nat)} {d : AutoD} {m : MacD} {K : KV}
theorem SW.lo {hs h h' : T Obj} {X : List Nat} {n0 p nx n' : Nat} {pc : List Value} {L L' : List (Nat × List Value × TypeId)} {ps0 ps : List (Nat × Nat)} {C : List (Int × Int)} {rs : List RgD} (hi : SW hs X n0 p pc L ps0 C h nx rs ps) (hs' : Sub h h') (hf : Fr h' n') (hn : nx ≤ n') (hL : Lo h' L') : SW hs X n0 p pc L' ps0 C h' n' rs ps := by
  obtain ⟨g1, g2, g3⟩ := hi.sub hs' hf hn
  exact ⟨g1, hL, g3⟩
end
end V
end Go.Proofs.YtjndkdmkecpllaaGreat
set_option linter.unusedVariables false
set_option linter.unusedSimpArgs false
namespace Go.Proofs.YtjndkdmkecpllaaGreat
namespace V
attribute [local irreducible] bindP ifP condP newP optP exP beqP
theorem slB_nil {ro : Ro} {h : T Obj} {v : Value} {z : Nat} {l : List (List Value)} (hl : Sl ro h v z l) : (v = .slice none 0 0 ∧ l = [] ∧ slB .eql v (.slice none 0 0) = some (.bool true)) ∨ slB .eql v (.slice none 0 0) = some (.bool false) := by
  rcases hl with ⟨rfl, rfl⟩ | ⟨a, cap, rfl, _⟩
  · exact .inl ⟨rfl, rfl, rfl⟩
  · exact .inr rfl
theorem clone_body {ro : Ro} {h : T Obj} {v : Value} {z nx : Nat} {t e : TypeId} {i : TypeInfo} {zv : Value} {m : List (List Value)} {K : KV} (hx : Sl ro h v z m) (hlit : ∀ id, sliceLitV Tryz.prog t id 0 [] = some (.slice (some (own id z)) 0 0, some (.cells #[] e))) (hu : und Tryz.prog t = some (.slice e)) (hi' : tin Tryz.prog e = some i) (hz : i.size = z) (hz0 : 0 < z) (hzer : zer Tryz.prog e = some zv) (hzs : zv.cells.size = z)
    (hok : m.flatten.all cellOk = true) (hb : m.length * i.bytes ≤ big) (hb2 : m.length ≤ big) (hf : Fr h nx)
    (hK : ∀ r h' n', nx ≤ n' → Fr h' n' → Sub h h' → OwnT h' r z e m nx → K r h' n') :
    bindP (slB .eql v (.slice none 0 0)) fun t4 => condP t4 (∃ h2, Sub h2 h ∧ K (.slice none 0 0) h2 (nx + 4)) (bindP (sliceLitV Tryz.prog t (nx + 3) 0 []) fun r3 => optP h (nx + 3) r3.2 fun h4 => bindP (appendV Tryz.prog ro h4 (nx + 6) #[t, t] [r3.1, v]) fun r5 => ∃ h6, Sub h6 r5.2.1 ∧ K r5.1 h6 (r5.2.2 + 1)) := by
  rcases slB_nil hx with ⟨rfl, rfl, h1⟩ | h1
  · refine bindP_mk h1 (condP_t ⟨h, Sub.refl _, hK _ _ _ (by omega) (hf.mono (by omega)) (Sub.refl _) OwnT.nil⟩)
  · refine bindP_mk h1 (condP_f (bindP_mk (hlit _) (optP_mk ?_)))
    have hs1 : Sub h (h.upd (nx + 3) (some (.cells #[] e))) := (Sub.refl h).new hf (by omega)
    have hf1 : Fr (h.upd (nx + 3) (some (.cells #[] e))) (nx + 6) := (hf.mono (by omega)).upd (Nat.le_refl _) (by omega)
    have ho : OwnT (h.upd (nx + 3) (some (.cells #[] e))) (.slice (some (own (nx + 3) z)) 0 0) z e [] nx := .inr ⟨nx + 3, by omega, rfl, (fun x hx => by cases hx), by rw [T.get_upd_same]; rfl⟩
    obtain ⟨r, h', n', q1, q2, q3, q4, q5, q6⟩ := append_any (P := Tryz.prog) (t := t) (nx := nx + 6) ho (hx.sub hs1) hu hi' hz hz0 hzer hzs hok (by simpa using hb) (by simpa using hb2) (by omega) hf1
    refine bindP_mk q1 ⟨h', Sub.refl _, hK r h' (n' + 1) (by omega) (q5.mono (by omega)) (fun k o hk => q3 k o (hs1 k o hk) fun e => ?_) (by simpa using q2)⟩
    have hkk : nx + 3 = k := Option.some.inj e
    have := hf.lt' hk
    omega
theorem lit0_int (id : Nat) : sliceLitV Tryz.prog y_s_int id 0 [] = some (.slice (some (own id 1)) 0 0, some (.cells #[] y_int)) := by kernel_rfl
theorem lit0_a2 (id : Nat) : sliceLitV Tryz.prog y_s_a2_int id 0 [] = some (.slice (some (own id 2)) 0 0, some (.cells #[] y_a2_int)) := by kernel_rfl
theorem lit0_move (id : Nat) : sliceLitV Tryz.prog y_s_api_Move id 0 [] = some (.slice (some (own id 2)) 0 0, some (.cells #[] y_api_Move)) := by kernel_rfl
theorem lit0_u8 (id : Nat) : sliceLitV Tryz.prog y_s_uint8 id 0 [] = some (.slice (some (own id 1)) 0 0, some (.cells #[] y_uint8)) := by kernel_rfl
theorem und_sa2 : und Tryz.prog y_s_a2_int = some (.slice y_a2_int) := by kernel_rfl
theorem tin_a2 : ∃ i, tin Tryz.prog y_a2_int = some i ∧ i.size = 2 ∧ i.bytes = 16 := tinOf (by kernel_rfl)
theorem und_su8 : und Tryz.prog y_s_uint8 = some (.slice y_uint8) := by kernel_rfl
theorem tin_u81 : ∃ i, tin Tryz.prog y_uint8 = some i ∧ i.size = 1 ∧ i.bytes = 1 := tinOf (by kernel_rfl)
theorem zer_u81 : zer Tryz.prog y_uint8 = some (.int .u8 0) := by kernel_rfl
section
variable {ro : Ro} {h : T Obj} {v : Value} {nx : Nat} {K : KV}
theorem clone_int_c {l : List Int} (hv : ZI ro h v l) (hl : l.length ≤ 1000000) (hf : Fr h nx) (hK : ∀ r h' n', nx ≤ n' → Fr h' n' → Sub h h' → OwnT h' r 1 y_int (intsZ l) nx → K r h' n') : callP Tryz.prog ro i_slices_Clone_int_int [v] h nx K := by
  apply slices_Clone_int_int_of
  unfold slices_Clone_int_int
  obtain ⟨i, g1, g2, g3⟩ := tin_sint
  exact clone_body hv lit0_int und_sint g1 (by omega) (by omega) zerI rfl (by simp [intsZ, cellOk]) (by rw [intsZ_len, g3]; unfold big; omega) (by rw [intsZ_len]; unfold big; omega) hf hK
theorem clone_u8_c {l : List Nat} (hv : SlR ro h v 1 RU8 l) (hl : l.length ≤ 1000000) (hf : Fr h nx) (hK : ∀ r h' n', nx ≤ n' → Fr h' n' → Sub h h' → OwnT h' r 1 y_uint8 (opsC l) nx → K r h' n') : callP Tryz.prog ro i_slices_Clone_uint8_uint8 [v] h nx K := by
  apply slices_Clone_uint8_uint8_of
  unfold slices_Clone_uint8_uint8
  obtain ⟨i, g1, g2, g3⟩ := tin_u81
  obtain ⟨cs, h1, h2, h3⟩ := hv
  have hcs : cs = opsC l := by
    apply List.ext_getElem?
    intro k
    rcases Nat.lt_or_ge k l.length with hk | hk
    · have e1 : cs[k]? = some (cs[k]'(by omega)) := List.getElem?_eq_getElem _
      have e2 : l[k]? = some l[k] := List.getElem?_eq_getElem _
      have := (h3 k _ _ e1 e2).1
      rw [e1, this]; simp [opsC, hk]
    · rw [List.getElem?_eq_none (by omega), List.getElem?_eq_none (by rw [opsC_len]; omega)]
  subst hcs
  exact clone_body h1 lit0_u8 und_su8 g1 (by omega) (by omega) zer_u81 rfl (by simp [opsC, cellOk]) (by rw [opsC_len, g3]; unfold big; omega) (by rw [opsC_len]; unfold big; omega) hf hK
theorem clone_a2_c {l : List (Int × Int)} (hv : SlR ro h v 2 RCount l) (hl : l.length ≤ 1000000) (hf : Fr h nx) (hK : ∀ r h' n', nx ≤ n' → Fr h' n' → Sub h h' → OwnT h' r 2 y_a2_int (cntC l) nx → K r h' n') : callP Tryz.prog ro i_slices_Clone_2_int_2_int [v] h nx K := by
  apply slices_Clone_2_int_2_int_of
  unfold slices_Clone_2_int_2_int
  obtain ⟨i, g1, g2, g3⟩ := tin_a2
  obtain ⟨cs, h1, h2, h3⟩ := hv
  have hcs : cs = cntC l := by
    apply List.ext_getElem?
    intro k
    rcases Nat.lt_or_ge k l.length with hk | hk
    · have e1 : cs[k]? = some (cs[k]'(by omega)) := List.getElem?_eq_getElem _
      have e2 : l[k]? = some l[k] := List.getElem?_eq_getElem _
      have := h3 k _ _ e1 e2
      unfold RCount at this
      rw [e1, this]; simp [cntC, hk]
    · rw [List.getElem?_eq_none (by omega), List.getElem?_eq_none (by rw [cntC_len]; omega)]
  subst hcs
  have hok : (cntC l).flatten.all cellOk = true := by
    rw [List.all_eq_true]
    intro x hx
    obtain ⟨y, hy, hxy⟩ := List.mem_flatten.1 hx
    obtain ⟨p, _, rfl⟩ := List.mem_map.1 hy
    simp at hxy
    rcases hxy with rfl | rfl <;> rfl
  exact clone_body h1 lit0_a2 und_sa2 g1 (by omega) (by omega) zer_a2 rfl hok (by rw [cntC_len, g3]; unfold big; omega) (by rw [cntC_len]; unfold big; omega) hf hK
theorem clone_move_c {cs : List (List Value)} (hv : Sl ro h v 2 cs) (hok : cs.flatten.all cellOk = true) (hl : cs.length ≤ 1000000) (hf : Fr h nx) (hK : ∀ r h' n', nx ≤ n' → Fr h' n' → Sub h h' → OwnT h' r 2 y_api_Move cs nx → K r h' n') : callP Tryz.prog ro i_slices_Clone_api_Move_api_Move [v] h nx K := by
  apply slices_Clone_api_Move_api_Move_of
  unfold slices_Clone_api_Move_api_Move
  obtain ⟨i, g1, g2, g3⟩ := tin_Move
  exact clone_body hv lit0_move und_sMove g1 (by omega) (by omega) zer_Move rfl hok (by rw [g3]; unfold big; omega) (by unfold big; omega) hf hK
end
theorem app_at {ro : Ro} {h : T Obj} {v w : Value} {z n1 n2 lo : Nat} {t e : TypeId} {i : TypeInfo} {zv : Value} {l : List (List Value)} {y : List Value} {K : Value × Option Obj → T Obj → Value × T Obj × Nat → Prop} (hlit : sliceLitV Tryz.prog t n1 1 [(0, w)] = some (.slice (some (own n1 z)) 1 1, some (.cells y.toArray e))) (hy : y.length = z) (ho : OwnT h v z e l lo)
    (hu : und Tryz.prog t = some (.slice e)) (hi' : tin Tryz.prog e = some i) (hz : i.size = z) (hz0 : 0 < z) (hzer : zer Tryz.prog e = some zv) (hzs : zv.cells.size = z) (hok : y.all cellOk = true) (hb : (l.length + 1) * i.bytes ≤ big) (hb2 : l.length + 1 ≤ big) (hf : Fr h n2) (hlo : lo ≤ n2) (hn : n1 < n2) (hne : sblk v ≠ some n1)
    (hK : ∀ h', OwnT h' (.slice (some (own n2 z)) (l ++ [y]).length (l ++ [y]).length) z e (l ++ [y]) lo → (∀ k o, h.get k = some o → k ≠ n1 → sblk v ≠ some k → h'.get k = some o) → Fr h' (n2 + 1) → K (.slice (some (own n1 z)) 1 1, some (.cells y.toArray e)) (h.upd n1 (some (.cells y.toArray e))) (.slice (some (own n2 z)) (l ++ [y]).length (l ++ [y]).length, h', n2 + 1)) :
    bindP (sliceLitV Tryz.prog t n1 1 [(0, w)]) fun r => optP h n1 r.2 fun h' => bindP (appendV Tryz.prog ro h' n2 #[t, t] [v, r.1]) (K r h') := by
  refine bindP_mk hlit (optP_mk ?_)
  have hkk : Keep [n1] h (h.upd n1 (some (.cells y.toArray e))) := (Sub.refl h).keepL.upd (by simp)
  have ho1 : OwnT (h.upd n1 (some (.cells y.toArray e))) v z e l lo := ho.keepK hkk fun id hid hm => hne (by rw [hid]; simp at hm; rw [hm])
  have hf1 : Fr (h.upd n1 (some (.cells y.toArray e))) n2 := hf.upd (Nat.le_refl _) hn
  have hx1 : Sl ro (h.upd n1 (some (.cells y.toArray e))) (.slice (some (own n1 z)) 1 1) z [y] := Sl.own (l := [y]) (e := e) (f := (0, 0)) (by rw [T.get_upd_same]; simp) (by simpa using hy) (Nat.le_refl _)
  obtain ⟨h', q1, q2, q3, q4, q5⟩ := appendT (P := Tryz.prog) (t := t) (nx := n2) ho1 hx1 hu hi' hz hz0 hzer hzs (by simp) (by simpa using hok) hb hb2 hlo hf1
  exact bindP_mk q1 (hK h' q2 (fun k o hk h1 h2 => q3 k o (hkk k o hk (by simpa using h1)) h2) q4)
section
variable {RR : RgP} {tp ta : TypeId} {h h' : T Obj} {ps : List (Nat × Nat)} {C : List (Int × Int)} {rs : List RgD}
theorem RsX.snoc (hr : RsX RR h ps C rs) {q : Nat × Nat} {c : Int × Int} {r : RgD} (hn : RR h q.1 q.2 c.2.toNat r.1 r.2) : RsX RR h (ps ++ [q]) (C ++ [c]) (rs ++ [r]) := by
  obtain ⟨r1, r2, r3⟩ := hr
  refine ⟨by simp [r1], by simp [r2], fun i p c' r' h1 h2 h3 => ?_⟩
  rcases Nat.lt_or_ge i ps.length with hi | hi
  · rw [List.getElem?_append_left hi] at h1
    rw [List.getElem?_append_left (by omega)] at h2
    rw [List.getElem?_append_left (by omega)] at h3
    exact r3 i p c' r' h1 h2 h3
  · rw [List.getElem?_append_right hi] at h1
    rw [List.getElem?_append_right (by omega)] at h2
    rw [List.getElem?_append_right (by omega)] at h3
    have hlt := (List.getElem?_eq_some_iff.1 h1).1
    have hi0 : i = ps.length := by simp at hlt; omega
    subst hi0
    rw [Nat.sub_self] at h1
    rw [r1, Nat.sub_self] at h2
    rw [show ps.length - rs.length = 0 by omega] at h3
    cases h1; cases h2; cases h3
    exact hn
theorem Dst.snoc (hd : Dst ps) {q : Nat × Nat} (hq : ∀ p ∈ ps, p.1 ≠ q.1 ∧ p.2 ≠ q.2) : Dst (ps ++ [q]) := by
  intro i j p p2 h1 h2 hij
  rcases Nat.lt_or_ge i ps.length with hi | hi
  · rw [List.getElem?_append_left hi] at h1
    rcases Nat.lt_or_ge j ps.length with hj | hj
    · rw [List.getElem?_append_left hj] at h2
      exact hd i j p p2 h1 h2 hij
    · rw [List.getElem?_append_right hj] at h2
      have : p2 = q := by have := List.mem_of_getElem? h2; simpa using this
      subst this
      exact hq p (List.mem_of_getElem? h1)
  · rw [List.getElem?_append_right hi] at h1
    have hp : p = q := by have := List.mem_of_getElem? h1; simpa using this
    subst hp
    rcases Nat.lt_or_ge j ps.length with hj | hj
    · rw [List.getElem?_append_left hj] at h2
      have := hq p2 (List.mem_of_getElem? h2)
      exact ⟨Ne.symm this.1, Ne.symm this.2⟩
    · rw [List.getElem?_append_right hj] at h2
      have h3 := (List.getElem?_eq_some_iff.1 h1).1
      have h4 := (List.getElem?_eq_some_iff.1 h2).1
      simp at h3 h4
      omega
theorem Dst.nil : Dst [] := fun i j p q h1 => by simp at h1
end
end V
end Go.Proofs.YtjndkdmkecpllaaGreat
set_option linter.unusedVariables false
set_option linter.unusedSimpArgs false
namespace Go.Proofs.YtjndkdmkecpllaaGreat
namespace V
attribute [local irreducible] bindP ifP condP newP optP exP beqP
theorem flatten_set2 : ∀ {mcs : List (List Value)} {k : Nat} {a b r : Value}, (∀ x ∈ mcs, x.length = 2) → mcs[k]? = some [a, b] → mcs.flatten.set (k * 2 + 1) r = (mcs.set k [a, r]).flatten
  | [], k, a, b, r, _, h => by simp at h
  | y :: l, 0, a, b, r, hz, h => by
    simp at h; subst h; rfl
  | y :: l, k + 1, a, b, r, hz, h => by
    have hy := hz y (by simp)
    have ih := flatten_set2 (mcs := l) (k := k) (a := a) (b := b) (r := r) (fun x hx => hz x (by simp [hx])) (by simpa using h)
    rw [List.set_cons_succ, List.flatten_cons, List.flatten_cons, List.set_append_right _ _ (by omega), hy, show (k + 1) * 2 + 1 - 2 = k * 2 + 1 by omega, ih]
theorem ops_R {ro : Ro} {h : T Obj} {v : Value} {l : List Nat} (hs : Sl ro h v 1 (opsC l)) (hl : ∀ x ∈ l, x < 256) : SlR ro h v 1 RU8 l := ⟨opsC l, hs, opsC_len l, fun i x d hx hd => by
  simp only [opsC, List.getElem?_map] at hx
  rw [hd] at hx
  cases hx
  exact ⟨rfl, hl d (List.mem_of_getElem? hd)⟩⟩
theorem RU8.lt {ro : Ro} {h : T Obj} {v : Value} {l : List Nat} (hs : SlR ro h v 1 RU8 l) : ∀ x ∈ l, x < 256 := fun x hx => by
  obtain ⟨cs, h1, h2, h3⟩ := hs
  obtain ⟨i, hi⟩ := List.getElem?_of_mem hx
  have hlt := (List.getElem?_eq_some_iff.1 hi).1
  exact (h3 i _ _ (List.getElem?_eq_getElem (by omega)) hi).2
theorem elPtrK_own (mid n c k j : Nat) : elPtrK 2 (.slice (some (own mid 2)) n c) k j = at_ mid (k * 2 + j) 0 := by simp [elPtrK, elt, own]
def blkL (v : Value) : List Nat := (sblk v).toList
theorem mem_blkL {v : Value} {k : Nat} : k ∈ blkL v ↔ sblk v = some k := by unfold blkL; cases sblk v <;> simp [eq_comm]
section
variable {ro : Ro} {h : T Obj} {nx nA : Nat} {X : List Nat} {Q : KE} {e : Env}
set_option maxRecDepth 8000 in
theorem cp_L3 {mid : Nat} {row : List MoveD} {mcs0 : List (List Value)} {w2 w3 w6 w19 w20 w21 w33 w34 w35 : Value} (e2 : e 2 = w2) (e3 : e 3 = w3) (e6 : e 6 = w6) (e19 : e 19 = w19) (e20 : e 20 = w20) (e21 : e 21 = w21) (e33 : e 33 = w33) (e34 : e 34 = w34) (e35 : e 35 = w35)
    (e9 : e 9 = .slice (some (own mid 2)) row.length row.length) (e41 : e 41 = .slice (some (own mid 2)) row.length row.length) (e42 : e 42 = .int .i64 row.length) (e43 : e 43 = .int .i64 0)
    (hg : h.get mid = some (.cells mcs0.flatten.toArray y_api_Move)) (hl : mcs0.length = row.length) (h2 : ∀ x ∈ mcs0, x.length = 2) (hlen : row.length ≤ 1000000)
    (hsrc : ∀ (i : Nat) x m, mcs0[i]? = some x → row[i]? = some m → ∃ ov, x = [.int .i64 m.to, ov] ∧ SlR ro (del h [mid]) ov 1 RU8 m.ops ∧ m.ops.length ≤ 1000000) (hf : Fr h nx) (hX : ∀ k ∈ X, k < nA) (hmid : nA ≤ mid) (hnA : nA ≤ nx)
    (hQ : ∀ (e' : Env) h' n', e' 2 = w2 → e' 3 = w3 → e' 6 = w6 → e' 9 = .slice (some (own mid 2)) row.length row.length → e' 19 = w19 → e' 20 = w20 → e' 21 = w21 → e' 33 = w33 → e' 34 = w34 → e' 35 = w35 → nx ≤ n' → Fr h' n' → Keep [mid] h h' →
      SlR ro (del h' X) (.slice (some (own mid 2)) row.length row.length) 2 (RMove ro (del h' X)) row → Q (.exit 4) e' h' n') : loopP (exec_copied_L3 ro) e h nx Q := by
  have hlt := hf.lt' hg
  refine loopP_rule (fun j e h' nx' => ∃ (k : Nat) (mcs : List (List Value)), k + j = row.length ∧ nx ≤ nx' ∧ e 2 = w2 ∧ e 3 = w3 ∧ e 6 = w6 ∧ e 19 = w19 ∧ e 20 = w20 ∧ e 21 = w21 ∧ e 33 = w33 ∧ e 34 = w34 ∧ e 35 = w35 ∧ e 9 = .slice (some (own mid 2)) row.length row.length ∧ e 41 = .slice (some (own mid 2)) row.length row.length ∧ e 42 = .int .i64 row.length ∧ e 43 = .int .i64 k ∧
    h'.get mid = some (.cells mcs.flatten.toArray y_api_Move) ∧ mcs.length = row.length ∧ (∀ x ∈ mcs, x.length = 2) ∧ (∀ i, k ≤ i → mcs[i]? = mcs0[i]?) ∧ (∀ (i : Nat) x m, i < k → mcs[i]? = some x → row[i]? = some m → ∃ ov, x = [.int .i64 m.to, ov] ∧ SlR ro (del h' (mid :: X)) ov 1 RU8 m.ops ∧ m.ops.length ≤ 1000000) ∧ Keep [mid] h h' ∧ Fr h' nx') ?_ (n := row.length)
    ⟨0, mcs0, by omega, by omega, e2, e3, e6, e19, e20, e21, e33, e34, e35, e9, e41, e42, e43, hg, hl, h2, fun _ _ => rfl, fun i x m hi => by omega, (Sub.refl h).keepL, hf⟩
  rintro j e h' nx' ⟨k, mcs, hj, hnx, e2, e3, e6, e19, e20, e21, e33, e34, e35, e9, e41, e42, e43, hg', hl', h2', hun, hpr, hk', hf'⟩ Q' hq hx
  have hsl : Sl ro h' (.slice (some (own mid 2)) row.length row.length) 2 mcs := by rw [← hl']; exact Sl.own hg' h2' (Nat.le_refl _)
  unfold exec_copied_L3
  rw [e9, e41, e42, e43]
  refine lss_s (fun hk => ?_) (fun hk => ?_)
  · have hk : k < row.length := by omega
    have hmk : mcs[k]? = some (mcs[k]'(by omega)) := List.getElem?_eq_getElem _
    have hmk0 := hun k (Nat.le_refl _)
    rw [hmk] at hmk0
    have hrk : row[k]? = some row[k] := List.getElem?_eq_getElem _
    obtain ⟨ov, hx0, hov, hol⟩ := hsrc k _ _ hmk0.symm hrk
    rw [hx0] at hmk
    have hix := hsl.ix .i64 (i := k) (by omega)
    have hld := hsl.loadA hmk
    have hfw := hsl.fwd (i := k) (by omega) 1
    rw [elPtrK_own] at hfw
    generalize row[k] = m at hx0 hov hol hmk hrk hld
    (repeat (first | refine bindP_mk (by simp (disch := first | omega | exact Int.natCast_nonneg _ | assumption) only [BB, B2, ↓reduceIte, Nat.reduceLeDiff, Nat.reduceAdd, CC] <;> rfl) ?_ | refine newP_mk ?_ | refine optP_mk ?_ | with_reducible first | refine condP_t ?_ | refine condP_f ?_ | refine ifP_tt' ?_ | refine ifP_ff' ?_ | refine ifP_tf' ?_ | refine ifP_ft' ?_ | refine ifP_u' ?_ | refine optP_mk0 ?_))
    refine bindP_mk hix (bindP_mk hld ?_)
    refine local_mk (x := [.int .i64 m.to, ov]) zer_Move rfl rfl rfl (by simp [show cellOk ov = true from SlR.okC hov, show cellOk (Value.int .i64 m.to) = true from rfl]) hf' (by omega) fun h3 hs3 hf3 g3 _ => ?_
    (repeat (first | refine bindP_mk (by simp (disch := first | omega | exact Int.natCast_nonneg _ | assumption) only [BB, B2, ↓reduceIte, Nat.reduceLeDiff, Nat.reduceAdd, CC] <;> rfl) ?_ | refine newP_mk ?_ | refine optP_mk ?_ | with_reducible first | refine condP_t ?_ | refine condP_f ?_ | refine ifP_tt' ?_ | refine ifP_ff' ?_ | refine ifP_tf' ?_ | refine ifP_ft' ?_ | refine ifP_u' ?_ | refine optP_mk0 ?_))
    refine bindP_mk (load1_get (l := [.int .i64 m.to, ov]) g3 rfl) ?_
    have hD3 : Sub (del h [mid]) h3 := (hk'.delS (fun k h => h)).trans hs3
    refine clone_u8_c (hov.sub hD3 fun _ _ h => h) hol (hf3.mono (by omega)) fun r h4 n4 hn4 hf4 hs4 ho4 => ?_
    have g4 := hs4 _ _ (hs3 _ _ hg')
    refine bindP_mk hix (bindP_mk hfw ?_)
    have hfl : mcs.flatten.length = row.length * 2 := by rw [(flatten_part h2').1, hl']
    refine bindP_mk (store1_own (l := mcs.flatten) g4 (by omega) ho4.ok (by rcases ho4 with ⟨rfl, _⟩ | ⟨id, _, rfl, _⟩ <;> rfl)) ?_
    rw [flatten_set2 h2' hmk]
    have hk5 : Keep [mid] h' (h4.upd mid (some (.cells (mcs.set k [.int .i64 m.to, r]).flatten.toArray y_api_Move))) := ((hs3.trans hs4).keepL).upd (by simp)
    have hk45 : Keep [mid] h4 (h4.upd mid (some (.cells (mcs.set k [.int .i64 m.to, r]).flatten.toArray y_api_Move))) := (Sub.refl h4).keepL.upd (by simp)
    have hf5 : Fr (h4.upd mid (some (.cells (mcs.set k [.int .i64 m.to, r]).flatten.toArray y_api_Move))) n4 := hf4.upd (Nat.le_refl _) (by omega)
    have g5 : (h4.upd mid (some (.cells (mcs.set k [.int .i64 m.to, r]).flatten.toArray y_api_Move))).get mid = some (.cells (mcs.set k [.int .i64 m.to, r]).flatten.toArray y_api_Move) := T.get_upd_same _ _ _
    generalize (h4.upd mid (some (.cells (mcs.set k [.int .i64 m.to, r]).flatten.toArray y_api_Move))) = h5 at hk5 hk45 hf5 g5
    have ho5 := (ho4.keepK hk45 fun id hid hm => by have := (ho4.blk hid).1; simp at hm; omega).del (ids := mid :: X) fun id hid hm => by
      have := (ho4.blk hid).1
      rcases List.mem_cons.1 hm with h9 | h9
      · omega
      · have := hX id h9; omega
    have hR5 := ops_R (ro := ro) ho5.sl (RU8.lt hov)
    (repeat (first | refine bindP_mk (by simp (disch := first | omega | exact Int.natCast_nonneg _ | assumption) only [BB, B2, ↓reduceIte, Nat.reduceLeDiff, Nat.reduceAdd, CC] <;> rfl) ?_ | refine newP_mk ?_ | refine optP_mk ?_ | with_reducible first | refine condP_t ?_ | refine condP_f ?_ | refine ifP_tt' ?_ | refine ifP_ff' ?_ | refine ifP_tf' ?_ | refine ifP_ft' ?_ | refine ifP_u' ?_ | refine optP_mk0 ?_))
    refine hq (j - 1) _ _ _ _ (by omega) ⟨k + 1, mcs.set k [.int .i64 m.to, r], by omega, by omega, e2, e3, e6, e19, e20, e21, e33, e34, e35, e9, e41, e42, rfl, g5, by rw [List.length_set]; exact hl', fun x hx => ?_, fun i hi => ?_, fun i x m' hi hxi hmi => ?_, hk'.trans hk5, hf5.mono (by omega)⟩ (Sub.refl _)
    · rcases List.mem_or_eq_of_mem_set hx with h9 | h9
      · exact h2' x h9
      · subst h9; rfl
    · rw [List.getElem?_set_ne (by omega)]; exact hun i (by omega)
    · by_cases hik : k = i
      · subst hik
        rw [List.getElem?_set_self (by omega)] at hxi
        cases hxi
        rw [hrk] at hmi
        cases hmi
        exact ⟨r, rfl, hR5, hol⟩
      · rw [List.getElem?_set_ne hik] at hxi
        obtain ⟨ov', q1, q2, q3⟩ := hpr i x m' (by omega) hxi hmi
        exact ⟨ov', q1, q2.sub (hk5.del (l := mid :: X) (l' := mid :: X) (fun k hk => by simp at hk; subst hk; exact List.mem_cons_self ..) fun k hk => .inl hk) fun _ _ h => h, q3⟩
  · (repeat (first | refine bindP_mk (by simp (disch := first | omega | exact Int.natCast_nonneg _ | assumption) only [BB, B2, ↓reduceIte, Nat.reduceLeDiff, Nat.reduceAdd, CC] <;> rfl) ?_ | refine newP_mk ?_ | refine optP_mk ?_ | with_reducible first | refine condP_t ?_ | refine condP_f ?_ | refine ifP_tt' ?_ | refine ifP_ff' ?_ | refine ifP_tf' ?_ | refine ifP_ft' ?_ | refine ifP_u' ?_ | refine optP_mk0 ?_))
    refine hx _ _ _ _ (fun e => by cases e) ?_
    have hmX : mid ∉ X := fun hm => by have := hX mid hm; omega
    refine hQ _ _ _ e2 e3 e6 e9 e19 e20 e21 e33 e34 e35 (by omega) (hf'.mono (by omega)) hk' ⟨mcs, ?_, hl', fun i x m hx hm => ?_⟩
    · have : (del h' X).get mid = some (.cells mcs.flatten.toArray y_api_Move) := del_some hg' hmX
      rw [← hl']
      exact Sl.own this h2' (Nat.le_refl _)
    · have hi := (List.getElem?_eq_some_iff.1 hx).1
      obtain ⟨ov', q1, q2, q3⟩ := hpr i x m (by omega) hx hm
      exact ⟨ov', q1, q2.sub (del_mono fun k hk => List.mem_cons_of_mem _ hk) fun _ _ h => h, by unfold maxB; omega⟩
end
end V
end Go.Proofs.YtjndkdmkecpllaaGreat