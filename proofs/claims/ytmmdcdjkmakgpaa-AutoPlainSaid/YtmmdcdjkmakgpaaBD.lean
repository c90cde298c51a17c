/- The builder of auto: what it holds; its maps; texts of places.
   No condition. -/
import Derived.Test.YtmmdcdjkmakgpaaBA
import Derived.Test.YtmmdcdjkmakgpaaBM
import Derived.Test.YtmmdcdjkmakgpaaNB
set_option linter.unusedVariables false
set_option linter.unusedSimpArgs false
namespace Go.Proofs.Ytmmdcdjkmakgpaa
namespace V
open PA
attribute [local irreducible] bindP ifP condP newP optP exP beqP
theorem nilCk_at (id off z : Nat) : nilCk (at_ id off z) = some (at_ id off z) := rfl
theorem nth0 (a b : Value) : nth 0 (.tuple #[a, b]) = some a := rfl
theorem nth1 (a b : Value) : nth 1 (.tuple #[a, b]) = some b := rfl
theorem tinOf {t : TypeId} {s b : Nat} (h : (tin Try.prog t).map (fun i => (i.size, i.bytes)) = some (s, b)) : ∃ i, tin Try.prog t = some i ∧ i.size = s ∧ i.bytes = b := by
  cases hi : tin Try.prog t with
  | none => rw [hi] at h; cases h
  | some i => rw [hi] at h; simp at h; exact ⟨i, rfl, h.1, h.2⟩
/-! ### Maps of the program -/
theorem und_I : und Try.prog y_int = some (.int .i64) := by kernel_rfl
theorem und_S : und Try.prog y_string = some .string := by kernel_rfl
theorem und_mii : und Try.prog y_map_int_int = some (.map y_int y_int) := by kernel_rfl
theorem und_mib : und Try.prog y_map_int_bool = some (.map y_int y_bool) := by kernel_rfl
theorem und_miu : und Try.prog y_map_int_uint8 = some (.map y_int y_uint8) := by kernel_rfl
theorem und_msi : und Try.prog y_map_string_int = some (.map y_string y_int) := by kernel_rfl
theorem zerI : zer Try.prog y_int = some (.int .i64 0) := by kernel_rfl
theorem zerB : zer Try.prog y_bool = some (.bool false) := by kernel_rfl
theorem zerU : zer Try.prog y_uint8 = some (.int .u8 0) := by kernel_rfl
section
variable {h : T Obj} {r : Nat}
theorem look_ii {f : Int → Option Value} (hm : MapG injI h r f) (q : Int) : lookV Try.prog h y_map_int_int (.map (some r)) (.int .i64 q) true = some (.tuple #[(f q).getD (.int .i64 0), .bool (f q).isSome]) := hm.lookT und_mii (keyOk_I und_I) (keyEq_I und_I) zerI q true
theorem look_iu {f : Int → Option Value} (hm : MapG injI h r f) (q : Int) : lookV Try.prog h y_map_int_uint8 (.map (some r)) (.int .i64 q) true = some (.tuple #[(f q).getD (.int .u8 0), .bool (f q).isSome]) := hm.lookT und_miu (keyOk_I und_I) (keyEq_I und_I) zerU q true
theorem look_si {f : List UInt8 → Option Value} (hm : MapG injS h r f) (q : List UInt8) : lookV Try.prog h y_map_string_int (.map (some r)) (injS q) true = some (.tuple #[(f q).getD (.int .i64 0), .bool (f q).isSome]) := hm.lookT und_msi (keyOk_S und_S) (keyEq_S und_S) zerI q true
theorem put_ii {f : Int → Option Value} (hm : MapG injI h r f) (q : Int) (v : Value) : ∃ es c, mapPutV Try.prog h y_map_int_int (.map (some r)) (.int .i64 q) v = some (h.upd r (some (.map es c))) ∧ ∀ h' : T Obj, h'.get r = some (.map es c) → MapG injI h' r fun b => if b = q then some v else f b := hm.putT und_mii (keyOk_I und_I) (keyEq_I und_I) q v
theorem put_iu {f : Int → Option Value} (hm : MapG injI h r f) (q : Int) (v : Value) : ∃ es c, mapPutV Try.prog h y_map_int_uint8 (.map (some r)) (.int .i64 q) v = some (h.upd r (some (.map es c))) ∧ ∀ h' : T Obj, h'.get r = some (.map es c) → MapG injI h' r fun b => if b = q then some v else f b := hm.putT und_miu (keyOk_I und_I) (keyEq_I und_I) q v
theorem put_si {f : List UInt8 → Option Value} (hm : MapG injS h r f) (q : List UInt8) (v : Value) : ∃ es c, mapPutV Try.prog h y_map_string_int (.map (some r)) (injS q) v = some (h.upd r (some (.map es c))) ∧ ∀ h' : T Obj, h'.get r = some (.map es c) → MapG injS h' r fun b => if b = q then some v else f b := hm.putT und_msi (keyOk_S und_S) (keyEq_S und_S) q v
/-- A map to bools, by what stands there. -/
def BMap (h : T Obj) (r : Nat) (E : Int → Bool) : Prop := ∃ f, MapG injI h r f ∧ ∀ q, (f q).getD (.bool false) = .bool (E q)
theorem BMap.look {E : Int → Bool} (hm : BMap h r E) (q : Int) : lookV Try.prog h y_map_int_bool (.map (some r)) (.int .i64 q) false = some (.bool (E q)) := by
  obtain ⟨f, h1, h2⟩ := hm
  have := h1.lookT und_mib (keyOk_I und_I) (keyEq_I und_I) zerB q false
  rw [h2] at this; exact this
theorem BMap.put {E : Int → Bool} (hm : BMap h r E) (q : Int) (b : Bool) : ∃ es c, mapPutV Try.prog h y_map_int_bool (.map (some r)) (.int .i64 q) (.bool b) = some (h.upd r (some (.map es c))) ∧ ∀ h' : T Obj, h'.get r = some (.map es c) → BMap h' r fun x => if x = q then b else E x := by
  obtain ⟨f, h1, h2⟩ := hm
  obtain ⟨es, c, g1, g2⟩ := h1.putT und_mib (keyOk_I und_I) (keyEq_I und_I) q (.bool b)
  refine ⟨es, c, g1, fun h' hg => ⟨_, g2 h' hg, fun x => ?_⟩⟩
  by_cases hx : x = q
  · simp only [if_pos hx, Option.getD_some]
  · simp only [if_neg hx]; exact h2 x
theorem BMap.new {c : Nat} (hg : h.get r = some (.map #[] c)) : BMap h r fun _ => false := ⟨_, MapG.new hg, fun _ => rfl⟩
theorem BMap.clear {E : Int → Bool} (hm : BMap h r E) : ∃ c, clearV h (.map (some r)) = some (h.upd r (some (.map #[] c))) := by
  obtain ⟨f, h1, h2⟩ := hm
  exact h1.clear
theorem BMap.obj {E : Int → Bool} (hm : BMap h r E) : ∃ es c, h.get r = some (.map es c) := by
  obtain ⟨f, h1, h2⟩ := hm
  exact h1.obj
theorem BMap.keep {h' : T Obj} {E : Int → Bool} (hm : BMap h r E) (he : h'.get r = h.get r) : BMap h' r E := by
  obtain ⟨f, h1, h2⟩ := hm
  exact ⟨f, h1.keep he, h2⟩
theorem BMap.ext {E E' : Int → Bool} (hm : BMap h r E) (he : ∀ q, E q = E' q) : BMap h r E' := by
  obtain ⟨f, h1, h2⟩ := hm
  exact ⟨f, h1, fun q => by rw [← he]; exact h2 q⟩
end
/-! ### The builder's block -/
def bldL (av bv nv fv : Value) (c : List Nat) (n : Int) (cv sv kv ev yv : Value) : List Value := av :: bv :: nv :: fv :: (autL c n cv sv ++ [kv, ev, yv])
section
variable {av bv nv fv : Value} {c : List Nat} {n : Int} {cv sv kv ev yv : Value}
theorem bldL_len (hc : c.length = 256) : (bldL av bv nv fv c n cv sv kv ev yv).length = 266 := by simp [bldL, autL_len hc]
theorem bldL_0 : (bldL av bv nv fv c n cv sv kv ev yv)[0]? = some av := rfl
theorem bldL_1 : (bldL av bv nv fv c n cv sv kv ev yv)[1]? = some bv := rfl
theorem bldL_2 : (bldL av bv nv fv c n cv sv kv ev yv)[2]? = some nv := rfl
theorem bldL_3 : (bldL av bv nv fv c n cv sv kv ev yv)[3]? = some fv := rfl
theorem bldL_mid {i : Nat} (hc : c.length = 256) (hi : i < 259) : (bldL av bv nv fv c n cv sv kv ev yv)[i + 4]? = (autL c n cv sv)[i]? := by
  show (autL c n cv sv ++ [kv, ev, yv])[i]? = _
  rw [List.getElem?_append_left (by rw [autL_len hc]; exact hi)]
theorem bldL_end {i : Nat} (hc : c.length = 256) : (bldL av bv nv fv c n cv sv kv ev yv)[i + 263]? = [kv, ev, yv][i]? := by
  show (autL c n cv sv ++ [kv, ev, yv])[i + 259]? = _
  rw [List.getElem?_append_right (by rw [autL_len hc]; omega), autL_len hc, Nat.add_sub_cancel]
theorem bldL_261 (hc : c.length = 256) : (bldL av bv nv fv c n cv sv kv ev yv)[261]? = some cv := by rw [show 261 = 257 + 4 from rfl, bldL_mid hc (by omega), autL_counts hc]
theorem bldL_262 (hc : c.length = 256) : (bldL av bv nv fv c n cv sv kv ev yv)[262]? = some sv := by rw [show 262 = 258 + 4 from rfl, bldL_mid hc (by omega), autL_states hc]
theorem bldL_263 (hc : c.length = 256) : (bldL av bv nv fv c n cv sv kv ev yv)[263]? = some kv := by rw [show 263 = 0 + 263 from rfl, bldL_end hc]; rfl
theorem bldL_264 (hc : c.length = 256) : (bldL av bv nv fv c n cv sv kv ev yv)[264]? = some ev := by rw [show 264 = 1 + 263 from rfl, bldL_end hc]; rfl
theorem bldL_265 (hc : c.length = 256) : (bldL av bv nv fv c n cv sv kv ev yv)[265]? = some yv := by rw [show 265 = 2 + 263 from rfl, bldL_end hc]; rfl
theorem autL_set (hc : c.length = 256) (v : Value) : (autL c n cv sv).set 258 v = autL c n cv v := by
  unfold autL
  rw [List.set_append_right _ _ (by rw [splitLI_len hc]; omega), splitLI_len hc]; rfl
theorem autL_set257 (hc : c.length = 256) (v : Value) : (autL c n cv sv).set 257 v = autL c n v sv := by
  unfold autL
  rw [List.set_append_right _ _ (by rw [splitLI_len hc]; omega), splitLI_len hc]; rfl
theorem bldL_set262 (hc : c.length = 256) (v : Value) : (bldL av bv nv fv c n cv sv kv ev yv).set 262 v = bldL av bv nv fv c n cv v kv ev yv := by
  show av :: bv :: nv :: fv :: ((autL c n cv sv ++ [kv, ev, yv]).set 258 v) = _
  rw [List.set_append_left _ _ (by rw [autL_len hc]; omega), autL_set hc]; rfl
theorem bldL_set261 (hc : c.length = 256) (v : Value) : (bldL av bv nv fv c n cv sv kv ev yv).set 261 v = bldL av bv nv fv c n v sv kv ev yv := by
  show av :: bv :: nv :: fv :: ((autL c n cv sv ++ [kv, ev, yv]).set 257 v) = _
  rw [List.set_append_left _ _ (by rw [autL_len hc]; omega), autL_set257 hc]; rfl
theorem bldL_set3 (v : Value) : (bldL av bv nv fv c n cv sv kv ev yv).set 3 v = bldL av bv nv v c n cv sv kv ev yv := rfl
end
/-! ### What stays -/
/-- All but some blocks is as it was. -/
def Keep (ids : List Nat) (h h' : T Obj) : Prop := ∀ k o, h.get k = some o → k ∉ ids → h'.get k = some o
theorem Sub.keepL {ids : List Nat} {h h' : T Obj} (hs : Sub h h') : Keep ids h h' := fun k o hk _ => hs k o hk
theorem Keep.trans {ids : List Nat} {a b c : T Obj} (h1 : Keep ids a b) (h2 : Keep ids b c) : Keep ids a c := fun k o hk hi => h2 k o (h1 k o hk hi) hi
theorem Keep.mono {ids ids' : List Nat} {a b : T Obj} (h1 : Keep ids a b) (h2 : ∀ k, k ∈ ids → k ∈ ids') : Keep ids' a b := fun k o hk hi => h1 k o hk fun h => hi (h2 k h)
theorem Keep.upd {ids : List Nat} {a b : T Obj} {i : Nat} {o : Option Obj} (h1 : Keep ids a b) (hi : i ∈ ids) : Keep ids a (b.upd i o) := fun k x hk hn => by
  rw [T.get_upd_ne _ _ (fun e => hn (by rw [e]; exact hi))]; exact h1 k x hk hn
theorem Keep.updN {ids : List Nat} {a b : T Obj} {i n : Nat} {o : Option Obj} (h1 : Keep ids a b) (hf : Fr a n) (hi : n ≤ i) : Keep ids a (b.upd i o) := fun k x hk hn => by
  have := hf.lt' hk
  rw [T.get_upd_ne _ _ (by omega)]; exact h1 k x hk hn
/-- Memory without some blocks. -/
def del (h : T Obj) : List Nat → T Obj
  | [] => h
  | i :: l => (del h l).upd i none
theorem del_get {h : T Obj} : ∀ {l : List Nat} {k : Nat}, (del h l).get k = if k ∈ l then none else h.get k
  | [], k => by simp [del]
  | i :: l, k => by
    show ((del h l).upd i none).get k = _
    by_cases hk : k = i
    · subst hk; rw [T.get_upd_same]; simp
    · rw [T.get_upd_ne _ _ hk, del_get]; simp [hk]
theorem del_sub (h : T Obj) (l : List Nat) : Sub (del h l) h := fun k o hk => by
  rw [del_get] at hk
  split at hk
  · cases hk
  · exact hk
theorem del_some {h : T Obj} {l : List Nat} {k : Nat} {o : Obj} (hk : h.get k = some o) (hn : k ∉ l) : (del h l).get k = some o := by rw [del_get, if_neg hn]; exact hk
/-- What was there without some blocks is there without these and new ones. -/
theorem Keep.del {ids l l' : List Nat} {h h' : T Obj} (hk : Keep ids h h') (h1 : ∀ k, k ∈ ids → k ∈ l) (h2 : ∀ k, k ∈ l' → k ∈ l ∨ h.get k = none) : Sub (del h l) (del h' l') := fun k o hg => by
  rw [del_get] at hg
  split at hg
  · cases hg
  · rename_i hn
    refine del_some (hk k o hg fun h => hn (h1 k h)) fun hm => ?_
    rcases h2 k hm with h3 | h3
    · exact hn h3
    · rw [h3] at hg; cases hg
theorem OwnT.keepK {ids : List Nat} {h h' : T Obj} {v : Value} {z : Nat} {e : TypeId} {l : List (List Value)} {lo : Nat} (ho : OwnT h v z e l lo) (hk : Keep ids h h') (hne : ∀ id, sblk v = some id → id ∉ ids) : OwnT h' v z e l lo := by
  rcases ho with ho | ⟨id, h1, rfl, h4, h5⟩
  · exact .inl ho
  · exact .inr ⟨id, h1, rfl, h4, hk id _ h5 (hne id rfl)⟩
theorem OwnT.del {h : T Obj} {v : Value} {z : Nat} {e : TypeId} {l : List (List Value)} {lo : Nat} {ids : List Nat} (ho : OwnT h v z e l lo) (hne : ∀ id, sblk v = some id → id ∉ ids) : OwnT (del h ids) v z e l lo := by
  rcases ho with ho | ⟨id, h1, rfl, h4, h5⟩
  · exact .inl ho
  · exact .inr ⟨id, h1, rfl, h4, del_some h5 (hne id rfl)⟩
theorem Kp.keepL {v : Value} {h h' : T Obj} {ids : List Nat} (hk : Kp v h h') (hv : ∀ id, sblk v = some id → id ∈ ids) : Keep ids h h' := fun k o h1 h2 => hk k o h1 fun e => h2 (hv k e)
/-- What an own slice leads to. -/
theorem OwnT.blk {h : T Obj} {v : Value} {z : Nat} {e : TypeId} {l : List (List Value)} {lo id : Nat} (ho : OwnT h v z e l lo) (hb : sblk v = some id) : lo ≤ id ∧ h.get id = some (.cells l.flatten.toArray e) := by
  rcases ho with ⟨rfl, _⟩ | ⟨i, h1, rfl, h4, h5⟩
  · cases hb
  · have : i = id := Option.some.inj hb
    subst this; exact ⟨h1, h5⟩
theorem OwnT.ok {h : T Obj} {v : Value} {z : Nat} {e : TypeId} {l : List (List Value)} {lo : Nat} (ho : OwnT h v z e l lo) : cellOk v = true := (ho.sl (ro := fun _ => none)).ok
/-! ### Texts of places -/
def keyB (p : Int) : List UInt8 := [UInt8.ofNat (p.toNat / 256), UInt8.ofNat (p.toNat % 256)]
def keyZ (l : List Int) : List UInt8 := l.flatMap keyB
theorem keyB_inj {p q : Int} (hp : 0 ≤ p ∧ p < 512) (hq : 0 ≤ q ∧ q < 512) (h : keyB p = keyB q) : p = q := by
  unfold keyB at h
  simp only [List.cons.injEq, and_true] at h
  obtain ⟨h1, h2⟩ := h
  have h1 := congrArg UInt8.toNat h1
  have h2 := congrArg UInt8.toNat h2
  simp only [UInt8.toNat_ofNat'] at h1 h2
  omega
theorem keyZ_inj : ∀ {l m : List Int}, (∀ x ∈ l, 0 ≤ x ∧ x < 512) → (∀ x ∈ m, 0 ≤ x ∧ x < 512) → keyZ l = keyZ m → l = m
  | [], [], _, _, _ => rfl
  | [], y :: m, _, _, h => by simp [keyZ, keyB] at h
  | x :: l, [], _, _, h => by simp [keyZ, keyB] at h
  | x :: l, y :: m, hl, hm, h => by
    have h' : keyB x ++ keyZ l = keyB y ++ keyZ m := h
    have h1 : keyB x = keyB y := by
      have := congrArg (List.take 2) h'
      simpa [keyB] using this
    have h2 : keyZ l = keyZ m := by
      have := congrArg (List.drop 2) h'
      simpa [keyB] using this
    rw [keyB_inj (hl x (by simp)) (hm y (by simp)) h1, keyZ_inj (fun z hz => hl z (by simp [hz])) (fun z hz => hm z (by simp [hz])) h2]
theorem keyZ_len : ∀ l : List Int, (keyZ l).length = 2 * l.length
  | [] => rfl
  | x :: l => by
    show (keyB x ++ keyZ l).length = _
    rw [List.length_append, keyZ_len l]; simp [keyB]; omega
def bv8 (l : List UInt8) : List Value := l.map fun b => Value.int .u8 (b.toNat : Int)
theorem bytesV_bv8 : ∀ l : List UInt8, bytesV (bv8 l) = some l
  | [] => rfl
  | b :: l => by
    have ih := bytesV_bv8 l
    show (bytesV (bv8 l)).bind _ = _
    rw [ih]; simp
theorem bv8_ok (l : List UInt8) : (bv8 l).all cellOk = true := by simp [bv8, cellOk]
theorem wr_u8_any (p : Int) : wr .u8 p = p % 256 := by
  by_cases h : 0 ≤ p ∧ p ≤ 255
  · rw [wr_u8 h.1 h.2]; omega
  · have : wr .u8 p = IntKind.u8.wrap p := by
      unfold wr
      simp only
      by_cases h1 : 0 ≤ p
      · have h2 : ¬ p ≤ 255 := fun h2 => h ⟨h1, h2⟩
        simp [h1, h2]
      · simp [h1]
    rw [this]
    have hb : IntKind.u8.bits = 8 := rfl
    have hs : IntKind.u8.signed = false := rfl
    simp [IntKind.wrap, hb, hs]
theorem und_u8s' : und Try.prog y_s_uint8 = some (.slice y_uint8) := by kernel_rfl
theorem zerosV_u8' : ∀ n : Nat, zerosV [.int .u8 0] n = List.replicate n (.int .u8 0)
  | 0 => rfl
  | n + 1 => by simp [zerosV, zerosV_u8' n, List.replicate_succ]
theorem tin_u8' : ∃ i, tin Try.prog y_uint8 = some i ∧ i.size = 1 ∧ i.bytes = 1 := tinOf (by kernel_rfl)
theorem make_u8c {aid n : Nat} (h0 : 1 ≤ n) (h1 : n ≤ 1000000) : makeV Try.prog y_s_uint8 aid (.int .i64 0) (.int .i64 (n : Int)) = some (.slice (some (own aid 1)) 0 n, some (.cells (List.replicate n (Value.int .u8 0)).toArray y_uint8)) := by
  obtain ⟨i, g1, g2, g3⟩ := tin_u8'
  have hb : Nat.ble n big = true := Nat.ble_eq_true_of_le (by unfold big; omega)
  have e1 : decide ((0 : Int) ≤ 0) = true := by simp
  have e2 : decide ((0 : Int) ≤ (n : Int)) = true := by simp
  have e3 : decide ((n : Int) ≤ 70368744177664) = true := by simp; omega
  have hz : zrow Try.prog y_uint8 n = some (List.replicate n (.int .u8 0)) := by
    obtain ⟨m, rfl⟩ : ∃ m, n = m + 1 := ⟨n - 1, by omega⟩
    have hs : siz Try.prog y_uint8 = some 1 := by kernel_rfl
    unfold zrow
    simp only [zerU, hs, Option.bind_some]
    have h3 : Nat.beq (Value.cells (.int .u8 0)).size 1 = true := rfl
    have h4 : Nat.blt 0 1 = true := rfl
    rw [h3, h4]
    simp only
    rw [← zerosV_u8']; rfl
  unfold makeV
  simp only [und_u8s', e1, e2, g1, Option.bind_some, g3, Nat.mul_one, Int.toNat_natCast, hb, e3, hz, g2]
  rfl
theorem lit_u82 (aid : Nat) (a b : Int) : sliceLitV Try.prog y_s_uint8 aid 2 [(0, .int .u8 a), (1, .int .u8 b)] = some (.slice (some (own aid 1)) 2 2, some (.cells #[.int .u8 a, .int .u8 b] y_uint8)) := by kernel_rfl
/-- Two bytes appended where there is room. -/
theorem append_two {ro : Ro} {h : T Obj} {id id2 nx k n : Nat} {c : List Value} {a b : Value} {e : TypeId} (h1 : h.get id = some (.cells c.toArray e)) (h2 : h.get id2 = some (.cells #[a, b] y_uint8)) (hc : c.length = n) (hk : k + 2 ≤ n) (ha : cellOk a = true) (hb : cellOk b = true) :
    appendV Try.prog ro h nx #[y_s_uint8, y_s_uint8] [.slice (some (own id 1)) k n, .slice (some (own id2 1)) 2 2] = some (.slice (some (own id 1)) (k + 2) n, h.upd id (some (.cells (c.take k ++ [a, b] ++ c.drop (k + 2)).toArray e)), nx) := by
  obtain ⟨i, g1, g2, g3⟩ := tin_u8'
  have hs : srcV Try.prog ro h y_uint8 i.size i.bytes y_s_uint8 (.slice (some (own id2 1)) 2 2) = some (2, [a, b]) := by
    unfold srcV
    simp only [und_u8s', g2]
    have : cellsAt ro h (own id2 1) (2 * 1) = some [a, b] := by
      show cellsAt ro h ⟨id2, 0, some 1⟩ _ = _
      rw [cellsAt_own, h2]; rfl
    rw [this]; rfl
  have hle : Nat.ble (k + 2) n = true := Nat.ble_eq_true_of_le hk
  have hst : storeAtV h (fwd (own id 1) (k * 1)) [a, b] = some (h.upd id (some (.cells (c.take k ++ [a, b] ++ c.drop (k + 2)).toArray e))) := by
    unfold storeAtV
    have e1 : (fwd (own id 1) (k * 1)).spot = some 1 := rfl
    have e2 : (fwd (own id 1) (k * 1)).block = id := rfl
    have e3 : (fwd (own id 1) (k * 1)).off = k := by simp [fwd, own]
    have hle2 : Nat.ble (k + [a, b].length) c.toArray.size = true := Nat.ble_eq_true_of_le (by simp; omega)
    have hok : [a, b].all cellOk = true := by simp [ha, hb]
    simp only [e1, e2, e3, h1, hle2, hok]
    rfl
  unfold appendV
  simp only [List.getElem?_toArray, List.getElem?_cons_zero, List.getElem?_cons_succ, und_u8s', g1, Option.bind_some, hs, hle]
  have hz : Nat.beq 1 i.size = true := by rw [g2]; rfl
  have hsp : (own id 1).spot = some 1 := rfl
  simp only [hsp, hz, g2, hst, Option.bind_some]
theorem conv_str {ro : Ro} {h : T Obj} {aid id k n : Nat} {l : List UInt8} {e : TypeId} (h1 : h.get id = some (.cells (bv8 l).toArray e)) (hk : l.length = k) : convV Try.prog ro h aid y_s_uint8 y_string (.slice (some (own id 1)) k n) = some (injS l, none) := by
  have hu : und Try.prog y_uint8 = some (.int .u8) := by kernel_rfl
  unfold convV
  simp only [und_u8s', und_S, hu]
  have : cellsAt ro h (own id 1) k = some (bv8 l) := by
    show cellsAt ro h ⟨id, 0, some 1⟩ _ = _
    rw [cellsAt_own, h1, cellsIn_some]
    simp only [Option.bind_some]
    rw [if_pos (by simp [bv8, hk]), List.drop_zero, List.take_of_length_le (by simp [bv8, hk])]
  rw [this]
  simp only [Option.bind_some, bytesV_bv8]
  rfl
set_option maxRecDepth 4000 in
theorem auto_key_c {ro : Ro} {v : Value} {l : List Int} (hl : l.length ≤ 1000) (hne : l ≠ []) (h0 : ∀ x ∈ l, 0 ≤ x ∧ x < 512) {h : T Obj} {nx : Nat} {K : KV} (hf : Fr h nx) (hv : ZI ro h v l) (hK : ∀ nx', nx ≤ nx' → K (injS (keyZ l)) h nx') : callP Try.prog ro i_auto_key [v] h nx K := by
  apply auto_key_of
  unfold auto_key
  have hln := hv.len
  have hpos : 0 < l.length := List.length_pos_iff.2 hne
  have hmul : (2 : Int) * (l.length : Int) = ((2 * l.length : Nat) : Int) := by omega
  refine bindP_mk hln (bindP_mk (intB_mul _ _ _) ?_)
  rw [wr_i64 (by omega) (by omega), hmul]
  refine bindP_mk (make_u8c (by omega) (by omega)) (optP_mk (bindP_mk hln ?_))
  refine loopP_rule (fun j e h' nx' => ∃ (k : Nat), k + j = l.length ∧ nx + 9 ≤ nx' ∧ Sub h h' ∧ Fr h' nx' ∧ e 3 = .slice (some (own (nx + 4) 1)) (2 * k) (2 * l.length) ∧ e 10 = v ∧ e 11 = .int .i64 l.length ∧ e 12 = .int .i64 k ∧
    h'.get (nx + 4) = some (.cells (bv8 (keyZ (l.take k)) ++ List.replicate (2 * l.length - 2 * k) (Value.int .u8 0)).toArray y_uint8)) ?_ (n := l.length) ⟨0, by omega, by omega, (Sub.refl h).new hf (by omega), (hf.mono (by omega)).upd (n := nx + 9) (Nat.le_refl _) (by omega), rfl, rfl, rfl, rfl, by rw [T.get_upd_same]; rfl⟩
  rintro j e h' nx' ⟨k, hj, hnx, hs, hf', e3, e10, e11, e12, g⟩ Q' hq hx
  unfold auto_key_L1
  rw [e3, e10, e11, e12]
  refine lss_s (fun hk => ?_) (fun hk => ?_)
  · have hk : k < l.length := by omega
    have hxb := h0 _ (List.getElem_mem hk)
    have hld := (hv.sub hs).load hk
    have htk : keyZ (l.take (k + 1)) = keyZ (l.take k) ++ keyB l[k] := by
      rw [List.take_succ_eq_append_getElem hk]; unfold keyZ; rw [List.flatMap_append]; simp only [List.flatMap_cons, List.flatMap_nil, List.append_nil]
    generalize l[k] = p at hxb hld htk
    obtain ⟨q, rfl⟩ : ∃ q : Nat, p = (q : Int) := ⟨p.toNat, by omega⟩
    refine condP_t (bindP_mk (hv.ix _ hk) (bindP_mk hld ?_))
    refine bindP_mk (intB_shr_nat _ _ q (by omega) (by decide)) (bindP_mk (convI_int _ _ _) (bindP_mk (convI_int _ _ _) (bindP_mk (lit_u82 _ _ _) (optP_mk ?_))))
    have hkl : (keyZ (l.take k)).length = 2 * k := by rw [keyZ_len, List.length_take]; omega
    have g' : (h'.upd (nx' + 10) (some (.cells #[.int .u8 (wr .u8 ((q / 2 ^ (8 : Int).toNat : Nat) : Int)), .int .u8 (wr .u8 (q : Int))] y_uint8))).get (nx + 4) = some (.cells (bv8 (keyZ (l.take k)) ++ List.replicate (2 * l.length - 2 * k) (Value.int .u8 0)).toArray y_uint8) := by rw [T.get_upd_ne _ _ (by omega)]; exact g
    refine bindP_mk (append_two (n := 2 * l.length) (k := 2 * k) g' (by rw [T.get_upd_same]) (by simp [bv8, hkl]; omega) (by omega) rfl rfl) ?_
    refine bindP_mk (intB_add _ _ _) ?_
    rw [wr_i64 (by omega) (by omega)]
    dsimp only
    refine hq (j - 1) _ _ _ _ (by omega) ⟨k + 1, by omega, by omega, (hs.new hf (by omega)).new hf (by omega), ((hf'.mono (by omega)).upd (n := nx' + 12) (Nat.le_refl _) (by omega)).upd (Nat.le_add_right _ 3) (by omega), ?_, e10, e11, ?_, ?_⟩ (Sub.refl _)
    · show Value.slice _ _ _ = _
      rw [Nat.mul_succ]
    · show Value.int _ _ = _
      congr 1
    · rw [T.get_upd_same]
      congr 3
      have hbl : (bv8 (keyZ (l.take k))).length = 2 * k := by simp [bv8, hkl]
      rw [List.take_append_of_le_length (by omega), List.take_of_length_le (by omega), List.drop_append, List.drop_eq_nil_of_le (by omega), hbl, htk]
      have e1 : UInt8.toNat (UInt8.ofNat (q / 256)) = q / 256 := by simp [UInt8.toNat_ofNat']; omega
      have e2 : UInt8.toNat (UInt8.ofNat (q % 256)) = q % 256 := by simp [UInt8.toNat_ofNat']
      have e3 : (8 : Int).toNat = 8 := rfl
      simp only [bv8, keyB, Int.toNat_natCast, List.map_append, List.map_cons, List.map_nil, e1, e2, wr_u8_any, e3, List.nil_append, List.append_assoc, List.drop_replicate]
      have e4 : (q : Int) % 256 = ((q % 256 : Nat) : Int) := by omega
      have e5 : ((q / 2 ^ 8 : Nat) : Int) % 256 = ((q / 256 : Nat) : Int) := by omega
      have e6 : 2 * l.length - 2 * k - (2 * k + 2 - 2 * k) = 2 * l.length - 2 * (k + 1) := by omega
      rw [e4, e5, e6]
  · refine condP_f ?_
    refine hx _ _ _ _ (fun e => by cases e) (exP_e (beqP_t ?_))
    have hkl : k = l.length := by omega
    subst hkl
    unfold auto_key_j1
    have f3 : ∀ a, Env.put e 13 a 3 = .slice (some (own (nx + 4) 1)) (2 * l.length) (2 * l.length) := fun a => e3
    simp only [puts, f3]
    rw [List.take_length, Nat.sub_self, List.replicate_zero, List.append_nil] at g
    refine bindP_mk (conv_str g (keyZ_len l)) (optP_mk0 ⟨h, hs, hK _ (by omega)⟩)
end V
end Go.Proofs.Ytmmdcdjkmakgpaa
