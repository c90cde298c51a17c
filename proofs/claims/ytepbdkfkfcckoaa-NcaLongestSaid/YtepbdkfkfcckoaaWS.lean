/- Steps: what the words of a printed condition come to.
   No condition. -/
import Derived.Test.YtepbdkfkfcckoaaVZ
set_option linter.unusedVariables false
set_option linter.unusedSimpArgs false
namespace Go.Proofs.Ytepbdkfkfcckoaa
namespace V
/-! ### Words -/
theorem bindP_some' {α : Type} (a : α) (K : α → Prop) : bindP (some a) K = K a := rfl
theorem condP_true (A B : Prop) : condP (.bool true) A B = A := rfl
theorem condP_false (A B : Prop) : condP (.bool false) A B = B := rfl
theorem condP_bool {b : Bool} {A B : Prop} (h1 : b = true → A) (h2 : b = false → B) : condP (.bool b) A B := by cases b; exact h2 rfl; exact h1 rfl
theorem ifP_tt (h : T Obj) (nx : Nat) (A : KV → Prop) (K : KV) : ifP (.bool true) true h nx A K = A K := rfl
theorem ifP_ff (h : T Obj) (nx : Nat) (A : KV → Prop) (K : KV) : ifP (.bool false) false h nx A K = A K := rfl
theorem ifP_tf (h : T Obj) (nx : Nat) (A : KV → Prop) (K : KV) : ifP (.bool true) false h nx A K = K undef h nx := rfl
theorem ifP_ft (h : T Obj) (nx : Nat) (A : KV → Prop) (K : KV) : ifP (.bool false) true h nx A K = K undef h nx := rfl
theorem newP_eq (h : T Obj) (i : Nat) (o : Obj) (K : T Obj → Prop) : newP h i o K = K (h.upd i (some o)) := rfl
theorem optP_some (h : T Obj) (i : Nat) (o : Obj) (K : T Obj → Prop) : optP h i (some o) K = K (h.upd i (some o)) := rfl
theorem optP_none (h : T Obj) (i : Nat) (K : T Obj → Prop) : optP h i none K = K h := rfl
theorem exP_normal (A : Prop) (B : Nat → Prop) (D : Prop) : exP .normal A B D = A := rfl
theorem exP_exit (i : Nat) (A : Prop) (B : Nat → Prop) (D : Prop) : exP (.exit i) A B D = B i := rfl
theorem exP_ret (A : Prop) (B : Nat → Prop) (D : Prop) : exP .ret A B D = D := rfl
theorem beqP_true (A B : Prop) : beqP true A B = A := rfl
theorem beqP_false (A B : Prop) : beqP false A B = B := rfl
theorem bindP_mk {α : Type} {o : Option α} {a : α} {K : α → Prop} (h : o = some a) (k : K a) : bindP o K := by rw [h]; exact k
theorem newP_mk {h : T Obj} {i : Nat} {o : Obj} {K : T Obj → Prop} (k : K (h.upd i (some o))) : newP h i o K := k
theorem optP_mk {h : T Obj} {i : Nat} {o : Obj} {K : T Obj → Prop} (k : K (h.upd i (some o))) : optP h i (some o) K := k
theorem optP_mk0 {h : T Obj} {i : Nat} {K : T Obj → Prop} (k : K h) : optP h i none K := k
theorem condP_t {A B : Prop} (k : A) : condP (.bool true) A B := k
theorem condP_f {A B : Prop} (k : B) : condP (.bool false) A B := k
theorem condP_tr {b : Bool} {A B : Prop} (h : b = true) (k : A) : condP (.bool b) A B := by subst h; exact k
theorem condP_fa {b : Bool} {A B : Prop} (h : b = false) (k : B) : condP (.bool b) A B := by subst h; exact k
theorem ifP_tt' {h : T Obj} {nx : Nat} {A : KV → Prop} {K : KV} (k : A K) : ifP (.bool true) true h nx A K := k
theorem ifP_ff' {h : T Obj} {nx : Nat} {A : KV → Prop} {K : KV} (k : A K) : ifP (.bool false) false h nx A K := k
theorem ifP_tf' {h : T Obj} {nx : Nat} {A : KV → Prop} {K : KV} (k : K undef h nx) : ifP (.bool true) false h nx A K := k
theorem ifP_ft' {h : T Obj} {nx : Nat} {A : KV → Prop} {K : KV} (k : K undef h nx) : ifP (.bool false) true h nx A K := k
theorem ifP_u' {w : Bool} {h : T Obj} {nx : Nat} {A : KV → Prop} {K : KV} (k : K undef h nx) : ifP undef w h nx A K := k
/-! ### Numbers -/
theorem wr_i64 {n : Int} (h1 : -9223372036854775808 ≤ n) (h2 : n ≤ 9223372036854775807) : wr .i64 n = n := by simp [wr, h1, h2]
theorem wr_u8 {n : Int} (h1 : 0 ≤ n) (h2 : n ≤ 255) : wr .u8 n = n := by simp [wr, h1, h2]
theorem wr_u64 {n : Int} (h1 : 0 ≤ n) (h2 : n ≤ 18446744073709551615) : wr .u64 n = n := by simp [wr, h1, h2]
theorem intB_add (k : IntKind) (a b : Int) : intB .add (.int k a) (.int k b) = some (.int k (wr k (a + b))) := by simp [intB, intV]
theorem intB_sub (k : IntKind) (a b : Int) : intB .sub (.int k a) (.int k b) = some (.int k (wr k (a - b))) := by simp [intB, intV]
theorem intB_mul (k : IntKind) (a b : Int) : intB .mul (.int k a) (.int k b) = some (.int k (wr k (a * b))) := by simp [intB, intV]
theorem intB_quo (k : IntKind) {a b : Int} (ha : 0 ≤ a) (hb : 0 < b) : intB .quo (.int k a) (.int k b) = some (.int k (wr k (a / b))) := by
  have : b ≠ 0 := by omega
  simp [intB, intV, this, Int.tdiv_eq_ediv_of_nonneg ha]
theorem intB_rem (k : IntKind) {a b : Int} (ha : 0 ≤ a) (hb : 0 < b) : intB .rem (.int k a) (.int k b) = some (.int k (a % b)) := by
  have : b ≠ 0 := by omega
  simp [intB, intV, this, Int.tmod_eq_emod_of_nonneg ha]
theorem intB_eql (k : IntKind) (a b : Int) : intB .eql (.int k a) (.int k b) = some (.bool (decide (a = b))) := by simp [intB, intV]
theorem intB_neq (k : IntKind) (a b : Int) : intB .neq (.int k a) (.int k b) = some (.bool (!decide (a = b))) := by simp [intB, intV]
theorem intB_lss (k : IntKind) (a b : Int) : intB .lss (.int k a) (.int k b) = some (.bool (decide (a < b))) := by simp [intB, intV]
theorem intB_leq (k : IntKind) (a b : Int) : intB .leq (.int k a) (.int k b) = some (.bool (decide (a ≤ b))) := by simp [intB, intV]
theorem intB_gtr (k : IntKind) (a b : Int) : intB .gtr (.int k a) (.int k b) = some (.bool (decide (b < a))) := by simp [intB, intV]
theorem intB_geq (k : IntKind) (a b : Int) : intB .geq (.int k a) (.int k b) = some (.bool (decide (b ≤ a))) := by simp [intB, intV]
theorem intB_shr (k k' : IntKind) {a b : Int} (hb : 0 ≤ b) : intB .shr (.int k a) (.int k' b) = some (.int k (a.fdiv ((2 ^ (min b.toNat k.bits) : Nat) : Int))) := by simp [intB, shiftV, hb]
theorem intB_shl (k k' : IntKind) {a b : Int} (hb : 0 ≤ b) : intB .shl (.int k a) (.int k' b) = some (.int k (wr k (a * ((2 ^ (min b.toNat k.bits) : Nat) : Int)))) := by simp [intB, shiftV, hb]
theorem intB_and64 {a b : Int} (ha : 0 ≤ a) (hb : 0 ≤ b) (ha' : a ≤ 18446744073709551615) (hb' : b ≤ 18446744073709551615) : intB .and (.int .u64 a) (.int .u64 b) = some (.int .u64 (Nat.land a.toNat b.toNat : Nat)) := by simp [intB, intV, bitsV, ha, hb, ha', hb']
theorem intB_or64 {a b : Int} (ha : 0 ≤ a) (hb : 0 ≤ b) (ha' : a ≤ 18446744073709551615) (hb' : b ≤ 18446744073709551615) : intB .or (.int .u64 a) (.int .u64 b) = some (.int .u64 (Nat.lor a.toNat b.toNat : Nat)) := by simp [intB, intV, bitsV, ha, hb, ha', hb']
theorem intB_xor64 {a b : Int} (ha : 0 ≤ a) (hb : 0 ≤ b) (ha' : a ≤ 18446744073709551615) (hb' : b ≤ 18446744073709551615) : intB .xor (.int .u64 a) (.int .u64 b) = some (.int .u64 (Nat.xor a.toNat b.toNat : Nat)) := by simp [intB, intV, bitsV, ha, hb, ha', hb']
theorem convI_int (k k' : IntKind) (n : Int) : convI k (.int k' n) = some (.int k (wr k n)) := rfl
theorem unV_not (b : Bool) : unV .not (.bool b) = some (.bool (!b)) := rfl
theorem boolB_eql (a b : Bool) : boolB .eql (.bool a) (.bool b) = some (.bool (a == b)) := rfl
theorem boolB_neq (a b : Bool) : boolB .neq (.bool a) (.bool b) = some (.bool (!(a == b))) := rfl
theorem pickV_true (a b : Value) : pickV (.bool true) a b = some a := rfl
theorem pickV_false (a b : Value) : pickV (.bool false) a b = some b := rfl
theorem lenSl_slice (a : Option Addr) (n c : Nat) : lenSl (.slice a n c) = some (.int .i64 n) := rfl
theorem fwdP_ptr (k : Nat) (a : Addr) : fwdP k (.pointer (some a)) = some (.pointer (some (fwd a k))) := rfl
theorem nilCk_ptr (a : Addr) : nilCk (.pointer (some a)) = some (.pointer (some a)) := rfl
/-! ### Own memory -/
/-- A place in a block of one's own. -/
abbrev at_ (id off z : Nat) : Value := .pointer (some ⟨id, off, some z⟩)
theorem ptr_at (id : Nat) : ptr id = at_ id 0 0 := rfl
theorem fwdP_at (k id off z : Nat) : fwdP k (at_ id off z) = some (at_ id (off + k) z) := rfl
def cellsIn : Option Obj → Option (List Value)
  | some (.cells c _ _) => some c.toList
  | _ => none
theorem cellsIn_some (c : Array Value) (e : TypeId) (f : Nat × Nat) : cellsIn (some (.cells c e f)) = some c.toList := rfl
theorem take_drop_one {l : List Value} {off : Nat} {v : Value} (h : l[off]? = some v) : (l.drop off).take 1 = [v] := by
  have hl := (List.getElem?_eq_some_iff.1 h).1
  rw [List.drop_eq_getElem_cons hl]
  have := (List.getElem?_eq_some_iff.1 h).2
  simp [this]
theorem cellsAt_own (ro : Ro) (h : T Obj) (id off z n : Nat) : cellsAt ro h ⟨id, off, some z⟩ n = (cellsIn (h.get id)).bind fun c => if off + n ≤ c.length then some ((c.drop off).take n) else none := by
  unfold cellsAt cellsIn
  simp only
  cases h.get id with
  | none => rfl
  | some o =>
    cases o <;> try rfl
    rename_i c e f
    simp only [Option.bind, Array.length_toList]
    by_cases hle : off + n ≤ c.size
    · rw [if_pos hle, Nat.ble_eq_true_of_le hle]
    · rw [if_neg hle]
      cases hb : Nat.ble (off + n) c.size with
      | true => exact absurd (Nat.le_of_ble_eq_true hb) hle
      | false => rfl
theorem load1_own (ro : Ro) (h : T Obj) (id off z : Nat) : load1 ro h (at_ id off z) = (cellsIn (h.get id)).bind fun c => c[off]? := by
  unfold load1
  simp only [asP, Option.bind, cellsAt_own]
  cases hc : cellsIn (h.get id) with
  | none => rfl
  | some c =>
    simp only
    by_cases hle : off + 1 ≤ c.length
    · rw [if_pos hle]
      have hg : c[off]? = some c[off] := List.getElem?_eq_getElem (by omega)
      rw [take_drop_one hg, hg]
    · rw [if_neg hle, List.getElem?_eq_none (by omega)]
theorem loadA_own (ro : Ro) (h : T Obj) (n id off z : Nat) : loadA ro h n (at_ id off z) = (cellsIn (h.get id)).bind fun c => if off + n ≤ c.length then some (.agg ((c.drop off).take n).toArray) else none := by
  unfold loadA
  simp only [asP, Option.bind, cellsAt_own]
  cases cellsIn (h.get id) with
  | none => rfl
  | some c => by_cases hle : off + n ≤ c.length <;> simp [hle]
theorem ixArr_at (n z id off y : Nat) (k : IntKind) {i : Int} (h0 : 0 ≤ i) (h1 : i < n) : ixArr n z (at_ id off y) (.int k i) = some (at_ id (off + i.toNat * z) y) := by
  have hn : natV (.int k i) = some i.toNat := by simp [natV, h0]
  have : Nat.blt i.toNat n = true := by simp [Nat.blt]; omega
  simp [ixArr, hn, asP, this, fwd]
theorem Value.cells_agg (cs : Array Value) : Value.cells (.agg cs) = cs := rfl
theorem cells_int (k : IntKind) (n : Int) : Value.cells (.int k n) = #[.int k n] := rfl
theorem cells_bool (b : Bool) : Value.cells (.bool b) = #[.bool b] := rfl
theorem intB_shr_nat (k k' : IntKind) (a : Nat) {b : Int} (hb : 0 ≤ b) (hk : b ≤ k.bits) : intB .shr (.int k (a : Int)) (.int k' b) = some (.int k ((a / 2 ^ b.toNat : Nat) : Int)) := by
  rw [intB_shr _ _ hb]
  have : min b.toNat k.bits = b.toNat := Nat.min_eq_left (by omega)
  rw [this, Int.ofNat_fdiv]
theorem intB_shr_u64 (k' : IntKind) (a : Nat) {b : Int} (hb : 0 ≤ b) (hk : b ≤ 64) : intB .shr (.int .u64 (a : Int)) (.int k' b) = some (.int .u64 ((a / 2 ^ b.toNat : Nat) : Int)) := intB_shr_nat _ _ a hb hk
theorem intB_shl_u64 (k' : IntKind) (a : Nat) {b : Int} (hb : 0 ≤ b) (hk : b ≤ 64) : intB .shl (.int .u64 (a : Int)) (.int k' b) = some (.int .u64 (wr .u64 ((a * 2 ^ b.toNat : Nat) : Int))) := by
  rw [intB_shl _ _ hb]
  have : min b.toNat IntKind.u64.bits = b.toNat := Nat.min_eq_left (by have : IntKind.u64.bits = 64 := rfl; omega)
  rw [this]; simp
theorem intB_shl1_u64 (k' : IntKind) {b : Int} (hb : 0 ≤ b) (hk : b < 64) : intB .shl (.int .u64 1) (.int k' b) = some (.int .u64 ((2 ^ b.toNat : Nat) : Int)) := by
  have h := intB_shl_u64 k' 1 hb (by omega)
  have h2 : 2 ^ b.toNat < 2 ^ 64 := Nat.pow_lt_pow_right (by decide) (by omega)
  have h3 : (((1 * 2 ^ b.toNat : Nat)) : Int) ≤ 18446744073709551615 := by omega
  rw [wr_u64 (by omega) h3, Nat.one_mul] at h
  exact h
theorem bits_u64 : (IntKind.u64.bits : Int) = 64 := rfl
theorem bits_u8 : (IntKind.u8.bits : Int) = 8 := rfl
/-! ### Memory without more -/
/-- Nothing lies at nx and behind. -/
def Fr (h : T Obj) (nx : Nat) : Prop := ∀ i, nx ≤ i → h.get i = none
theorem Fr.e : Fr .e 0 := fun _ _ => rfl
theorem Fr.mono {h : T Obj} {n m : Nat} (hf : Fr h n) (hn : n ≤ m) : Fr h m := fun i hi => hf i (Nat.le_trans hn hi)
theorem Fr.upd {h : T Obj} {n m i : Nat} {o : Option Obj} (hf : Fr h n) (hn : n ≤ m) (hi : i < m) : Fr (h.upd i o) m := fun j hj => by
  rw [T.get_upd_ne _ _ (by omega)]; exact hf j (by omega)
theorem Fr.sub {h h' : T Obj} {n : Nat} (hf : Fr h n) (hs : Sub h' h) : Fr h' n := fun i hi => by
  cases e : h'.get i with
  | none => rfl
  | some o => have := hs i o e; rw [hf i hi] at this; cases this
theorem Sub.refl (h : T Obj) : Sub h h := fun _ _ e => e
theorem Sub.trans {a b c : T Obj} (h1 : Sub a b) (h2 : Sub b c) : Sub a c := fun k o e => h2 k o (h1 k o e)
theorem Sub.upd {h0 h : T Obj} {i : Nat} {o : Option Obj} (hs : Sub h0 h) (hi : h0.get i = none) : Sub h0 (h.upd i o) := fun k x e => by
  by_cases hk : k = i
  · subst hk; rw [hi] at e; cases e
  · rw [T.get_upd_ne _ _ hk]; exact hs k x e
/-- As 'Sub.upd', where the block is new to the memory that one came with. -/
theorem Sub.new {h0 h : T Obj} {n i : Nat} {o : Option Obj} (hf : Fr h0 n) (hi : n ≤ i) (hs : Sub h0 h) : Sub h0 (h.upd i o) := hs.upd (hf i hi)
/-! ### Loops -/
theorem loopP_rule {B : PT} {Q : KE} (Inv : Nat → Env → T Obj → Nat → Prop)
    (step : ∀ n e h nx, Inv n e h nx → ∀ Q' : KE, (∀ m e' h' h1 nx', m < n → Inv m e' h' nx' → Sub h' h1 → Q' .normal e' h1 nx') → (∀ x e' h' nx', x ≠ .normal → Q x e' h' nx' → Q' x e' h' nx') → B e h nx Q')
    {n : Nat} {e : Env} {h : T Obj} {nx : Nat} (h0 : Inv n e h nx) : loopP B e h nx Q := by
  refine ⟨n + 1, ?_⟩
  have key : ∀ n, (∀ m, m < n → ∀ k, m + 1 ≤ k → ∀ e h nx, Inv m e h nx → iterP B k e h nx Q) → ∀ k, n + 1 ≤ k → ∀ e h nx, Inv n e h nx → iterP B k e h nx Q := by
    intro n ih k hk e h nx hi
    cases k with
    | zero => omega
    | succ k =>
      refine step n e h nx hi _ ?_ ?_
      · intro m e' h' h1 nx' hm hi' hs
        exact ⟨h', hs, ih m hm k (by omega) _ _ _ hi'⟩
      · intro x e' h' nx' hx hq
        cases x with
        | normal => exact absurd rfl hx
        | exit i => exact hq
        | ret => exact hq
  have all : ∀ n, ∀ k, n + 1 ≤ k → ∀ e h nx, Inv n e h nx → iterP B k e h nx Q := by
    intro n
    induction n using Nat.strongRecOn with
    | _ n ih => exact key n ih
  exact all n _ (Nat.le_refl _) _ _ _ h0
/-! ### Stores into own memory -/
def putIn (o : Option Obj) (off : Nat) (vs : List Value) : Option Obj := match o with
  | some (.cells c e f) => if off + vs.length ≤ c.size then (if vs.all cellOk = true then some (.cells (over c.toList off vs).toArray e f) else none) else none
  | _ => none
theorem putIn_cells {c : Array Value} {e : TypeId} {f : Nat × Nat} {off : Nat} {vs : List Value} (h1 : off + vs.length ≤ c.size) (h2 : vs.all cellOk = true) : putIn (some (.cells c e f)) off vs = some (.cells (over c.toList off vs).toArray e f) := by
  simp [putIn, h1, h2]
theorem storeN_own (n : Nat) (h : T Obj) (id off z : Nat) (v : Value) : storeN n h (at_ id off z) v = if v.cells.size = n then (putIn (h.get id) off v.cells.toList).bind (fun o => some (h.upd id (some o))) else none := by
  unfold storeN putIn
  simp only [asP, Option.bind]
  by_cases hn : v.cells.size = n
  · rw [if_pos hn, hn, Nat.beq_refl]
    simp only [storeAtV]
    cases h.get id with
    | none => rfl
    | some o =>
      cases o <;> try rfl
      rename_i c e f
      simp only [Array.length_toList]
      by_cases hle : off + v.cells.size ≤ c.size
      · rw [if_pos hle, Nat.ble_eq_true_of_le hle]
        cases v.cells.toList.all cellOk <;> rfl
      · rw [if_neg hle]
        cases hb : Nat.ble (off + v.cells.size) c.size with
        | true => exact absurd (Nat.le_of_ble_eq_true hb) hle
        | false => rfl
  · rw [if_neg hn]
    cases hb : Nat.beq v.cells.size n with
    | true => exact absurd (Nat.eq_of_beq_eq_true hb) hn
    | false => rfl
theorem over_one {l : List Value} {off : Nat} (v : Value) (h : off < l.length) : over l off [v] = l.set off v := by
  unfold over
  rw [List.set_eq_take_append_cons_drop, if_pos h]
  simp
theorem over_all {l vs : List Value} (h : vs.length = l.length) : over l 0 vs = vs := by
  unfold over
  rw [List.drop_eq_nil_of_le (by omega)]; simp
theorem drop_take_all {l : List Value} {n : Nat} (h : l.length = n) : (l.drop 0).take n = l := by subst h; simp
theorem tl (l : List Value) : l.toArray.toList = l := rfl
theorem ts (l : List Value) : l.toArray.size = l.length := rfl
theorem store1_own {h : T Obj} {id off z : Nat} {v : Value} {l : List Value} {e : TypeId} {f : Nat × Nat} (hg : h.get id = some (.cells l.toArray e f)) (hi : off < l.length) (hv : cellOk v = true) (hc : v.cells = #[v]) :
    storeN 1 h (at_ id off z) v = some (h.upd id (some (.cells (l.set off v).toArray e f))) := by
  rw [storeN_own, hc, hg, if_pos (show #[v].size = 1 from rfl), putIn_cells (by simp; omega) (by simp [hv])]
  simp [over_one v hi]
theorem storeA_own {h : T Obj} {id z n : Nat} {v : Value} {l vs : List Value} {e : TypeId} {f : Nat × Nat} (hg : h.get id = some (.cells l.toArray e f)) (hc : v.cells = vs.toArray) (hn : vs.length = n) (hl : l.length = n) (hv : vs.all cellOk = true) :
    storeN n h (at_ id 0 z) v = some (h.upd id (some (.cells vs.toArray e f))) := by
  rw [storeN_own, hc, hg, if_pos (by simpa using hn), putIn_cells (by simp; omega) (by simpa using hv)]
  simp [over_all (l := l) (vs := vs) (by omega)]
theorem loadA_all {ro : Ro} {h : T Obj} {id z n : Nat} {l : List Value} {e : TypeId} {f : Nat × Nat} (hg : h.get id = some (.cells l.toArray e f)) (hl : l.length = n) : loadA ro h n (at_ id 0 z) = some (.agg l.toArray) := by
  rw [loadA_own, hg]
  subst hl
  simp [cellsIn]
theorem load1_get {ro : Ro} {h : T Obj} {id off z : Nat} {l : List Value} {e : TypeId} {f : Nat × Nat} {v : Value} (hg : h.get id = some (.cells l.toArray e f)) (hv : l[off]? = some v) : load1 ro h (at_ id off z) = some v := by
  rw [load1_own, hg]; exact hv
end V
end Go.Proofs.Ytepbdkfkfcckoaa
