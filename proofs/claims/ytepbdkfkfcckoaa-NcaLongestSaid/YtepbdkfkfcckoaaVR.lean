/- An evaluator of the machine of VA: what it says, the machine does.
   No condition. -/
import Derived.Test.YtepbdkfkfcckoaaWS
set_option linter.unusedVariables false
set_option linter.unusedSimpArgs false
namespace Go.Proofs.Ytepbdkfkfcckoaa
namespace V
/-! ### Forcing -/
section
variable {α : Type}
def fcN (n : Nat) (k : Nat → α) : α := match n with
  | 0 => k 0
  | m + 1 => k (Nat.succ m)
theorem fcN_eq (n : Nat) (k : Nat → α) : fcN n k = k n := by cases n <;> rfl
def fcI (n : Int) (k : Int → α) : α := match n with
  | .ofNat m => fcN m fun m => k (.ofNat m)
  | .negSucc m => fcN m fun m => k (.negSucc m)
theorem fcI_eq (n : Int) (k : Int → α) : fcI n k = k n := by cases n <;> simp [fcI, fcN_eq]
def fcA (a : Option Addr) (k : Option Addr → α) : α := match a with
  | none => k none
  | some a => fcN a.block fun b => fcN a.off fun o => match a.spot with
    | none => k (some ⟨b, o, none⟩)
    | some z => fcN z fun z => k (some ⟨b, o, some z⟩)
theorem fcA_eq (a : Option Addr) (k : Option Addr → α) : fcA a k = k a := by
  cases a with
  | none => rfl
  | some a => obtain ⟨b, o, s⟩ := a; cases s <;> simp [fcA, fcN_eq]
def fcB : List UInt8 → (List UInt8 → α) → α
  | [], k => k []
  | b :: r, k => fcN b.toNat fun n => fcB r fun r => k (UInt8.ofNat n :: r)
theorem fcB_eq : ∀ (l : List UInt8) (k : List UInt8 → α), fcB l k = k l
  | [], k => rfl
  | b :: r, k => by rw [fcB, fcN_eq, fcB_eq r]; simp
def fcC (v : Value) (k : Value → α) : α := match v with
  | .bool b => match b with
    | true => k (.bool true)
    | false => k (.bool false)
  | .int kd n => fcI n fun n => k (.int kd n)
  | .string s => fcB s.data.toList fun l => k (.string ⟨⟨l⟩⟩)
  | .pointer a => fcA a fun a => k (.pointer a)
  | .slice a l c => fcA a fun a => fcN l fun l => fcN c fun c => k (.slice a l c)
  | .map r => match r with
    | none => k (.map none)
    | some r => fcN r fun r => k (.map (some r))
  | v => k v
theorem fcC_eq (v : Value) (k : Value → α) : fcC v k = k v := by
  cases v with
  | bool b => cases b <;> rfl
  | int kd n => simp [fcC, fcI_eq]
  | string s => simp [fcC, fcB_eq]
  | pointer a => simp [fcC, fcA_eq]
  | slice a l c => simp [fcC, fcA_eq, fcN_eq]
  | map r => cases r <;> simp [fcC, fcN_eq]
  | _ => rfl
def fcL : List Value → (List Value → α) → α
  | [], k => k []
  | v :: r, k => fcC v fun v => fcL r fun r => k (v :: r)
theorem fcL_eq : ∀ (l : List Value) (k : List Value → α), fcL l k = k l
  | [], k => rfl
  | v :: r, k => by rw [fcL, fcC_eq, fcL_eq r]
/-- A list, as far as its spine. -/
def fcS : List Value → (List Value → α) → α
  | [], k => k []
  | v :: r, k => fcS r fun r => k (v :: r)
theorem fcS_eq : ∀ (l : List Value) (k : List Value → α), fcS l k = k l
  | [], k => rfl
  | v :: r, k => by rw [fcS, fcS_eq r]
def fcV1 (v : Value) (k : Value → α) : α := match v with
  | .agg cs => fcS cs.toList fun l => k (.agg ⟨l⟩)
  | v => fcC v k
theorem fcV1_eq (v : Value) (k : Value → α) : fcV1 v k = k v := by
  cases v with
  | agg cs => simp [fcV1, fcS_eq]
  | _ => simp only [fcV1, fcC_eq]
def fcVs : List Value → (List Value → α) → α
  | [], k => k []
  | v :: r, k => fcV1 v fun v => fcVs r fun r => k (v :: r)
theorem fcVs_eq : ∀ (l : List Value) (k : List Value → α), fcVs l k = k l
  | [], k => rfl
  | v :: r, k => by rw [fcVs, fcV1_eq, fcVs_eq r]
def fcV (v : Value) (k : Value → α) : α := match v with
  | .tuple cs => fcVs cs.toList fun l => k (.tuple ⟨l⟩)
  | v => fcV1 v k
theorem fcV_eq (v : Value) (k : Value → α) : fcV v k = k v := by
  cases v with
  | tuple cs => simp [fcV, fcVs_eq]
  | _ => simp only [fcV, fcV1_eq]
def fcE : List MapEntry → (List MapEntry → α) → α
  | [], k => k []
  | e :: r, k => fcV1 e.key fun a => fcV1 e.val fun b => fcN e.born fun n => fcE r fun r => k (⟨a, b, n⟩ :: r)
theorem fcE_eq : ∀ (l : List MapEntry) (k : List MapEntry → α), fcE l k = k l
  | [], k => rfl
  | v :: r, k => by rw [fcE, fcV1_eq, fcV1_eq, fcN_eq, fcE_eq r]
def fcO (o : Obj) (k : Obj → α) : α := match o with
  | .cells c e f => fcS c.toList fun l => k (.cells ⟨l⟩ e f)
  | .map es n => fcE es.toList fun l => fcN n fun n => k (.map ⟨l⟩ n)
  | o => k o
theorem fcO_eq (o : Obj) (k : Obj → α) : fcO o k = k o := by
  cases o with
  | cells c e f => simp [fcO, fcS_eq]
  | map es n => simp [fcO, fcE_eq, fcN_eq]
  | _ => rfl
def updK {β : Type} (o : Option β) : Nat → T β → Nat → (T β → α) → α
  | 0, t, _, K => K t
  | f + 1, .e, k, K => match k with
    | 0 => K (.n .e o .e)
    | k' + 1 => match Nat.beq (k' % 2) 0 with
      | true => fcN (k' / 2) fun q => updK o f .e q fun l => K (.n l none .e)
      | false => fcN (k' / 2) fun q => updK o f .e q fun r => K (.n .e none r)
  | f + 1, .n l v r, k, K => match k with
    | 0 => K (.n l o r)
    | k' + 1 => match Nat.beq (k' % 2) 0 with
      | true => fcN (k' / 2) fun q => updK o f l q fun l => K (.n l v r)
      | false => fcN (k' / 2) fun q => updK o f r q fun r => K (.n l v r)
theorem updK_eq {β : Type} (o : Option β) : ∀ (f : Nat) (t : T β) (k : Nat) (K : T β → α), updK o f t k K = K (T.updF o f t k) := by
  intro f
  induction f with
  | zero => intro t k K; rfl
  | succ f ih =>
    intro t k K
    cases t with
    | e => cases k with
      | zero => rfl
      | succ k => simp only [updK, T.updF, fcN_eq, ih]; cases Nat.beq (k % 2) 0 <;> rfl
    | n l v r => cases k with
      | zero => rfl
      | succ k => simp only [updK, T.updF, fcN_eq, ih]; cases Nat.beq (k % 2) 0 <;> rfl
def upK {β : Type} (t : T β) (k : Nat) (o : Option β) (K : T β → α) : α := updK o (Nat.succ k) t k K
theorem upK_eq {β : Type} (t : T β) (k : Nat) (o : Option β) (K : T β → α) : upK t k o K = K (t.upd k o) := updK_eq o _ t k K
end
def bB {α : Type} (o : Option α) (K : α → Bool) : Bool := match o with
  | some a => K a
  | none => false
theorem bB_some {α : Type} {o : Option α} {K : α → Bool} (h : bB o K = true) : ∃ a, o = some a ∧ K a = true := by
  cases o with
  | none => cases h
  | some a => exact ⟨a, rfl, h⟩
/-! ### Operations -/
abbrev KB := Value → T Obj → Nat → Bool
abbrev CallB := FuncId → List Value → T Obj → Nat → KB → Bool
def minB (less : Bool) : Value → List Value → Option Value
  | .int k x, [] => some (.int k x)
  | .int k x, .int k' y :: r => minB less (.int k (match less, decide (y < x), decide (x < y) with
    | true, true, _ => y
    | true, false, _ => x
    | false, _, true => y
    | false, _, false => x)) r
  | _, _ => none
termination_by structural _ l => l
theorem minB_eq (less : Bool) : ∀ (l : List Value) (v : Value), minV less (v :: l) = minB less v l := by
  intro l
  induction l with
  | nil => intro v; cases v <;> simp [minV, minB]
  | cons y r ih =>
    intro v
    cases v <;> cases y <;> (conv => lhs; unfold minV) <;> simp only [minB, ih]
    rename_i k1 n1 k2 n2
    cases less <;> cases decide (n2 < n1) <;> cases decide (n1 < n2) <;> rfl
def minL (less : Bool) : List Value → Option Value
  | [] => none
  | v :: l => minB less v l
theorem minL_eq (less : Bool) (l : List Value) : minV less l = minL less l := by
  cases l with
  | nil => simp [minV, minL]
  | cons v l => exact minB_eq less l v
def opQB (P : Program) (ro : Ro) (t : T Value) (h : T Obj) (aid : Nat) (op : Op) : Option (Value × Option Obj) := match op with
  | .call { callee := .builtin .min, args, .. } => (evlL t args.toList).bind fun vs => (minL true vs).bind fun v => some (v, none)
  | .call { callee := .builtin .max, args, .. } => (evlL t args.toList).bind fun vs => (minL false vs).bind fun v => some (v, none)
  | op => opQ P ro t h aid op
theorem opQB_eq (P : Program) (ro : Ro) (t : T Value) (h : T Obj) (aid : Nat) (op : Op) : opQB P ro t h aid op = opQ P ro t h aid op := by
  unfold opQB
  split
  · simp only [opQ, builtinQ, minL_eq]
  · simp only [opQ, builtinQ, minL_eq]
  · rfl
/-- Cells put over others, the rest shared; none: there are not so many. -/
def putK : List Value → Nat → List Value → (List Value → Bool) → Bool
  | l, 0, [], k => k l
  | _ :: r, 0, v :: vs, k => putK r 0 vs fun r => k (v :: r)
  | [], 0, _ :: _, _ => false
  | x :: r, n + 1, vs, k => fcN n fun n => putK r n vs fun r => k (x :: r)
  | [], _ + 1, _, _ => false
theorem putK_eq : ∀ (l : List Value) (n : Nat) (vs : List Value) (k : List Value → Bool), putK l n vs k = if n + vs.length ≤ l.length then k (over l n vs) else false
  | [], 0, [], k => by simp [putK, over]
  | x :: r, 0, [], k => by simp [putK, over]
  | x :: r, 0, v :: vs, k => by
    rw [putK, putK_eq r 0 vs]
    simp [over]
  | [], 0, _ :: _, k => by simp [putK]
  | x :: r, n + 1, vs, k => by
    rw [putK, fcN_eq, putK_eq r n vs]
    have e : n + 1 + vs.length ≤ (x :: r).length ↔ n + vs.length ≤ r.length := by simp; omega
    by_cases h : n + vs.length ≤ r.length
    · rw [if_pos h, if_pos (e.2 h)]
      have : n + 1 + vs.length = (n + vs.length) + 1 := by omega
      simp [over, this]
    · rw [if_neg h, if_neg (fun h2 => h (e.1 h2))]
  | [], n + 1, vs, k => by simp [putK]
def storeAtB (h : T Obj) (a : Addr) (vs : List Value) (K : T Obj → Bool) : Bool :=
  match a.spot with
  | none => false
  | some _ => match h.get a.block with
    | some (.cells c e f) => match vs.all cellOk with
      | true => putK c.toList a.off vs fun l => upK h a.block (some (.cells ⟨l⟩ e f)) K
      | false => false
    | _ => false
theorem storeAtB_eq {h : T Obj} {a : Addr} {vs : List Value} {K : T Obj → Bool} : storeAtB h a vs K = bB (storeAtV h a vs) K := by
  unfold storeAtB storeAtV
  cases a.spot with
  | none => rfl
  | some z =>
    cases h.get a.block with
    | none => rfl
    | some o =>
      cases o <;> try rfl
      simp only [putK_eq, upK_eq, Array.length_toList]
      rename_i c e f
      by_cases hb : a.off + vs.length ≤ c.size
      · rw [if_pos hb, Nat.ble_eq_true_of_le hb]
        cases vs.all cellOk <;> rfl
      · rw [if_neg hb]
        have : Nat.ble (a.off + vs.length) c.size = false := by
          cases hq : Nat.ble (a.off + vs.length) c.size with
          | false => rfl
          | true => exact absurd (Nat.le_of_ble_eq_true hq) hb
        rw [this]
        cases vs.all cellOk <;> rfl
/-! Loads. -/
def nthK : List Value → Nat → (Value → Bool) → Bool
  | x :: _, 0, k => k x
  | _ :: r, n + 1, k => nthK r n k
  | [], _, _ => false
theorem nthK_eq : ∀ (l : List Value) (n : Nat) (k : Value → Bool), nthK l n k = bB l[n]? k
  | x :: _, 0, k => rfl
  | _ :: r, n + 1, k => by rw [nthK, nthK_eq r n]; rfl
  | [], n, k => by cases n <;> rfl
/-- The first cells; the list itself, if there are no more. -/
def takeK : List Value → Nat → (List Value → Bool) → Bool
  | _, 0, k => k []
  | x :: r, n + 1, k => takeK r n fun r => k (x :: r)
  | [], _ + 1, _ => false
theorem takeK_eq : ∀ (l : List Value) (n : Nat) (k : List Value → Bool), takeK l n k = if n ≤ l.length then k (l.take n) else false
  | l, 0, k => by cases l <;> simp [takeK]
  | x :: r, n + 1, k => by
    rw [takeK, takeK_eq r n]
    by_cases h : n ≤ r.length
    · rw [if_pos h, if_pos (by simp; omega)]; simp
    · rw [if_neg h, if_neg (by simp; omega)]
  | [], n + 1, k => by simp [takeK]
/-- Is a list so long? -/
def isLen : List Value → Nat → Bool
  | [], 0 => true
  | _ :: r, n + 1 => isLen r n
  | _, _ => false
theorem isLen_eq : ∀ {l : List Value} {n : Nat}, isLen l n = true → l.length = n
  | [], 0, _ => rfl
  | _ :: r, n + 1, h => by rw [List.length_cons, isLen_eq (l := r) h]
  | [], _ + 1, h => by cases h
  | _ :: _, 0, h => by cases h
def dropK : List Value → Nat → (List Value → Bool) → Bool
  | l, 0, k => k l
  | _ :: r, n + 1, k => dropK r n k
  | [], _ + 1, _ => false
theorem dropK_eq : ∀ (l : List Value) (n : Nat) (k : List Value → Bool), dropK l n k = if n ≤ l.length then k (l.drop n) else false
  | l, 0, k => by cases l <;> simp [dropK]
  | _ :: r, n + 1, k => by
    rw [dropK, dropK_eq r n]
    by_cases h : n ≤ r.length
    · rw [if_pos h, if_pos (by simp; omega)]; rfl
    · rw [if_neg h, if_neg (by simp; omega)]
  | [], n + 1, k => by simp [dropK]
def cellsK (ro : Ro) (h : T Obj) (a : Addr) (n : Nat) (K : List Value → Bool) : Bool :=
  match a.spot with
  | none => bB (cellsAt ro h a n) K
  | some _ => match h.get a.block with
    | some (.cells c _ _) => match a.off with
      | 0 => match isLen c.toList n with
        | true => K c.toList
        | false => takeK c.toList n K
      | off + 1 => dropK c.toList (Nat.succ off) fun l => takeK l n K
    | _ => false
theorem cellsK_eq {ro : Ro} {h : T Obj} {a : Addr} {n : Nat} {K : List Value → Bool} : cellsK ro h a n K = bB (cellsAt ro h a n) K := by
  unfold cellsK cellsAt
  cases a.spot with
  | none => rfl
  | some z =>
    cases h.get a.block with
    | none => rfl
    | some o =>
      cases o <;> try rfl
      rename_i c e f
      have key : (if a.off + n ≤ c.size then K ((c.toList.drop a.off).take n) else false) = bB (match Nat.ble (a.off + n) c.size with | true => some ((c.toList.drop a.off).take n) | false => none) K := by
        by_cases hb : a.off + n ≤ c.size
        · rw [if_pos hb, Nat.ble_eq_true_of_le hb]; rfl
        · rw [if_neg hb]
          have : Nat.ble (a.off + n) c.size = false := by
            cases hq : Nat.ble (a.off + n) c.size with
            | false => rfl
            | true => exact absurd (Nat.le_of_ble_eq_true hq) hb
          rw [this]; rfl
      refine Eq.trans ?_ key
      simp only
      cases ho : a.off with
      | zero =>
        simp only [Nat.zero_add, List.drop_zero]
        cases hl : isLen c.toList n with
        | true =>
          have := isLen_eq hl
          rw [if_pos (by simpa using Nat.le_of_eq this.symm), List.take_of_length_le (by omega)]
        | false => simp only [takeK_eq, Array.length_toList]
      | succ off =>
        simp only [dropK_eq, takeK_eq, List.length_drop, Array.length_toList]
        by_cases h1 : off + 1 ≤ c.size
        · rw [if_pos h1]
          by_cases h2 : n ≤ c.size - (off + 1)
          · rw [if_pos h2, if_pos (by omega)]
          · rw [if_neg h2, if_neg (by omega)]
        · rw [if_neg h1, if_neg (by omega)]
def loadK (P : Program) (ro : Ro) (h : T Obj) (t : TypeId) (a : Addr) (K : Value → Bool) : Bool :=
  match isAgg P t with
  | some true => bB (siz P t) fun n => cellsK ro h a n fun l => K (.agg ⟨l⟩)
  | some false => match a.spot with
    | none => bB (loadV P ro h t a) K
    | some _ => match h.get a.block with
      | some (.cells c _ _) => nthK c.toList a.off K
      | _ => false
  | none => false
theorem loadK_eq {P : Program} {ro : Ro} {h : T Obj} {t : TypeId} {a : Addr} {K : Value → Bool} : loadK P ro h t a K = bB (loadV P ro h t a) K := by
  obtain ⟨b, o, s⟩ := a
  unfold loadK
  cases hi : isAgg P t with
  | none => simp only [loadV, hi]; rfl
  | some x =>
    cases x with
    | true =>
      simp only [loadV, hi]
      cases siz P t with
      | none => rfl
      | some n =>
        simp only [bB, Option.bind_some]
        rw [cellsK_eq]
        cases cellsAt ro h ⟨b, o, s⟩ n <;> rfl
    | false =>
      cases s with
      | none => rfl
      | some z =>
        simp only
        have e : loadV P ro h t ⟨b, o, some z⟩ = load1 ro h (at_ b o z) := by
          simp only [loadV, hi]; rfl
        rw [e, load1_own]
        cases h.get b with
        | none => rfl
        | some x =>
          cases x <;> try rfl
          simp only [nthK_eq]; rfl
def storeB (P : Program) (h : T Obj) (t : TypeId) (a v : Value) (K : T Obj → Bool) : Bool :=
  match a with
  | .pointer (some a) => bB (siz P t) fun n => match Nat.beq v.cells.size n with
    | true => storeAtB h a v.cells.toList K
    | false => false
  | _ => false
theorem storeB_eq {P : Program} {h : T Obj} {t : TypeId} {a v : Value} {K : T Obj → Bool} : storeB P h t a v K = bB (storeV P h t a v) K := by
  unfold storeB storeV
  cases a <;> try rfl
  rename_i a
  cases a with
  | none => rfl
  | some a =>
    cases siz P t with
    | none => rfl
    | some n =>
      simp only [bB, Option.bind]
      cases Nat.beq v.cells.size n with
      | true => exact storeAtB_eq
      | false => rfl
/-- As 'appendV', with what is written forced. -/
def apB (r : Value × T Obj × Nat) (K : KB) : Bool := fcV r.1 fun v => fcN r.2.2 fun n => K v r.2.1 n
theorem apB_eq (r : Value × T Obj × Nat) (K : KB) : apB r K = K r.1 r.2.1 r.2.2 := by simp [apB, fcV_eq, fcN_eq]
def appendB (P : Program) (ro : Ro) (h : T Obj) (nx : Nat) (ts : Array TypeId) (vs : List Value) (K : KB) : Bool :=
  match ts[0]?, ts[1]?, vs with
  | some t0, some t1, [.slice base len cap, x] => match und P t0 with
    | some (.slice e) => bB (tin P e) fun i => bB (srcV P ro h e i.size i.bytes t1 x) fun s =>
      match Nat.ble (len + s.1) cap with
      | true => match s.1 with
        | 0 => K (.slice base len cap) h nx
        | _ + 1 => match base with
          | none => false
          | some a => match a.spot with
            | none => false
            | some z => match Nat.beq z i.size with
              | true => storeAtB h (fwd a (len * i.size)) s.2 fun h => fcN (len + s.1) fun n => K (.slice base n cap) h nx
              | false => false
      | false => bB (zer P e) fun zv => match Nat.ble ((len + s.1) * i.bytes) big, Nat.ble (len + s.1) big, Nat.blt 0 i.size, Nat.beq zv.cells.size i.size && s.2.all cellOk with
        | true, true, true, true => bB (oldV ro h i.size base len) fun p =>
            fcS (p.1 ++ s.2) fun l => fcN (len + s.1) fun n => upK p.2 nx (some (.cells ⟨l⟩ e)) fun h => fcN (nx + 1) fun nx' => K (.slice (some (own nx i.size)) n n) h nx'
        | _, _, _, _ => false
    | _ => false
  | _, _, _ => false
theorem bB_bind {α β : Type} (o : Option α) (f : α → Option β) (K : β → Bool) : bB (o.bind f) K = bB o fun a => bB (f a) K := by cases o <;> rfl
theorem appendB_eq {P : Program} {ro : Ro} {h : T Obj} {nx : Nat} {ts : Array TypeId} {vs : List Value} {K : KB} : appendB P ro h nx ts vs K = bB (appendV P ro h nx ts vs) fun r => K r.1 r.2.1 r.2.2 := by
  unfold appendB appendV
  cases ts[0]? with
  | none => rfl
  | some t0 =>
    cases ts[1]? with
    | none => rfl
    | some t1 =>
      match vs with
      | [.slice base len cap, x] =>
        simp only
        cases und P t0 with
        | none => rfl
        | some d =>
          cases d <;> try rfl
          rename_i e
          simp only
          cases tin P e with
          | none => rfl
          | some i =>
            simp only [bB, Option.bind_some]
            cases srcV P ro h e i.size i.bytes t1 x with
            | none => rfl
            | some s =>
              simp only [Option.bind_some]
              cases Nat.ble (len + s.1) cap with
              | true =>
                simp only
                cases s.1 with
                | zero => rfl
                | succ q =>
                  cases base with
                  | none => rfl
                  | some a =>
                    simp only
                    cases a.spot with
                    | none => rfl
                    | some z =>
                      simp only
                      cases Nat.beq z i.size with
                      | true =>
                        simp only [storeAtB_eq, fcN_eq]
                        cases storeAtV h (fwd a (len * i.size)) s.2 <;> rfl
                      | false => rfl
              | false =>
                simp only
                cases zer P e with
                | none => rfl
                | some zv =>
                  simp only [Option.bind_some]
                  cases Nat.ble ((len + s.1) * i.bytes) big <;> cases Nat.ble (len + s.1) big <;> cases Nat.blt 0 i.size <;> cases Nat.beq zv.cells.size i.size && s.2.all cellOk <;> try rfl
                  simp only
                  cases oldV ro h i.size base len with
                  | none => rfl
                  | some p => simp only [fcS_eq, fcN_eq, upK_eq]; rfl
      | [] => rfl
      | [v] => cases v <;> rfl
      | .bool _ :: _ :: _ | .int _ _ :: _ :: _ | .float _ _ :: _ :: _ | .complex _ _ _ :: _ :: _ | .string _ :: _ :: _ | .pointer _ :: _ :: _ | .map _ :: _ :: _ | .chan _ :: _ :: _ | .func _ _ _ :: _ :: _ | .nilFunc :: _ :: _ | .iface _ _ :: _ :: _ | .nilIface :: _ :: _ | .agg _ :: _ :: _ | .tuple _ :: _ :: _ => rfl
      | .slice _ _ _ :: _ :: _ :: _ => rfl
def opLB (P : Program) (ro : Ro) (C : CallB) (t : T Value) (h : T Obj) (nx : Nat) (op : Op) (K : KB) : Bool :=
  match op with
  | .store ty a x => bB (evl t a) fun av => bB (evl t x) fun xv => storeB P h ty av xv fun h' => K undef h' nx
  | .mapUpdate ty m k x | .insert ty m k x => bB (evl t m) fun mv => bB (evl t k) fun kv => bB (evl t x) fun xv => bB (mapPutV P h ty mv kv xv) fun h' => K undef h' nx
  | .call { callee := .builtin b, args, argTypes } => bB (evlL t args.toList) fun vs => match b with
    | .append => appendB P ro h nx argTypes vs K
    | .copy => bB (copyV P ro h nx argTypes vs) fun r => apB r K
    | .clear => match vs, argTypes[0]? with
      | [m], some ty => bB (und P ty) fun _ => bB (clearV h m) fun h => K (.tuple #[]) h nx
      | _, _ => false
    | _ => false
  | .call { callee := .value f, args, .. } => bB (evl t f) fun f => bB (evlL t args.toList) fun vs => match f with
    | .func (.func k) a b => C k (a.toList ++ vs ++ b.toList) h nx K
    | _ => false
  | .convert s d x => bB (evl t x) fun v => bB (convSame P h s d v) fun r => K r.1 r.2 nx
  | _ => false
def addK (h : T Obj) (id : Nat) (o : Option Obj) (K : T Obj → Bool) : Bool := match o with
  | none => K h
  | some o => fcO o fun o => upK h id (some o) K
theorem addK_eq (h : T Obj) (id : Nat) (o : Option Obj) (K : T Obj → Bool) : addK h id o K = K (addO h id o) := by
  cases o with
  | none => rfl
  | some o => simp [addK, addO, fcO_eq, upK_eq]
def opRB (P : Program) (ro : Ro) (C : CallB) (t : T Value) (h : T Obj) (nx aid : Nat) (op : Op) (K : KB) : Bool :=
  match loud op with
  | true => opLB P ro C t h nx op K
  | false => match op with
    | .load ty x => bB (evl t x) fun v => match v with
      | .pointer (some a) => loadK P ro h ty a fun v => K v h nx
      | _ => false
    | .move x => bB (evl t x) fun v => K v h nx
    | .assign x => bB (evl t x) fun v => K v h nx
    | op => bB (opQB P ro t h aid op) fun r => fcV r.1 fun v => addK h aid r.2 fun h' => K v h' nx
def putT (n : Nat) (t : T Value) (dst : Option Tmp) (v : Value) (K : T Value → Bool) : Bool :=
  match dst with
  | none => K t
  | some d => match Nat.blt d n with
    | true => upK t d (some v) K
    | false => false
theorem putT_some {n : Nat} {t : T Value} {dst : Option Tmp} {v : Value} {K : T Value → Bool} (h : putT n t dst v K = true) : ∃ t', put n t dst v = some t' ∧ K t' = true := by
  unfold putT at h
  cases dst with
  | none => exact ⟨t, rfl, h⟩
  | some d =>
    simp only at h
    split at h
    · rename_i hb
      rw [upK_eq] at h
      exact ⟨_, by simp only [put]; rw [hb], h⟩
    · cases h
def opsB (P : Program) (ro : Ro) (C : CallB) (n : Nat) (ops : Array Oper) : List Oper → T Value → T Obj → Nat → (T Value → T Obj → Nat → Bool) → Bool
  | [], t, h, nx, Q => Q t h nx
  | o :: r, t, h, nx, Q => match wanted ops t o with
    | true => fcN (nx + 1) fun nx1 => opRB P ro C t h nx1 nx o.op fun v h' nx' => putT n t o.dst v fun t' => opsB P ro C n ops r t' h' nx' Q
    | false => putT n t o.dst undef fun t' => opsB P ro C n ops r t' h nx Q
/-! ### Regions that draw -/
def adEq (a b : Option Addr) : Bool := match a, b with
  | none, none => true
  | some a, some b => Nat.beq a.block b.block && Nat.beq a.off b.off && (match a.spot, b.spot with
    | none, none => true
    | some x, some y => Nat.beq x y
    | _, _ => false)
  | _, _ => false
theorem adEq_eq {a b : Option Addr} (h : adEq a b = true) : a = b := by
  unfold adEq at h
  split at h
  · rfl
  · rename_i a b
    obtain ⟨b1, o1, s1⟩ := a
    obtain ⟨b2, o2, s2⟩ := b
    simp only [Bool.and_eq_true] at h
    obtain ⟨⟨h1, h2⟩, h3⟩ := h
    have := Nat.eq_of_beq_eq_true h1
    have := Nat.eq_of_beq_eq_true h2
    subst_vars
    split at h3
    · simp_all
    · have := Nat.eq_of_beq_eq_true h3; simp_all
    · cases h3
  · cases h
def cellEq (a b : Value) : Bool := match a, b with
  | .bool x, .bool y => x == y
  | .int k x, .int k' y => decide (k = k') && decide (x = y)
  | .string x, .string y => x.data.toList == y.data.toList
  | .pointer x, .pointer y => adEq x y
  | .slice x l c, .slice y l' c' => adEq x y && Nat.beq l l' && Nat.beq c c'
  | .map none, .map none => true
  | .map (some x), .map (some y) => Nat.beq x y
  | .nilFunc, .nilFunc => true
  | .nilIface, .nilIface => true
  | _, _ => false
theorem cellEq_eq {a b : Value} (h : cellEq a b = true) : a = b := by
  unfold cellEq at h
  split at h
  · simp_all
  · simp_all
  · rename_i x y
    obtain ⟨⟨x⟩⟩ := x
    obtain ⟨⟨y⟩⟩ := y
    simp_all
  · rw [adEq_eq h]
  · simp only [Bool.and_eq_true] at h
    obtain ⟨⟨h1, h2⟩, h3⟩ := h
    rw [adEq_eq h1, Nat.eq_of_beq_eq_true h2, Nat.eq_of_beq_eq_true h3]
  · rfl
  · rw [Nat.eq_of_beq_eq_true h]
  · rfl
  · rfl
  · cases h
def cellsEq : List Value → List Value → Bool
  | [], [] => true
  | a :: r, b :: s => cellEq a b && cellsEq r s
  | _, _ => false
theorem cellsEq_eq : ∀ {l m : List Value}, cellsEq l m = true → l = m
  | [], [], _ => rfl
  | a :: r, b :: s, h => by
    simp only [cellsEq, Bool.and_eq_true] at h
    rw [cellEq_eq h.1, cellsEq_eq h.2]
  | [], _ :: _, h => by cases h
  | _ :: _, [], h => by cases h
def val1Eq (a b : Value) : Bool := match a, b with
  | .agg x, .agg y => cellsEq x.toList y.toList
  | a, b => cellEq a b
theorem val1Eq_eq {a b : Value} (h : val1Eq a b = true) : a = b := by
  unfold val1Eq at h
  split at h
  · rename_i x y
    obtain ⟨x⟩ := x
    obtain ⟨y⟩ := y
    have := cellsEq_eq h
    simp_all
  · exact cellEq_eq h
def entEq : List MapEntry → List MapEntry → Bool
  | [], [] => true
  | a :: r, b :: s => val1Eq a.key b.key && val1Eq a.val b.val && Nat.beq a.born b.born && entEq r s
  | _, _ => false
theorem entEq_eq : ∀ {l m : List MapEntry}, entEq l m = true → l = m
  | [], [], _ => rfl
  | a :: r, b :: s, h => by
    simp only [entEq, Bool.and_eq_true] at h
    obtain ⟨a1, a2, a3⟩ := a
    obtain ⟨b1, b2, b3⟩ := b
    have h1 := val1Eq_eq h.1.1.1
    have h2 := val1Eq_eq h.1.1.2
    have h3 := Nat.eq_of_beq_eq_true h.1.2
    have h4 := entEq_eq h.2
    simp only at h1 h2 h3
    subst h1; subst h2; subst h3; rw [h4]
  | [], _ :: _, h => by cases h
  | _ :: _, [], h => by cases h
def objEq (a b : Option Obj) : Bool := match a, b with
  | some (.cells x e f), some (.cells y e' f') => Nat.beq e e' && (Nat.beq f.1 f'.1 && Nat.beq f.2 f'.2) && cellsEq x.toList y.toList
  | some (.map x n), some (.map y n') => Nat.beq n n' && entEq x.toList y.toList
  | _, _ => false
theorem objEq_eq {a b : Option Obj} (h : objEq a b = true) : a = b ∧ a.isSome = true := by
  unfold objEq at h
  split at h
  · rename_i x e f y e' f'
    obtain ⟨x⟩ := x
    obtain ⟨y⟩ := y
    obtain ⟨f1, f2⟩ := f
    obtain ⟨f1', f2'⟩ := f'
    simp only [Bool.and_eq_true] at h
    have h1 : e = e' := Nat.eq_of_beq_eq_true h.1.1
    have h2 : f1 = f1' := Nat.eq_of_beq_eq_true h.1.2.1
    have h3 : f2 = f2' := Nat.eq_of_beq_eq_true h.1.2.2
    have h4 : x = y := cellsEq_eq h.2
    subst h1; subst h2; subst h3; subst h4; exact ⟨rfl, rfl⟩
  · rename_i x n y n'
    obtain ⟨x⟩ := x
    obtain ⟨y⟩ := y
    simp only [Bool.and_eq_true] at h
    have h1 : n = n' := Nat.eq_of_beq_eq_true h.1
    have h2 : x = y := entEq_eq h.2
    subst h1; subst h2; exact ⟨rfl, rfl⟩
  · cases h
def sameB (b : Nat) (h h' : T Obj) : Bool := objEq (h.get b) (h'.get b)
theorem sameB_same {b : Nat} {h h' : T Obj} (e : sameB b h h' = true) : same b h h' := objEq_eq e
def allL (b : List Nat) (i : Nat) (h h' : T Obj) : List (Nat × Nat) → Bool
  | [] => true
  | l :: r => match freeL b l.1 i with
    | true => sameB l.2 h h' && allL b i h h' r
    | false => allL b i h h' r
theorem allL_all {b : List Nat} {i : Nat} {h h' : T Obj} : ∀ {ls : List (Nat × Nat)}, allL b i h h' ls = true → ∀ l ∈ ls, freeL b l.1 i = true → same l.2 h h'
  | [], _, l, hl, _ => by cases hl
  | a :: r, e, l, hl, hf => by
    unfold allL at e
    rcases List.mem_cons.1 hl with rfl | hl
    · rw [hf] at e
      simp only [Bool.and_eq_true] at e
      exact sameB_same e.1
    · split at e
      · simp only [Bool.and_eq_true] at e
        exact allL_all e.2 l hl hf
      · exact allL_all e l hl hf
def allM (b : List Nat) (i a : Nat) : List (Nat × T Obj × T Obj) → Bool
  | [] => true
  | m :: r => match freeL b m.1 i with
    | true => sameB a m.2.1 m.2.2 && allM b i a r
    | false => allM b i a r
theorem allM_all {b : List Nat} {i a : Nat} : ∀ {ms : List (Nat × T Obj × T Obj)}, allM b i a ms = true → ∀ m ∈ ms, freeL b m.1 i = true → same a m.2.1 m.2.2
  | [], _, l, hl, _ => by cases hl
  | x :: r, e, l, hl, hf => by
    unfold allM at e
    rcases List.mem_cons.1 hl with rfl | hl
    · rw [hf] at e
      simp only [Bool.and_eq_true] at e
      exact sameB_same e.1
    · split at e
      · simp only [Bool.and_eq_true] at e
        exact allM_all e.2 l hl hf
      · exact allM_all e l hl hf
def opsDB (P : Program) (ro : Ro) (C : CallB) (n : Nat) (ops : Array Oper) (b : List Nat) (n0 : Nat) : List Oper → Nat → List (Nat × Nat) → List (Nat × T Obj × T Obj) → T Value → T Obj → Nat → (T Value → T Obj → Nat → Bool) → Bool
  | [], _, _, _, t, h, nx, Q => Q t h nx
  | o :: r, i, ls, ms, t, h, nx, Q => match wanted ops t o with
    | true => fcN (n0 + i) fun aid => opRB P ro C t h nx aid o.op fun v h' nx' => putT n t o.dst v fun t' => match loud o.op with
      | true => allL b i h h' ls && opsDB P ro C n ops b n0 r (i + 1) ls ((i, h, h') :: ms) t' h' nx' Q
      | false => match rdB P t o.op with
        | some a => allM b i a ms && opsDB P ro C n ops b n0 r (i + 1) ((i, a) :: ls) ms t' h' nx' Q
        | none => opsDB P ro C n ops b n0 r (i + 1) ls ms t' h' nx' Q
    | false => putT n t o.dst undef fun t' => opsDB P ro C n ops b n0 r (i + 1) ls ms t' h nx Q
/-- What must stand ahead, of each operation: a closed term, which the kernel works out once. -/
def befF (ops : Array Oper) : List Nat := CheckFast.beforeL ops.toList 0 []
theorem befF_eq (ops : Array Oper) : befF ops = (bef ops).toList := by
  have := CheckFast.beforeF_eq ops
  unfold befF bef
  rw [← this]; rfl
/-! ### Code -/
abbrev QB := Ex → T Value → T Obj → Nat → Bool
def loopB (B : T Value → T Obj → Nat → QB → Bool) : Nat → T Value → T Obj → Nat → QB → Bool
  | 0, _, _, _, _ => false
  | k + 1, t, h, nx, Q => B t h nx fun x t h nx => match x with
    | .normal => loopB B k t h nx Q
    | .exit i => Q (.exit i) t h nx
    | .ret => Q .ret t h nx
def codeE (P : Program) (ro : Ro) (C : CallB) (n : Nat) : Code → T Value → T Obj → Nat → QB → Bool
  | .skip, t, h, nx, Q => Q .normal t h nx
  | .label _, t, h, nx, Q => Q .normal t h nx
  | .ret, t, h, nx, Q => Q .ret t h nx
  | .exit id, t, h, nx, Q => Q (.exit id) t h nx
  | .seq a b, t, h, nx, Q => codeE P ro C n a t h nx fun x t h nx => match x with
    | .normal => codeE P ro C n b t h nx Q
    | .exit i => Q (.exit i) t h nx
    | .ret => Q .ret t h nx
  | .cond c a b, t, h, nx, Q => bB (evl t c) fun v => match v with
    | .bool true => codeE P ro C n a t h nx Q
    | .bool false => codeE P ro C n b t h nx Q
    | _ => false
  | .block id b, t, h, nx, Q => codeE P ro C n b t h nx fun x t h nx => match x with
    | .normal => Q .normal t h nx
    | .exit i => match Nat.beq i id with
      | true => Q .normal t h nx
      | false => Q (.exit i) t h nx
    | .ret => Q .ret t h nx
  | .loop b, t, h, nx, Q => loopB (codeE P ro C n b) 100000 t h nx Q
  | .scope b, t, h, nx, Q => codeE P ro C n b t h nx Q
  | .region _ ops draw, t, h, nx, Q => match draw with
    | false => opsB P ro C n ops ops.toList t h nx (Q .normal)
    | true => match drawOkL P ops (befF ops) with
      | true => fcN (nx + ops.size) fun nx' => opsDB P ro C n ops (befF ops) nx ops.toList 0 [] [] t h nx' (Q .normal)
      | false => false
  | _, _, _, _, _ => false
def entryK : List Value → Nat → T Value → (T Value → Bool) → Bool
  | [], _, t, K => K t
  | v :: vs, i, t, K => upK t i (some v) fun t => entryK vs (Nat.succ i) t K
theorem entryK_eq : ∀ (l : List Value) (i : Nat) (t : T Value) (K : T Value → Bool), entryK l i t K = K (entryT l i t)
  | [], i, t, K => rfl
  | v :: vs, i, t, K => by rw [entryK, upK_eq, entryK_eq vs]; rfl
def callE (P : Program) (ro : Ro) : Nat → CallB
  | 0, _, _, _, _, _ => false
  | k + 1, f, args, h, nx, K => bB P.funcs[f]? fun fn => bB fn.body fun body => match Nat.ble args.length fn.ntmps with
    | true => entryK args 0 .e fun t => codeE P ro (callE P ro k) fn.ntmps body t h nx fun x t h nx => match x with
      | .exit _ => false
      | .normal => bB (resV P ro h t fn.results.toList) fun vs => fcV (resOf vs) fun v => K v h nx
      | .ret => bB (resV P ro h t fn.results.toList) fun vs => fcV (resOf vs) fun v => K v h nx
    | false => false
/-! ### It tells the truth -/
section
variable {P : Program} {ro : Ro}
def CallS (P : Program) (ro : Ro) (C : CallB) : Prop := ∀ f args h nx K, C f args h nx K = true → ∃ k v h' nx', call P ro k f args h nx v h' nx' ∧ K v h' nx' = true
theorem opLB_sound {C : CallB} (hC : CallS P ro C) {t : T Value} {h : T Obj} {nx : Nat} {op : Op} {K : KB} (hl : opLB P ro C t h nx op K = true) :
    ∃ k v h' nx', opL P ro (call P ro k) t h nx op v h' nx' ∧ K v h' nx' = true := by
  cases op with
  | store ty a x =>
    obtain ⟨a', h1, hl⟩ := bB_some hl
    obtain ⟨x', h2, hl⟩ := bB_some hl
    rw [storeB_eq] at hl
    obtain ⟨h', h4, hl⟩ := bB_some hl
    exact ⟨0, _, _, _, ⟨a', x', h1, h2, h4, rfl, rfl⟩, hl⟩
  | mapUpdate ty m k x | insert ty m k x =>
    obtain ⟨m', h1, hl⟩ := bB_some hl
    obtain ⟨k', h2, hl⟩ := bB_some hl
    obtain ⟨x', h3, hl⟩ := bB_some hl
    obtain ⟨h', h4, hl⟩ := bB_some hl
    exact ⟨0, _, _, _, ⟨m', k', x', h1, h2, h3, h4, rfl, rfl⟩, hl⟩
  | call c =>
    obtain ⟨callee, args, ts⟩ := c
    cases callee with
    | builtin b =>
      obtain ⟨vs, h1, hl⟩ := bB_some hl
      cases b <;> try (exact Bool.noConfusion hl)
      case append =>
        simp only [appendB_eq] at hl
        obtain ⟨r, h2, hl⟩ := bB_some hl
        exact ⟨0, _, _, _, ⟨vs, h1, h2⟩, hl⟩
      case copy =>
        obtain ⟨r, h2, hl⟩ := bB_some hl
        rw [apB_eq] at hl
        exact ⟨0, _, _, _, ⟨vs, h1, h2⟩, hl⟩
      case clear =>
        simp only at hl
        split at hl
        · rename_i m ty hty
          obtain ⟨d, h2, hl⟩ := bB_some hl
          obtain ⟨h', h3, hl⟩ := bB_some hl
          exact ⟨0, _, _, _, ⟨_, h1, m, ty, rfl, hty, by rw [h2]; rfl, h3, rfl, rfl⟩, hl⟩
        · cases hl
    | value f =>
      obtain ⟨fv, h1, hl⟩ := bB_some hl
      obtain ⟨vs, h2, hl⟩ := bB_some hl
      split at hl
      · rename_i k a b _
        obtain ⟨k', v, h', nx', h3, h4⟩ := hC _ _ _ _ _ hl
        exact ⟨k', v, h', nx', ⟨k, a, b, vs, h1, h2, h3⟩, h4⟩
      · cases hl
    | invoke r m => cases hl
  | convert s d x =>
    obtain ⟨v, h1, hl⟩ := bB_some hl
    obtain ⟨r, h2, hl⟩ := bB_some hl
    exact ⟨0, _, _, _, ⟨v, h1, h2, rfl⟩, hl⟩
  | _ => cases hl
theorem opRB_sound {C : CallB} (hC : CallS P ro C) {t : T Value} {h : T Obj} {nx aid : Nat} {op : Op} {K : KB} (hl : opRB P ro C t h nx aid op K = true) :
    ∃ k v h' nx', opR P ro (call P ro k) t h nx aid op v h' nx' ∧ K v h' nx' = true := by
  unfold opRB at hl
  unfold opR
  cases hq : loud op with
  | true => rw [hq] at hl; exact opLB_sound hC hl
  | false =>
    rw [hq] at hl
    have gen : ∀ op, bB (opQB P ro t h aid op) (fun r => fcV r.1 fun v => addK h aid r.2 fun h' => K v h' nx) = true → ∃ (v : Value) (h' : T Obj) (nx' : Nat), (∃ ob, opQ P ro t h aid op = some (v, ob) ∧ h' = addO h aid ob ∧ nx' = nx) ∧ K v h' nx' = true := by
      intro op hl
      simp only [fcV_eq, addK_eq, opQB_eq] at hl
      obtain ⟨r, h1, h2⟩ := bB_some hl
      exact ⟨r.1, _, _, ⟨r.2, h1, rfl, rfl⟩, h2⟩
    simp only at hl ⊢
    have key : ∃ v h' nx', (∃ ob, opQ P ro t h aid op = some (v, ob) ∧ h' = addO h aid ob ∧ nx' = nx) ∧ K v h' nx' = true := by
      split at hl
      · rename_i ty x
        obtain ⟨v, h1, hl⟩ := bB_some hl
        split at hl
        · rename_i a
          rw [loadK_eq] at hl
          obtain ⟨u, h2, h3⟩ := bB_some hl
          exact ⟨u, h, nx, ⟨none, by simp only [opQ]; rw [h1]; show (loadV P ro h ty a).bind _ = _; rw [h2]; rfl, rfl, rfl⟩, h3⟩
        · cases hl
      · obtain ⟨v, h1, hl⟩ := bB_some hl
        exact ⟨v, h, nx, ⟨none, by simp only [opQ]; rw [h1]; rfl, rfl, rfl⟩, hl⟩
      · obtain ⟨v, h1, hl⟩ := bB_some hl
        exact ⟨v, h, nx, ⟨none, by simp only [opQ]; rw [h1]; rfl, rfl, rfl⟩, hl⟩
      · exact gen _ hl
    obtain ⟨v, h', nx', q1, q2⟩ := key
    exact ⟨0, v, h', nx', q1, q2⟩
theorem opsB_sound {C : CallB} (hC : CallS P ro C) {n : Nat} {ops : Array Oper} : ∀ (l : List Oper) (t : T Value) (h : T Obj) (nx : Nat) (Q : T Value → T Obj → Nat → Bool), opsB P ro C n ops l t h nx Q = true →
    ∃ k s', opsR P ro (call P ro k) n ops l ⟨t, h, nx⟩ s' ∧ Q s'.t s'.h s'.nx = true := by
  intro l
  induction l with
  | nil => intro t h nx Q hq; exact ⟨0, _, rfl, hq⟩
  | cons o r ih =>
    intro t h nx Q hq
    simp only [opsB, fcN_eq] at hq
    simp only [opsR]
    cases hw : wanted ops t o with
    | true =>
      rw [hw] at hq
      obtain ⟨k1, v, h', nx', h1, h2⟩ := opRB_sound hC hq
      obtain ⟨t', h3, h4⟩ := putT_some h2
      obtain ⟨k2, s', h5, h6⟩ := ih _ _ _ _ h4
      exact ⟨max k1 k2, s', ⟨v, h', nx', t', opR_le (call_le (Nat.le_max_left _ _)) h1, h3, opsR_le (call_le (Nat.le_max_right _ _)) _ _ _ h5⟩, h6⟩
    | false =>
      rw [hw] at hq
      obtain ⟨t', h3, h4⟩ := putT_some hq
      obtain ⟨k2, s', h5, h6⟩ := ih _ _ _ _ h4
      exact ⟨k2, s', ⟨t', h3, h5⟩, h6⟩
theorem opsDB_sound {C : CallB} (hC : CallS P ro C) {n n0 : Nat} {ops : Array Oper} : ∀ (l : List Oper) (i : Nat) (ls : List (Nat × Nat)) (ms : List (Nat × T Obj × T Obj)) (t : T Value) (h : T Obj) (nx : Nat) (Q : T Value → T Obj → Nat → Bool),
    opsDB P ro C n ops (bef ops).toList n0 l i ls ms t h nx Q = true → ∃ k s', opsD P ro (call P ro k) n ops n0 l i ls ms ⟨t, h, nx⟩ s' ∧ Q s'.t s'.h s'.nx = true := by
  intro l
  induction l with
  | nil => intro i ls ms t h nx Q hq; exact ⟨0, _, rfl, hq⟩
  | cons o r ih =>
    intro i ls ms t h nx Q hq
    simp only [opsDB, fcN_eq] at hq
    simp only [opsD]
    cases hw : wanted ops t o with
    | true =>
      rw [hw] at hq
      obtain ⟨k1, v, h', nx', h1, h2⟩ := opRB_sound hC hq
      obtain ⟨t', h3, h4⟩ := putT_some h2
      cases hl : loud o.op with
      | true =>
        rw [hl] at h4
        simp only [Bool.and_eq_true] at h4
        obtain ⟨k2, s', h5, h6⟩ := ih _ _ _ _ _ _ _ h4.2
        refine ⟨max k1 k2, s', ⟨v, h', nx', t', opR_le (call_le (Nat.le_max_left _ _)) h1, h3, ?_, opsD_le (call_le (Nat.le_max_right _ _)) _ _ _ _ _ _ h5⟩, h6⟩
        intro q hq hf
        exact allL_all h4.1 q hq (by rw [← freeL_eq] at hf; exact hf)
      | false =>
        rw [hl] at h4
        simp only at h4
        cases hr : rdB P t o.op with
        | none =>
          rw [hr] at h4
          obtain ⟨k2, s', h5, h6⟩ := ih _ _ _ _ _ _ _ h4
          exact ⟨max k1 k2, s', ⟨v, h', nx', t', opR_le (call_le (Nat.le_max_left _ _)) h1, h3, opsD_le (call_le (Nat.le_max_right _ _)) _ _ _ _ _ _ h5⟩, h6⟩
        | some a =>
          rw [hr] at h4
          simp only [Bool.and_eq_true] at h4
          obtain ⟨k2, s', h5, h6⟩ := ih _ _ _ _ _ _ _ h4.2
          refine ⟨max k1 k2, s', ⟨v, h', nx', t', opR_le (call_le (Nat.le_max_left _ _)) h1, h3, ?_, opsD_le (call_le (Nat.le_max_right _ _)) _ _ _ _ _ _ h5⟩, h6⟩
          intro q hq hf
          exact allM_all h4.1 q hq (by rw [← freeL_eq] at hf; exact hf)
    | false =>
      rw [hw] at hq
      obtain ⟨t', h3, h4⟩ := putT_some hq
      obtain ⟨k2, s', h5, h6⟩ := ih _ _ _ _ _ _ _ h4
      exact ⟨k2, s', ⟨t', h3, h5⟩, h6⟩
def CodeS (P : Program) (ro : Ro) (n : Nat) (c : Code) (B : T Value → T Obj → Nat → QB → Bool) : Prop :=
  ∀ t h nx Q, B t h nx Q = true → ∃ k x s', code P ro k n c ⟨t, h, nx⟩ x s' ∧ Q x s'.t s'.h s'.nx = true
theorem loopB_sound {n : Nat} {b : Code} {B : T Value → T Obj → Nat → QB → Bool} (hB : CodeS P ro n b B) : ∀ (j : Nat) (t : T Value) (h : T Obj) (nx : Nat) (Q : QB), loopB B j t h nx Q = true →
    ∃ k x s', code P ro k n (.loop b) ⟨t, h, nx⟩ x s' ∧ Q x s'.t s'.h s'.nx = true := by
  intro j
  induction j with
  | zero => intro t h nx Q hq; cases hq
  | succ j ih =>
    intro t h nx Q hq
    obtain ⟨k1, x, s1, h1, h2⟩ := hB _ _ _ _ hq
    cases x with
    | normal =>
      obtain ⟨k2, x, s2, h5, h6⟩ := ih _ _ _ _ h2
      exact ⟨max k1 k2 + 1, x, s2, .inl ⟨s1, s1.h, code_le (Nat.le_max_left _ _) _ _ _ _ _ h1, fun _ _ e => e, code_le (Nat.le_max_right _ _) _ _ _ _ _ h5⟩, h6⟩
    | exit id => exact ⟨k1 + 1, _, s1, .inr ⟨by simp, h1⟩, h2⟩
    | ret => exact ⟨k1 + 1, _, s1, .inr ⟨by simp, h1⟩, h2⟩
theorem codeE_sound {C : CallB} (hC : CallS P ro C) {n : Nat} : ∀ c : Code, CodeS P ro n c (codeE P ro C n c) := by
  intro c
  induction c with
  | skip | label => intro t h nx Q hp; exact ⟨1, .normal, _, ⟨rfl, rfl⟩, hp⟩
  | ret => intro t h nx Q hp; exact ⟨1, .ret, _, ⟨rfl, rfl⟩, hp⟩
  | exit id => intro t h nx Q hp; exact ⟨1, .exit id, _, ⟨rfl, rfl⟩, hp⟩
  | seq a b iha ihb =>
    intro t h nx Q hp
    obtain ⟨k1, x, s1, h1, h2⟩ := iha _ _ _ _ hp
    cases x with
    | normal =>
      obtain ⟨k2, x, s2, h5, h6⟩ := ihb _ _ _ _ h2
      exact ⟨max k1 k2 + 1, x, s2, .inl ⟨s1, code_le (Nat.le_max_left _ _) _ _ _ _ _ h1, code_le (Nat.le_max_right _ _) _ _ _ _ _ h5⟩, h6⟩
    | exit id => exact ⟨k1 + 1, _, s1, .inr ⟨by simp, h1⟩, h2⟩
    | ret => exact ⟨k1 + 1, _, s1, .inr ⟨by simp, h1⟩, h2⟩
  | cond c a b iha ihb =>
    intro t h nx Q hp
    obtain ⟨v, h1, h2⟩ := bB_some hp
    split at h2
    · obtain ⟨k, x, s1, h3, h4⟩ := iha _ _ _ _ h2
      exact ⟨k + 1, x, s1, ⟨true, h1, h3⟩, h4⟩
    · obtain ⟨k, x, s1, h3, h4⟩ := ihb _ _ _ _ h2
      exact ⟨k + 1, x, s1, ⟨false, h1, h3⟩, h4⟩
    · cases h2
  | block id b ihb =>
    intro t h nx Q hp
    obtain ⟨k, x, s1, h1, h2⟩ := ihb _ _ _ _ hp
    cases x with
    | normal => exact ⟨k + 1, _, s1, ⟨_, h1, rfl⟩, h2⟩
    | ret => exact ⟨k + 1, _, s1, ⟨_, h1, rfl⟩, h2⟩
    | exit i =>
      refine ⟨k + 1, _, s1, ⟨_, h1, rfl⟩, ?_⟩
      simp only at h2 ⊢
      cases hb : Nat.beq i id with
      | true => rw [hb] at h2; exact h2
      | false => rw [hb] at h2; exact h2
  | loop b ihb => intro t h nx Q hp; exact loopB_sound ihb _ _ _ _ _ hp
  | scope b ihb =>
    intro t h nx Q hp
    obtain ⟨k, x, s1, h1, h2⟩ := ihb _ _ _ _ hp
    exact ⟨k + 1, x, s1, h1, h2⟩
  | region id ops draw =>
    intro t h nx Q hp
    cases draw with
    | false =>
      obtain ⟨k, s', h1, h2⟩ := opsB_sound hC _ _ _ _ _ hp
      exact ⟨k + 1, .normal, s', ⟨rfl, h1⟩, h2⟩
    | true =>
      simp only [codeE] at hp
      rw [befF_eq, drawOkL_eq] at hp
      cases hd : drawOk P ops with
      | false => rw [hd] at hp; cases hp
      | true =>
        rw [hd] at hp
        simp only [fcN_eq] at hp
        obtain ⟨k, s', h1, h2⟩ := opsDB_sound hC _ _ _ _ _ _ _ _ hp
        exact ⟨k + 1, .normal, s', ⟨rfl, hd, h1⟩, h2⟩
  | _ => intro t h nx Q hp; cases hp
theorem callE_sound : ∀ k, CallS P ro (callE P ro k) := by
  intro k
  induction k with
  | zero => intro f args h nx K hc; cases hc
  | succ k ih =>
    intro f args h nx K hc
    simp only [callE] at hc
    obtain ⟨fn, h1, hc⟩ := bB_some hc
    obtain ⟨body, h2, hc⟩ := bB_some hc
    split at hc
    · rename_i hb
      rw [entryK_eq] at hc
      obtain ⟨j, x, s, h3, h4⟩ := codeE_sound ih body _ _ _ _ hc
      cases x with
      | exit i => cases h4
      | normal =>
        obtain ⟨vs, h5, h6⟩ := bB_some h4
        rw [fcV_eq] at h6
        exact ⟨j, _, _, _, .inl ⟨fn, body, .normal, s, vs, h1, h2, Nat.le_of_ble_eq_true hb, h3, .inl rfl, h5, rfl, fun _ _ e => e, rfl⟩, h6⟩
      | ret =>
        obtain ⟨vs, h5, h6⟩ := bB_some h4
        rw [fcV_eq] at h6
        exact ⟨j, _, _, _, .inl ⟨fn, body, .ret, s, vs, h1, h2, Nat.le_of_ble_eq_true hb, h3, .inr rfl, h5, rfl, fun _ _ e => e, rfl⟩, h6⟩
    · cases hc
/-- What the evaluator is to end with. -/
def endB (want : Value) : KB := fun v _ _ => val1Eq v want
/-- A call that the evaluator has carried out. -/
theorem callP_ev {k : Nat} {f : FuncId} {args : List Value} {nx : Nat} {want : Value} {K : KV} (h : callE P ro k f args .e nx (endB want) = true) (hK : ∀ n, K want .e n) : callP P ro f args .e nx K := by
  obtain ⟨j, v, h', nx', h1, h2⟩ := callE_sound k _ _ _ _ _ h
  have e1 := val1Eq_eq h2
  subst e1
  rcases h1 with ⟨fn, body, e, s, vs, g1, g2, g3, g4, g5, g6, g7, g8, g9⟩ | ⟨g1, g2, g3, g4⟩
  · exact ⟨j, _, .e, _, .inl ⟨fn, body, e, s, vs, g1, g2, g3, g4, g5, g6, g7, (fun k o hk => by rw [T.get_e] at hk; cases hk), g9⟩, hK _⟩
  · exact ⟨j, _, .e, _, .inr ⟨g1, g2, fun _ _ e => e, g4⟩, hK _⟩
end
end V
end Go.Proofs.Ytepbdkfkfcckoaa
