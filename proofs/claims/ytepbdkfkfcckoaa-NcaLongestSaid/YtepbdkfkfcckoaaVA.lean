/- A machine over values and blocks of its own, for code that makes, reads and writes its own memory and only reads what came in: the definitions.
   No condition. -/
import Derived.Orders
import Derived.Laws.AppendOwn
import Derived.Calls
namespace Go.Proofs.Ytepbdkfkfcckoaa
namespace V

/-! ### Maps from numbers -/
inductive T (α : Type) where
  | e : T α
  | n (l : T α) (v : Option α) (r : T α) : T α

def T.get {α : Type} : T α → Nat → Option α
  | .e, _ => none
  | .n l v r, k => match k with
    | 0 => v
    | k' + 1 => match Nat.beq (k' % 2) 0 with
      | true => l.get (k' / 2)
      | false => r.get (k' / 2)

def T.updF {α : Type} (o : Option α) : Nat → T α → Nat → T α
  | 0, t, _ => t
  | f + 1, .e, k => match k with
    | 0 => .n .e o .e
    | k' + 1 => match Nat.beq (k' % 2) 0 with
      | true => .n (T.updF o f .e (k' / 2)) none .e
      | false => .n .e none (T.updF o f .e (k' / 2))
  | f + 1, .n l v r, k => match k with
    | 0 => .n l o r
    | k' + 1 => match Nat.beq (k' % 2) 0 with
      | true => .n (T.updF o f l (k' / 2)) v r
      | false => .n l v (T.updF o f r (k' / 2))

def T.upd {α : Type} (t : T α) (k : Nat) (o : Option α) : T α := T.updF o (k + 1) t k

theorem T.get_updF_same {α : Type} (o : Option α) : ∀ (f : Nat) (t : T α) (k : Nat), k < f → (T.updF o f t k).get k = o := by
  intro f
  induction f with
  | zero => intro t k h; omega
  | succ f ih =>
    intro t k h
    cases t with
    | e =>
      cases k with
      | zero => rfl
      | succ k =>
        simp only [T.updF]
        cases hb : Nat.beq (k % 2) 0 with
        | true => simp only [T.get, hb]; exact ih _ _ (by omega)
        | false => simp only [T.get, hb]; exact ih _ _ (by omega)
    | n l v r =>
      cases k with
      | zero => rfl
      | succ k =>
        simp only [T.updF]
        cases hb : Nat.beq (k % 2) 0 with
        | true => simp only [T.get, hb]; exact ih _ _ (by omega)
        | false => simp only [T.get, hb]; exact ih _ _ (by omega)

theorem T.half_ne {i k : Nat} (h : i ≠ k) (hb : Nat.beq (i % 2) 0 = Nat.beq (k % 2) 0) : i / 2 ≠ k / 2 := by
  intro e
  apply h
  have hi := Nat.div_add_mod i 2
  have hk := Nat.div_add_mod k 2
  have : i % 2 = k % 2 := by
    rcases Nat.mod_two_eq_zero_or_one i with a | a <;> rcases Nat.mod_two_eq_zero_or_one k with b | b <;> simp [a, b] at hb ⊢
  omega

theorem T.get_updF_ne {α : Type} (o : Option α) : ∀ (f : Nat) (t : T α) (k i : Nat), i ≠ k → (T.updF o f t k).get i = t.get i := by
  intro f
  induction f with
  | zero => intro t k i h; rfl
  | succ f ih =>
    intro t k i h
    cases t with
    | e =>
      cases k with
      | zero =>
        cases i with
        | zero => exact absurd rfl h
        | succ i => simp only [T.updF, T.get]; cases Nat.beq (i % 2) 0 <;> rfl
      | succ k =>
        simp only [T.updF]
        cases hb : Nat.beq (k % 2) 0 with
        | true =>
          cases i with
          | zero => rfl
          | succ i =>
            simp only [T.get]
            cases hc : Nat.beq (i % 2) 0 with
            | true => simp only; rw [ih _ _ _ (T.half_ne (by omega) (hc.trans hb.symm))]; rfl
            | false => rfl
        | false =>
          cases i with
          | zero => rfl
          | succ i =>
            simp only [T.get]
            cases hc : Nat.beq (i % 2) 0 with
            | true => rfl
            | false => simp only; rw [ih _ _ _ (T.half_ne (by omega) (hc.trans hb.symm))]; rfl
    | n l v r =>
      cases k with
      | zero =>
        cases i with
        | zero => exact absurd rfl h
        | succ i => simp only [T.updF, T.get]
      | succ k =>
        simp only [T.updF]
        cases hb : Nat.beq (k % 2) 0 with
        | true =>
          cases i with
          | zero => rfl
          | succ i =>
            simp only [T.get]
            cases hc : Nat.beq (i % 2) 0 with
            | true => simp only; exact ih _ _ _ (T.half_ne (by omega) (hc.trans hb.symm))
            | false => rfl
        | false =>
          cases i with
          | zero => rfl
          | succ i =>
            simp only [T.get]
            cases hc : Nat.beq (i % 2) 0 with
            | true => rfl
            | false => simp only; exact ih _ _ _ (T.half_ne (by omega) (hc.trans hb.symm))

theorem T.get_upd_same {α : Type} (t : T α) (k : Nat) (o : Option α) : (t.upd k o).get k = o := T.get_updF_same o (k + 1) t k (by omega)
theorem T.get_upd_ne {α : Type} (t : T α) {k i : Nat} (o : Option α) (h : i ≠ k) : (t.upd k o).get i = t.get i := T.get_updF_ne o (k + 1) t k i h
theorem T.get_upd {α : Type} (t : T α) (k i : Nat) (o : Option α) : (t.upd k o).get i = if i = k then o else t.get i := by
  by_cases h : i = k
  · subst h; rw [if_pos rfl, T.get_upd_same]
  · rw [if_neg h, T.get_upd_ne _ _ h]
theorem T.get_e {α : Type} (i : Nat) : (T.e : T α).get i = none := rfl

/-! ### Values -/
/-- A value that holds no address. -/
def flat : Value → Bool
  | .bool _ | .int _ _ | .float _ _ | .complex _ _ _ | .string _ | .nilFunc | .nilIface => true
  | .pointer a => a.isNone
  | .slice a _ _ => a.isNone
  | .map r => r.isNone
  | .chan r => r.isNone
  | _ => false

/-- What is read of memory that came in. -/
abbrev Ro := Addr → Option Value

/-- A type's row in the program's own table. -/
def tin (P : Program) (t : TypeId) : Option TypeInfo := P.types[t]?
def und (P : Program) (t : TypeId) : Option TypeDesc :=
  match tin P t with
  | some { desc := .named _ u, .. } => (tin P u).map (·.desc)
  | some i => some i.desc
  | none => none
def siz (P : Program) (t : TypeId) : Option Nat := (tin P t).map (·.size)
def zer (P : Program) (t : TypeId) : Option Value := (tin P t).bind fun i => match i.zero with
  | some (.tuple _) => none
  | z => z
def isAgg (P : Program) (t : TypeId) : Option Bool :=
  match und P t with
  | some (.struct _) => some true
  | some (.array _ _) => some true
  | some _ => some false
  | none => none

/-- An operand's value. -/
def evl (t : T Value) : Operand → Option Value
  | .tmp i => some ((t.get i).getD undef)
  | .const v => match flat v with
    | true => some v
    | false => none
  | .global _ => none
  | .func f => some (.func (.func f) #[] #[])
def evlL (t : T Value) : List Operand → Option (List Value)
  | [] => some []
  | x :: r => (evl t x).bind fun v => (evlL t r).bind fun vs => some (v :: vs)
def evlO (t : T Value) : Option Operand → Option (Option Value)
  | none => some none
  | some x => (evl t x).bind fun v => some (some v)
def evlP (t : T Value) : List (Nat × Operand) → Option (List (Nat × Value))
  | [] => some []
  | x :: r => (evl t x.2).bind fun v => (evlP t r).bind fun vs => some ((x.1, v) :: vs)

/-! ### Reading -/
def roCells (ro : Ro) (a : Addr) : Nat → Option (List Value)
  | 0 => some []
  | n + 1 => (ro a).bind fun v => (roCells ro ⟨a.block, a.off + 1, none⟩ n).bind fun vs => some (v :: vs)
def cellsAt (ro : Ro) (h : T Obj) (a : Addr) (n : Nat) : Option (List Value) :=
  match a.spot with
  | none => roCells ro a n
  | some _ => match h.get a.block with
    | some (.cells c _ _) => match Nat.ble (a.off + n) c.size with
      | true => some ((c.toList.drop a.off).take n)
      | false => none
    | _ => none
def loadV (P : Program) (ro : Ro) (h : T Obj) (t : TypeId) (a : Addr) : Option Value :=
  match isAgg P t with
  | some true => (siz P t).bind fun n => (cellsAt ro h a n).bind fun l => some (.agg l.toArray)
  | some false => match cellsAt ro h a 1 with
    | some [v] => some v
    | _ => none
  | none => none
/-- An address some cells on. -/
def fwd (a : Addr) (n : Nat) : Addr := { a with off := a.off + n }
/-- A pointer into a slice's row. -/
def elt (a : Addr) (n : Nat) : Addr := { a with off := a.off + n, spot := a.spot.map fun _ => 0 }

/-! ### Operations on values -/
def wr (k : IntKind) (n : Int) : Int :=
  match k with
  | .i64 => match decide (-9223372036854775808 ≤ n), decide (n ≤ 9223372036854775807) with
    | true, true => n
    | _, _ => IntKind.i64.wrap n
  | .u8 => match decide (0 ≤ n), decide (n ≤ 255) with
    | true, true => n
    | _, _ => IntKind.u8.wrap n
  | .u64 => match decide (0 ≤ n), decide (n ≤ 18446744073709551615) with
    | true, true => n
    | _, _ => IntKind.u64.wrap n
  | k => k.wrap n
def bitsV (op : BinOp) (k : IntKind) (x y : Int) : Option Int :=
  match op, k, decide (0 ≤ x), decide (0 ≤ y), decide (x ≤ 18446744073709551615), decide (y ≤ 18446744073709551615) with
  | .and, .u64, true, true, true, true => some (Nat.land x.toNat y.toNat : Nat)
  | .or, .u64, true, true, true, true => some (Nat.lor x.toNat y.toNat : Nat)
  | .xor, .u64, true, true, true, true => some (Nat.xor x.toNat y.toNat : Nat)
  | .and, k, _, _, _, _ => some (k.wrap (BitVec.ofInt k.bits x &&& BitVec.ofInt k.bits y).toNat)
  | .or, k, _, _, _, _ => some (k.wrap (BitVec.ofInt k.bits x ||| BitVec.ofInt k.bits y).toNat)
  | .xor, k, _, _, _, _ => some (k.wrap (BitVec.ofInt k.bits x ^^^ BitVec.ofInt k.bits y).toNat)
  | _, _, _, _, _, _ => none
def intV (op : BinOp) (k : IntKind) (x y : Int) : Option Value :=
  match op with
  | .add => some (.int k (wr k (x + y)))
  | .sub => some (.int k (wr k (x - y)))
  | .mul => some (.int k (wr k (x * y)))
  | .quo => match decide (y = 0) with
    | true => none
    | false => some (.int k (wr k (x.tdiv y)))
  | .rem => match decide (y = 0) with
    | true => none
    | false => some (.int k (x.tmod y))
  | .eql => some (.bool (decide (x = y)))
  | .neq => some (.bool (!decide (x = y)))
  | .lss => some (.bool (decide (x < y)))
  | .leq => some (.bool (decide (x ≤ y)))
  | .gtr => some (.bool (decide (y < x)))
  | .geq => some (.bool (decide (y ≤ x)))
  | .and | .or | .xor => (bitsV op k x y).bind fun n => some (.int k n)
  | _ => none
def shiftV (op : BinOp) (k : IntKind) (x y : Int) : Option Value :=
  match decide (0 ≤ y), op with
  | true, .shl => some (.int k (wr k (x * ((2 ^ (min y.toNat k.bits) : Nat) : Int))))
  | true, .shr => some (.int k (x.fdiv ((2 ^ (min y.toNat k.bits) : Nat) : Int)))
  | _, _ => none
def strV (op : BinOp) (x y : ByteArray) : Option Value :=
  match op with
  | .add => match decide (((x.size + y.size : Nat) : Int) ≤ 9223372036854775807) with
    | true => some (.string (x ++ y))
    | false => none
  | .eql => some (.bool (x.data.toList == y.data.toList))
  | .neq => some (.bool (!(x.data.toList == y.data.toList)))
  | .lss => some (.bool (Op.bytesLess x.data.toList y.data.toList))
  | .gtr => some (.bool (!(Op.bytesLess x.data.toList y.data.toList || x.data.toList == y.data.toList)))
  | .leq => some (.bool (Op.bytesLess x.data.toList y.data.toList || x.data.toList == y.data.toList))
  | .geq => some (.bool (!(Op.bytesLess x.data.toList y.data.toList)))
  | _ => none
/-- Are two cells of a class (0: bools, 1: numbers, 2: texts) the same? -/
def eqCell : Nat → Value → Value → Option Bool
  | 0, .bool a, .bool b => some (a == b)
  | 1, .int k a, .int k' b => match decide (k = k') with
    | true => some (decide (a = b))
    | false => none
  | 2, .string a, .string b => some (a.data.toList == b.data.toList)
  | _, _, _ => none
def eqCells : List Nat → List Value → List Value → Option Bool
  | [], [], [] => some true
  | k :: ks, x :: xs, y :: ys => (eqCell k x y).bind fun b => (eqCells ks xs ys).bind fun c => some (b && c)
  | _, _, _ => none
def timesL (l : List Nat) : Nat → List Nat
  | 0 => []
  | n + 1 => l ++ timesL l n
/-- A type's cells, by classes, if it is of bools, numbers and texts alone, without fields of no name. -/
def plainTy (P : Program) : (d : Nat) → TypeId → Option (List Nat)
  | 0, _ => none
  | d + 1, t => match und P t with
    | some .bool => some [0]
    | some (.int _) => some [1]
    | some .string => some [2]
    | some (.array n e) => (plainTy P d e).bind fun k => match Nat.beq ((siz P e).getD 0) k.length, Nat.blt 0 k.length with
      | true, true => some (timesL k n)
      | _, _ => none
    | some (.struct fs) => match P.stoodInHeld t with
      | true => none
      | false => fs.toList.foldl (fun o f => o.bind fun k => (plainTy P d f.type).bind fun j =>
        match f.name == "_", Nat.beq f.offset k.length, Nat.beq ((siz P f.type).getD 0) j.length, Nat.blt 0 j.length with
        | false, true, true, true => some (k ++ j)
        | _, _, _, _ => none) (some [])
    | _ => none
def nilEq : TypeDesc → Value → Value → Option Bool
  | .pointer _, .pointer none, .pointer b => some b.isNone
  | .pointer _, .pointer a, .pointer none => some a.isNone
  | .slice _, .slice none _ _, .slice b _ _ => some b.isNone
  | .slice _, .slice a _ _, .slice none _ _ => some a.isNone
  | .bool, .bool a, .bool b => some (a == b)
  | _, _, _ => none
def eqlV (P : Program) (t : TypeId) (x y : Value) : Option Bool :=
  match x, y with
  | .agg xs, .agg ys => match isAgg P t with
    | some true => (plainTy P 20 t).bind fun ks => eqCells ks xs.toList ys.toList
    | _ => none
  | x, y => (und P t).bind fun d => nilEq d x y
def eqOpV (P : Program) (op : BinOp) (t : TypeId) (x y : Value) : Option Value :=
  match op with
  | .eql => (eqlV P t x y).bind fun b => some (.bool b)
  | .neq => (eqlV P t x y).bind fun b => some (.bool (!b))
  | _ => none
def binV (P : Program) (op : BinOp) (t : TypeId) (x y : Value) : Option Value :=
  match x, y with
  | .int k a, .int k' b => match op with
    | .shl | .shr => shiftV op k a b
    | _ => match decide (k = k') with
      | true => intV op k a b
      | false => none
  | .string a, .string b => strV op a b
  | x, y => eqOpV P op t x y
def unV (op : UnOp) (x : Value) : Option Value :=
  match op, x with
  | .not, .bool b => some (.bool (!b))
  | .neg, .int k n => some (.int k (wr k (0 - n)))
  | _, _ => none
def fldV (P : Program) (t : TypeId) (f : Nat) : Option Field :=
  match und P t with
  | some (.struct fs) => fs[f]?
  | _ => none
def partV (P : Program) (t : TypeId) (cs : Array Value) (off : Nat) : Option Value :=
  match isAgg P t with
  | some true => (siz P t).bind fun n => match Nat.ble (off + n) cs.size with
    | true => some (.agg ((cs.toList.drop off).take n).toArray)
    | false => none
  | some false => cs[off]?
  | none => none
/-- Cells put over others. -/
def over (l : List Value) (off : Nat) (vs : List Value) : List Value := l.take off ++ vs ++ l.drop (off + vs.length)
def fillV (place : Nat → Option (Nat × Nat)) (cells : List Value) : List (Nat × Value) → Option (List Value)
  | [] => some cells
  | x :: rest => (place x.1).bind fun p => match Nat.beq x.2.cells.size p.2, Nat.ble (p.1 + p.2) cells.length with
    | true, true => fillV place (over cells p.1 x.2.cells.toList) rest
    | _, _ => none
def placesV (P : Program) : List Field → Option (List (Nat × Nat))
  | [] => some []
  | f :: r => (siz P f.type).bind fun n => (placesV P r).bind fun l => some ((f.offset, n) :: l)
def buildV (P : Program) (t : TypeId) (parts : List (Nat × Value)) : Option Value :=
  (zer P t).bind fun z => match und P t with
    | some (.struct fs) => (placesV P fs.toList).bind fun pl => (fillV (pl[·]?) z.cells.toList parts).bind fun l => some (.agg l.toArray)
    | some (.array _ e) => (siz P e).bind fun n => (fillV (fun i => some (i * n, n)) z.cells.toList parts).bind fun l => some (.agg l.toArray)
    | _ => none
def zerosV (z : List Value) : Nat → List Value
  | 0 => []
  | n + 1 => z ++ zerosV z n
/-- The zeros of so many elements of a type. -/
def zrow (P : Program) (e : TypeId) (n : Nat) : Option (List Value) :=
  match n with
  | 0 => some []
  | n + 1 => (zer P e).bind fun z => (siz P e).bind fun s => match Nat.beq z.cells.size s, Nat.blt 0 s with
    | true, true => some (zerosV z.cells.toList (n + 1))
    | _, _ => none
def own (id z : Nat) : Addr := ⟨id, 0, some z⟩
def sliceLitV (P : Program) (t : TypeId) (aid len : Nat) (parts : List (Nat × Value)) : Option (Value × Option Obj) :=
  match und P t with
  | some (.slice e) => (siz P e).bind fun s => (zrow P e len).bind fun l => match Nat.ble (len * s) 16777216 with
    | true => (fillV (fun i => some (i * s, s)) l parts).bind fun l => some (.slice (some (own aid s)) len len, some (.cells l.toArray e))
    | false => none
  | _ => none
/-- No more than a slice may have. -/
def big : Nat := 70368744177664
def makeV (P : Program) (t : TypeId) (aid : Nat) (l c : Value) : Option (Value × Option Obj) :=
  match und P t, l, c with
  | some (.slice e), .int _ l, .int _ c => match decide (0 ≤ l), decide (l ≤ c) with
    | true, true => (tin P e).bind fun i => match Nat.ble (c.toNat * i.bytes) big, decide (c ≤ 70368744177664) with
      | true, true => (zrow P e c.toNat).bind fun r => some (.slice (some (own aid i.size)) l.toNat c.toNat, some (.cells r.toArray e))
      | _, _ => none
    | _, _ => none
  | _, _, _ => none
def natV : Value → Option Nat
  | .int _ n => match decide (0 ≤ n) with
    | true => some n.toNat
    | false => none
  | _ => none
def boundV (o : Option Value) (d top : Nat) : Option Nat :=
  match o with
  | none => some d
  | some v => (natV v).bind fun n => match Nat.ble n top with
    | true => some n
    | false => none
def sliceV (P : Program) (t : TypeId) (x : Value) (lo hi mx : Option Value) : Option Value :=
  match und P t, x with
  | some .string, .string s => match mx with
    | none => (boundV hi s.size s.size).bind fun h => (boundV lo 0 h).bind fun l => some (.string (s.extract l h))
    | some _ => none
  | some (.slice e), .slice a len cap => (siz P e).bind fun z => (boundV mx cap cap).bind fun m => (boundV hi len m).bind fun h => (boundV lo 0 h).bind fun l =>
      match Nat.ble h m, mx.isNone || hi.isSome with
      | true, true => match a with
        | none => some (.slice none (h - l) (m - l))
        | some b => match b.spot with
          | none => match Nat.beq m l with
            | true => some (.slice (some b) (h - l) (m - l))
            | false => some (.slice (some (fwd b (l * z))) (h - l) (m - l))
          | some z' => match Nat.beq z z' with
            | true => some (.slice (some (fwd b (l * z))) (h - l) (m - l))
            | false => none
      | _, _ => none
  | _, _ => none
def indexAddrV (P : Program) (t : TypeId) (x i : Value) : Option Value :=
  (natV i).bind fun i => match und P t, x with
  | some (.array n e), .pointer (some a) => (siz P e).bind fun z => match Nat.blt i n with
    | true => some (.pointer (some (fwd a (i * z))))
    | false => none
  | some (.slice e), .slice (some a) len _ => (siz P e).bind fun z => match Nat.blt i len with
    | true => match a.spot with
      | none => some (.pointer (some (fwd a (i * z))))
      | some z' => match Nat.beq z z' with
        | true => some (.pointer (some (elt a (i * z))))
        | false => none
    | false => none
  | _, _ => none
def indexV (P : Program) (t : TypeId) (x i : Value) : Option Value :=
  (natV i).bind fun i => match und P t, x with
  | some (.array n e), .agg cs => (siz P e).bind fun z => match Nat.blt i n with
    | true => partV P e cs (i * z)
    | false => none
  | some .string, .string s => match s.data.toList[i]? with
    | some b => some (.int .u8 b.toNat)
    | none => none
  | _, _ => none
def bytesV : List Value → Option (List UInt8)
  | [] => some []
  | .int .u8 n :: r => (bytesV r).bind fun l => some (UInt8.ofNat n.toNat :: l)
  | _ => none
def convV (P : Program) (ro : Ro) (h : T Obj) (aid : Nat) (src dst : TypeId) (x : Value) : Option (Value × Option Obj) :=
  match und P src, und P dst, x with
  | some (.int _), some (.int k), .int _ n => some (.int k (wr k n), none)
  | some .string, some .string, .string s => some (.string s, none)
  | some .string, some (.slice e), .string s => match und P e, Nat.ble s.size big, siz P e with
    | some (.int .u8), true, some 1 => some (.slice (some (own aid 1)) s.size s.size, some (.cells (s.data.toList.map fun b => Value.int .u8 b.toNat).toArray e))
    | _, _, _ => none
  | some (.slice e), some .string, .slice a len _ => match und P e, a with
    | some (.int .u8), none => some (.string .empty, none)
    | some (.int .u8), some a => (cellsAt ro h a len).bind fun l => (bytesV l).bind fun bs => some (.string ⟨bs.toArray⟩, none)
    | _, _ => none
  | _, _, _ => none
/-! ### Maps, by keys that hold no address -/
def keyEq (P : Program) (kt : TypeId) (a b : Value) : Option Bool :=
  match a, b with
  | .agg xs, .agg ys => match isAgg P kt with
    | some true => (plainTy P 20 kt).bind fun ks => eqCells ks xs.toList ys.toList
    | _ => none
  | a, b => match und P kt with
    | some (.int _) => eqCell 1 a b
    | some .string => eqCell 2 a b
    | some .bool => eqCell 0 a b
    | _ => none
def findV (P : Program) (kt : TypeId) (k : Value) : List MapEntry → Nat → Option (Option (Nat × Value))
  | [], _ => some none
  | e :: es, i => match keyEq P kt k e.key with
    | some true => some (some (i, e.val))
    | some false => findV P kt k es (i + 1)
    | none => none
def entriesAt (h : T Obj) (r : Nat) : Option (List MapEntry × Nat) :=
  match h.get r with
  | some (.map es c) => some (es.toList, c)
  | _ => none
/-- A key that a map may have. -/
def keyOk (P : Program) (kt : TypeId) (k : Value) : Bool :=
  match k, und P kt with
  | .int _ _, some (.int _) => true
  | .string _, some .string => true
  | .bool _, some .bool => true
  | .agg xs, some (.struct _) => match plainTy P 2 kt with
    | some ks => (eqCells ks xs.toList xs.toList).isSome
    | none => false
  | _, _ => false
def outV (ok : Bool) (v : Value) (b : Bool) : Value := match ok with
  | true => .tuple #[v, .bool b]
  | false => v
def gotV (P : Program) (et : TypeId) (f : Option (Nat × Value)) : Option (Value × Bool) := match f with
  | some f => some (f.2, true)
  | none => (zer P et).bind fun z => some (z, false)
def lookIn (P : Program) (kt et : TypeId) (k : Value) (ok : Bool) (es : List MapEntry) : Option Value :=
  (findV P kt k es 0).bind fun f => (gotV P et f).bind fun vb => some (outV ok vb.1 vb.2)
def mapAt (h : T Obj) (r : Option Nat) : Option (List MapEntry × Nat) := match r with
  | none => some ([], 0)
  | some r => entriesAt h r
def lookV (P : Program) (h : T Obj) (t : TypeId) (x k : Value) (ok : Bool) : Option Value :=
  match und P t, x with
  | some (.map kt et), .map r => match keyOk P kt k with
    | true => (mapAt h r).bind fun es => lookIn P kt et k ok es.1
    | false => none
  | _, _ => none
/-! ### Builtins that only look -/
def minV (less : Bool) : List Value → Option Value
  | [] => none
  | [.int k x] => some (.int k x)
  | .int k x :: .int k' y :: r => minV less (.int k (match less, decide (y < x), decide (x < y) with
    | true, true, _ => y
    | true, false, _ => x
    | false, _, true => y
    | false, _, false => x) :: r)
  | _ => none
termination_by l => l.length
def lenV (P : Program) (h : T Obj) (t : TypeId) (x : Value) : Option Value :=
  match und P t, x with
  | some .string, .string s => some (.int .i64 s.size)
  | some (.array n _), _ => some (.int .i64 n)
  | some (.slice _), .slice _ n _ => some (.int .i64 n)
  | some (.map _ _), .map none => some (.int .i64 0)
  | some (.map _ _), .map (some r) => (entriesAt h r).bind fun es => some (.int .i64 es.1.length)
  | _, _ => none
def builtinQ (P : Program) (h : T Obj) (b : Builtin) (ts : Array TypeId) (vs : List Value) : Option Value :=
  match b, vs with
  | .len, [x] => (ts[0]?).bind fun t => lenV P h t x
  | .min, vs => minV true vs
  | .max, vs => minV false vs
  | .cap, [.slice none l c] => (ts[0]?).bind fun t => match und P t with
    | some (.slice _) => some (.int .i64 c)
    | _ => none
  | _, _ => none
/-- A quiet operation: it looks, and makes at most one block, which has the number 'aid'. -/
def opQ (P : Program) (ro : Ro) (t : T Value) (h : T Obj) (aid : Nat) (op : Op) : Option (Value × Option Obj) :=
  match op with
  | .move x | .assign x => (evl t x).bind fun v => some (v, none)
  | .pick c a b => (evl t c).bind fun cv => match cv with
    | .bool true => (evl t a).bind fun v => some (v, none)
    | .bool false => (evl t b).bind fun v => some (v, none)
    | _ => none
  | .alloc e => (zer P e).bind fun z => some (.pointer (some (own aid 0)), some (.cells z.cells e))
  | .box e x => (evl t x).bind fun v => some (.pointer (some (own aid 0)), some (.cells v.cells e))
  | .build ty ps => (evlP t ps.toList).bind fun vs => (buildV P ty vs).bind fun v => some (v, none)
  | .buildSlice ty n ps => (evlP t ps.toList).bind fun vs => sliceLitV P ty aid n vs
  | .load ty x => (evl t x).bind fun v => match v with
    | .pointer (some a) => (loadV P ro h ty a).bind fun v => some (v, none)
    | _ => none
  | .nilCheck x => (evl t x).bind fun v => match v with
    | .pointer (some a) => some (.pointer (some a), none)
    | .func (.func f) a b => some (.func (.func f) a b, none)
    | _ => none
  | .binOp op ty x y _ => (evl t x).bind fun a => (evl t y).bind fun b => (binV P op ty a b).bind fun v => some (v, none)
  | .unOp op _ x => (evl t x).bind fun a => (unV op a).bind fun v => some (v, none)
  | .convert s d x => (evl t x).bind fun v => convV P ro h aid s d v
  | .makeFunc (.func f) a b => (evlL t a.toList).bind fun a => (evlL t b.toList).bind fun b => some (.func (.func f) a.toArray b.toArray, none)
  | .makeMap _ none => some (.map (some aid), some (.map #[] 0))
  | .makeSlice ty l c => (evl t l).bind fun l => (evl t c).bind fun c => makeV P ty aid l c
  | .slice ty x lo hi mx => (evl t x).bind fun x => (evlO t lo).bind fun lo => (evlO t hi).bind fun hi => (evlO t mx).bind fun mx =>
      (sliceV P ty x lo hi mx).bind fun v => some (v, none)
  | .fieldAddr s x f => (evl t x).bind fun v => match v with
    | .pointer (some a) => (fldV P s f).bind fun f => (siz P f.type).bind fun n => match n with
      | 0 => none
      | _ + 1 => some (.pointer (some (fwd a f.offset)), none)
    | _ => none
  | .field ty x f => (evl t x).bind fun v => match v with
    | .agg cs => (fldV P ty f).bind fun f => (partV P f.type cs f.offset).bind fun v => some (v, none)
    | _ => none
  | .indexAddr ty x i => (evl t x).bind fun x => (evl t i).bind fun i => (indexAddrV P ty x i).bind fun v => some (v, none)
  | .index ty x i => (evl t x).bind fun x => (evl t i).bind fun i => (indexV P ty x i).bind fun v => some (v, none)
  | .lookup ty x k ok => (evl t x).bind fun x => (evl t k).bind fun k => (lookV P h ty x k ok).bind fun v => some (v, none)
  | .extract x i => (evl t x).bind fun v => match v with
    | .tuple vs => (vs[i]?).bind fun v => some (v, none)
    | _ => none
  | .call { callee := .builtin b, args, argTypes } => (evlL t args.toList).bind fun vs => (builtinQ P h b argTypes vs).bind fun v => some (v, none)
  | _ => none

/-! ### Operations that change memory -/
/-- A value that a cell may hold. -/
def cellOk : Value → Bool
  | .agg _ | .tuple _ => false
  | _ => true
def storeAtV (h : T Obj) (a : Addr) (vs : List Value) : Option (T Obj) :=
  match a.spot with
  | none => none
  | some _ => match h.get a.block with
    | some (.cells c e f) => match Nat.ble (a.off + vs.length) c.size, vs.all cellOk with
      | true, true => some (h.upd a.block (some (.cells (over c.toList a.off vs).toArray e f)))
      | _, _ => none
    | _ => none
def storeV (P : Program) (h : T Obj) (t : TypeId) (a v : Value) : Option (T Obj) :=
  match a with
  | .pointer (some a) => (siz P t).bind fun n => match Nat.beq v.cells.size n with
    | true => storeAtV h a v.cells.toList
    | false => none
  | _ => none
/-- What is appended: how many elements, and their cells. -/
def srcV (P : Program) (ro : Ro) (h : T Obj) (e z by_ : Nat) (t : TypeId) (x : Value) : Option (Nat × List Value) :=
  match und P t, x with
  | some (.int _), .int _ n => match decide (0 ≤ n), decide (n ≤ 70368744177664), Nat.ble (n.toNat * by_) big with
    | true, true, true => (zrow P e n.toNat).bind fun l => some (n.toNat, l)
    | _, _, _ => none
  | some (.slice _), .slice none n _ => match n with
    | 0 => some (0, [])
    | _ => none
  | some (.slice _), .slice (some a) n _ => (cellsAt ro h a (n * z)).bind fun l => some (n, l)
  | some .string, .string s => match Nat.beq z 1 with
    | true => some (s.size, s.data.toList.map fun b => Value.int .u8 b.toNat)
    | false => none
  | _, _ => none
/-- The cells of a slice that grows, and memory without its block, if that is one's own. -/
def oldV (ro : Ro) (h : T Obj) (z : Nat) (base : Option Addr) (len : Nat) : Option (List Value × T Obj) :=
  match base with
  | none => match len with
    | 0 => some ([], h)
    | _ + 1 => none
  | some a => (cellsAt ro h a (len * z)).bind fun l => match a.spot with
    | none => some (l, h)
    | some z' => match Nat.beq z' z with
      | true => some (l, h.upd a.block none)
      | false => none
def appendV (P : Program) (ro : Ro) (h : T Obj) (nx : Nat) (ts : Array TypeId) (vs : List Value) : Option (Value × T Obj × Nat) :=
  match ts[0]?, ts[1]?, vs with
  | some t0, some t1, [.slice base len cap, x] => match und P t0 with
    | some (.slice e) => (tin P e).bind fun i => (srcV P ro h e i.size i.bytes t1 x).bind fun s =>
      match Nat.ble (len + s.1) cap with
      | true => match s.1 with
        | 0 => some (.slice base len cap, h, nx)
        | _ + 1 => match base with
          | none => none
          | some a => match a.spot with
            | none => none
            | some z => match Nat.beq z i.size with
              | true => (storeAtV h (fwd a (len * i.size)) s.2).bind fun h => some (.slice base (len + s.1) cap, h, nx)
              | false => none
      | false => (zer P e).bind fun zv => match Nat.ble ((len + s.1) * i.bytes) big, Nat.ble (len + s.1) big, Nat.blt 0 i.size, Nat.beq zv.cells.size i.size && s.2.all cellOk with
        | true, true, true, true => (oldV ro h i.size base len).bind fun p =>
            some (.slice (some (own nx i.size)) (len + s.1) (len + s.1), p.2.upd nx (some (.cells (p.1 ++ s.2).toArray e)), nx + 1)
        | _, _, _, _ => none
    | _ => none
  | _, _, _ => none
def copyV (P : Program) (ro : Ro) (h : T Obj) (nx : Nat) (ts : Array TypeId) (vs : List Value) : Option (Value × T Obj × Nat) :=
  match ts[0]?, vs with
  | some t0, [.slice base dl _, .slice src sl _] => match und P t0 with
    | some (.slice e) => (siz P e).bind fun z => match Nat.min sl dl, base, src with
      | 0, _, _ => some (.int .i64 0, h, nx)
      | n + 1, some a, some b => match a.spot with
        | none => none
        | some z' => match Nat.beq z' z with
          | true => (cellsAt ro h b ((n + 1) * z)).bind fun l => (storeAtV h (elt a 0) l).bind fun h => some (.int .i64 ((n + 1 : Nat) : Int), h, nx)
          | false => none
      | _, _, _ => none
    | _ => none
  | _, _ => none
def mapPutV (P : Program) (h : T Obj) (t : TypeId) (m k v : Value) : Option (T Obj) :=
  match und P t, m with
  | some (.map kt _), .map (some r) => (entriesAt h r).bind fun es => match keyOk P kt k with
    | true => (findV P kt k es.1 0).bind fun f => match f with
      | some f => some (h.upd r (some (.map (es.1.modify f.1 (fun e : MapEntry => { e with key := k, val := v })).toArray es.2)))
      | none => some (h.upd r (some (.map (es.1 ++ [({ key := k, val := v, born := es.2 } : MapEntry)]).toArray (es.2 + 1))))
    | false => none
  | _, _ => none
def clearV (h : T Obj) (m : Value) : Option (T Obj) :=
  match m with
  | .map none => some h
  | .map (some r) => (entriesAt h r).bind fun es => some (h.upd r (some (.map #[] es.2)))
  | _ => none
/-- Bytes of a constant text: the conversion of a row to its own type. -/
def convSame (P : Program) (h : T Obj) (s d : TypeId) (v : Value) : Option (Value × T Obj) := match v with
  | .slice (some a) l c => match a.spot, h.get a.block with
    | some _, some (.cells cs e f) => match Nat.beq s d, und P d with
      | true, some (.slice el) => match und P el with
        | some (.int .u8) => some (.slice (some a) l c, h.upd a.block (some (.cells cs e f)))
        | _ => none
      | _, _ => none
    | _, _ => none
  | _ => none
/-- Does an operation change memory that is there, or run code? -/
def loud : Op → Bool
  | .store _ _ _ | .mapUpdate _ _ _ _ | .insert _ _ _ _ => true
  | .call { callee := .builtin b, .. } => match b with
    | .append | .copy | .clear => true
    | _ => false
  | .call _ => true
  | .convert s d _ => Nat.beq s d
  | _ => false

/-! ### The machine, as a relation -/
structure St where
  t : T Value
  h : T Obj
  nx : Nat
inductive Ex where
  | normal
  | exit (id : Nat)
  | ret
/-- What a call does: function, arguments, memory; result, memory. -/
abbrev CallR := FuncId → List Value → T Obj → Nat → Value → T Obj → Nat → Prop

/-- A loud operation. -/
def opL (P : Program) (ro : Ro) (C : CallR) (t : T Value) (h : T Obj) (nx : Nat) (op : Op) (v : Value) (h' : T Obj) (nx' : Nat) : Prop :=
  match op with
  | .store ty a x => ∃ av xv, evl t a = some av ∧ evl t x = some xv ∧ storeV P h ty av xv = some h' ∧ nx' = nx ∧ v = undef
  | .mapUpdate ty m k x | .insert ty m k x => ∃ mv kv xv, evl t m = some mv ∧ evl t k = some kv ∧ evl t x = some xv ∧ mapPutV P h ty mv kv xv = some h' ∧ nx' = nx ∧ v = undef
  | .call { callee := .builtin b, args, argTypes } => ∃ vs, evlL t args.toList = some vs ∧ (match b with
    | .append => appendV P ro h nx argTypes vs = some (v, h', nx')
    | .copy => copyV P ro h nx argTypes vs = some (v, h', nx')
    | .clear => ∃ m ty, vs = [m] ∧ argTypes[0]? = some ty ∧ (und P ty).isSome = true ∧ clearV h m = some h' ∧ nx' = nx ∧ v = .tuple #[]
    | _ => False)
  | .call { callee := .value f, args, .. } => ∃ k a b vs, evl t f = some (.func (.func k) a b) ∧ evlL t args.toList = some vs ∧ C k (a.toList ++ vs ++ b.toList) h nx v h' nx'
  | .convert s d x => ∃ xv, evl t x = some xv ∧ convSame P h s d xv = some (v, h') ∧ nx' = nx
  | _ => False

/-- Is an operation carried out? -/
def wanted (ops : Array Oper) (t : T Value) (o : Oper) : Bool :=
  match o.guard with
  | none => true
  | some (j, w) => match (ops[j]?).bind (·.dst) with
    | some d => match t.get d with
      | some (.bool b) => b == w
      | _ => false
    | none => false
def put (n : Nat) (t : T Value) (dst : Option Tmp) (v : Value) : Option (T Value) :=
  match dst with
  | none => some t
  | some d => match Nat.blt d n with
    | true => some (t.upd d (some v))
    | false => none
/-- A block more. -/
def addO (h : T Obj) (id : Nat) (o : Option Obj) : T Obj := match o with
  | none => h
  | some o => h.upd id (some o)
/-- One operation; 'aid': the number of the block that it makes, if it is a quiet one. -/
def opR (P : Program) (ro : Ro) (C : CallR) (t : T Value) (h : T Obj) (nx aid : Nat) (op : Op) (v : Value) (h' : T Obj) (nx' : Nat) : Prop :=
  match loud op with
  | true => opL P ro C t h nx op v h' nx'
  | false => ∃ ob, opQ P ro t h aid op = some (v, ob) ∧ h' = addO h aid ob ∧ nx' = nx
/-- Operations in their order. -/
def opsR (P : Program) (ro : Ro) (C : CallR) (n : Nat) (ops : Array Oper) : List Oper → St → St → Prop
  | [], s, s' => s' = s
  | o :: r, s, s' => match wanted ops s.t o with
    | true => ∃ v h' nx' t', opR P ro C s.t s.h (s.nx + 1) s.nx o.op v h' nx' ∧ put n s.t o.dst v = some t' ∧ opsR P ro C n ops r ⟨t', h', nx'⟩ s'
    | false => ∃ t', put n s.t o.dst undef = some t' ∧ opsR P ro C n ops r ⟨t', s.h, s.nx⟩ s'

/-! Regions that draw their order. -/
/-- Of each operation those that must stand ahead of it, by bits. -/
def bef (ops : Array Oper) : Array Nat := Region.before ops
/-- Does a quiet operation make a block? -/
def makes (P : Program) : Op → Bool
  | .alloc _ | .box _ _ | .buildSlice _ _ _ | .makeSlice _ _ _ | .makeMap _ _ => true
  | .convert _ d _ => match und P d with
    | some (.slice _) => true
    | _ => false
  | _ => false
/-- The block of one's own that a value leads to. -/
def blk : Value → Option Nat
  | .pointer (some a) => match a.spot with
    | some _ => some a.block
    | none => none
  | .slice (some a) _ _ => match a.spot with
    | some _ => some a.block
    | none => none
  | .map r => r
  | _ => none
/-- What a quiet operation reads memory by. -/
def rdVal (P : Program) (t : T Value) : Op → Option Value
  | .load _ x => evl t x
  | .lookup _ x _ _ => evl t x
  | .convert s _ x => match und P s with
    | some (.slice _) => evl t x
    | _ => none
  | .call { callee := .builtin _, args, argTypes } => match (argTypes[0]?).bind (und P) with
    | some (.map _ _) => match evlL t args.toList with
      | some [v] => some v
      | _ => none
    | _ => none
  | _ => none
/-- The block that a quiet operation reads. -/
def rdB (P : Program) (t : T Value) (op : Op) : Option Nat := (rdVal P t op).bind blk
def looks (ops : Array Oper) (o : Oper) : List Tmp := o.looksAt ops
/-- May the operation numbered i (ahead of j in the text) stand behind j? -/
def free (b : Array Nat) (i j : Nat) : Bool := !(b.getD j 0).testBit i
/-- What is asked of two operations, i ahead of j in the text, that no edge holds together. -/
def pairOk (P : Program) (ops : Array Oper) (oi oj : Oper) : Bool :=
  !(loud oi.op && loud oj.op) && !(makes P oi.op && loud oj.op) && Oper.apart ops oi oj && Oper.apart ops oj oi
/-- The static demand on a region that draws. -/
def drawOk (P : Program) (ops : Array Oper) : Bool :=
  let b := bef ops
  (List.range ops.size).all fun j => match ops[j]? with
    | none => false
    | some oj => (oj.after.toList.all fun e => !Region.binds .any e || decide (e.on < j)) && (List.range j).all fun i => match ops[i]? with
      | none => false
      | some oi => match free b i j with
        | false => true
        | true => pairOk P ops oi oj
/-- A block is the same in both memories. -/
def same (b : Nat) (h h' : T Obj) : Prop := h.get b = h'.get b ∧ (h.get b).isSome = true
/-- The operations of a region that draws, in the order of the text; 'n0': the first of the numbers that its quiet operations' blocks have; 'ls': the reading ones ahead (their numbers and blocks); 'ms': the loud ones ahead (their numbers, memory ahead of them and behind). -/
def opsD (P : Program) (ro : Ro) (C : CallR) (n : Nat) (ops : Array Oper) (n0 : Nat) : List Oper → Nat → List (Nat × Nat) → List (Nat × T Obj × T Obj) → St → St → Prop
  | [], _, _, _, s, s' => s' = s
  | o :: r, i, ls, ms, s, s' => match wanted ops s.t o with
    | true => ∃ v h' nx' t', opR P ro C s.t s.h s.nx (n0 + i) o.op v h' nx' ∧ put n s.t o.dst v = some t' ∧
        (match loud o.op with
         | true => (∀ l ∈ ls, free (bef ops) l.1 i = true → same l.2 s.h h') ∧ opsD P ro C n ops n0 r (i + 1) ls ((i, s.h, h') :: ms) ⟨t', h', nx'⟩ s'
         | false => match rdB P s.t o.op with
           | some a => (∀ m ∈ ms, free (bef ops) m.1 i = true → same a m.2.1 m.2.2) ∧ opsD P ro C n ops n0 r (i + 1) ((i, a) :: ls) ms ⟨t', h', nx'⟩ s'
           | none => opsD P ro C n ops n0 r (i + 1) ls ms ⟨t', h', nx'⟩ s')
    | false => ∃ t', put n s.t o.dst undef = some t' ∧ opsD P ro C n ops n0 r (i + 1) ls ms ⟨t', s.h, s.nx⟩ s'

/-- What a function hands back. -/
def resV (P : Program) (ro : Ro) (h : T Obj) (t : T Value) : List ResultVar → Option (List Value)
  | [] => some []
  | .tmp i :: r => (resV P ro h t r).bind fun vs => some ((t.get i).getD undef :: vs)
  | .cell a ty :: r => match (t.get a).getD undef with
    | .pointer (some a) => (loadV P ro h ty a).bind fun v => (resV P ro h t r).bind fun vs => some (v :: vs)
    | _ => none
def resOf : List Value → Value
  | [v] => v
  | vs => .tuple vs.toArray
def entryT : List Value → Nat → T Value → T Value
  | [], _, t => t
  | v :: vs, i, t => entryT vs (i + 1) (t.upd i (some v))

/-- Less memory: blocks that nothing needs any more may be let go of. -/
def Sub (h' h : T Obj) : Prop := ∀ k o, h'.get k = some o → h.get k = some o
abbrev CodeR := Nat → Code → St → Ex → St → Prop
/-- A call without arguments that hands back a flat value in whatever world, and touches nothing that is there: shown beforehand (see VS). -/
def Orc (P : Program) (f : FuncId) (v : Value) : Prop := flat v = true ∧ (∃ fn, P.funcs[f]? = some fn ∧ fn.body.isNone = false) ∧
  ∀ w : World, Calls P f #[] w fun e w' => e = .returned v ∧ w.heap.size ≤ w'.heap.size ∧ (∀ b, b < w.heap.size → w'.heap[b]? = w.heap[b]?) ∧ w'.os = w.os ∧ w'.tape = w.tape ∧ w'.output = w.output
/-- A call of a function by what its body does, or by what was shown of it beforehand. -/
def callR (P : Program) (ro : Ro) (X : CodeR) : CallR := fun f args h nx v h' nx' =>
  (∃ fn body e s vs, P.funcs[f]? = some fn ∧ fn.body = some body ∧ args.length ≤ fn.ntmps ∧
    X fn.ntmps body ⟨entryT args 0 .e, h, nx⟩ e s ∧ (e = .normal ∨ e = .ret) ∧
    resV P ro s.h s.t fn.results.toList = some vs ∧ v = resOf vs ∧ Sub h' s.h ∧ nx' = s.nx) ∨
  (args = [] ∧ Orc P f v ∧ Sub h' h ∧ nx' = nx)
def regR (P : Program) (ro : Ro) (X : CodeR) (n : Nat) (ops : Array Oper) (draw : Bool) (s s' : St) : Prop :=
  match draw with
  | false => opsR P ro (callR P ro X) n ops ops.toList s s'
  | true => drawOk P ops = true ∧ opsD P ro (callR P ro X) n ops s.nx ops.toList 0 [] [] ⟨s.t, s.h, s.nx + ops.size⟩ s'
/-- One level of code, by what its parts do. -/
def codeB (P : Program) (ro : Ro) (X : CodeR) : CodeR := fun n c s e s' =>
  match c with
  | .skip | .label _ => e = .normal ∧ s' = s
  | .ret => e = .ret ∧ s' = s
  | .exit id => e = .exit id ∧ s' = s
  | .seq a b => (∃ s1, X n a s .normal s1 ∧ X n b s1 e s') ∨ (e ≠ .normal ∧ X n a s e s')
  | .cond c a b => ∃ v, evl s.t c = some (.bool v) ∧ X n (match v with | true => a | false => b) s e s'
  | .block id b => ∃ e1, X n b s e1 s' ∧ e = (match e1 with | .exit i => (match Nat.beq i id with | true => .normal | false => .exit i) | e1 => e1)
  | .loop b => (∃ s1 h1, X n b s .normal s1 ∧ Sub h1 s1.h ∧ X n (.loop b) ⟨s1.t, h1, s1.nx⟩ e s') ∨ (e ≠ .normal ∧ X n b s e s')
  | .scope b => X n b s e s'
  | .region _ ops draw => e = .normal ∧ regR P ro X n ops draw s s'
  | _ => False
/-- Code, by fuel. -/
def code (P : Program) (ro : Ro) : Nat → CodeR
  | 0 => fun _ _ _ _ _ => False
  | k + 1 => codeB P ro (code P ro k)
/-- A call, by fuel. -/
def call (P : Program) (ro : Ro) (k : Nat) : CallR := callR P ro (code P ro k)
end V
end Go.Proofs.Ytepbdkfkfcckoaa
