/- The automaton of places, in plain lists: what Of computes.
   No condition. -/
import Derived.Test.YtmmdcdjkmakgpaaAK
import Derived.Test.YtmmdcdjkmakgpaaNA
set_option linter.unusedVariables false
set_option linter.unusedSimpArgs false
namespace Go.Proofs.Ytmmdcdjkmakgpaa
namespace V
/-- Is a place counted? -/
def ctd (g : GlD) (q : Int) : Bool := decide (1 < (g.at q).hi)
def ctdP (p : PosD) : Bool := decide (1 < p.hi)
/-- Its number among those that are. -/
def numZ (g : GlD) (q : Int) : Int := (((g.p.take q.toNat).filter ctdP).length : Nat)
def regsZ (g : GlD) (l : List Int) : List Int := (l.filter (ctd g)).map (numZ g)
def cntsL (l : List PosD) : List (Int × Int) := (l.filter ctdP).map fun p => (p.lo, p.hi)
def setsL (l : List PosD) : List Nat := l.map (·.s)
/-- What a code tells of each place of a state: -1 if it is not counted. -/
def digs (g : GlD) : List Int → Int → List (Int × Int)
  | [], _ => []
  | p :: r, c => if ctd g p then (p, c % 3) :: digs g r (c / 3) else (p, -1) :: digs g r c
def entersZ (g : GlD) (at_ : Nat) (D : List (Int × Int)) (q : Int) : Bool := (decide (at_ = 0) && g.first.contains q) || D.any fun d => decide (d.2 ≠ 0) && (g.at d.1).next.contains q
def staysZ (D : List (Int × Int)) (q : Int) : Bool := D.any fun d => decide (d.1 = q) && (decide (d.2 = 0) || decide (d.2 = 2))
def ruleZ (g : GlD) (best : Int) : List (Int × Int) → Int
  | [] => best
  | d :: r => ruleZ g (if decide (d.2 ≠ 0) && ((g.at d.1).last && (decide (best < 0) || decide ((g.at d.1).rule < best))) then (g.at d.1).rule else best) r
/-- Does a place take a byte, by which are entered and which stay? -/
def takesZ (g : GlD) (en st : Int → Bool) (b : Nat) (q : Int) : Bool := (g.at q).s.testBit b && (en q || st q)
def placesZ (n : Nat) : List Int := (List.range n).map fun i : Nat => (i : Int)
def lZ (g : GlD) (en st : Int → Bool) (b : Nat) : List Int := (placesZ g.p.length).filter (takesZ g en st b)
def opZ (en st : Int → Bool) (q : Int) : Nat := if st q then (if en q then 2 else 1) else 3
def opsZ (g : GlD) (en st : Int → Bool) (l : List Int) : List Nat := (l.filter (ctd g)).map (opZ en st)
def isL (l : List Int) (s : StateD) : Bool := decide (s.l = l)
/-- The state of some places: its number, an error, the states. -/
def findZ (g : GlD) (S : List StateD) (l : List Int) : Int × Int × List StateD :=
  match S.findIdx? (isL l) with
  | some k => (k, 0, S)
  | none => if 3 < (regsZ g l).length then (0, 110, S) else if 256 ≤ S.length then (0, 3, S) else (S.length, 0, S ++ [⟨l, regsZ g l, [], []⟩])
def goesZ (g : GlD) (en st : Int → Bool) (b : Nat) (S : List StateD) : MoveD × Int × List StateD :=
  match lZ g en st b with
  | [] => (⟨-1, []⟩, 0, S)
  | l => (⟨(findZ g S l).1, opsZ g en st l⟩, (findZ g S l).2.1, (findZ g S l).2.2)
/-- The moves over bytes: an error, the moves, the states. -/
def rowZ (g : GlD) (en st : Int → Bool) : List Nat → List StateD → Int × List MoveD × List StateD
  | [], S => (0, [], S)
  | b :: r, S => if (goesZ g en st b S).2.1 = 0 then ((rowZ g en st r (goesZ g en st b S).2.2).1, (goesZ g en st b S).1 :: (rowZ g en st r (goesZ g en st b S).2.2).2.1, (rowZ g en st r (goesZ g en st b S).2.2).2.2) else ((goesZ g en st b S).2.1, [], S)
def addRow (rule : Int) (row : List MoveD) (s : StateD) : StateD := ⟨s.l, s.r, s.rule ++ [rule], s.next ++ [row]⟩
def lAt (S : List StateD) (k : Nat) : List Int := (S.getD k noS).l
/-- What a state does by a code. -/
def codeZ (g : GlD) (B : List Nat) (k : Nat) (c : Int) (S : List StateD) : Int × List StateD :=
  let D := digs g (lAt S k) c
  let R := rowZ g (entersZ g k D) (staysZ D) B S
  if R.1 = 0 then (0, R.2.2.modify k (addRow (ruleZ g (-1) D) R.2.1)) else (R.1, S)
/-- All codes of a state, from one on; how many are left. -/
def codesZ (g : GlD) (B : List Nat) (k : Nat) : Nat → Int → List StateD → Int × List StateD
  | 0, _, S => (0, S)
  | n + 1, c, S => if (codeZ g B k c S).1 = 0 then codesZ g B k n (c + 1) (codeZ g B k c S).2 else ((codeZ g B k c S).1, S)
/-- All states, from one on; how many may be left. -/
def allZ (g : GlD) (B : List Nat) : Nat → Nat → List StateD → Int × List StateD
  | 0, _, S => (0, S)
  | n + 1, k, S => if k < S.length then (if (codesZ g B k (codesD (S.getD k noS).r.length).toNat 0 S).1 = 0 then allZ g B n (k + 1) (codesZ g B k (codesD (S.getD k noS).r.length).toNat 0 S).2 else ((codesZ g B k (codesD (S.getD k noS).r.length).toNat 0 S).1, S)) else (0, S)
end V
end Go.Proofs.Ytmmdcdjkmakgpaa
