/-
  No cell of these rows narrows 'for every input' (looked for: loops, veiled, ifaces, maps, wideKeys, modest, calm, conditions, laid).
  DERIVED. THE GIVEN ROWS OF THIS SEAT. 6 by the template 'for every input the law returns true; each argument reads behind the call as it read before'; 0 by the template 'total and deterministic' (their statements: YtnglppngpioipaaTotals.lean).
  GIVEN WITH THE SEED: the statements are not yours to turn. If you find one false, say at which input.
  Laid BY PROGRAM, IN A SANDBOX (cutbox-rows.mjs): the forced cells as the released guide's own fill.sh prints them over the translation ec7242a4feea0b75… (all of the seat's roots in one cut). By AI agents, Wed Nov 11 2026. No macro, syntax, notation, axiom, sorry.
-/
import Derived.Test.YtnglppngpioipaaChecked
import GoSem.Claim
import GoSem.ClaimJoined
import GoSem.ClaimMapViews
import Derived.JoinedTies
import Derived.KernelRfl
namespace Go.Proofs.Ytnglppngpioipaa
/- THE CELL 'sum', in the pinned program and in every row, IS THE sha256 OF THE DUMP (.gsa) THAT YtnglppngpioipaaProg.lean LOADS. Nothing in Lean hashes anything: it is a label: what it is worth is what the hold of that sum in a sandbox is worth. -/
noncomputable def Try.pinned : Pinned := { name := "ytnglppngpioipaa", sum := "ec7242a4feea0b75a737e1fb94ef0024d66fe4c9c5c8d039957bc969882c9418", checked := Try.checked }
namespace Rows
def none {H : Type} : Left H := { results := [], args := [] }

/-- 'raddlelaw03.RingLast': WHATEVER THE INPUT: true; the input reads as it did. -/
def ringLastSpec : ChangeSpec := { name := "ringLast", fn := fun _ => fun
  | [d1, d2] => { results := [.lit (.bool true)], args := [d1, d2] }
  | _ => none }
def ringLastRow : OpenClaim := { program := "ytnglppngpioipaa", sum := "ec7242a4feea0b75a737e1fb94ef0024d66fe4c9c5c8d039957bc969882c9418", func := "raddle/raddlelaw03.RingLast", spec := "ringLast", apart := false }
def RingLastSaid : Prop := ringLastRow.holds Try.pinned (OpenSpec.ofChange ringLastSpec)

/-- ITS FALSE NEIGHBOUR: 'it returns false'. Refute it at one input. -/
def ringLastWrong : ChangeSpec := { name := "ringLast", fn := fun _ => fun
  | [d1, d2] => { results := [.lit (.bool false)], args := [d1, d2] }
  | _ => none }
def RingLastWrongFalsely : Prop := ringLastRow.holds Try.pinned (OpenSpec.ofChange ringLastWrong)

/-- 'raddlelaw03.RingShift': WHATEVER THE INPUT: true; the input reads as it did. -/
def ringShiftSpec : ChangeSpec := { name := "ringShift", fn := fun _ => fun
  | [d1, d2] => { results := [.lit (.bool true)], args := [d1, d2] }
  | _ => none }
def ringShiftRow : OpenClaim := { program := "ytnglppngpioipaa", sum := "ec7242a4feea0b75a737e1fb94ef0024d66fe4c9c5c8d039957bc969882c9418", func := "raddle/raddlelaw03.RingShift", spec := "ringShift", apart := false }
def RingShiftSaid : Prop := ringShiftRow.holds Try.pinned (OpenSpec.ofChange ringShiftSpec)

/-- ITS FALSE NEIGHBOUR: 'it returns false'. Refute it at one input. -/
def ringShiftWrong : ChangeSpec := { name := "ringShift", fn := fun _ => fun
  | [d1, d2] => { results := [.lit (.bool false)], args := [d1, d2] }
  | _ => none }
def RingShiftWrongFalsely : Prop := ringShiftRow.holds Try.pinned (OpenSpec.ofChange ringShiftWrong)

/-- 'raddlelaw03.RingRises': WHATEVER THE INPUT: true; the input reads as it did. -/
def ringRisesSpec : ChangeSpec := { name := "ringRises", fn := fun _ => fun
  | [d1, d2] => { results := [.lit (.bool true)], args := [d1, d2] }
  | _ => none }
def ringRisesRow : OpenClaim := { program := "ytnglppngpioipaa", sum := "ec7242a4feea0b75a737e1fb94ef0024d66fe4c9c5c8d039957bc969882c9418", func := "raddle/raddlelaw03.RingRises", spec := "ringRises", apart := false }
def RingRisesSaid : Prop := ringRisesRow.holds Try.pinned (OpenSpec.ofChange ringRisesSpec)

/-- ITS FALSE NEIGHBOUR: 'it returns false'. Refute it at one input. -/
def ringRisesWrong : ChangeSpec := { name := "ringRises", fn := fun _ => fun
  | [d1, d2] => { results := [.lit (.bool false)], args := [d1, d2] }
  | _ => none }
def RingRisesWrongFalsely : Prop := ringRisesRow.holds Try.pinned (OpenSpec.ofChange ringRisesWrong)

/-- 'raddlelaw03.RingClear': WHATEVER THE INPUT: true; the input reads as it did. -/
def ringClearSpec : ChangeSpec := { name := "ringClear", fn := fun _ => fun
  | [d1, d2, d3] => { results := [.lit (.bool true)], args := [d1, d2, d3] }
  | _ => none }
def ringClearRow : OpenClaim := { program := "ytnglppngpioipaa", sum := "ec7242a4feea0b75a737e1fb94ef0024d66fe4c9c5c8d039957bc969882c9418", func := "raddle/raddlelaw03.RingClear", spec := "ringClear", apart := false }
def RingClearSaid : Prop := ringClearRow.holds Try.pinned (OpenSpec.ofChange ringClearSpec)

/-- ITS FALSE NEIGHBOUR: 'it returns false'. Refute it at one input. -/
def ringClearWrong : ChangeSpec := { name := "ringClear", fn := fun _ => fun
  | [d1, d2, d3] => { results := [.lit (.bool false)], args := [d1, d2, d3] }
  | _ => none }
def RingClearWrongFalsely : Prop := ringClearRow.holds Try.pinned (OpenSpec.ofChange ringClearWrong)

/-- 'raddlelaw03.RingPlays': WHATEVER THE INPUT: true; the input reads as it did. -/
def ringPlaysSpec : ChangeSpec := { name := "ringPlays", fn := fun _ => fun
  | [d1, d2] => { results := [.lit (.bool true)], args := [d1, d2] }
  | _ => none }
def ringPlaysRow : OpenClaim := { program := "ytnglppngpioipaa", sum := "ec7242a4feea0b75a737e1fb94ef0024d66fe4c9c5c8d039957bc969882c9418", func := "raddle/raddlelaw03.RingPlays", spec := "ringPlays", apart := false }
def RingPlaysSaid : Prop := ringPlaysRow.holds Try.pinned (OpenSpec.ofChange ringPlaysSpec)

/-- ITS FALSE NEIGHBOUR: 'it returns false'. Refute it at one input. -/
def ringPlaysWrong : ChangeSpec := { name := "ringPlays", fn := fun _ => fun
  | [d1, d2] => { results := [.lit (.bool false)], args := [d1, d2] }
  | _ => none }
def RingPlaysWrongFalsely : Prop := ringPlaysRow.holds Try.pinned (OpenSpec.ofChange ringPlaysWrong)

/-- 'raddlelaw03.RingNone': WHATEVER THE INPUT: true; the input reads as it did. -/
def ringNoneSpec : ChangeSpec := { name := "ringNone", fn := fun _ => fun
  | [d1, d2] => { results := [.lit (.bool true)], args := [d1, d2] }
  | _ => none }
def ringNoneRow : OpenClaim := { program := "ytnglppngpioipaa", sum := "ec7242a4feea0b75a737e1fb94ef0024d66fe4c9c5c8d039957bc969882c9418", func := "raddle/raddlelaw03.RingNone", spec := "ringNone", apart := false }
def RingNoneSaid : Prop := ringNoneRow.holds Try.pinned (OpenSpec.ofChange ringNoneSpec)

/-- ITS FALSE NEIGHBOUR: 'it returns false'. Refute it at one input. -/
def ringNoneWrong : ChangeSpec := { name := "ringNone", fn := fun _ => fun
  | [d1, d2] => { results := [.lit (.bool false)], args := [d1, d2] }
  | _ => none }
def RingNoneWrongFalsely : Prop := ringNoneRow.holds Try.pinned (OpenSpec.ofChange ringNoneWrong)

/- THE SECOND FORM. 'bulk': how many values and letters a reading holds, each counted each time it is reached (what is shared counts as often as it is met; a slice's spare places count too). A statement '..UptoSaid' is the law's where the arguments, and the package variables that the reading takes, are together of bulk at most 1048576: NARROWER than '..Said'. Prove '..Said' where nothing that the law and all that it calls make is longer than what came in: it says more and counts as full. Else prove '..UptoSaid'. A law counts once. -/
mutual
def uptoBulk {H : Type} : DataW H → Nat
  | .lit (.string bytes) => bytes.length + 1
  | .lit _ => 1
  | .nil => 1
  | .ptr d => uptoBulk d + 1
  | .slice elems spare => uptoBulkAll elems + uptoBulkAll spare + 1
  | .agg parts => uptoBulkAll parts + 1
  | .iface _ d => uptoBulk d + 1
  | .map entries => uptoBulkEntries entries + 1
  | .held _ => 1
def uptoBulkAll {H : Type} : List (DataW H) → Nat
  | [] => 0
  | d :: r => uptoBulk d + uptoBulkAll r
def uptoBulkEntries {H : Type} : List (Lit × DataW H) → Nat
  | [] => 0
  | x :: r => uptoBulkEntry x + uptoBulkEntries r
def uptoBulkEntry {H : Type} : Lit × DataW H → Nat
  | (.string bytes, d) => bytes.length + uptoBulk d + 1
  | (_, d) => uptoBulk d + 1
 end
def uptoSmall : (H : Type) → List (DataW H) → Bool := fun _ ds => decide (uptoBulkAll ds ≤ 1048576)
def OpenSpec.upto (s : _root_.Go.ChangeSpec) : _root_.Go.OpenSpec := { _root_.Go.OpenSpec.ofChange s with cond := some uptoSmall }

/-- 'raddlelaw03.RingLast', WHERE WHAT IT READS IS OF BULK AT MOST 1048576: true; the input reads as it did. -/
def ringLastUptoRow : OpenClaim := { program := "ytnglppngpioipaa", sum := "ec7242a4feea0b75a737e1fb94ef0024d66fe4c9c5c8d039957bc969882c9418", func := "raddle/raddlelaw03.RingLast", spec := "ringLast", apart := false, narrowed := true }
def RingLastUptoSaid : Prop := ringLastUptoRow.holds Try.pinned (OpenSpec.upto ringLastSpec)

/-- 'raddlelaw03.RingShift', WHERE WHAT IT READS IS OF BULK AT MOST 1048576: true; the input reads as it did. -/
def ringShiftUptoRow : OpenClaim := { program := "ytnglppngpioipaa", sum := "ec7242a4feea0b75a737e1fb94ef0024d66fe4c9c5c8d039957bc969882c9418", func := "raddle/raddlelaw03.RingShift", spec := "ringShift", apart := false, narrowed := true }
def RingShiftUptoSaid : Prop := ringShiftUptoRow.holds Try.pinned (OpenSpec.upto ringShiftSpec)

/-- 'raddlelaw03.RingRises', WHERE WHAT IT READS IS OF BULK AT MOST 1048576: true; the input reads as it did. -/
def ringRisesUptoRow : OpenClaim := { program := "ytnglppngpioipaa", sum := "ec7242a4feea0b75a737e1fb94ef0024d66fe4c9c5c8d039957bc969882c9418", func := "raddle/raddlelaw03.RingRises", spec := "ringRises", apart := false, narrowed := true }
def RingRisesUptoSaid : Prop := ringRisesUptoRow.holds Try.pinned (OpenSpec.upto ringRisesSpec)

/-- 'raddlelaw03.RingClear', WHERE WHAT IT READS IS OF BULK AT MOST 1048576: true; the input reads as it did. -/
def ringClearUptoRow : OpenClaim := { program := "ytnglppngpioipaa", sum := "ec7242a4feea0b75a737e1fb94ef0024d66fe4c9c5c8d039957bc969882c9418", func := "raddle/raddlelaw03.RingClear", spec := "ringClear", apart := false, narrowed := true }
def RingClearUptoSaid : Prop := ringClearUptoRow.holds Try.pinned (OpenSpec.upto ringClearSpec)

/-- 'raddlelaw03.RingPlays', WHERE WHAT IT READS IS OF BULK AT MOST 1048576: true; the input reads as it did. -/
def ringPlaysUptoRow : OpenClaim := { program := "ytnglppngpioipaa", sum := "ec7242a4feea0b75a737e1fb94ef0024d66fe4c9c5c8d039957bc969882c9418", func := "raddle/raddlelaw03.RingPlays", spec := "ringPlays", apart := false, narrowed := true }
def RingPlaysUptoSaid : Prop := ringPlaysUptoRow.holds Try.pinned (OpenSpec.upto ringPlaysSpec)

/-- 'raddlelaw03.RingNone', WHERE WHAT IT READS IS OF BULK AT MOST 1048576: true; the input reads as it did. -/
def ringNoneUptoRow : OpenClaim := { program := "ytnglppngpioipaa", sum := "ec7242a4feea0b75a737e1fb94ef0024d66fe4c9c5c8d039957bc969882c9418", func := "raddle/raddlelaw03.RingNone", spec := "ringNone", apart := false, narrowed := true }
def RingNoneUptoSaid : Prop := ringNoneUptoRow.holds Try.pinned (OpenSpec.upto ringNoneSpec)

end Rows
end Go.Proofs.Ytnglppngpioipaa
