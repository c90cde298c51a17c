/-
  No cell of these rows narrows 'for every input' (looked for: loops, veiled, ifaces, maps, wideKeys, modest, calm, conditions, laid).
  DERIVED. THE GIVEN ROWS OF THIS SEAT. 7 by the template 'for every input the law returns true; each argument reads behind the call as it read before'; 0 by the template 'total and deterministic' (their statements: YtnjdhgbepoefiaaTotals.lean).
  GIVEN WITH THE SEED: the statements are not yours to turn. If you find one false, say at which input.
  Laid BY PROGRAM, IN A SANDBOX (cutbox-rows.mjs): the forced cells as the released guide's own fill.sh prints them over the translation da5cc7fa8d85a5b8… (all of the seat's roots in one cut). By AI agents, Wed Nov 11 2026. No macro, syntax, notation, axiom, sorry.
-/
import Derived.Test.YtnjdhgbepoefiaaChecked
import GoSem.Claim
import GoSem.ClaimJoined
import GoSem.ClaimMapViews
import Derived.JoinedTies
import Derived.KernelRfl
namespace Go.Proofs.Ytnjdhgbepoefiaa
/- THE CELL 'sum', in the pinned program and in every row, IS THE sha256 OF THE DUMP (.gsa) THAT YtnjdhgbepoefiaaProg.lean LOADS. Nothing in Lean hashes anything: it is a label: what it is worth is what the hold of that sum in a sandbox is worth. -/
noncomputable def Try.pinned : Pinned := { name := "ytnjdhgbepoefiaa", sum := "da5cc7fa8d85a5b8bad3dfb6bfd1469684243d647a56182cb3cbb505a14c0651", checked := Try.checked }
namespace Rows
def none {H : Type} : Left H := { results := [], args := [] }

/-- 'raddlelaw02.SplitTells': WHATEVER THE INPUT: true; the input reads as it did. -/
def splitTellsSpec : ChangeSpec := { name := "splitTells", fn := fun _ => fun
  | [d] => { results := [.lit (.bool true)], args := [d] }
  | _ => none }
def splitTellsRow : OpenClaim := { program := "ytnjdhgbepoefiaa", sum := "da5cc7fa8d85a5b8bad3dfb6bfd1469684243d647a56182cb3cbb505a14c0651", func := "raddle/raddlelaw02.SplitTells", spec := "splitTells", plainKeys := false, apart := false }
def SplitTellsSaid : Prop := splitTellsRow.holds Try.pinned (OpenSpec.ofChange splitTellsSpec)

/-- ITS FALSE NEIGHBOUR: 'it returns false'. Refute it at one input. -/
def splitTellsWrong : ChangeSpec := { name := "splitTells", fn := fun _ => fun
  | [d] => { results := [.lit (.bool false)], args := [d] }
  | _ => none }
def SplitTellsWrongFalsely : Prop := splitTellsRow.holds Try.pinned (OpenSpec.ofChange splitTellsWrong)

/-- 'raddlelaw02.SplitOrder': WHATEVER THE INPUT: true; the input reads as it did. -/
def splitOrderSpec : ChangeSpec := { name := "splitOrder", fn := fun _ => fun
  | [d] => { results := [.lit (.bool true)], args := [d] }
  | _ => none }
def splitOrderRow : OpenClaim := { program := "ytnjdhgbepoefiaa", sum := "da5cc7fa8d85a5b8bad3dfb6bfd1469684243d647a56182cb3cbb505a14c0651", func := "raddle/raddlelaw02.SplitOrder", spec := "splitOrder", plainKeys := false, apart := false }
def SplitOrderSaid : Prop := splitOrderRow.holds Try.pinned (OpenSpec.ofChange splitOrderSpec)

/-- ITS FALSE NEIGHBOUR: 'it returns false'. Refute it at one input. -/
def splitOrderWrong : ChangeSpec := { name := "splitOrder", fn := fun _ => fun
  | [d] => { results := [.lit (.bool false)], args := [d] }
  | _ => none }
def SplitOrderWrongFalsely : Prop := splitOrderRow.holds Try.pinned (OpenSpec.ofChange splitOrderWrong)

/-- 'raddlelaw02.SplitFiner': WHATEVER THE INPUT: true; the input reads as it did. -/
def splitFinerSpec : ChangeSpec := { name := "splitFiner", fn := fun _ => fun
  | [d1, d2, d3] => { results := [.lit (.bool true)], args := [d1, d2, d3] }
  | _ => none }
def splitFinerRow : OpenClaim := { program := "ytnjdhgbepoefiaa", sum := "da5cc7fa8d85a5b8bad3dfb6bfd1469684243d647a56182cb3cbb505a14c0651", func := "raddle/raddlelaw02.SplitFiner", spec := "splitFiner", plainKeys := false, apart := false }
def SplitFinerSaid : Prop := splitFinerRow.holds Try.pinned (OpenSpec.ofChange splitFinerSpec)

/-- ITS FALSE NEIGHBOUR: 'it returns false'. Refute it at one input. -/
def splitFinerWrong : ChangeSpec := { name := "splitFiner", fn := fun _ => fun
  | [d1, d2, d3] => { results := [.lit (.bool false)], args := [d1, d2, d3] }
  | _ => none }
def SplitFinerWrongFalsely : Prop := splitFinerRow.holds Try.pinned (OpenSpec.ofChange splitFinerWrong)

/-- 'raddlelaw02.SplitWhole': WHATEVER THE INPUT: true; the input reads as it did. -/
def splitWholeSpec : ChangeSpec := { name := "splitWhole", fn := fun _ => fun
  | [d] => { results := [.lit (.bool true)], args := [d] }
  | _ => none }
def splitWholeRow : OpenClaim := { program := "ytnjdhgbepoefiaa", sum := "da5cc7fa8d85a5b8bad3dfb6bfd1469684243d647a56182cb3cbb505a14c0651", func := "raddle/raddlelaw02.SplitWhole", spec := "splitWhole", plainKeys := false, apart := false }
def SplitWholeSaid : Prop := splitWholeRow.holds Try.pinned (OpenSpec.ofChange splitWholeSpec)

/-- ITS FALSE NEIGHBOUR: 'it returns false'. Refute it at one input. -/
def splitWholeWrong : ChangeSpec := { name := "splitWhole", fn := fun _ => fun
  | [d] => { results := [.lit (.bool false)], args := [d] }
  | _ => none }
def SplitWholeWrongFalsely : Prop := splitWholeRow.holds Try.pinned (OpenSpec.ofChange splitWholeWrong)

/-- 'raddlelaw02.SplitCoarse': WHATEVER THE INPUT: true; the input reads as it did. -/
def splitCoarseSpec : ChangeSpec := { name := "splitCoarse", fn := fun _ => fun
  | [d1, d2, d3] => { results := [.lit (.bool true)], args := [d1, d2, d3] }
  | _ => none }
def splitCoarseRow : OpenClaim := { program := "ytnjdhgbepoefiaa", sum := "da5cc7fa8d85a5b8bad3dfb6bfd1469684243d647a56182cb3cbb505a14c0651", func := "raddle/raddlelaw02.SplitCoarse", spec := "splitCoarse", plainKeys := false, apart := false }
def SplitCoarseSaid : Prop := splitCoarseRow.holds Try.pinned (OpenSpec.ofChange splitCoarseSpec)

/-- ITS FALSE NEIGHBOUR: 'it returns false'. Refute it at one input. -/
def splitCoarseWrong : ChangeSpec := { name := "splitCoarse", fn := fun _ => fun
  | [d1, d2, d3] => { results := [.lit (.bool false)], args := [d1, d2, d3] }
  | _ => none }
def SplitCoarseWrongFalsely : Prop := splitCoarseRow.holds Try.pinned (OpenSpec.ofChange splitCoarseWrong)

/-- 'raddlelaw02.SplitFirst': WHATEVER THE INPUT: true; the input reads as it did. -/
def splitFirstSpec : ChangeSpec := { name := "splitFirst", fn := fun _ => fun
  | [d1, d2] => { results := [.lit (.bool true)], args := [d1, d2] }
  | _ => none }
def splitFirstRow : OpenClaim := { program := "ytnjdhgbepoefiaa", sum := "da5cc7fa8d85a5b8bad3dfb6bfd1469684243d647a56182cb3cbb505a14c0651", func := "raddle/raddlelaw02.SplitFirst", spec := "splitFirst", plainKeys := false, apart := false }
def SplitFirstSaid : Prop := splitFirstRow.holds Try.pinned (OpenSpec.ofChange splitFirstSpec)

/-- ITS FALSE NEIGHBOUR: 'it returns false'. Refute it at one input. -/
def splitFirstWrong : ChangeSpec := { name := "splitFirst", fn := fun _ => fun
  | [d1, d2] => { results := [.lit (.bool false)], args := [d1, d2] }
  | _ => none }
def SplitFirstWrongFalsely : Prop := splitFirstRow.holds Try.pinned (OpenSpec.ofChange splitFirstWrong)

/-- 'raddlelaw02.SplitReads': WHATEVER THE INPUT: true; the input reads as it did. -/
def splitReadsSpec : ChangeSpec := { name := "splitReads", fn := fun _ => fun
  | [d1, d2] => { results := [.lit (.bool true)], args := [d1, d2] }
  | _ => none }
def splitReadsRow : OpenClaim := { program := "ytnjdhgbepoefiaa", sum := "da5cc7fa8d85a5b8bad3dfb6bfd1469684243d647a56182cb3cbb505a14c0651", func := "raddle/raddlelaw02.SplitReads", spec := "splitReads", plainKeys := false, apart := false }
def SplitReadsSaid : Prop := splitReadsRow.holds Try.pinned (OpenSpec.ofChange splitReadsSpec)

/-- ITS FALSE NEIGHBOUR: 'it returns false'. Refute it at one input. -/
def splitReadsWrong : ChangeSpec := { name := "splitReads", fn := fun _ => fun
  | [d1, d2] => { results := [.lit (.bool false)], args := [d1, d2] }
  | _ => none }
def SplitReadsWrongFalsely : Prop := splitReadsRow.holds Try.pinned (OpenSpec.ofChange splitReadsWrong)

/- THE SECOND FORM. 'bulk': how many values and letters a reading holds, each counted each time it is reached (what is shared counts as often as it is met; a slice's spare places count too). A statement '..UptoSaid' is the law's where the arguments, and the package variables that the reading takes, are together of bulk at most 1048576: NARROWER than '..Said'. Prove '..Said' where nothing that the law and all that it calls make is longer than what came in: it says more and counts as full. Else prove '..UptoSaid'. A law counts once. -/
mutual
def uptoBulk {H : Type} : DataW H → Nat
  | .lit (.string bytes) => bytes.length + 1
  | .lit _ => 1
  | .nil => 1
  | .ptr d => uptoBulk d + 1
  | .slice elems spare => uptoBulkAll elems + uptoBulkAll spare + 1
  | .agg parts => uptoBulkAll parts + 1
  | .iface _ d => uptoBulk d + 1
  | .map entries => uptoBulkEntries entries + 1
  | .held _ => 1
def uptoBulkAll {H : Type} : List (DataW H) → Nat
  | [] => 0
  | d :: r => uptoBulk d + uptoBulkAll r
def uptoBulkEntries {H : Type} : List (Lit × DataW H) → Nat
  | [] => 0
  | x :: r => uptoBulkEntry x + uptoBulkEntries r
def uptoBulkEntry {H : Type} : Lit × DataW H → Nat
  | (.string bytes, d) => bytes.length + uptoBulk d + 1
  | (_, d) => uptoBulk d + 1
 end
def uptoSmall : (H : Type) → List (DataW H) → Bool := fun _ ds => decide (uptoBulkAll ds ≤ 1048576)
def OpenSpec.upto (s : _root_.Go.ChangeSpec) : _root_.Go.OpenSpec := { _root_.Go.OpenSpec.ofChange s with cond := some uptoSmall }

/-- 'raddlelaw02.SplitTells', WHERE WHAT IT READS IS OF BULK AT MOST 1048576: true; the input reads as it did. -/
def splitTellsUptoRow : OpenClaim := { program := "ytnjdhgbepoefiaa", sum := "da5cc7fa8d85a5b8bad3dfb6bfd1469684243d647a56182cb3cbb505a14c0651", func := "raddle/raddlelaw02.SplitTells", spec := "splitTells", plainKeys := false, apart := false, narrowed := true }
def SplitTellsUptoSaid : Prop := splitTellsUptoRow.holds Try.pinned (OpenSpec.upto splitTellsSpec)

/-- 'raddlelaw02.SplitOrder', WHERE WHAT IT READS IS OF BULK AT MOST 1048576: true; the input reads as it did. -/
def splitOrderUptoRow : OpenClaim := { program := "ytnjdhgbepoefiaa", sum := "da5cc7fa8d85a5b8bad3dfb6bfd1469684243d647a56182cb3cbb505a14c0651", func := "raddle/raddlelaw02.SplitOrder", spec := "splitOrder", plainKeys := false, apart := false, narrowed := true }
def SplitOrderUptoSaid : Prop := splitOrderUptoRow.holds Try.pinned (OpenSpec.upto splitOrderSpec)

/-- 'raddlelaw02.SplitFiner', WHERE WHAT IT READS IS OF BULK AT MOST 1048576: true; the input reads as it did. -/
def splitFinerUptoRow : OpenClaim := { program := "ytnjdhgbepoefiaa", sum := "da5cc7fa8d85a5b8bad3dfb6bfd1469684243d647a56182cb3cbb505a14c0651", func := "raddle/raddlelaw02.SplitFiner", spec := "splitFiner", plainKeys := false, apart := false, narrowed := true }
def SplitFinerUptoSaid : Prop := splitFinerUptoRow.holds Try.pinned (OpenSpec.upto splitFinerSpec)

/-- 'raddlelaw02.SplitWhole', WHERE WHAT IT READS IS OF BULK AT MOST 1048576: true; the input reads as it did. -/
def splitWholeUptoRow : OpenClaim := { program := "ytnjdhgbepoefiaa", sum := "da5cc7fa8d85a5b8bad3dfb6bfd1469684243d647a56182cb3cbb505a14c0651", func := "raddle/raddlelaw02.SplitWhole", spec := "splitWhole", plainKeys := false, apart := false, narrowed := true }
def SplitWholeUptoSaid : Prop := splitWholeUptoRow.holds Try.pinned (OpenSpec.upto splitWholeSpec)

/-- 'raddlelaw02.SplitCoarse', WHERE WHAT IT READS IS OF BULK AT MOST 1048576: true; the input reads as it did. -/
def splitCoarseUptoRow : OpenClaim := { program := "ytnjdhgbepoefiaa", sum := "da5cc7fa8d85a5b8bad3dfb6bfd1469684243d647a56182cb3cbb505a14c0651", func := "raddle/raddlelaw02.SplitCoarse", spec := "splitCoarse", plainKeys := false, apart := false, narrowed := true }
def SplitCoarseUptoSaid : Prop := splitCoarseUptoRow.holds Try.pinned (OpenSpec.upto splitCoarseSpec)

/-- 'raddlelaw02.SplitFirst', WHERE WHAT IT READS IS OF BULK AT MOST 1048576: true; the input reads as it did. -/
def splitFirstUptoRow : OpenClaim := { program := "ytnjdhgbepoefiaa", sum := "da5cc7fa8d85a5b8bad3dfb6bfd1469684243d647a56182cb3cbb505a14c0651", func := "raddle/raddlelaw02.SplitFirst", spec := "splitFirst", plainKeys := false, apart := false, narrowed := true }
def SplitFirstUptoSaid : Prop := splitFirstUptoRow.holds Try.pinned (OpenSpec.upto splitFirstSpec)

/-- 'raddlelaw02.SplitReads', WHERE WHAT IT READS IS OF BULK AT MOST 1048576: true; the input reads as it did. -/
def splitReadsUptoRow : OpenClaim := { program := "ytnjdhgbepoefiaa", sum := "da5cc7fa8d85a5b8bad3dfb6bfd1469684243d647a56182cb3cbb505a14c0651", func := "raddle/raddlelaw02.SplitReads", spec := "splitReads", plainKeys := false, apart := false, narrowed := true }
def SplitReadsUptoSaid : Prop := splitReadsUptoRow.holds Try.pinned (OpenSpec.upto splitReadsSpec)

end Rows
end Go.Proofs.Ytnjdhgbepoefiaa
