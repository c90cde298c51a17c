/-
  No cell of these rows narrows 'for every input' (looked for: loops, veiled, ifaces, maps, wideKeys, modest, calm, conditions, laid).
  DERIVED. THE GIVEN ROWS OF THIS SEAT. 8 by the template 'for every input the law returns true; each argument reads behind the call as it read before'; 0 by the template 'total and deterministic' (their statements: YtepbdkfkfcckoaaTotals.lean).
  GIVEN WITH THE SEED: the statements are not yours to turn. If you find one false, say at which input.
  Laid BY PROGRAM, IN A SANDBOX (cutbox-rows.mjs): the forced cells as the released guide's own fill.sh prints them over the translation 4726e27877dd56fb… (all of the seat's roots in one cut). By AI agents, Wed Nov 11 2026. No macro, syntax, notation, axiom, sorry.
-/
import Derived.Test.YtepbdkfkfcckoaaChecked
import GoSem.Claim
import GoSem.ClaimJoined
import GoSem.ClaimMapViews
import Derived.JoinedTies
import Derived.KernelRfl
namespace Go.Proofs.Ytepbdkfkfcckoaa
/- THE CELL 'sum', in the pinned program and in every row, IS THE sha256 OF THE DUMP (.gsa) THAT YtepbdkfkfcckoaaProg.lean LOADS. Nothing in Lean hashes anything: it is a label: what it is worth is what the hold of that sum in a sandbox is worth. -/
noncomputable def Try.pinned : Pinned := { name := "ytepbdkfkfcckoaa", sum := "4726e27877dd56fb748d48f60d6f6a8791d68d66a27a67abf9cbe922f1f69c15", checked := Try.checked }
namespace Rows
def none {H : Type} : Left H := { results := [], args := [] }

/-- 'raddlelaw10.NcaSteps': WHATEVER THE INPUT: true; the input reads as it did. -/
def ncaStepsSpec : ChangeSpec := { name := "ncaSteps", fn := fun _ => fun
  | [d1, d2, d3] => { results := [.lit (.bool true)], args := [d1, d2, d3] }
  | _ => none }
def ncaStepsRow : OpenClaim := { program := "ytepbdkfkfcckoaa", sum := "4726e27877dd56fb748d48f60d6f6a8791d68d66a27a67abf9cbe922f1f69c15", func := "raddle/raddlelaw10.NcaSteps", spec := "ncaSteps", unfollowed := true, recurses := true, apart := false }
def NcaStepsSaid : Prop := ncaStepsRow.holds Try.pinned (OpenSpec.ofChange ncaStepsSpec)

/-- ITS FALSE NEIGHBOUR: 'it returns false'. Refute it at one input. -/
def ncaStepsWrong : ChangeSpec := { name := "ncaSteps", fn := fun _ => fun
  | [d1, d2, d3] => { results := [.lit (.bool false)], args := [d1, d2, d3] }
  | _ => none }
def NcaStepsWrongFalsely : Prop := ncaStepsRow.holds Try.pinned (OpenSpec.ofChange ncaStepsWrong)

/-- 'raddlelaw10.NcaLongest': WHATEVER THE INPUT: true; the input reads as it did. -/
def ncaLongestSpec : ChangeSpec := { name := "ncaLongest", fn := fun _ => fun
  | [d1, d2, d3] => { results := [.lit (.bool true)], args := [d1, d2, d3] }
  | _ => none }
def ncaLongestRow : OpenClaim := { program := "ytepbdkfkfcckoaa", sum := "4726e27877dd56fb748d48f60d6f6a8791d68d66a27a67abf9cbe922f1f69c15", func := "raddle/raddlelaw10.NcaLongest", spec := "ncaLongest", unfollowed := true, recurses := true, apart := false }
def NcaLongestSaid : Prop := ncaLongestRow.holds Try.pinned (OpenSpec.ofChange ncaLongestSpec)

/-- ITS FALSE NEIGHBOUR: 'it returns false'. Refute it at one input. -/
def ncaLongestWrong : ChangeSpec := { name := "ncaLongest", fn := fun _ => fun
  | [d1, d2, d3] => { results := [.lit (.bool false)], args := [d1, d2, d3] }
  | _ => none }
def NcaLongestWrongFalsely : Prop := ncaLongestRow.holds Try.pinned (OpenSpec.ofChange ncaLongestWrong)

/-- 'raddlelaw10.NcaRight': WHATEVER THE INPUT: true; the input reads as it did. -/
def ncaRightSpec : ChangeSpec := { name := "ncaRight", fn := fun _ => fun
  | [d1, d2, d3] => { results := [.lit (.bool true)], args := [d1, d2, d3] }
  | _ => none }
def ncaRightRow : OpenClaim := { program := "ytepbdkfkfcckoaa", sum := "4726e27877dd56fb748d48f60d6f6a8791d68d66a27a67abf9cbe922f1f69c15", func := "raddle/raddlelaw10.NcaRight", spec := "ncaRight", unfollowed := true, recurses := true, apart := false }
def NcaRightSaid : Prop := ncaRightRow.holds Try.pinned (OpenSpec.ofChange ncaRightSpec)

/-- ITS FALSE NEIGHBOUR: 'it returns false'. Refute it at one input. -/
def ncaRightWrong : ChangeSpec := { name := "ncaRight", fn := fun _ => fun
  | [d1, d2, d3] => { results := [.lit (.bool false)], args := [d1, d2, d3] }
  | _ => none }
def NcaRightWrongFalsely : Prop := ncaRightRow.holds Try.pinned (OpenSpec.ofChange ncaRightWrong)

/-- 'raddlelaw10.NcaMeans': WHATEVER THE INPUT: true; the input reads as it did. -/
def ncaMeansSpec : ChangeSpec := { name := "ncaMeans", fn := fun _ => fun
  | [d1, d2, d3] => { results := [.lit (.bool true)], args := [d1, d2, d3] }
  | _ => none }
def ncaMeansRow : OpenClaim := { program := "ytepbdkfkfcckoaa", sum := "4726e27877dd56fb748d48f60d6f6a8791d68d66a27a67abf9cbe922f1f69c15", func := "raddle/raddlelaw10.NcaMeans", spec := "ncaMeans", unfollowed := true, recurses := true, apart := false }
def NcaMeansSaid : Prop := ncaMeansRow.holds Try.pinned (OpenSpec.ofChange ncaMeansSpec)

/-- ITS FALSE NEIGHBOUR: 'it returns false'. Refute it at one input. -/
def ncaMeansWrong : ChangeSpec := { name := "ncaMeans", fn := fun _ => fun
  | [d1, d2, d3] => { results := [.lit (.bool false)], args := [d1, d2, d3] }
  | _ => none }
def NcaMeansWrongFalsely : Prop := ncaMeansRow.holds Try.pinned (OpenSpec.ofChange ncaMeansWrong)

/-- 'raddlelaw10.NcaWhole': WHATEVER THE INPUT: true; the input reads as it did. -/
def ncaWholeSpec : ChangeSpec := { name := "ncaWhole", fn := fun _ => fun
  | [d1, d2] => { results := [.lit (.bool true)], args := [d1, d2] }
  | _ => none }
def ncaWholeRow : OpenClaim := { program := "ytepbdkfkfcckoaa", sum := "4726e27877dd56fb748d48f60d6f6a8791d68d66a27a67abf9cbe922f1f69c15", func := "raddle/raddlelaw10.NcaWhole", spec := "ncaWhole", unfollowed := true, recurses := true, apart := false }
def NcaWholeSaid : Prop := ncaWholeRow.holds Try.pinned (OpenSpec.ofChange ncaWholeSpec)

/-- ITS FALSE NEIGHBOUR: 'it returns false'. Refute it at one input. -/
def ncaWholeWrong : ChangeSpec := { name := "ncaWhole", fn := fun _ => fun
  | [d1, d2] => { results := [.lit (.bool false)], args := [d1, d2] }
  | _ => none }
def NcaWholeWrongFalsely : Prop := ncaWholeRow.holds Try.pinned (OpenSpec.ofChange ncaWholeWrong)

/-- 'raddlelaw10.NcaCounts': WHATEVER THE INPUT: true; the input reads as it did. -/
def ncaCountsSpec : ChangeSpec := { name := "ncaCounts", fn := fun _ => fun
  | [d1, d2, d3] => { results := [.lit (.bool true)], args := [d1, d2, d3] }
  | _ => none }
def ncaCountsRow : OpenClaim := { program := "ytepbdkfkfcckoaa", sum := "4726e27877dd56fb748d48f60d6f6a8791d68d66a27a67abf9cbe922f1f69c15", func := "raddle/raddlelaw10.NcaCounts", spec := "ncaCounts", unfollowed := true, recurses := true, apart := false }
def NcaCountsSaid : Prop := ncaCountsRow.holds Try.pinned (OpenSpec.ofChange ncaCountsSpec)

/-- ITS FALSE NEIGHBOUR: 'it returns false'. Refute it at one input. -/
def ncaCountsWrong : ChangeSpec := { name := "ncaCounts", fn := fun _ => fun
  | [d1, d2, d3] => { results := [.lit (.bool false)], args := [d1, d2, d3] }
  | _ => none }
def NcaCountsWrongFalsely : Prop := ncaCountsRow.holds Try.pinned (OpenSpec.ofChange ncaCountsWrong)

/-- 'raddlelaw10.NcaParts': WHATEVER THE INPUT: true; the input reads as it did. -/
def ncaPartsSpec : ChangeSpec := { name := "ncaParts", fn := fun _ => fun
  | [d1, d2, d3] => { results := [.lit (.bool true)], args := [d1, d2, d3] }
  | _ => none }
def ncaPartsRow : OpenClaim := { program := "ytepbdkfkfcckoaa", sum := "4726e27877dd56fb748d48f60d6f6a8791d68d66a27a67abf9cbe922f1f69c15", func := "raddle/raddlelaw10.NcaParts", spec := "ncaParts", unfollowed := true, recurses := true, apart := false }
def NcaPartsSaid : Prop := ncaPartsRow.holds Try.pinned (OpenSpec.ofChange ncaPartsSpec)

/-- ITS FALSE NEIGHBOUR: 'it returns false'. Refute it at one input. -/
def ncaPartsWrong : ChangeSpec := { name := "ncaParts", fn := fun _ => fun
  | [d1, d2, d3] => { results := [.lit (.bool false)], args := [d1, d2, d3] }
  | _ => none }
def NcaPartsWrongFalsely : Prop := ncaPartsRow.holds Try.pinned (OpenSpec.ofChange ncaPartsWrong)

/-- 'raddlelaw10.NcaNone': WHATEVER THE INPUT: true; the input reads as it did. -/
def ncaNoneSpec : ChangeSpec := { name := "ncaNone", fn := fun _ => fun
  | [d1, d2, d3] => { results := [.lit (.bool true)], args := [d1, d2, d3] }
  | _ => none }
def ncaNoneRow : OpenClaim := { program := "ytepbdkfkfcckoaa", sum := "4726e27877dd56fb748d48f60d6f6a8791d68d66a27a67abf9cbe922f1f69c15", func := "raddle/raddlelaw10.NcaNone", spec := "ncaNone", unfollowed := true, recurses := true, apart := false }
def NcaNoneSaid : Prop := ncaNoneRow.holds Try.pinned (OpenSpec.ofChange ncaNoneSpec)

/-- ITS FALSE NEIGHBOUR: 'it returns false'. Refute it at one input. -/
def ncaNoneWrong : ChangeSpec := { name := "ncaNone", fn := fun _ => fun
  | [d1, d2, d3] => { results := [.lit (.bool false)], args := [d1, d2, d3] }
  | _ => none }
def NcaNoneWrongFalsely : Prop := ncaNoneRow.holds Try.pinned (OpenSpec.ofChange ncaNoneWrong)

/- THE SECOND FORM. 'bulk': how many values and letters a reading holds, each counted each time it is reached (what is shared counts as often as it is met; a slice's spare places count too). A statement '..UptoSaid' is the law's where the arguments, and the package variables that the reading takes, are together of bulk at most 1048576: NARROWER than '..Said'. Prove '..Said' where nothing that the law and all that it calls make is longer than what came in: it says more and counts as full. Else prove '..UptoSaid'. A law counts once. -/
mutual
def uptoBulk {H : Type} : DataW H → Nat
  | .lit (.string bytes) => bytes.length + 1
  | .lit _ => 1
  | .nil => 1
  | .ptr d => uptoBulk d + 1
  | .slice elems spare => uptoBulkAll elems + uptoBulkAll spare + 1
  | .agg parts => uptoBulkAll parts + 1
  | .iface _ d => uptoBulk d + 1
  | .map entries => uptoBulkEntries entries + 1
  | .held _ => 1
def uptoBulkAll {H : Type} : List (DataW H) → Nat
  | [] => 0
  | d :: r => uptoBulk d + uptoBulkAll r
def uptoBulkEntries {H : Type} : List (Lit × DataW H) → Nat
  | [] => 0
  | x :: r => uptoBulkEntry x + uptoBulkEntries r
def uptoBulkEntry {H : Type} : Lit × DataW H → Nat
  | (.string bytes, d) => bytes.length + uptoBulk d + 1
  | (_, d) => uptoBulk d + 1
 end
def uptoSmall : (H : Type) → List (DataW H) → Bool := fun _ ds => decide (uptoBulkAll ds ≤ 1048576)
def OpenSpec.upto (s : _root_.Go.ChangeSpec) : _root_.Go.OpenSpec := { _root_.Go.OpenSpec.ofChange s with cond := some uptoSmall }

/-- 'raddlelaw10.NcaSteps', WHERE WHAT IT READS IS OF BULK AT MOST 1048576: true; the input reads as it did. -/
def ncaStepsUptoRow : OpenClaim := { program := "ytepbdkfkfcckoaa", sum := "4726e27877dd56fb748d48f60d6f6a8791d68d66a27a67abf9cbe922f1f69c15", func := "raddle/raddlelaw10.NcaSteps", spec := "ncaSteps", unfollowed := true, recurses := true, apart := false, narrowed := true }
def NcaStepsUptoSaid : Prop := ncaStepsUptoRow.holds Try.pinned (OpenSpec.upto ncaStepsSpec)

/-- 'raddlelaw10.NcaLongest', WHERE WHAT IT READS IS OF BULK AT MOST 1048576: true; the input reads as it did. -/
def ncaLongestUptoRow : OpenClaim := { program := "ytepbdkfkfcckoaa", sum := "4726e27877dd56fb748d48f60d6f6a8791d68d66a27a67abf9cbe922f1f69c15", func := "raddle/raddlelaw10.NcaLongest", spec := "ncaLongest", unfollowed := true, recurses := true, apart := false, narrowed := true }
def NcaLongestUptoSaid : Prop := ncaLongestUptoRow.holds Try.pinned (OpenSpec.upto ncaLongestSpec)

/-- 'raddlelaw10.NcaRight', WHERE WHAT IT READS IS OF BULK AT MOST 1048576: true; the input reads as it did. -/
def ncaRightUptoRow : OpenClaim := { program := "ytepbdkfkfcckoaa", sum := "4726e27877dd56fb748d48f60d6f6a8791d68d66a27a67abf9cbe922f1f69c15", func := "raddle/raddlelaw10.NcaRight", spec := "ncaRight", unfollowed := true, recurses := true, apart := false, narrowed := true }
def NcaRightUptoSaid : Prop := ncaRightUptoRow.holds Try.pinned (OpenSpec.upto ncaRightSpec)

/-- 'raddlelaw10.NcaMeans', WHERE WHAT IT READS IS OF BULK AT MOST 1048576: true; the input reads as it did. -/
def ncaMeansUptoRow : OpenClaim := { program := "ytepbdkfkfcckoaa", sum := "4726e27877dd56fb748d48f60d6f6a8791d68d66a27a67abf9cbe922f1f69c15", func := "raddle/raddlelaw10.NcaMeans", spec := "ncaMeans", unfollowed := true, recurses := true, apart := false, narrowed := true }
def NcaMeansUptoSaid : Prop := ncaMeansUptoRow.holds Try.pinned (OpenSpec.upto ncaMeansSpec)

/-- 'raddlelaw10.NcaWhole', WHERE WHAT IT READS IS OF BULK AT MOST 1048576: true; the input reads as it did. -/
def ncaWholeUptoRow : OpenClaim := { program := "ytepbdkfkfcckoaa", sum := "4726e27877dd56fb748d48f60d6f6a8791d68d66a27a67abf9cbe922f1f69c15", func := "raddle/raddlelaw10.NcaWhole", spec := "ncaWhole", unfollowed := true, recurses := true, apart := false, narrowed := true }
def NcaWholeUptoSaid : Prop := ncaWholeUptoRow.holds Try.pinned (OpenSpec.upto ncaWholeSpec)

/-- 'raddlelaw10.NcaCounts', WHERE WHAT IT READS IS OF BULK AT MOST 1048576: true; the input reads as it did. -/
def ncaCountsUptoRow : OpenClaim := { program := "ytepbdkfkfcckoaa", sum := "4726e27877dd56fb748d48f60d6f6a8791d68d66a27a67abf9cbe922f1f69c15", func := "raddle/raddlelaw10.NcaCounts", spec := "ncaCounts", unfollowed := true, recurses := true, apart := false, narrowed := true }
def NcaCountsUptoSaid : Prop := ncaCountsUptoRow.holds Try.pinned (OpenSpec.upto ncaCountsSpec)

/-- 'raddlelaw10.NcaParts', WHERE WHAT IT READS IS OF BULK AT MOST 1048576: true; the input reads as it did. -/
def ncaPartsUptoRow : OpenClaim := { program := "ytepbdkfkfcckoaa", sum := "4726e27877dd56fb748d48f60d6f6a8791d68d66a27a67abf9cbe922f1f69c15", func := "raddle/raddlelaw10.NcaParts", spec := "ncaParts", unfollowed := true, recurses := true, apart := false, narrowed := true }
def NcaPartsUptoSaid : Prop := ncaPartsUptoRow.holds Try.pinned (OpenSpec.upto ncaPartsSpec)

/-- 'raddlelaw10.NcaNone', WHERE WHAT IT READS IS OF BULK AT MOST 1048576: true; the input reads as it did. -/
def ncaNoneUptoRow : OpenClaim := { program := "ytepbdkfkfcckoaa", sum := "4726e27877dd56fb748d48f60d6f6a8791d68d66a27a67abf9cbe922f1f69c15", func := "raddle/raddlelaw10.NcaNone", spec := "ncaNone", unfollowed := true, recurses := true, apart := false, narrowed := true }
def NcaNoneUptoSaid : Prop := ncaNoneUptoRow.holds Try.pinned (OpenSpec.upto ncaNoneSpec)

end Rows
end Go.Proofs.Ytepbdkfkfcckoaa
