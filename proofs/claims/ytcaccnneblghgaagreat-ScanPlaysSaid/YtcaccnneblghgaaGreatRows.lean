/-
  No cell of these rows narrows 'for every input' (looked for: loops, veiled, ifaces, maps, wideKeys, modest, calm, conditions, laid).
  DERIVED. THE GIVEN ROWS OF THIS SEAT. 7 by the template 'for every input the law returns true; each argument reads behind the call as it read before'; 0 by the template 'total and deterministic' (their statements: YtcaccnneblghgaaGreatTotals.lean).
  GIVEN WITH THE SEED: the statements are not yours to turn. If you find one false, say at which input.
  Laid BY PROGRAM, IN A SANDBOX (cutbox-rows.mjs): the forced cells as the released guide's own fill.sh prints them over the translation 208affb832d8f018… (all of the seat's roots in one cut). By AI agents, Wed Nov 11 2026. No macro, syntax, notation, axiom, sorry.
-/
import Derived.Test.YtcaccnneblghgaaGreatChecked
import GoSem.Claim
import GoSem.ClaimJoined
import GoSem.ClaimMapViews
import Derived.JoinedTies
import Derived.KernelRfl
namespace Go.Proofs.YtcaccnneblghgaaGreat
/- THE CELL 'sum', in the pinned program and in every row, IS THE sha256 OF THE DUMP (.gsa) THAT YtcaccnneblghgaaGreatProg.lean LOADS. Nothing in Lean hashes anything: it is a label: what it is worth is what the hold of that sum in a sandbox is worth. -/
noncomputable def Tryz.pinned : Pinned := { name := "ytcaccnneblghgaagreat", sum := "208affb832d8f018f39d878436a71222b45e94d02e73426e775afb254beb0aa7", checked := Tryz.checked }
namespace Rows
def none {H : Type} : Left H := { results := [], args := [] }

/-- 'raddlelaw18.ScanMeans': WHATEVER THE INPUT: true; the input reads as it did. -/
def scanMeansSpec : ChangeSpec := { name := "scanMeans", fn := fun _ => fun
  | [d1, d2, d3, d4] => { results := [.lit (.bool true)], args := [d1, d2, d3, d4] }
  | _ => none }
def scanMeansRow : OpenClaim := { program := "ytcaccnneblghgaagreat", sum := "208affb832d8f018f39d878436a71222b45e94d02e73426e775afb254beb0aa7", func := "raddle/raddlelaw18.ScanMeans", spec := "scanMeans", unfollowed := true, recurses := true, apart := false }
def ScanMeansSaid : Prop := scanMeansRow.holds Tryz.pinned (OpenSpec.ofChange scanMeansSpec)

/-- ITS FALSE NEIGHBOUR: 'it returns false'. Refute it at one input. -/
def scanMeansWrong : ChangeSpec := { name := "scanMeans", fn := fun _ => fun
  | [d1, d2, d3, d4] => { results := [.lit (.bool false)], args := [d1, d2, d3, d4] }
  | _ => none }
def ScanMeansWrongFalsely : Prop := scanMeansRow.holds Tryz.pinned (OpenSpec.ofChange scanMeansWrong)

/-- 'raddlelaw18.ScanKeep': WHATEVER THE INPUT: true; the input reads as it did. -/
def scanKeepSpec : ChangeSpec := { name := "scanKeep", fn := fun _ => fun
  | [d1, d2] => { results := [.lit (.bool true)], args := [d1, d2] }
  | _ => none }
def scanKeepRow : OpenClaim := { program := "ytcaccnneblghgaagreat", sum := "208affb832d8f018f39d878436a71222b45e94d02e73426e775afb254beb0aa7", func := "raddle/raddlelaw18.ScanKeep", spec := "scanKeep", unfollowed := true, recurses := true, apart := false }
def ScanKeepSaid : Prop := scanKeepRow.holds Tryz.pinned (OpenSpec.ofChange scanKeepSpec)

/-- ITS FALSE NEIGHBOUR: 'it returns false'. Refute it at one input. -/
def scanKeepWrong : ChangeSpec := { name := "scanKeep", fn := fun _ => fun
  | [d1, d2] => { results := [.lit (.bool false)], args := [d1, d2] }
  | _ => none }
def ScanKeepWrongFalsely : Prop := scanKeepRow.holds Tryz.pinned (OpenSpec.ofChange scanKeepWrong)

/-- 'raddlelaw18.ScanOwn': WHATEVER THE INPUT: true; the input reads as it did. -/
def scanOwnSpec : ChangeSpec := { name := "scanOwn", fn := fun _ => fun
  | [d1, d2, d3] => { results := [.lit (.bool true)], args := [d1, d2, d3] }
  | _ => none }
def scanOwnRow : OpenClaim := { program := "ytcaccnneblghgaagreat", sum := "208affb832d8f018f39d878436a71222b45e94d02e73426e775afb254beb0aa7", func := "raddle/raddlelaw18.ScanOwn", spec := "scanOwn", unfollowed := true, recurses := true, apart := false }
def ScanOwnSaid : Prop := scanOwnRow.holds Tryz.pinned (OpenSpec.ofChange scanOwnSpec)

/-- ITS FALSE NEIGHBOUR: 'it returns false'. Refute it at one input. -/
def scanOwnWrong : ChangeSpec := { name := "scanOwn", fn := fun _ => fun
  | [d1, d2, d3] => { results := [.lit (.bool false)], args := [d1, d2, d3] }
  | _ => none }
def ScanOwnWrongFalsely : Prop := scanOwnRow.holds Tryz.pinned (OpenSpec.ofChange scanOwnWrong)

/-- 'raddlelaw18.ScanSteps': WHATEVER THE INPUT: true; the input reads as it did. -/
def scanStepsSpec : ChangeSpec := { name := "scanSteps", fn := fun _ => fun
  | [d1, d2, d3] => { results := [.lit (.bool true)], args := [d1, d2, d3] }
  | _ => none }
def scanStepsRow : OpenClaim := { program := "ytcaccnneblghgaagreat", sum := "208affb832d8f018f39d878436a71222b45e94d02e73426e775afb254beb0aa7", func := "raddle/raddlelaw18.ScanSteps", spec := "scanSteps", unfollowed := true, recurses := true, apart := false }
def ScanStepsSaid : Prop := scanStepsRow.holds Tryz.pinned (OpenSpec.ofChange scanStepsSpec)

/-- ITS FALSE NEIGHBOUR: 'it returns false'. Refute it at one input. -/
def scanStepsWrong : ChangeSpec := { name := "scanSteps", fn := fun _ => fun
  | [d1, d2, d3] => { results := [.lit (.bool false)], args := [d1, d2, d3] }
  | _ => none }
def ScanStepsWrongFalsely : Prop := scanStepsRow.holds Tryz.pinned (OpenSpec.ofChange scanStepsWrong)

/-- 'raddlelaw18.ScanPlays': WHATEVER THE INPUT: true; the input reads as it did. -/
def scanPlaysSpec : ChangeSpec := { name := "scanPlays", fn := fun _ => fun
  | [d1, d2, d3, d4] => { results := [.lit (.bool true)], args := [d1, d2, d3, d4] }
  | _ => none }
def scanPlaysRow : OpenClaim := { program := "ytcaccnneblghgaagreat", sum := "208affb832d8f018f39d878436a71222b45e94d02e73426e775afb254beb0aa7", func := "raddle/raddlelaw18.ScanPlays", spec := "scanPlays", unfollowed := true, recurses := true, apart := false }
def ScanPlaysSaid : Prop := scanPlaysRow.holds Tryz.pinned (OpenSpec.ofChange scanPlaysSpec)

/-- ITS FALSE NEIGHBOUR: 'it returns false'. Refute it at one input. -/
def scanPlaysWrong : ChangeSpec := { name := "scanPlays", fn := fun _ => fun
  | [d1, d2, d3, d4] => { results := [.lit (.bool false)], args := [d1, d2, d3, d4] }
  | _ => none }
def ScanPlaysWrongFalsely : Prop := scanPlaysRow.holds Tryz.pinned (OpenSpec.ofChange scanPlaysWrong)

/-- 'raddlelaw18.ScanCuts': WHATEVER THE INPUT: true; the input reads as it did. -/
def scanCutsSpec : ChangeSpec := { name := "scanCuts", fn := fun _ => fun
  | [d1, d2, d3] => { results := [.lit (.bool true)], args := [d1, d2, d3] }
  | _ => none }
def scanCutsRow : OpenClaim := { program := "ytcaccnneblghgaagreat", sum := "208affb832d8f018f39d878436a71222b45e94d02e73426e775afb254beb0aa7", func := "raddle/raddlelaw18.ScanCuts", spec := "scanCuts", unfollowed := true, recurses := true, apart := false }
def ScanCutsSaid : Prop := scanCutsRow.holds Tryz.pinned (OpenSpec.ofChange scanCutsSpec)

/-- ITS FALSE NEIGHBOUR: 'it returns false'. Refute it at one input. -/
def scanCutsWrong : ChangeSpec := { name := "scanCuts", fn := fun _ => fun
  | [d1, d2, d3] => { results := [.lit (.bool false)], args := [d1, d2, d3] }
  | _ => none }
def ScanCutsWrongFalsely : Prop := scanCutsRow.holds Tryz.pinned (OpenSpec.ofChange scanCutsWrong)

/-- 'raddlelaw18.ScanEnds': WHATEVER THE INPUT: true; the input reads as it did. -/
def scanEndsSpec : ChangeSpec := { name := "scanEnds", fn := fun _ => fun
  | [d1, d2] => { results := [.lit (.bool true)], args := [d1, d2] }
  | _ => none }
def scanEndsRow : OpenClaim := { program := "ytcaccnneblghgaagreat", sum := "208affb832d8f018f39d878436a71222b45e94d02e73426e775afb254beb0aa7", func := "raddle/raddlelaw18.ScanEnds", spec := "scanEnds", unfollowed := true, recurses := true, apart := false }
def ScanEndsSaid : Prop := scanEndsRow.holds Tryz.pinned (OpenSpec.ofChange scanEndsSpec)

/-- ITS FALSE NEIGHBOUR: 'it returns false'. Refute it at one input. -/
def scanEndsWrong : ChangeSpec := { name := "scanEnds", fn := fun _ => fun
  | [d1, d2] => { results := [.lit (.bool false)], args := [d1, d2] }
  | _ => none }
def ScanEndsWrongFalsely : Prop := scanEndsRow.holds Tryz.pinned (OpenSpec.ofChange scanEndsWrong)

/- THE SECOND FORM. 'bulk': how many values and letters a reading holds, each counted each time it is reached (what is shared counts as often as it is met; a slice's spare places count too). A statement '..UptoSaid' is the law's where the arguments, and the package variables that the reading takes, are together of bulk at most 1048576: NARROWER than '..Said'. Prove '..Said' where nothing that the law and all that it calls make is longer than what came in: it says more and counts as full. Else prove '..UptoSaid'. A law counts once. -/
mutual
def uptoBulk {H : Type} : DataW H → Nat
  | .lit (.string bytes) => bytes.length + 1
  | .lit _ => 1
  | .nil => 1
  | .ptr d => uptoBulk d + 1
  | .slice elems spare => uptoBulkAll elems + uptoBulkAll spare + 1
  | .agg parts => uptoBulkAll parts + 1
  | .iface _ d => uptoBulk d + 1
  | .map entries => uptoBulkEntries entries + 1
  | .held _ => 1
def uptoBulkAll {H : Type} : List (DataW H) → Nat
  | [] => 0
  | d :: r => uptoBulk d + uptoBulkAll r
def uptoBulkEntries {H : Type} : List (Lit × DataW H) → Nat
  | [] => 0
  | x :: r => uptoBulkEntry x + uptoBulkEntries r
def uptoBulkEntry {H : Type} : Lit × DataW H → Nat
  | (.string bytes, d) => bytes.length + uptoBulk d + 1
  | (_, d) => uptoBulk d + 1
 end
def uptoSmall : (H : Type) → List (DataW H) → Bool := fun _ ds => decide (uptoBulkAll ds ≤ 1048576)
def OpenSpec.upto (s : _root_.Go.ChangeSpec) : _root_.Go.OpenSpec := { _root_.Go.OpenSpec.ofChange s with cond := some uptoSmall }

/-- 'raddlelaw18.ScanMeans', WHERE WHAT IT READS IS OF BULK AT MOST 1048576: true; the input reads as it did. -/
def scanMeansUptoRow : OpenClaim := { program := "ytcaccnneblghgaagreat", sum := "208affb832d8f018f39d878436a71222b45e94d02e73426e775afb254beb0aa7", func := "raddle/raddlelaw18.ScanMeans", spec := "scanMeans", unfollowed := true, recurses := true, apart := false, narrowed := true }
def ScanMeansUptoSaid : Prop := scanMeansUptoRow.holds Tryz.pinned (OpenSpec.upto scanMeansSpec)

/-- 'raddlelaw18.ScanKeep', WHERE WHAT IT READS IS OF BULK AT MOST 1048576: true; the input reads as it did. -/
def scanKeepUptoRow : OpenClaim := { program := "ytcaccnneblghgaagreat", sum := "208affb832d8f018f39d878436a71222b45e94d02e73426e775afb254beb0aa7", func := "raddle/raddlelaw18.ScanKeep", spec := "scanKeep", unfollowed := true, recurses := true, apart := false, narrowed := true }
def ScanKeepUptoSaid : Prop := scanKeepUptoRow.holds Tryz.pinned (OpenSpec.upto scanKeepSpec)

/-- 'raddlelaw18.ScanOwn', WHERE WHAT IT READS IS OF BULK AT MOST 1048576: true; the input reads as it did. -/
def scanOwnUptoRow : OpenClaim := { program := "ytcaccnneblghgaagreat", sum := "208affb832d8f018f39d878436a71222b45e94d02e73426e775afb254beb0aa7", func := "raddle/raddlelaw18.ScanOwn", spec := "scanOwn", unfollowed := true, recurses := true, apart := false, narrowed := true }
def ScanOwnUptoSaid : Prop := scanOwnUptoRow.holds Tryz.pinned (OpenSpec.upto scanOwnSpec)

/-- 'raddlelaw18.ScanSteps', WHERE WHAT IT READS IS OF BULK AT MOST 1048576: true; the input reads as it did. -/
def scanStepsUptoRow : OpenClaim := { program := "ytcaccnneblghgaagreat", sum := "208affb832d8f018f39d878436a71222b45e94d02e73426e775afb254beb0aa7", func := "raddle/raddlelaw18.ScanSteps", spec := "scanSteps", unfollowed := true, recurses := true, apart := false, narrowed := true }
def ScanStepsUptoSaid : Prop := scanStepsUptoRow.holds Tryz.pinned (OpenSpec.upto scanStepsSpec)

/-- 'raddlelaw18.ScanPlays', WHERE WHAT IT READS IS OF BULK AT MOST 1048576: true; the input reads as it did. -/
def scanPlaysUptoRow : OpenClaim := { program := "ytcaccnneblghgaagreat", sum := "208affb832d8f018f39d878436a71222b45e94d02e73426e775afb254beb0aa7", func := "raddle/raddlelaw18.ScanPlays", spec := "scanPlays", unfollowed := true, recurses := true, apart := false, narrowed := true }
def ScanPlaysUptoSaid : Prop := scanPlaysUptoRow.holds Tryz.pinned (OpenSpec.upto scanPlaysSpec)

/-- 'raddlelaw18.ScanCuts', WHERE WHAT IT READS IS OF BULK AT MOST 1048576: true; the input reads as it did. -/
def scanCutsUptoRow : OpenClaim := { program := "ytcaccnneblghgaagreat", sum := "208affb832d8f018f39d878436a71222b45e94d02e73426e775afb254beb0aa7", func := "raddle/raddlelaw18.ScanCuts", spec := "scanCuts", unfollowed := true, recurses := true, apart := false, narrowed := true }
def ScanCutsUptoSaid : Prop := scanCutsUptoRow.holds Tryz.pinned (OpenSpec.upto scanCutsSpec)

/-- 'raddlelaw18.ScanEnds', WHERE WHAT IT READS IS OF BULK AT MOST 1048576: true; the input reads as it did. -/
def scanEndsUptoRow : OpenClaim := { program := "ytcaccnneblghgaagreat", sum := "208affb832d8f018f39d878436a71222b45e94d02e73426e775afb254beb0aa7", func := "raddle/raddlelaw18.ScanEnds", spec := "scanEnds", unfollowed := true, recurses := true, apart := false, narrowed := true }
def ScanEndsUptoSaid : Prop := scanEndsUptoRow.holds Tryz.pinned (OpenSpec.upto scanEndsSpec)

end Rows
end Go.Proofs.YtcaccnneblghgaaGreat
