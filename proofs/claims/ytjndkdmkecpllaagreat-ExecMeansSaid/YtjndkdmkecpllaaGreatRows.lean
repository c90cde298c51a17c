/-
  No cell of these rows narrows 'for every input' (looked for: loops, veiled, ifaces, maps, wideKeys, modest, calm, conditions, laid).
  DERIVED. THE GIVEN ROWS OF THIS SEAT. 8 by the template 'for every input the law returns true; each argument reads behind the call as it read before'; 0 by the template 'total and deterministic' (their statements: YtjndkdmkecpllaaGreatTotals.lean).
  GIVEN WITH THE SEED: the statements are not yours to turn. If you find one false, say at which input.
  Laid BY PROGRAM, IN A SANDBOX (cutbox-rows.mjs): the forced cells as the released guide's own fill.sh prints them over the translation 02e81f175d114bcf… (all of the seat's roots in one cut). By AI agents, Wed Nov 11 2026. No macro, syntax, notation, axiom, sorry.
-/
import Derived.Test.YtjndkdmkecpllaaGreatChecked
import GoSem.Claim
import GoSem.ClaimJoined
import GoSem.ClaimMapViews
import Derived.JoinedTies
import Derived.KernelRfl
namespace Go.Proofs.YtjndkdmkecpllaaGreat
/- THE CELL 'sum', in the pinned program and in every row, IS THE sha256 OF THE DUMP (.gsa) THAT YtjndkdmkecpllaaGreatProg.lean LOADS. Nothing in Lean hashes anything: it is a label: what it is worth is what the hold of that sum in a sandbox is worth. -/
noncomputable def Tryz.pinned : Pinned := { name := "ytjndkdmkecpllaagreat", sum := "02e81f175d114bcf34807f462ab40bf20ad51ae3832af7a8d46bc9c19735feed", checked := Tryz.checked }
namespace Rows
def none {H : Type} : Left H := { results := [], args := [] }

/-- 'raddlelaw13.ExecMeans': WHATEVER THE INPUT: true; the input reads as it did. -/
def execMeansSpec : ChangeSpec := { name := "execMeans", fn := fun _ => fun
  | [d1, d2, d3] => { results := [.lit (.bool true)], args := [d1, d2, d3] }
  | _ => none }
def execMeansRow : OpenClaim := { program := "ytjndkdmkecpllaagreat", sum := "02e81f175d114bcf34807f462ab40bf20ad51ae3832af7a8d46bc9c19735feed", func := "raddle/raddlelaw13.ExecMeans", spec := "execMeans", unfollowed := true, recurses := true, apart := false }
def ExecMeansSaid : Prop := execMeansRow.holds Tryz.pinned (OpenSpec.ofChange execMeansSpec)

/-- ITS FALSE NEIGHBOUR: 'it returns false'. Refute it at one input. -/
def execMeansWrong : ChangeSpec := { name := "execMeans", fn := fun _ => fun
  | [d1, d2, d3] => { results := [.lit (.bool false)], args := [d1, d2, d3] }
  | _ => none }
def ExecMeansWrongFalsely : Prop := execMeansRow.holds Tryz.pinned (OpenSpec.ofChange execMeansWrong)

/-- 'raddlelaw13.ExecReset': WHATEVER THE INPUT: true; the input reads as it did. -/
def execResetSpec : ChangeSpec := { name := "execReset", fn := fun _ => fun
  | [d1, d2, d3] => { results := [.lit (.bool true)], args := [d1, d2, d3] }
  | _ => none }
def execResetRow : OpenClaim := { program := "ytjndkdmkecpllaagreat", sum := "02e81f175d114bcf34807f462ab40bf20ad51ae3832af7a8d46bc9c19735feed", func := "raddle/raddlelaw13.ExecReset", spec := "execReset", unfollowed := true, recurses := true, apart := false }
def ExecResetSaid : Prop := execResetRow.holds Tryz.pinned (OpenSpec.ofChange execResetSpec)

/-- ITS FALSE NEIGHBOUR: 'it returns false'. Refute it at one input. -/
def execResetWrong : ChangeSpec := { name := "execReset", fn := fun _ => fun
  | [d1, d2, d3] => { results := [.lit (.bool false)], args := [d1, d2, d3] }
  | _ => none }
def ExecResetWrongFalsely : Prop := execResetRow.holds Tryz.pinned (OpenSpec.ofChange execResetWrong)

/-- 'raddlelaw13.ExecGoes': WHATEVER THE INPUT: true; the input reads as it did. -/
def execGoesSpec : ChangeSpec := { name := "execGoes", fn := fun _ => fun
  | [d1, d2] => { results := [.lit (.bool true)], args := [d1, d2] }
  | _ => none }
def execGoesRow : OpenClaim := { program := "ytjndkdmkecpllaagreat", sum := "02e81f175d114bcf34807f462ab40bf20ad51ae3832af7a8d46bc9c19735feed", func := "raddle/raddlelaw13.ExecGoes", spec := "execGoes", unfollowed := true, recurses := true, apart := false }
def ExecGoesSaid : Prop := execGoesRow.holds Tryz.pinned (OpenSpec.ofChange execGoesSpec)

/-- ITS FALSE NEIGHBOUR: 'it returns false'. Refute it at one input. -/
def execGoesWrong : ChangeSpec := { name := "execGoes", fn := fun _ => fun
  | [d1, d2] => { results := [.lit (.bool false)], args := [d1, d2] }
  | _ => none }
def ExecGoesWrongFalsely : Prop := execGoesRow.holds Tryz.pinned (OpenSpec.ofChange execGoesWrong)

/-- 'raddlelaw13.ExecLongest': WHATEVER THE INPUT: true; the input reads as it did. -/
def execLongestSpec : ChangeSpec := { name := "execLongest", fn := fun _ => fun
  | [d1, d2, d3, d4] => { results := [.lit (.bool true)], args := [d1, d2, d3, d4] }
  | _ => none }
def execLongestRow : OpenClaim := { program := "ytjndkdmkecpllaagreat", sum := "02e81f175d114bcf34807f462ab40bf20ad51ae3832af7a8d46bc9c19735feed", func := "raddle/raddlelaw13.ExecLongest", spec := "execLongest", unfollowed := true, recurses := true, apart := false }
def ExecLongestSaid : Prop := execLongestRow.holds Tryz.pinned (OpenSpec.ofChange execLongestSpec)

/-- ITS FALSE NEIGHBOUR: 'it returns false'. Refute it at one input. -/
def execLongestWrong : ChangeSpec := { name := "execLongest", fn := fun _ => fun
  | [d1, d2, d3, d4] => { results := [.lit (.bool false)], args := [d1, d2, d3, d4] }
  | _ => none }
def ExecLongestWrongFalsely : Prop := execLongestRow.holds Tryz.pinned (OpenSpec.ofChange execLongestWrong)

/-- 'raddlelaw13.ExecWork': WHATEVER THE INPUT: true; the input reads as it did. -/
def execWorkSpec : ChangeSpec := { name := "execWork", fn := fun _ => fun
  | [d1, d2] => { results := [.lit (.bool true)], args := [d1, d2] }
  | _ => none }
def execWorkRow : OpenClaim := { program := "ytjndkdmkecpllaagreat", sum := "02e81f175d114bcf34807f462ab40bf20ad51ae3832af7a8d46bc9c19735feed", func := "raddle/raddlelaw13.ExecWork", spec := "execWork", unfollowed := true, recurses := true, apart := false }
def ExecWorkSaid : Prop := execWorkRow.holds Tryz.pinned (OpenSpec.ofChange execWorkSpec)

/-- ITS FALSE NEIGHBOUR: 'it returns false'. Refute it at one input. -/
def execWorkWrong : ChangeSpec := { name := "execWork", fn := fun _ => fun
  | [d1, d2] => { results := [.lit (.bool false)], args := [d1, d2] }
  | _ => none }
def ExecWorkWrongFalsely : Prop := execWorkRow.holds Tryz.pinned (OpenSpec.ofChange execWorkWrong)

/-- 'raddlelaw13.ExecPlays': WHATEVER THE INPUT: true; the input reads as it did. -/
def execPlaysSpec : ChangeSpec := { name := "execPlays", fn := fun _ => fun
  | [d1, d2, d3] => { results := [.lit (.bool true)], args := [d1, d2, d3] }
  | _ => none }
def execPlaysRow : OpenClaim := { program := "ytjndkdmkecpllaagreat", sum := "02e81f175d114bcf34807f462ab40bf20ad51ae3832af7a8d46bc9c19735feed", func := "raddle/raddlelaw13.ExecPlays", spec := "execPlays", unfollowed := true, recurses := true, apart := false }
def ExecPlaysSaid : Prop := execPlaysRow.holds Tryz.pinned (OpenSpec.ofChange execPlaysSpec)

/-- ITS FALSE NEIGHBOUR: 'it returns false'. Refute it at one input. -/
def execPlaysWrong : ChangeSpec := { name := "execPlays", fn := fun _ => fun
  | [d1, d2, d3] => { results := [.lit (.bool false)], args := [d1, d2, d3] }
  | _ => none }
def ExecPlaysWrongFalsely : Prop := execPlaysRow.holds Tryz.pinned (OpenSpec.ofChange execPlaysWrong)

/-- 'raddlelaw13.ExecNil': WHATEVER THE INPUT: true; the input reads as it did. -/
def execNilSpec : ChangeSpec := { name := "execNil", fn := fun _ => fun
  | [d1, d2] => { results := [.lit (.bool true)], args := [d1, d2] }
  | _ => none }
def execNilRow : OpenClaim := { program := "ytjndkdmkecpllaagreat", sum := "02e81f175d114bcf34807f462ab40bf20ad51ae3832af7a8d46bc9c19735feed", func := "raddle/raddlelaw13.ExecNil", spec := "execNil", unfollowed := true, recurses := true, apart := false }
def ExecNilSaid : Prop := execNilRow.holds Tryz.pinned (OpenSpec.ofChange execNilSpec)

/-- ITS FALSE NEIGHBOUR: 'it returns false'. Refute it at one input. -/
def execNilWrong : ChangeSpec := { name := "execNil", fn := fun _ => fun
  | [d1, d2] => { results := [.lit (.bool false)], args := [d1, d2] }
  | _ => none }
def ExecNilWrongFalsely : Prop := execNilRow.holds Tryz.pinned (OpenSpec.ofChange execNilWrong)

/-- 'raddlelaw13.ExecCounts': WHATEVER THE INPUT: true; the input reads as it did. -/
def execCountsSpec : ChangeSpec := { name := "execCounts", fn := fun _ => fun
  | [d1, d2, d3] => { results := [.lit (.bool true)], args := [d1, d2, d3] }
  | _ => none }
def execCountsRow : OpenClaim := { program := "ytjndkdmkecpllaagreat", sum := "02e81f175d114bcf34807f462ab40bf20ad51ae3832af7a8d46bc9c19735feed", func := "raddle/raddlelaw13.ExecCounts", spec := "execCounts", unfollowed := true, recurses := true, apart := false }
def ExecCountsSaid : Prop := execCountsRow.holds Tryz.pinned (OpenSpec.ofChange execCountsSpec)

/-- ITS FALSE NEIGHBOUR: 'it returns false'. Refute it at one input. -/
def execCountsWrong : ChangeSpec := { name := "execCounts", fn := fun _ => fun
  | [d1, d2, d3] => { results := [.lit (.bool false)], args := [d1, d2, d3] }
  | _ => none }
def ExecCountsWrongFalsely : Prop := execCountsRow.holds Tryz.pinned (OpenSpec.ofChange execCountsWrong)

/- THE SECOND FORM. 'bulk': how many values and letters a reading holds, each counted each time it is reached (what is shared counts as often as it is met; a slice's spare places count too). A statement '..UptoSaid' is the law's where the arguments, and the package variables that the reading takes, are together of bulk at most 1048576: NARROWER than '..Said'. Prove '..Said' where nothing that the law and all that it calls make is longer than what came in: it says more and counts as full. Else prove '..UptoSaid'. A law counts once. -/
mutual
def uptoBulk {H : Type} : DataW H → Nat
  | .lit (.string bytes) => bytes.length + 1
  | .lit _ => 1
  | .nil => 1
  | .ptr d => uptoBulk d + 1
  | .slice elems spare => uptoBulkAll elems + uptoBulkAll spare + 1
  | .agg parts => uptoBulkAll parts + 1
  | .iface _ d => uptoBulk d + 1
  | .map entries => uptoBulkEntries entries + 1
  | .held _ => 1
def uptoBulkAll {H : Type} : List (DataW H) → Nat
  | [] => 0
  | d :: r => uptoBulk d + uptoBulkAll r
def uptoBulkEntries {H : Type} : List (Lit × DataW H) → Nat
  | [] => 0
  | x :: r => uptoBulkEntry x + uptoBulkEntries r
def uptoBulkEntry {H : Type} : Lit × DataW H → Nat
  | (.string bytes, d) => bytes.length + uptoBulk d + 1
  | (_, d) => uptoBulk d + 1
 end
def uptoSmall : (H : Type) → List (DataW H) → Bool := fun _ ds => decide (uptoBulkAll ds ≤ 1048576)
def OpenSpec.upto (s : _root_.Go.ChangeSpec) : _root_.Go.OpenSpec := { _root_.Go.OpenSpec.ofChange s with cond := some uptoSmall }

/-- 'raddlelaw13.ExecMeans', WHERE WHAT IT READS IS OF BULK AT MOST 1048576: true; the input reads as it did. -/
def execMeansUptoRow : OpenClaim := { program := "ytjndkdmkecpllaagreat", sum := "02e81f175d114bcf34807f462ab40bf20ad51ae3832af7a8d46bc9c19735feed", func := "raddle/raddlelaw13.ExecMeans", spec := "execMeans", unfollowed := true, recurses := true, apart := false, narrowed := true }
def ExecMeansUptoSaid : Prop := execMeansUptoRow.holds Tryz.pinned (OpenSpec.upto execMeansSpec)

/-- 'raddlelaw13.ExecReset', WHERE WHAT IT READS IS OF BULK AT MOST 1048576: true; the input reads as it did. -/
def execResetUptoRow : OpenClaim := { program := "ytjndkdmkecpllaagreat", sum := "02e81f175d114bcf34807f462ab40bf20ad51ae3832af7a8d46bc9c19735feed", func := "raddle/raddlelaw13.ExecReset", spec := "execReset", unfollowed := true, recurses := true, apart := false, narrowed := true }
def ExecResetUptoSaid : Prop := execResetUptoRow.holds Tryz.pinned (OpenSpec.upto execResetSpec)

/-- 'raddlelaw13.ExecGoes', WHERE WHAT IT READS IS OF BULK AT MOST 1048576: true; the input reads as it did. -/
def execGoesUptoRow : OpenClaim := { program := "ytjndkdmkecpllaagreat", sum := "02e81f175d114bcf34807f462ab40bf20ad51ae3832af7a8d46bc9c19735feed", func := "raddle/raddlelaw13.ExecGoes", spec := "execGoes", unfollowed := true, recurses := true, apart := false, narrowed := true }
def ExecGoesUptoSaid : Prop := execGoesUptoRow.holds Tryz.pinned (OpenSpec.upto execGoesSpec)

/-- 'raddlelaw13.ExecLongest', WHERE WHAT IT READS IS OF BULK AT MOST 1048576: true; the input reads as it did. -/
def execLongestUptoRow : OpenClaim := { program := "ytjndkdmkecpllaagreat", sum := "02e81f175d114bcf34807f462ab40bf20ad51ae3832af7a8d46bc9c19735feed", func := "raddle/raddlelaw13.ExecLongest", spec := "execLongest", unfollowed := true, recurses := true, apart := false, narrowed := true }
def ExecLongestUptoSaid : Prop := execLongestUptoRow.holds Tryz.pinned (OpenSpec.upto execLongestSpec)

/-- 'raddlelaw13.ExecWork', WHERE WHAT IT READS IS OF BULK AT MOST 1048576: true; the input reads as it did. -/
def execWorkUptoRow : OpenClaim := { program := "ytjndkdmkecpllaagreat", sum := "02e81f175d114bcf34807f462ab40bf20ad51ae3832af7a8d46bc9c19735feed", func := "raddle/raddlelaw13.ExecWork", spec := "execWork", unfollowed := true, recurses := true, apart := false, narrowed := true }
def ExecWorkUptoSaid : Prop := execWorkUptoRow.holds Tryz.pinned (OpenSpec.upto execWorkSpec)

/-- 'raddlelaw13.ExecPlays', WHERE WHAT IT READS IS OF BULK AT MOST 1048576: true; the input reads as it did. -/
def execPlaysUptoRow : OpenClaim := { program := "ytjndkdmkecpllaagreat", sum := "02e81f175d114bcf34807f462ab40bf20ad51ae3832af7a8d46bc9c19735feed", func := "raddle/raddlelaw13.ExecPlays", spec := "execPlays", unfollowed := true, recurses := true, apart := false, narrowed := true }
def ExecPlaysUptoSaid : Prop := execPlaysUptoRow.holds Tryz.pinned (OpenSpec.upto execPlaysSpec)

/-- 'raddlelaw13.ExecNil', WHERE WHAT IT READS IS OF BULK AT MOST 1048576: true; the input reads as it did. -/
def execNilUptoRow : OpenClaim := { program := "ytjndkdmkecpllaagreat", sum := "02e81f175d114bcf34807f462ab40bf20ad51ae3832af7a8d46bc9c19735feed", func := "raddle/raddlelaw13.ExecNil", spec := "execNil", unfollowed := true, recurses := true, apart := false, narrowed := true }
def ExecNilUptoSaid : Prop := execNilUptoRow.holds Tryz.pinned (OpenSpec.upto execNilSpec)

/-- 'raddlelaw13.ExecCounts', WHERE WHAT IT READS IS OF BULK AT MOST 1048576: true; the input reads as it did. -/
def execCountsUptoRow : OpenClaim := { program := "ytjndkdmkecpllaagreat", sum := "02e81f175d114bcf34807f462ab40bf20ad51ae3832af7a8d46bc9c19735feed", func := "raddle/raddlelaw13.ExecCounts", spec := "execCounts", unfollowed := true, recurses := true, apart := false, narrowed := true }
def ExecCountsUptoSaid : Prop := execCountsUptoRow.holds Tryz.pinned (OpenSpec.upto execCountsSpec)

end Rows
end Go.Proofs.YtjndkdmkecpllaaGreat
