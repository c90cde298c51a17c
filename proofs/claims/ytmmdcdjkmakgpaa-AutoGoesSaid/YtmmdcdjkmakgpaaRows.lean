/-
  No cell of these rows narrows 'for every input' (looked for: loops, veiled, ifaces, maps, wideKeys, modest, calm, conditions, laid).
  DERIVED. THE GIVEN ROWS OF THIS SEAT. 7 by the template 'for every input the law returns true; each argument reads behind the call as it read before'; 0 by the template 'total and deterministic' (their statements: YtmmdcdjkmakgpaaTotals.lean).
  GIVEN WITH THE SEED: the statements are not yours to turn. If you find one false, say at which input.
  Laid BY PROGRAM, IN A SANDBOX (cutbox-rows.mjs): the forced cells as the released guide's own fill.sh prints them over the translation 4bff3d1378627966… (all of the seat's roots in one cut). By AI agents, Wed Nov 11 2026. No macro, syntax, notation, axiom, sorry.
-/
import Derived.Test.YtmmdcdjkmakgpaaChecked
import GoSem.Claim
import GoSem.ClaimJoined
import GoSem.ClaimMapViews
import Derived.JoinedTies
import Derived.KernelRfl
namespace Go.Proofs.Ytmmdcdjkmakgpaa
/- THE CELL 'sum', in the pinned program and in every row, IS THE sha256 OF THE DUMP (.gsa) THAT YtmmdcdjkmakgpaaProg.lean LOADS. Nothing in Lean hashes anything: it is a label: what it is worth is what the hold of that sum in a sandbox is worth. -/
noncomputable def Try.pinned : Pinned := { name := "ytmmdcdjkmakgpaa", sum := "4bff3d13786279665d44709bc748429b86476d15cccd2b187fab6e8480657b06", checked := Try.checked }
namespace Rows
def none {H : Type} : Left H := { results := [], args := [] }

/-- 'raddlelaw11.AutoTells': WHATEVER THE INPUT: true; the input reads as it did. -/
def autoTellsSpec : ChangeSpec := { name := "autoTells", fn := fun _ => fun
  | [d1, d2] => { results := [.lit (.bool true)], args := [d1, d2] }
  | _ => none }
def autoTellsRow : OpenClaim := { program := "ytmmdcdjkmakgpaa", sum := "4bff3d13786279665d44709bc748429b86476d15cccd2b187fab6e8480657b06", func := "raddle/raddlelaw11.AutoTells", spec := "autoTells", unfollowed := true, recurses := true, plainKeys := false, apart := false }
def AutoTellsSaid : Prop := autoTellsRow.holds Try.pinned (OpenSpec.ofChange autoTellsSpec)

/-- ITS FALSE NEIGHBOUR: 'it returns false'. Refute it at one input. -/
def autoTellsWrong : ChangeSpec := { name := "autoTells", fn := fun _ => fun
  | [d1, d2] => { results := [.lit (.bool false)], args := [d1, d2] }
  | _ => none }
def AutoTellsWrongFalsely : Prop := autoTellsRow.holds Try.pinned (OpenSpec.ofChange autoTellsWrong)

/-- 'raddlelaw11.AutoGoes': WHATEVER THE INPUT: true; the input reads as it did. -/
def autoGoesSpec : ChangeSpec := { name := "autoGoes", fn := fun _ => fun
  | [d1, d2] => { results := [.lit (.bool true)], args := [d1, d2] }
  | _ => none }
def autoGoesRow : OpenClaim := { program := "ytmmdcdjkmakgpaa", sum := "4bff3d13786279665d44709bc748429b86476d15cccd2b187fab6e8480657b06", func := "raddle/raddlelaw11.AutoGoes", spec := "autoGoes", unfollowed := true, recurses := true, plainKeys := false, apart := false }
def AutoGoesSaid : Prop := autoGoesRow.holds Try.pinned (OpenSpec.ofChange autoGoesSpec)

/-- ITS FALSE NEIGHBOUR: 'it returns false'. Refute it at one input. -/
def autoGoesWrong : ChangeSpec := { name := "autoGoes", fn := fun _ => fun
  | [d1, d2] => { results := [.lit (.bool false)], args := [d1, d2] }
  | _ => none }
def AutoGoesWrongFalsely : Prop := autoGoesRow.holds Try.pinned (OpenSpec.ofChange autoGoesWrong)

/-- 'raddlelaw11.AutoBounds': WHATEVER THE INPUT: true; the input reads as it did. -/
def autoBoundsSpec : ChangeSpec := { name := "autoBounds", fn := fun _ => fun
  | [d1, d2] => { results := [.lit (.bool true)], args := [d1, d2] }
  | _ => none }
def autoBoundsRow : OpenClaim := { program := "ytmmdcdjkmakgpaa", sum := "4bff3d13786279665d44709bc748429b86476d15cccd2b187fab6e8480657b06", func := "raddle/raddlelaw11.AutoBounds", spec := "autoBounds", unfollowed := true, recurses := true, plainKeys := false, apart := false }
def AutoBoundsSaid : Prop := autoBoundsRow.holds Try.pinned (OpenSpec.ofChange autoBoundsSpec)

/-- ITS FALSE NEIGHBOUR: 'it returns false'. Refute it at one input. -/
def autoBoundsWrong : ChangeSpec := { name := "autoBounds", fn := fun _ => fun
  | [d1, d2] => { results := [.lit (.bool false)], args := [d1, d2] }
  | _ => none }
def AutoBoundsWrongFalsely : Prop := autoBoundsRow.holds Try.pinned (OpenSpec.ofChange autoBoundsWrong)

/-- 'raddlelaw11.AutoPlain': WHATEVER THE INPUT: true; the input reads as it did. -/
def autoPlainSpec : ChangeSpec := { name := "autoPlain", fn := fun _ => fun
  | [d1, d2] => { results := [.lit (.bool true)], args := [d1, d2] }
  | _ => none }
def autoPlainRow : OpenClaim := { program := "ytmmdcdjkmakgpaa", sum := "4bff3d13786279665d44709bc748429b86476d15cccd2b187fab6e8480657b06", func := "raddle/raddlelaw11.AutoPlain", spec := "autoPlain", unfollowed := true, recurses := true, plainKeys := false, apart := false }
def AutoPlainSaid : Prop := autoPlainRow.holds Try.pinned (OpenSpec.ofChange autoPlainSpec)

/-- ITS FALSE NEIGHBOUR: 'it returns false'. Refute it at one input. -/
def autoPlainWrong : ChangeSpec := { name := "autoPlain", fn := fun _ => fun
  | [d1, d2] => { results := [.lit (.bool false)], args := [d1, d2] }
  | _ => none }
def AutoPlainWrongFalsely : Prop := autoPlainRow.holds Try.pinned (OpenSpec.ofChange autoPlainWrong)

/-- 'raddlelaw11.AutoRights': WHATEVER THE INPUT: true; the input reads as it did. -/
def autoRightsSpec : ChangeSpec := { name := "autoRights", fn := fun _ => fun
  | [d] => { results := [.lit (.bool true)], args := [d] }
  | _ => none }
def autoRightsRow : OpenClaim := { program := "ytmmdcdjkmakgpaa", sum := "4bff3d13786279665d44709bc748429b86476d15cccd2b187fab6e8480657b06", func := "raddle/raddlelaw11.AutoRights", spec := "autoRights", unfollowed := true, recurses := true, plainKeys := false, apart := false }
def AutoRightsSaid : Prop := autoRightsRow.holds Try.pinned (OpenSpec.ofChange autoRightsSpec)

/-- ITS FALSE NEIGHBOUR: 'it returns false'. Refute it at one input. -/
def autoRightsWrong : ChangeSpec := { name := "autoRights", fn := fun _ => fun
  | [d] => { results := [.lit (.bool false)], args := [d] }
  | _ => none }
def AutoRightsWrongFalsely : Prop := autoRightsRow.holds Try.pinned (OpenSpec.ofChange autoRightsWrong)

/-- 'raddlelaw11.AutoOwn': WHATEVER THE INPUT: true; the input reads as it did. -/
def autoOwnSpec : ChangeSpec := { name := "autoOwn", fn := fun _ => fun
  | [d] => { results := [.lit (.bool true)], args := [d] }
  | _ => none }
def autoOwnRow : OpenClaim := { program := "ytmmdcdjkmakgpaa", sum := "4bff3d13786279665d44709bc748429b86476d15cccd2b187fab6e8480657b06", func := "raddle/raddlelaw11.AutoOwn", spec := "autoOwn", unfollowed := true, recurses := true, plainKeys := false, apart := false }
def AutoOwnSaid : Prop := autoOwnRow.holds Try.pinned (OpenSpec.ofChange autoOwnSpec)

/-- ITS FALSE NEIGHBOUR: 'it returns false'. Refute it at one input. -/
def autoOwnWrong : ChangeSpec := { name := "autoOwn", fn := fun _ => fun
  | [d] => { results := [.lit (.bool false)], args := [d] }
  | _ => none }
def AutoOwnWrongFalsely : Prop := autoOwnRow.holds Try.pinned (OpenSpec.ofChange autoOwnWrong)

/-- 'raddlelaw11.AutoOne': WHATEVER THE INPUT: true; the input reads as it did. -/
def autoOneSpec : ChangeSpec := { name := "autoOne", fn := fun _ => fun
  | [d1, d2, d3] => { results := [.lit (.bool true)], args := [d1, d2, d3] }
  | _ => none }
def autoOneRow : OpenClaim := { program := "ytmmdcdjkmakgpaa", sum := "4bff3d13786279665d44709bc748429b86476d15cccd2b187fab6e8480657b06", func := "raddle/raddlelaw11.AutoOne", spec := "autoOne", unfollowed := true, recurses := true, plainKeys := false, apart := false }
def AutoOneSaid : Prop := autoOneRow.holds Try.pinned (OpenSpec.ofChange autoOneSpec)

/-- ITS FALSE NEIGHBOUR: 'it returns false'. Refute it at one input. -/
def autoOneWrong : ChangeSpec := { name := "autoOne", fn := fun _ => fun
  | [d1, d2, d3] => { results := [.lit (.bool false)], args := [d1, d2, d3] }
  | _ => none }
def AutoOneWrongFalsely : Prop := autoOneRow.holds Try.pinned (OpenSpec.ofChange autoOneWrong)

/- THE SECOND FORM. 'bulk': how many values and letters a reading holds, each counted each time it is reached (what is shared counts as often as it is met; a slice's spare places count too). A statement '..UptoSaid' is the law's where the arguments, and the package variables that the reading takes, are together of bulk at most 1048576: NARROWER than '..Said'. Prove '..Said' where nothing that the law and all that it calls make is longer than what came in: it says more and counts as full. Else prove '..UptoSaid'. A law counts once. -/
mutual
def uptoBulk {H : Type} : DataW H → Nat
  | .lit (.string bytes) => bytes.length + 1
  | .lit _ => 1
  | .nil => 1
  | .ptr d => uptoBulk d + 1
  | .slice elems spare => uptoBulkAll elems + uptoBulkAll spare + 1
  | .agg parts => uptoBulkAll parts + 1
  | .iface _ d => uptoBulk d + 1
  | .map entries => uptoBulkEntries entries + 1
  | .held _ => 1
def uptoBulkAll {H : Type} : List (DataW H) → Nat
  | [] => 0
  | d :: r => uptoBulk d + uptoBulkAll r
def uptoBulkEntries {H : Type} : List (Lit × DataW H) → Nat
  | [] => 0
  | x :: r => uptoBulkEntry x + uptoBulkEntries r
def uptoBulkEntry {H : Type} : Lit × DataW H → Nat
  | (.string bytes, d) => bytes.length + uptoBulk d + 1
  | (_, d) => uptoBulk d + 1
 end
def uptoSmall : (H : Type) → List (DataW H) → Bool := fun _ ds => decide (uptoBulkAll ds ≤ 1048576)
def OpenSpec.upto (s : _root_.Go.ChangeSpec) : _root_.Go.OpenSpec := { _root_.Go.OpenSpec.ofChange s with cond := some uptoSmall }

/-- 'raddlelaw11.AutoTells', WHERE WHAT IT READS IS OF BULK AT MOST 1048576: true; the input reads as it did. -/
def autoTellsUptoRow : OpenClaim := { program := "ytmmdcdjkmakgpaa", sum := "4bff3d13786279665d44709bc748429b86476d15cccd2b187fab6e8480657b06", func := "raddle/raddlelaw11.AutoTells", spec := "autoTells", unfollowed := true, recurses := true, plainKeys := false, apart := false, narrowed := true }
def AutoTellsUptoSaid : Prop := autoTellsUptoRow.holds Try.pinned (OpenSpec.upto autoTellsSpec)

/-- 'raddlelaw11.AutoGoes', WHERE WHAT IT READS IS OF BULK AT MOST 1048576: true; the input reads as it did. -/
def autoGoesUptoRow : OpenClaim := { program := "ytmmdcdjkmakgpaa", sum := "4bff3d13786279665d44709bc748429b86476d15cccd2b187fab6e8480657b06", func := "raddle/raddlelaw11.AutoGoes", spec := "autoGoes", unfollowed := true, recurses := true, plainKeys := false, apart := false, narrowed := true }
def AutoGoesUptoSaid : Prop := autoGoesUptoRow.holds Try.pinned (OpenSpec.upto autoGoesSpec)

/-- 'raddlelaw11.AutoBounds', WHERE WHAT IT READS IS OF BULK AT MOST 1048576: true; the input reads as it did. -/
def autoBoundsUptoRow : OpenClaim := { program := "ytmmdcdjkmakgpaa", sum := "4bff3d13786279665d44709bc748429b86476d15cccd2b187fab6e8480657b06", func := "raddle/raddlelaw11.AutoBounds", spec := "autoBounds", unfollowed := true, recurses := true, plainKeys := false, apart := false, narrowed := true }
def AutoBoundsUptoSaid : Prop := autoBoundsUptoRow.holds Try.pinned (OpenSpec.upto autoBoundsSpec)

/-- 'raddlelaw11.AutoPlain', WHERE WHAT IT READS IS OF BULK AT MOST 1048576: true; the input reads as it did. -/
def autoPlainUptoRow : OpenClaim := { program := "ytmmdcdjkmakgpaa", sum := "4bff3d13786279665d44709bc748429b86476d15cccd2b187fab6e8480657b06", func := "raddle/raddlelaw11.AutoPlain", spec := "autoPlain", unfollowed := true, recurses := true, plainKeys := false, apart := false, narrowed := true }
def AutoPlainUptoSaid : Prop := autoPlainUptoRow.holds Try.pinned (OpenSpec.upto autoPlainSpec)

/-- 'raddlelaw11.AutoRights', WHERE WHAT IT READS IS OF BULK AT MOST 1048576: true; the input reads as it did. -/
def autoRightsUptoRow : OpenClaim := { program := "ytmmdcdjkmakgpaa", sum := "4bff3d13786279665d44709bc748429b86476d15cccd2b187fab6e8480657b06", func := "raddle/raddlelaw11.AutoRights", spec := "autoRights", unfollowed := true, recurses := true, plainKeys := false, apart := false, narrowed := true }
def AutoRightsUptoSaid : Prop := autoRightsUptoRow.holds Try.pinned (OpenSpec.upto autoRightsSpec)

/-- 'raddlelaw11.AutoOwn', WHERE WHAT IT READS IS OF BULK AT MOST 1048576: true; the input reads as it did. -/
def autoOwnUptoRow : OpenClaim := { program := "ytmmdcdjkmakgpaa", sum := "4bff3d13786279665d44709bc748429b86476d15cccd2b187fab6e8480657b06", func := "raddle/raddlelaw11.AutoOwn", spec := "autoOwn", unfollowed := true, recurses := true, plainKeys := false, apart := false, narrowed := true }
def AutoOwnUptoSaid : Prop := autoOwnUptoRow.holds Try.pinned (OpenSpec.upto autoOwnSpec)

/-- 'raddlelaw11.AutoOne', WHERE WHAT IT READS IS OF BULK AT MOST 1048576: true; the input reads as it did. -/
def autoOneUptoRow : OpenClaim := { program := "ytmmdcdjkmakgpaa", sum := "4bff3d13786279665d44709bc748429b86476d15cccd2b187fab6e8480657b06", func := "raddle/raddlelaw11.AutoOne", spec := "autoOne", unfollowed := true, recurses := true, plainKeys := false, apart := false, narrowed := true }
def AutoOneUptoSaid : Prop := autoOneUptoRow.holds Try.pinned (OpenSpec.upto autoOneSpec)

end Rows
end Go.Proofs.Ytmmdcdjkmakgpaa
