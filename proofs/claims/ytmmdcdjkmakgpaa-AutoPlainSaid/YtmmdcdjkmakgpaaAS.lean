/- The document's examples (shown), carried out.
   No condition. -/
import Derived.Test.YtmmdcdjkmakgpaaG
import Derived.Test.YtmmdcdjkmakgpaaV3
set_option linter.unusedVariables false
set_option linter.unusedSimpArgs false
namespace Go.Proofs.Ytmmdcdjkmakgpaa
namespace V
theorem okZ : zerosOk Try.prog = true := by kernel_rfl
theorem okN : namesOk Try.prog = true := by kernel_rfl
theorem okM : Try.prog.follows .mixedOrders = true := by kernel_rfl
set_option maxRecDepth 1000000 in
theorem shown_orc : Orc Try.prog i_law11_shown (.bool true) := orc_ev okZ okN okM (k := 200) rfl (by kernel_rfl) fun ro => by kernel_rfl
theorem shown_c {ro : Ro} {h : T Obj} {nx : Nat} {K : KV} (hK : K (.bool true) h nx) : callP Try.prog ro i_law11_shown [] h nx K := callP_orc shown_orc hK
end V
end Go.Proofs.Ytmmdcdjkmakgpaa
