/-
  A part of the proof of OperatorArrows: awake() answers true, from any state. No condition of its own.
-/
import Derived.Test.YtgfcgkkcakjodaaDR
import Derived.Test.YtgfcgkkcakjodaaOA1
set_option linter.unusedVariables false
set_option linter.unusedSimpArgs false
namespace Go.Proofs
open Go Go.DL
theorem T.awake (σ : St) : DCalls Try.prog 6 [] σ (isC (.ret (.f (.lit (.bool true)))) σ) :=
  DCalls_closed T.hm T.ext_ok 100000 rfl rfl (by kernel_rfl)
end Go.Proofs
