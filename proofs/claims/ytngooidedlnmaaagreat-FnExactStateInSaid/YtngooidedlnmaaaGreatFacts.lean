/- The closed facts of the row of FnExactStateIn, together. No condition. -/
import Derived.Test.YtngooidedlnmaaaGreatFact0
import Derived.Test.YtngooidedlnmaaaGreatFact1
import Derived.Test.YtngooidedlnmaaaGreatFact2
namespace Go.Proofs.YtngooidedlnmaaaGreat.Facts
open Go Go.Proofs.YtngooidedlnmaaaGreat
set_option maxRecDepth 100000
theorem and2 {a b : Bool} (h1 : a = true) (h2 : b = true) : (a && b) = true := by rw [h1, h2]; rfl
theorem closed : joinedFacts Tryz.pinned.checked.prog 5 Tryz.f5 Rows.fnExactStateInSpec Rows.fnExactStateInRow = true := by
  unfold joinedFacts
  exact and2 (and2 (and2 (and2 (and2 (and2 (and2 (and2 (and2 (and2 (and2 (and2 (and2 (and2 (and2 (and2 (and2 (and2 (and2 (and2 (and2 (and2 (and2 (and2 (and2 (and2 (and2 (and2 (and2 (and2 (and2 (k0) k1) k2) k3) k4) k5) k6) k7) k8) k9) k10) k11) k12) k13) k14) k15) k16) k17) k18) k19) k20) k21) k22) k23) k24) k25) k26) k27) k28) k29) k30) k31
end Go.Proofs.YtngooidedlnmaaaGreat.Facts
