/- Closed facts of the row of FnExactStateIn, part 3. No condition. -/
import Derived.Test.YtngooidedlnmaaaGreatRows
import Derived.Test.YtngooidedlnmaaaGreatGenRow
namespace Go.Proofs.YtngooidedlnmaaaGreat.Facts
open Go Go.Proofs.YtngooidedlnmaaaGreat
set_option maxRecDepth 100000
theorem k2 : (mapsRowed Tryz.pinned.checked.prog) = true := by kernel_rfl
theorem k5 : ((Rows.fnExactStateInRow.stops == [])) = true := by kernel_rfl
theorem k8 : ((Tryz.pinned.checked.prog.stopKnobs == [])) = true := by kernel_rfl
theorem k11 : ((Rows.fnExactStateInRow.recurses == Tryz.pinned.checked.prog.recurses 5)) = true := by kernel_rfl
theorem k14 : ((Rows.fnExactStateInRow.ifaces == (Tryz.f5.params.toList ++ Rows.fnExactStateInSpec.plain.varTypes Tryz.pinned.checked.prog).any (Tryz.pinned.checked.prog.ifacesRec ·))) = true := by kernel_rfl
theorem k17 : ((Rows.fnExactStateInRow.wideKeys == (Tryz.f5.params.toList ++ Rows.fnExactStateInSpec.plain.varTypes Tryz.pinned.checked.prog ++ Tryz.f5.resultTypes.toList).any (Tryz.pinned.checked.prog.wideKeysFrom ·))) = true := by kernel_rfl
theorem k20 : ((Rows.fnExactStateInRow.ifacesOut == Tryz.f5.resultTypes.toList.any (Tryz.pinned.checked.prog.ifacesRec ·))) = true := by kernel_rfl
theorem k23 : (Rows.fnExactStateInRow.shortTexts.isNone) = true := by kernel_rfl
theorem k26 : ((Rows.fnExactStateInRow.lifted == Tryz.pinned.checked.prog.liftsFinal)) = true := by kernel_rfl
theorem k29 : ((Rows.fnExactStateInRow.pinned == Rows.fnExactStateInRow.pinnedBy)) = true := by kernel_rfl
end Go.Proofs.YtngooidedlnmaaaGreat.Facts
