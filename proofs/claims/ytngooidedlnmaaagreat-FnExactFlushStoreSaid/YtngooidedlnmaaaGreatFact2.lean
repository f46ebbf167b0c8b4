/- Closed facts of the row of FnExactFlushStore, part 3. No condition. -/
import Derived.Test.YtngooidedlnmaaaGreatRows
import Derived.Test.YtngooidedlnmaaaGreatGenRow
namespace Go.Proofs.YtngooidedlnmaaaGreat.Facts
open Go Go.Proofs.YtngooidedlnmaaaGreat
set_option maxRecDepth 100000
theorem k2 : (mapsRowed Tryz.pinned.checked.prog) = true := by kernel_rfl
theorem k5 : ((Rows.fnExactFlushStoreRow.stops == [])) = true := by kernel_rfl
theorem k8 : ((Tryz.pinned.checked.prog.stopKnobs == [])) = true := by kernel_rfl
theorem k11 : ((Rows.fnExactFlushStoreRow.recurses == Tryz.pinned.checked.prog.recurses 3)) = true := by kernel_rfl
theorem k14 : ((Rows.fnExactFlushStoreRow.ifaces == (Tryz.f3.params.toList ++ Rows.fnExactFlushStoreSpec.plain.varTypes Tryz.pinned.checked.prog).any (Tryz.pinned.checked.prog.ifacesRec ·))) = true := by kernel_rfl
theorem k17 : ((Rows.fnExactFlushStoreRow.wideKeys == (Tryz.f3.params.toList ++ Rows.fnExactFlushStoreSpec.plain.varTypes Tryz.pinned.checked.prog ++ Tryz.f3.resultTypes.toList).any (Tryz.pinned.checked.prog.wideKeysFrom ·))) = true := by kernel_rfl
theorem k20 : ((Rows.fnExactFlushStoreRow.ifacesOut == Tryz.f3.resultTypes.toList.any (Tryz.pinned.checked.prog.ifacesRec ·))) = true := by kernel_rfl
theorem k23 : (Rows.fnExactFlushStoreRow.shortTexts.isNone) = true := by kernel_rfl
theorem k26 : ((Rows.fnExactFlushStoreRow.lifted == Tryz.pinned.checked.prog.liftsFinal)) = true := by kernel_rfl
theorem k29 : ((Rows.fnExactFlushStoreRow.pinned == Rows.fnExactFlushStoreRow.pinnedBy)) = true := by kernel_rfl
end Go.Proofs.YtngooidedlnmaaaGreat.Facts
