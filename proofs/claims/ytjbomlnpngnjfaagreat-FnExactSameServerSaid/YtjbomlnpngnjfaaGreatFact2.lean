/- Closed facts of the row of FnExactSameServer, part 3. No condition. -/
import Derived.Test.YtjbomlnpngnjfaaGreatRows
import Derived.Test.YtjbomlnpngnjfaaGreatGenRow
namespace Go.Proofs.YtjbomlnpngnjfaaGreat.Facts
open Go Go.Proofs.YtjbomlnpngnjfaaGreat
set_option maxRecDepth 100000
theorem k2 : (mapsRowed Tryz.pinned.checked.prog) = true := by kernel_rfl
theorem k5 : ((Rows.fnExactSameServerRow.stops == [])) = true := by kernel_rfl
theorem k8 : ((Tryz.pinned.checked.prog.stopKnobs == [])) = true := by kernel_rfl
theorem k11 : ((Rows.fnExactSameServerRow.recurses == Tryz.pinned.checked.prog.recurses 3)) = true := by kernel_rfl
theorem k14 : ((Rows.fnExactSameServerRow.ifaces == (Tryz.f3.params.toList ++ Rows.fnExactSameServerSpec.plain.varTypes Tryz.pinned.checked.prog).any (Tryz.pinned.checked.prog.ifacesRec ·))) = true := by kernel_rfl
theorem k17 : ((Rows.fnExactSameServerRow.wideKeys == (Tryz.f3.params.toList ++ Rows.fnExactSameServerSpec.plain.varTypes Tryz.pinned.checked.prog ++ Tryz.f3.resultTypes.toList).any (Tryz.pinned.checked.prog.wideKeysFrom ·))) = true := by kernel_rfl
theorem k20 : ((Rows.fnExactSameServerRow.ifacesOut == Tryz.f3.resultTypes.toList.any (Tryz.pinned.checked.prog.ifacesRec ·))) = true := by kernel_rfl
theorem k23 : (Rows.fnExactSameServerRow.shortTexts.isNone) = true := by kernel_rfl
theorem k26 : ((Rows.fnExactSameServerRow.lifted == Tryz.pinned.checked.prog.liftsFinal)) = true := by kernel_rfl
theorem k29 : ((Rows.fnExactSameServerRow.pinned == Rows.fnExactSameServerRow.pinnedBy)) = true := by kernel_rfl
end Go.Proofs.YtjbomlnpngnjfaaGreat.Facts
