/- Closed facts of the row of FnExactFlushStore, part 1. No condition. -/
import Derived.Test.YtngooidedlnmaaaGreatRows
import Derived.Test.YtngooidedlnmaaaGreatGenRow
namespace Go.Proofs.YtngooidedlnmaaaGreat.Facts
open Go Go.Proofs.YtngooidedlnmaaaGreat
set_option maxRecDepth 100000
theorem k0 : (Rows.fnExactFlushStoreRow.wf (OpenSpec.ofChange Rows.fnExactFlushStoreSpec)) = true := by kernel_rfl
theorem k3 : (Tryz.f3.params.all (Tryz.pinned.checked.prog.readableRec ·)) = true := by kernel_rfl
theorem k6 : ((Tryz.pinned.checked.prog.stops == [])) = true := by kernel_rfl
theorem k9 : ((Rows.fnExactFlushStoreRow.inPlace == Tryz.pinned.checked.prog.inPlace 3)) = true := by kernel_rfl
theorem k12 : ((Rows.fnExactFlushStoreRow.named == Tryz.pinned.checked.prog.varsNamed 3)) = true := by kernel_rfl
theorem k15 : ((Rows.fnExactFlushStoreRow.mapsOut == Tryz.pinned.checked.prog.mapsAmong Tryz.f3.resultTypes.toList)) = true := by kernel_rfl
theorem k18 : (Rows.fnExactFlushStoreSpec.vars.all (Tryz.pinned.checked.prog.varReadable ·)) = true := by kernel_rfl
theorem k21 : ((Rows.fnExactFlushStoreRow.loopsOut == Tryz.f3.resultTypes.toList.any (Tryz.pinned.checked.prog.loopsFrom ·))) = true := by kernel_rfl
theorem k24 : (Tryz.pinned.checked.prog.stopsHeard) = true := by kernel_rfl
theorem k27 : ((Tryz.pinned.checked.prog.make == some Rows.fnExactFlushStoreRow.make)) = true := by kernel_rfl
theorem k30 : ((Rows.fnExactFlushStoreRow.veiled == (Tryz.f3.params.toList ++ Rows.fnExactFlushStoreSpec.plain.varTypes Tryz.pinned.checked.prog ++ Tryz.f3.resultTypes.toList).any (Tryz.pinned.checked.prog.veiledRec ·))) = true := by kernel_rfl
end Go.Proofs.YtngooidedlnmaaaGreat.Facts
