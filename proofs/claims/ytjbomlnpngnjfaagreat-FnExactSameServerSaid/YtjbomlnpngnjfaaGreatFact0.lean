/- Closed facts of the row of FnExactSameServer, part 1. No condition. -/
import Derived.Test.YtjbomlnpngnjfaaGreatRows
import Derived.Test.YtjbomlnpngnjfaaGreatGenRow
namespace Go.Proofs.YtjbomlnpngnjfaaGreat.Facts
open Go Go.Proofs.YtjbomlnpngnjfaaGreat
set_option maxRecDepth 100000
theorem k0 : (Rows.fnExactSameServerRow.wf (OpenSpec.ofChange Rows.fnExactSameServerSpec)) = true := by kernel_rfl
theorem k3 : (Tryz.f3.params.all (Tryz.pinned.checked.prog.readableRec ·)) = true := by kernel_rfl
theorem k6 : ((Tryz.pinned.checked.prog.stops == [])) = true := by kernel_rfl
theorem k9 : ((Rows.fnExactSameServerRow.inPlace == Tryz.pinned.checked.prog.inPlace 3)) = true := by kernel_rfl
theorem k12 : ((Rows.fnExactSameServerRow.named == Tryz.pinned.checked.prog.varsNamed 3)) = true := by kernel_rfl
theorem k15 : ((Rows.fnExactSameServerRow.mapsOut == Tryz.pinned.checked.prog.mapsAmong Tryz.f3.resultTypes.toList)) = true := by kernel_rfl
theorem k18 : (Rows.fnExactSameServerSpec.vars.all (Tryz.pinned.checked.prog.varReadable ·)) = true := by kernel_rfl
theorem k21 : ((Rows.fnExactSameServerRow.loopsOut == Tryz.f3.resultTypes.toList.any (Tryz.pinned.checked.prog.loopsFrom ·))) = true := by kernel_rfl
theorem k24 : (Tryz.pinned.checked.prog.stopsHeard) = true := by kernel_rfl
theorem k27 : ((Tryz.pinned.checked.prog.make == some Rows.fnExactSameServerRow.make)) = true := by kernel_rfl
theorem k30 : ((Rows.fnExactSameServerRow.veiled == (Tryz.f3.params.toList ++ Rows.fnExactSameServerSpec.plain.varTypes Tryz.pinned.checked.prog ++ Tryz.f3.resultTypes.toList).any (Tryz.pinned.checked.prog.veiledRec ·))) = true := by kernel_rfl
end Go.Proofs.YtjbomlnpngnjfaaGreat.Facts
