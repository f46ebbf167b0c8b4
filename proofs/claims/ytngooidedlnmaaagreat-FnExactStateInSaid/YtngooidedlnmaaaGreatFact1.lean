/- Closed facts of the row of FnExactStateIn, part 2. No condition. -/
import Derived.Test.YtngooidedlnmaaaGreatRows
import Derived.Test.YtngooidedlnmaaaGreatGenRow
namespace Go.Proofs.YtngooidedlnmaaaGreat.Facts
open Go Go.Proofs.YtngooidedlnmaaaGreat
set_option maxRecDepth 100000
theorem k1 : (laidOutB Tryz.pinned.checked.prog) = true := by kernel_rfl
theorem k4 : (namedTie Tryz.pinned.checked.prog Rows.fnExactStateInRow.named Rows.fnExactStateInSpec.vars) = true := by kernel_rfl
theorem k7 : ((Rows.fnExactStateInRow.knobs == [])) = true := by kernel_rfl
theorem k10 : ((Rows.fnExactStateInRow.unfollowed == Tryz.pinned.checked.prog.unfollowed 5)) = true := by kernel_rfl
theorem k13 : ((Rows.fnExactStateInRow.maps == (Tryz.f5.params.toList ++ Rows.fnExactStateInSpec.plain.varTypes Tryz.pinned.checked.prog).any (Tryz.pinned.checked.prog.mapsRec ·))) = true := by kernel_rfl
theorem k16 : ((Rows.fnExactStateInRow.loops == (Tryz.f5.params.toList ++ Rows.fnExactStateInSpec.plain.varTypes Tryz.pinned.checked.prog).any (Tryz.pinned.checked.prog.loopsFrom ·))) = true := by kernel_rfl
theorem k19 : (Tryz.f5.resultTypes.all (fun t => Tryz.pinned.checked.prog.readableRec t && decide (t < Tryz.pinned.checked.prog.types.size))) = true := by kernel_rfl
theorem k22 : ((Rows.fnExactStateInRow.plainKeys == Tryz.pinned.checked.prog.plainKeys)) = true := by kernel_rfl
theorem k25 : (Tryz.pinned.checked.prog.mayEnter) = true := by kernel_rfl
theorem k28 : ((Rows.fnExactStateInRow.kinds == (if Rows.fnExactStateInRow.domain.isEmpty then [] else Tryz.f5.params.toList.map fun t => match Tryz.pinned.checked.prog.underlying t with | some (.int k) => some k | _ => none))) = true := by kernel_rfl
theorem k31 : (Rows.fnExactStateInRow.veiledFits Tryz.pinned.checked.prog Tryz.f5.params.toList (Tryz.f5.params.toList ++ Rows.fnExactStateInSpec.plain.varTypes Tryz.pinned.checked.prog ++ Tryz.f5.resultTypes.toList)) = true := by kernel_rfl
end Go.Proofs.YtngooidedlnmaaaGreat.Facts
