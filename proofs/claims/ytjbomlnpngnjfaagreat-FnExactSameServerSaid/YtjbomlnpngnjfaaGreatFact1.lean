/- Closed facts of the row of FnExactSameServer, part 2. No condition. -/
import Derived.Test.YtjbomlnpngnjfaaGreatRows
import Derived.Test.YtjbomlnpngnjfaaGreatGenRow
namespace Go.Proofs.YtjbomlnpngnjfaaGreat.Facts
open Go Go.Proofs.YtjbomlnpngnjfaaGreat
set_option maxRecDepth 100000
theorem k1 : (laidOutB Tryz.pinned.checked.prog) = true := by kernel_rfl
theorem k4 : (namedTie Tryz.pinned.checked.prog Rows.fnExactSameServerRow.named Rows.fnExactSameServerSpec.vars) = true := by kernel_rfl
theorem k7 : ((Rows.fnExactSameServerRow.knobs == [])) = true := by kernel_rfl
theorem k10 : ((Rows.fnExactSameServerRow.unfollowed == Tryz.pinned.checked.prog.unfollowed 3)) = true := by kernel_rfl
theorem k13 : ((Rows.fnExactSameServerRow.maps == (Tryz.f3.params.toList ++ Rows.fnExactSameServerSpec.plain.varTypes Tryz.pinned.checked.prog).any (Tryz.pinned.checked.prog.mapsRec ·))) = true := by kernel_rfl
theorem k16 : ((Rows.fnExactSameServerRow.loops == (Tryz.f3.params.toList ++ Rows.fnExactSameServerSpec.plain.varTypes Tryz.pinned.checked.prog).any (Tryz.pinned.checked.prog.loopsFrom ·))) = true := by kernel_rfl
theorem k19 : (Tryz.f3.resultTypes.all (fun t => Tryz.pinned.checked.prog.readableRec t && decide (t < Tryz.pinned.checked.prog.types.size))) = true := by kernel_rfl
theorem k22 : ((Rows.fnExactSameServerRow.plainKeys == Tryz.pinned.checked.prog.plainKeys)) = true := by kernel_rfl
theorem k25 : (Tryz.pinned.checked.prog.mayEnter) = true := by kernel_rfl
theorem k28 : ((Rows.fnExactSameServerRow.kinds == (if Rows.fnExactSameServerRow.domain.isEmpty then [] else Tryz.f3.params.toList.map fun t => match Tryz.pinned.checked.prog.underlying t with | some (.int k) => some k | _ => none))) = true := by kernel_rfl
theorem k31 : (Rows.fnExactSameServerRow.veiledFits Tryz.pinned.checked.prog Tryz.f3.params.toList (Tryz.f3.params.toList ++ Rows.fnExactSameServerSpec.plain.varTypes Tryz.pinned.checked.prog ++ Tryz.f3.resultTypes.toList)) = true := by kernel_rfl
end Go.Proofs.YtjbomlnpngnjfaaGreat.Facts
