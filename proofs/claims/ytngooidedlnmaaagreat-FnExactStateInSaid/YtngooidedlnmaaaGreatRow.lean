/- For all arguments: FnExactStateIn returns true. No condition. -/
import Derived.Test.YtngooidedlnmaaaGreatRows
import Derived.Test.YtngooidedlnmaaaGreatGenRow
import Derived.Test.YtngooidedlnmaaaGreatFacts
import Derived.Test.YtngooidedlnmaaaGreatL
namespace Go.Proofs.YtngooidedlnmaaaGreat.Pv
open Go

theorem fnExactStateIn_run (ps : List PV) (h : hasAll [M.tpStore, M.tpPg] ps) : RUN CC fn_laws_FnExactStateIn ps = some ([.bool true], []) := by
  obtain ⟨p0, r0, rfl, h0, p1, r1, rfl, h1, hr⟩ := h
  obtain rfl : r1 = [] := hr
  obtain ⟨a, rfl, o0⟩ := M.has_Store h0
  obtain ⟨b, rfl, o1⟩ := M.has_Pg h1
  exact run_FnExactStateIn a b o0 o1
theorem own : ownKnob Tryz.prog.godebug = none := by kernel_rfl
theorem laidOut : laidOutB Tryz.prog = true := by kernel_rfl
end Go.Proofs.YtngooidedlnmaaaGreat.Pv
namespace Go.Proofs.YtngooidedlnmaaaGreat
open Go.RowKit Go.ChangeShapes Go.WideShapes
set_option maxRecDepth 100000 in
/-- The statement FnExactStateIn, proved. -/
theorem fnExactStateIn_holds : Rows.FnExactStateInSaid :=
  OpenClaim.holds_of_wide 5 Tryz.f5 rfl rfl rfl rfl rfl rfl rfl ⟨rfl, rfl, rfl, rfl, rfl⟩ rfl rfl rfl rfl rfl (by kernel_rfl) Tryz.func5 Facts.closed
    (of_decide_eq_true (by kernel_rfl)) (by unfold Func.isWrapper; first | (rw [if_pos (by decide +kernel)]; kernel_rfl) | (rw [if_neg (by decide +kernel)]; exact ⟨rfl, rfl⟩))
    (fun os started H enc _ => Gen.law_lifted (s := Rows.fnExactStateInSpec) (tb := 4) os started enc Pv.own Pv.laidOut (by kernel_rfl) Tryz.func5 rfl (fun ds h => by
        match ds, h with
        | [d1, d2], _ => rfl) rfl (by kernel_rfl) (of_decide_eq_true (by kernel_rfl))
      (ChangeSpec.witness6 (enc := enc) (C := Tryz.checked) false ⟨#[], #[.agg #[.slice none 0 0, .slice none 0 0], .agg #[.int .i64 0, .int .i64 0]], []⟩ 8 (by kernel_rfl) (by kernel_rfl) (by kernel_rfl) (by kernel_rfl))
      (fun W base args ds p hval hA _ => Pv.law_walk (us := [Pv.M.tpStore, Pv.M.tpPg]) Pv.fits (by kernel_rfl) Pv.modes_laws_FnExactStateIn Pv.fnExactStateIn_run (fun j t v h1 h2 => hval j t v (by simpa using h1) h2) hA))
#print axioms fnExactStateIn_holds
end Go.Proofs.YtngooidedlnmaaaGreat
