/- For every map: FnExactPgsOf returns true. No condition. -/
import Derived.Test.YtjifplkdfebilaaRows
import Derived.Test.YtjifplkdfebilaaGenRow
import Derived.Test.YtjifplkdfebilaaL
namespace Go.Proofs.Ytjifplkdfebilaa.Pv
open Go

theorem fnExactPgsOf_run (ps : List PV) (h : hasAll [M.tpMap] ps) : RUN CC fn_laws_FnExactPgsOf ps = some ([.bool true], []) := by
  obtain ⟨p, rest, rfl, hp, hr⟩ := h
  obtain rfl : rest = [] := hr
  obtain ⟨a, rfl, ha⟩ := M.has_Map hp
  exact run_FnExactPgsOf a ha
theorem own : ownKnob Try.prog.godebug = none := by kernel_rfl
theorem laidOut : laidOutB Try.prog = true := by kernel_rfl
end Go.Proofs.Ytjifplkdfebilaa.Pv
namespace Go.Proofs.Ytjifplkdfebilaa
open Go.RowKit Go.ChangeShapes Go.WideShapes
set_option maxRecDepth 100000 in
/-- The statement FnExactPgsOf, proved. -/
theorem fnExactPgsOf_holds : Rows.FnExactPgsOfSaid :=
  OpenClaim.holds_of_wide 5 Try.f5 rfl rfl rfl rfl rfl rfl rfl ⟨rfl, rfl, rfl, rfl, rfl⟩ rfl rfl rfl rfl rfl (by kernel_rfl) Try.func5 (by kernel_rfl)
    (of_decide_eq_true (by kernel_rfl)) (by unfold Func.isWrapper; first | (rw [if_pos (by decide +kernel)]; kernel_rfl) | (rw [if_neg (by decide +kernel)]; exact ⟨rfl, rfl⟩))
    (fun os started H enc _ => Gen.law_lifted (s := Rows.fnExactPgsOfSpec) (tb := 4) os started enc Pv.own Pv.laidOut (by kernel_rfl) Try.func5 rfl (fun ds h => by
        match ds, h with
        | [d], _ => rfl) rfl (by kernel_rfl) (of_decide_eq_true (by kernel_rfl))
      (ChangeSpec.witness6 (enc := enc) (C := Try.checked) false ⟨#[], #[.agg #[.int .i64 0, .int .i64 0, .slice none 0 0, .slice none 0 0, .slice none 0 0, .slice none 0 0, .slice none 0 0, .slice none 0 0]], []⟩ 8 (by kernel_rfl) (by kernel_rfl) (by kernel_rfl) (by kernel_rfl))
      (fun W base args ds p hval hA _ => Pv.law_walk (us := [Pv.M.tpMap]) Pv.fits (by kernel_rfl) Pv.modes_laws_FnExactPgsOf Pv.fnExactPgsOf_run (fun j t v h1 h2 => hval j t v (by simpa using h1) h2) hA))
#print axioms fnExactPgsOf_holds
end Go.Proofs.Ytjifplkdfebilaa
