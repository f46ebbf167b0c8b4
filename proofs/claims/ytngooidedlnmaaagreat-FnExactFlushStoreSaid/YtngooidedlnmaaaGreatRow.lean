/- For all arguments: FnExactFlushStore returns true. No condition. -/
import Derived.Test.YtngooidedlnmaaaGreatRows
import Derived.Test.YtngooidedlnmaaaGreatGenRow
import Derived.Test.YtngooidedlnmaaaGreatFacts
import Derived.Test.YtngooidedlnmaaaGreatL
namespace Go.Proofs.YtngooidedlnmaaaGreat.Pv
open Go

theorem fnExactFlushStore_run (ps : List PV) (h : hasAll [M.tpStore] ps) : RUN CC fn_laws_FnExactFlushStore ps = some ([.bool true], []) := by
  obtain ⟨p0, r0, rfl, h0, hr⟩ := h
  obtain rfl : r0 = [] := hr
  obtain ⟨a, rfl, o0⟩ := M.has_Store h0
  exact run_FnExactFlushStore a o0
theorem own : ownKnob Tryz.prog.godebug = none := by kernel_rfl
theorem laidOut : laidOutB Tryz.prog = true := by kernel_rfl
end Go.Proofs.YtngooidedlnmaaaGreat.Pv
namespace Go.Proofs.YtngooidedlnmaaaGreat
open Go.RowKit Go.ChangeShapes Go.WideShapes
set_option maxRecDepth 100000 in
/-- The statement FnExactFlushStore, proved. -/
theorem fnExactFlushStore_holds : Rows.FnExactFlushStoreSaid :=
  OpenClaim.holds_of_wide 3 Tryz.f3 rfl rfl rfl rfl rfl rfl rfl ⟨rfl, rfl, rfl, rfl, rfl⟩ rfl rfl rfl rfl rfl (by kernel_rfl) Tryz.func3 Facts.closed
    (of_decide_eq_true (by kernel_rfl)) (by unfold Func.isWrapper; first | (rw [if_pos (by decide +kernel)]; kernel_rfl) | (rw [if_neg (by decide +kernel)]; exact ⟨rfl, rfl⟩))
    (fun os started H enc _ => Gen.law_lifted (s := Rows.fnExactFlushStoreSpec) (tb := 4) os started enc Pv.own Pv.laidOut (by kernel_rfl) Tryz.func3 rfl (fun ds h => by
        match ds, h with
        | [d], _ => rfl) rfl (by kernel_rfl) (of_decide_eq_true (by kernel_rfl))
      (ChangeSpec.witness6 (enc := enc) (C := Tryz.checked) false ⟨#[], #[.agg #[.slice none 0 0, .slice none 0 0]], []⟩ 8 (by kernel_rfl) (by kernel_rfl) (by kernel_rfl) (by kernel_rfl))
      (fun W base args ds p hval hA _ => Pv.law_walk (us := [Pv.M.tpStore]) Pv.fits (by kernel_rfl) Pv.modes_laws_FnExactFlushStore Pv.fnExactFlushStore_run (fun j t v h1 h2 => hval j t v (by simpa using h1) h2) hA))
#print axioms fnExactFlushStore_holds
end Go.Proofs.YtngooidedlnmaaaGreat
