/- For every two servers: FnExactSameServer returns true. No condition. -/
import Derived.Test.YtjbomlnpngnjfaaGreatRows
import Derived.Test.YtjbomlnpngnjfaaGreatGenRow
import Derived.Test.YtjbomlnpngnjfaaGreatFacts
import Derived.Test.YtjbomlnpngnjfaaGreatL
namespace Go.Proofs.YtjbomlnpngnjfaaGreat.Pv
open Go

theorem fnExactSameServer_run (ps : List PV) (h : hasAll [M.tpServer, M.tpServer] ps) : RUN CC fn_laws_FnExactSameServer ps = some ([.bool true], []) := by
  obtain ⟨p, rest, rfl, hp, q, rest2, rfl, hq, hr⟩ := h
  obtain rfl : rest2 = [] := hr
  obtain ⟨a, rfl, ha⟩ := M.has_Server hp
  obtain ⟨b, rfl, hb⟩ := M.has_Server hq
  exact run_FnExactSameServer a b ha hb
theorem own : ownKnob Tryz.prog.godebug = none := by kernel_rfl
theorem laidOut : laidOutB Tryz.prog = true := by kernel_rfl
end Go.Proofs.YtjbomlnpngnjfaaGreat.Pv
namespace Go.Proofs.YtjbomlnpngnjfaaGreat
open Go.RowKit Go.ChangeShapes Go.WideShapes
set_option maxRecDepth 100000 in
/-- The statement FnExactSameServer, proved. -/
theorem fnExactSameServer_holds : Rows.FnExactSameServerSaid :=
  OpenClaim.holds_of_wide 3 Tryz.f3 rfl rfl rfl rfl rfl rfl rfl ⟨rfl, rfl, rfl, rfl, rfl⟩ rfl rfl rfl rfl rfl (by kernel_rfl) Tryz.func3 Facts.closed
    (of_decide_eq_true (by kernel_rfl)) (by unfold Func.isWrapper; first | (rw [if_pos (by decide +kernel)]; kernel_rfl) | (rw [if_neg (by decide +kernel)]; exact ⟨rfl, rfl⟩))
    (fun os started H enc _ => Gen.law_lifted (s := Rows.fnExactSameServerSpec) (tb := 4) os started enc Pv.own Pv.laidOut (by kernel_rfl) Tryz.func3 rfl (fun ds h => by
        match ds, h with
        | [d1, d2], _ => rfl) rfl (by kernel_rfl) (of_decide_eq_true (by kernel_rfl))
      (ChangeSpec.witness6 (enc := enc) (C := Tryz.checked) false ⟨#[], #[.agg #[.int .i64 0, .int .i64 0, .bool false, .slice none 0 0, .slice none 0 0, .slice none 0 0, .slice none 0 0], .agg #[.int .i64 0, .int .i64 0, .bool false, .slice none 0 0, .slice none 0 0, .slice none 0 0, .slice none 0 0]], []⟩ 8 (by kernel_rfl) (by kernel_rfl) (by kernel_rfl) (by kernel_rfl))
      (fun W base args ds p hval hA _ => Pv.law_walk (us := [Pv.M.tpServer, Pv.M.tpServer]) Pv.fits (by kernel_rfl) Pv.modes_laws_FnExactSameServer Pv.fnExactSameServer_run (fun j t v h1 h2 => hval j t v (by simpa using h1) h2) hA))
#print axioms fnExactSameServer_holds
end Go.Proofs.YtjbomlnpngnjfaaGreat
