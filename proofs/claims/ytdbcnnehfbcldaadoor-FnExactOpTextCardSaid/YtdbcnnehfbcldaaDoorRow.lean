/- For all arguments: FnExactOpText returns true. No condition. -/
import Derived.Test.YtdbcnnehfbcldaaDoorRows
import Derived.Test.YtdbcnnehfbcldaaDoorGenRow
import Derived.Test.YtdbcnnehfbcldaaDoorTie
import Derived.Test.YtdbcnnehfbcldaaDoorCards
import Derived.SevenTiedAt
import Derived.Test.YtdbcnnehfbcldaaDoorL
namespace Go.Proofs.YtdbcnnehfbcldaaDoor.Pv
open Go

theorem fnExactOpText_run (ps : List PV) (h : hasAll [M.tpOp] ps) : RUN CC fn_laws_FnExactOpText ps = some ([.bool true], []) := by
  obtain ⟨p0, r0, rfl, h0, hr⟩ := h
  obtain rfl : r0 = [] := hr
  obtain ⟨a, rfl, o0⟩ := M.has_Op h0
  exact run_FnExactOpText a o0
theorem own : ownKnob Tryd.prog.godebug = none := by kernel_rfl
theorem laidOut : laidOutB Tryd.prog = true := by kernel_rfl
end Go.Proofs.YtdbcnnehfbcldaaDoor.Pv
namespace Go.Proofs.YtdbcnnehfbcldaaDoor
open Go.RowKit Go.ChangeShapes Go.WideShapes
set_option maxRecDepth 100000 in
/-- The row of FnExactOpText. -/
theorem fnExactOpText_row : Rows.FnExactOpTextSaid :=
  OpenClaim.holds_of_wide 3 Tryd.f3 rfl rfl rfl rfl rfl rfl rfl ⟨rfl, rfl, rfl, rfl, rfl⟩ rfl rfl rfl rfl rfl (by kernel_rfl) Tryd.func3 (by kernel_rfl)
    (of_decide_eq_true (by kernel_rfl)) (by unfold Func.isWrapper; first | (rw [if_pos (by decide +kernel)]; kernel_rfl) | (rw [if_neg (by decide +kernel)]; exact ⟨rfl, rfl⟩))
    (fun os started H enc _ => Gen.law_lifted (X := fun w => laidMetH Tryd.prog Rows.fnExactOpTextRow.laid w) (s := Rows.fnExactOpTextSpec) (tb := 4) os started enc (fun _ _ hh h => h.of_heap hh) Pv.own Pv.laidOut (by kernel_rfl) Tryd.func3 rfl (fun ds h => by
        match ds, h with
        | [d], _ => rfl) rfl (by kernel_rfl) (of_decide_eq_true (by kernel_rfl))
      (ChangeSpec.witness_at (enc := enc) (C := Tryd.checked) (os := os) (X := fun w _ => laidMetH Tryd.prog Rows.fnExactOpTextRow.laid w) false (World.laidAll Tryd.prog os Rows.fnExactOpTextRow.laid) #[.agg #[.int .i64 0, .int .i64 0, .string ⟨#[]⟩]] 8 (World.laidAll_os _ _ _) (by kernel_rfl) (by kernel_rfl) (by kernel_rfl) (by kernel_rfl) (by kernel_rfl)
        (laidMetH_of_parts (laidMet_laidAll (P := Tryd.prog) _ (by kernel_rfl) (by kernel_rfl)) rfl))
      (fun W base args ds p hval hA _ _ => Pv.law_walk (us := [Pv.M.tpOp]) Pv.fits (by kernel_rfl) Pv.modes_laws_FnExactOpText Pv.fnExactOpText_run (fun j t v h1 h2 => hval j t v (by simpa using h1) h2) hA))
/-- The statement FnExactOpText, proved. -/
theorem fnExactOpText_card : Rows.FnExactOpTextCardSaid :=
  Claim7.holds_tied_plain_at .later [] [.data, .data, .data] true Rows.fnExactOpTextCard.stood.harness Rows.fnExactOpTextCard.stood.looks
    fnExactOpText_row (fun _ h => by cases h) (by kernel_rfl) (fun _ h => by cases h) fnExactOpText_row_tie rfl ⟨rfl, rfl⟩ (by kernel_rfl) rfl
    (fun f fn hf hfn => by
      obtain rfl : f = 3 := Option.some.inj ((show Tryd.prog.funcNamed Rows.fnExactOpTextRow.func = some 3 by kernel_rfl).symm.trans hf) |>.symm
      obtain rfl : fn = Tryd.f3 := (Option.some.inj (Tryd.func3.symm.trans hfn)).symm
      exact ⟨by kernel_rfl, fun j t ht => by
        have hm : t ∈ Tryd.f3.params.toList := by
          rw [← Array.getElem?_toList] at ht
          exact List.mem_of_getElem? ht
        exact of_decide_eq_true (List.all_eq_true.1 (show (Tryd.f3.params.toList.all fun t => decide (Tryd.prog.wantsStandIn t = false)) = true by kernel_rfl) t hm)⟩)
    (by kernel_rfl)
#print axioms fnExactOpText_card
end Go.Proofs.YtdbcnnehfbcldaaDoor
