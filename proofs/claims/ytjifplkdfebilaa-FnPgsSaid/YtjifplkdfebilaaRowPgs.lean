/- For every code: FnPgs returns true. No condition. -/
import Derived.Test.YtjifplkdfebilaaRows
import Derived.Test.YtjifplkdfebilaaGenRow
import Derived.Test.YtjifplkdfebilaaL
set_option linter.all false
set_option linter.unnecessarySimpa false
set_option linter.unusedSimpArgs false
set_option linter.unusedVariables false
namespace Go.Proofs.Ytjifplkdfebilaa.Pv
open Go

theorem bytes_of {us : List PV} (h : ∀ x ∈ us, (Ty.int .u8).has x) : ∀ x ∈ us, ∃ b, x = .int .u8 b ∧ 0 ≤ b ∧ b ≤ 255 := by
  intro x hx
  have h1 := h x hx
  cases x <;> simp only [Ty.has] at h1
  rename_i k n
  obtain ⟨rfl, h2, h3⟩ := h1
  exact ⟨n, rfl, h2, h3⟩
theorem fnPgs_run (ps : List PV) (h : hasAll [.sl ty_uint8 (.int .u8)] ps) : RUN CC fn_laws_FnPgs ps = some ([.bool true], []) := by
  obtain ⟨p, rest, rfl, hp, hr⟩ := h
  obtain rfl : rest = [] := hr
  cases p <;> simp only [Ty.has] at hp
  rename_i fl e xs
  obtain ⟨rfl, rfl, _, hx⟩ := hp
  exact run_FnPgs (bytes_of hx)
theorem own : ownKnob Try.prog.godebug = none := by kernel_rfl
theorem laidOut : laidOutB Try.prog = true := by kernel_rfl
end Go.Proofs.Ytjifplkdfebilaa.Pv
namespace Go.Proofs.Ytjifplkdfebilaa
open Go.RowKit Go.ChangeShapes Go.WideShapes
set_option maxRecDepth 100000 in
/-- The statement FnPgs, proved. -/
theorem fnPgs_holds : Rows.FnPgsSaid :=
  OpenClaim.holds_of_wide 4 Try.f4 rfl rfl rfl rfl rfl rfl rfl ⟨rfl, rfl, rfl, rfl, rfl⟩ rfl rfl rfl rfl rfl (by kernel_rfl) Try.func4 (by kernel_rfl)
    (of_decide_eq_true (by kernel_rfl)) (by unfold Func.isWrapper; first | (rw [if_pos (by decide +kernel)]; kernel_rfl) | (rw [if_neg (by decide +kernel)]; exact ⟨rfl, rfl⟩))
    (fun os started H enc _ => Gen.law_lifted (s := Rows.fnPgsSpec) (tb := 4) os started enc Pv.own Pv.laidOut (by kernel_rfl) Try.func4 rfl (fun ds h => by
        match ds, h with
        | [d], _ => rfl) rfl (by kernel_rfl) (of_decide_eq_true (by kernel_rfl))
      (ChangeSpec.witness6 (enc := enc) (C := Try.checked) false ⟨#[], #[.slice none 0 0], []⟩ 8 (by kernel_rfl) (by kernel_rfl) (by kernel_rfl) (by kernel_rfl))
      (fun W base args ds p hval hA _ => Pv.law_walk (us := [.sl Pv.ty_uint8 (.int .u8)]) Pv.fits (by kernel_rfl) Pv.modes_laws_FnPgs Pv.fnPgs_run (fun j t v h1 h2 => hval j t v (by simpa using h1) h2) hA))
#print axioms fnPgs_holds
end Go.Proofs.Ytjifplkdfebilaa
