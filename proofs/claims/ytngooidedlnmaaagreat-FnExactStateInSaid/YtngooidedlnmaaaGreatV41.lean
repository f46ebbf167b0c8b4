/- A plain reading of Go code and its soundness, part 41. No condition. -/
import Derived.Test.YtngooidedlnmaaaGreatV40
set_option linter.all false
set_option linter.unusedSimpArgs false
set_option linter.unusedVariables false
set_option linter.unnecessarySimpa false
/- A table of plain forms, checked as a whole. No condition. -/
namespace Go.Proofs.YtngooidedlnmaaaGreat.Pv
open Go
def look : List (FuncId × PF) → FuncId → Option PF
  | [], _ => none
  | x :: l, f => if x.1 == f then some x.2 else look l f
theorem look_mem : ∀ {l : List (FuncId × PF)} {f : FuncId} {pf : PF}, look l f = some pf → (f, pf) ∈ l
  | [], f, pf, h => by simp [look] at h
  | x :: l, f, pf, h => by
    unfold look at h
    split at h
    · rename_i hx
      simp only [beq_iff_eq] at hx
      simp only [Option.some.injEq] at h
      subst hx; subst h
      exact List.mem_cons_self
    · exact List.mem_cons_of_mem _ (look_mem h)
def codeOf (tab : List (FuncId × PF)) : Code := ⟨look tab, fun _ _ => none, fun f => match look tab f with
  | some pf => pf.params
  | none => []⟩
def tabB (P : Program) (tab : List (FuncId × PF)) : Bool := tab.all fun x => match P.funcs[x.1]? with
  | some fn => chkFn P fn x.2
  | none => false
theorem fits_of {P : Program} {tab : List (FuncId × PF)} (hm : P.follows .mixedOrders = true) (h : tabB P tab = true) : Fits P (codeOf tab) := by
  refine ⟨hm, fun f pf hf => ?_, fun f ps rs os _ h => by cases h⟩
  have hl : look tab f = some pf := hf
  refine ⟨by simp [codeOf, hl], ?_⟩
  have := List.all_eq_true.1 h _ (look_mem hl)
  simp only at this
  split at this
  · rename_i fn hfn
    exact ⟨fn, hfn, this⟩
  · cases this
end Go.Proofs.YtngooidedlnmaaaGreat.Pv
