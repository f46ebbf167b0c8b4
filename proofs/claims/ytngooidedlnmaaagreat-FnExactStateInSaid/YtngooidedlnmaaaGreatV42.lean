/- A plain reading of Go code and its soundness, part 42. No condition. -/
import Derived.Test.YtngooidedlnmaaaGreatV41
set_option linter.all false
set_option linter.unusedSimpArgs false
set_option linter.unusedVariables false
set_option linter.unnecessarySimpa false
/- Functions known by a contract, beside those of a table. No condition. -/
namespace Go.Proofs.YtngooidedlnmaaaGreat.Pv
open Go
structure Prim where
  f : FuncId
  modes : List Pm
  sem : List PV → Option (List PV × List PV)
def lookP : List Prim → FuncId → Option Prim
  | [], _ => none
  | x :: l, f => if x.f == f then some x else lookP l f
theorem lookP_mem : ∀ {l : List Prim} {f : FuncId} {p : Prim}, lookP l f = some p → p ∈ l ∧ p.f = f
  | [], f, p, h => by simp [lookP] at h
  | x :: l, f, p, h => by
    unfold lookP at h
    split at h
    · rename_i hx
      simp only [beq_iff_eq] at hx
      simp only [Option.some.injEq] at h
      subst h
      exact ⟨List.mem_cons_self, hx⟩
    · exact ⟨List.mem_cons_of_mem _ (lookP_mem h).1, (lookP_mem h).2⟩
def codeOfP (tab : List (FuncId × PF)) (pr : List Prim) : Code := ⟨look tab, fun f ps => match lookP pr f with
  | some p => p.sem ps
  | none => none, fun f => match look tab f with
  | some pf => pf.params
  | none => match lookP pr f with
    | some p => p.modes
    | none => []⟩
def PrimOk (P : Program) (p : Prim) : Prop := (∃ fn, P.funcs[p.f]? = some fn ∧ fn.body.isSome = true ∧ fn.name ≠ "runtime.NumGoroutine") ∧ ∀ ps rs os, p.sem ps = some (rs, os) → Holds P p.modes p.f ps rs os
theorem fits_ofP {P : Program} {tab : List (FuncId × PF)} {pr : List Prim} (hm : P.follows .mixedOrders = true) (h : tabB P tab = true) (hp : ∀ p ∈ pr, PrimOk P p) : Fits P (codeOfP tab pr) := by
  refine ⟨hm, fun f pf hf => ?_, fun f ps rs os hf h => ?_⟩
  · have hl : look tab f = some pf := hf
    refine ⟨by simp [codeOfP, hl], ?_⟩
    have := List.all_eq_true.1 h _ (look_mem hl)
    simp only at this
    split at this
    · rename_i fn hfn
      exact ⟨fn, hfn, this⟩
    · cases this
  · have hl : look tab f = none := hf
    simp only [codeOfP] at h
    split at h
    · rename_i p hq
      obtain ⟨h1, rfl⟩ := lookP_mem hq
      obtain ⟨h2, h3⟩ := hp p h1
      refine ⟨?_, h2⟩
      have := h3 ps rs os h
      simpa [codeOfP, hl, hq] using this
    · cases h
theorem holds_str2 {P : Program} {f : FuncId} {g : ByteArray → ByteArray → Int} (hc : ∀ (a b : ByteArray) (w : World), Calls P f #[.string a, .string b] w fun e w' => e = .returned (.int .i64 (g a b)) ∧ w' = w) (a b : ByteArray) : Holds P [.val, .val] f [.str a, .str b] [.int .i64 (g a b)] [] := by
  intro w ok0 vs As Bs mono hA nod hok
  cases hA with
  | cons _ _ v1 A1 B1 _ _ vs1 As1 Bs1 h1 h2 =>
    cases h1 with
    | val _ _ r1 =>
      cases h2 with
      | cons _ _ v2 A2 B2 _ _ vs2 As2 Bs2 h3 h4 =>
        cases h3 with
        | val _ _ r2 =>
          cases h4
          cases r1
          cases r2
          refine (hc a b w).mono ?_
          rintro e w' ⟨rfl, rfl⟩
          exact ⟨_, rfl, ok0, [.int .i64 (g a b)], [], [[], []], [[], []], {
            mono := mono
            os := rfl
            tape := rfl
            output := rfl
            size := Nat.le_refl _
            same := fun _ _ _ => rfl
            res := .cons _ _ [] _ _ [] (.int _ _) .nil
            val := rfl
            outs := .skip _ _ _ _ _ _ _ _ _ (.inl rfl) (.skip _ _ _ _ _ _ _ _ _ (.inl rfl) .nil)
            nodup := by simp
            pool := by simp
            ok := fun i b hb => ⟨by simp, by simp, fun _ => .inr hb⟩ }⟩
theorem RUN_prim {C : Code} {f : FuncId} {ps : List PV} (h : C.prog f = none) : RUN C f ps = C.prim f ps := by
  rw [RUN_eq, h]
end Go.Proofs.YtngooidedlnmaaaGreat.Pv
