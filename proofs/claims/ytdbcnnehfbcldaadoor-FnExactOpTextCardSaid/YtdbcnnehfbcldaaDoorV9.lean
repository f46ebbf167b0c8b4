/- A plain reading of Go code and its soundness, part 9. No condition. -/
import Derived.Test.YtdbcnnehfbcldaaDoorV8
set_option linter.all false
set_option linter.unusedSimpArgs false
set_option linter.unusedVariables false
set_option linter.unnecessarySimpa false
/- A store through an element, as an operation. No condition. -/
namespace Go.Proofs.YtdbcnnehfbcldaaDoor.Pv
open Go
section
variable {P : Program} {ar : Nat → Nat} {N : Nat} {E : Entry} {G G' : Gh} {s : St} {a : Act} {w w' : World} {m m' m2 : Mem} {F : List Nat} {as cs : List AV} {ρ : Operand → Value} {o : Oper} {d : Nat} {t' : Nat → AV}
theorem pvs_some : ∀ {cs : List AV} {ps : List PV}, pvs cs = some ps → cs = ps.map .pv
  | [], ps, h => by simp only [pvs, Option.some.injEq] at h; subst h; rfl
  | c :: cs, ps, h => by
    cases c <;> simp only [pvs, reduceCtorEq, Option.map_eq_some_iff] at h
    obtain ⟨qs, h1, rfl⟩ := h
    rw [pvs_some h1]; rfl
theorem RepAL.ofPv : ∀ {ps : List PV} {vs : List Value} {F : List Nat}, RepAL P G w m (ps.map .pv) vs F → RepL P w G.ok ps vs F
  | [], _, _, h => by cases h; exact .nil
  | p :: ps, _, _, h => by
    cases h with
    | cons c v F cs vs F' h0 h1 h2 =>
      cases h1 with
      | pv _ _ _ hna hp => exact .cons _ _ _ _ _ _ hna hp (RepAL.ofPv h2)
theorem gives_store_ept {t : TypeId} {n i f : Nat} {r : Ref} {u : AV} {x y : Operand} {x' y' : Opd} (h : Sim P ar N E G ⟨t', m⟩ a w) (ht : knownB P t = true) (hn0 : P.cellsOf t = n) (hn1 : 1 ≤ n) (ho : o.op = .store t x y) (hr : RepO P G w m [.ept r i f, u] [ρ x, ρ y] F) (hn : F.Nodup) (hF : ∀ b ∈ F, G.γ b = some .x)
    (hs : semL d m (.store n x' y') [.ept r i f, u] = some (as, m2)) : ∃ w2, (execOp ρ o).run P w = .ok .skip w2 ∧ Gives P ar N E 0 t' a as m2 undef w2 := by
  obtain ⟨v, v2, F1, F2, hv, rfl, h1, h2⟩ := hr.inv2
  simp only [List.cons.injEq, and_true] at hv
  obtain ⟨e1, e2⟩ := hv
  simp only [semL] at hs
  split at hs
  · rename_i fl e xs ps hd hps
    split at hs
    · rename_i z hz
      split at hs
      · rename_i hc
        obtain ⟨hl, hfit, hfl⟩ := hc
        simp only [Option.some.injEq, Prod.mk.injEq] at hs
        obtain ⟨rfl, rfl⟩ := hs
        obtain ⟨b, off, len, cap, href, hi, rfl, rfl⟩ := h1.of_deref_ept hd
        have hcs := pvs_some hps
        obtain ⟨h3, h4⟩ := h2.cells (by rw [hcs]; simp [AV.isDef])
        rw [hcs] at h3
        have h5 := h3.ofPv
        obtain ⟨G', arr, ty, g1, g2, h6⟩ := h.setRef (f := f) (i := i) href hfl hz (by omega) (by omega) h5 (by simpa using hn) (fun b hb => hF b (by simpa using hb))
        refine ⟨_, ?_, G', [], h6, List.nodup_nil, by simp, fun c hc => by simp at hc⟩
        rw [ex_store ho, e1, e2]
        have hst := run_storeCells_at P b (off + (i * P.cellsOf e + f)) ty v2.cells.toList 0 arr w g1 (by omega) h4
        have hlen := h5.length
        have hsz : v2.cells.size = P.cellsOf t := by rw [hn0, ← hl, hlen]; simp
        simp only [Nat.add_zero] at hst
        simp only [Instr.storeAt, Sem.run_bind, Instr.sureAddr, Sem.run_pure, Result.andThen_ok, storeVar, run_sizeOf' ht, hsz, ne_eq, not_true_eq_false, if_false, hst]
        rfl
      · cases hs
    · cases hs
  · cases hs
end
end Go.Proofs.YtdbcnnehfbcldaaDoor.Pv
