/- A plain reading of Go code and its soundness, part 4. No condition. -/
import Derived.Test.YtdbcnnehfbcldaaDoorV3
set_option linter.all false
set_option linter.unusedSimpArgs false
set_option linter.unusedVariables false
set_option linter.unnecessarySimpa false
/- New boxes and the writing of a box's cells, as operations. No condition. -/
namespace Go.Proofs.YtdbcnnehfbcldaaDoor.Pv
open Go
section
variable {P : Program} {ar : Nat → Nat} {N : Nat} {E : Entry} {G G' : Gh} {s : St} {a : Act} {w w' : World} {m m' m2 : Mem} {F : List Nat} {as cs : List AV} {ρ : Operand → Value} {o : Oper} {d : Nat} {ok : Bool → Nat → Prop} {t' : Nat → AV}
theorem Plain.gives {r : Result Next} (h : Sim P ar N E G ⟨t', m⟩ a w) (hF : ∀ b ∈ F, G.γ b = some .x) (hp : Plain P G w m m2 F as r) : ∃ v, r = .ok (.value v) w ∧ Gives P ar N E 0 t' a as m2 v w := by
  obtain ⟨v, c, F', rfl, rfl, rfl, h1, h2, h3⟩ := hp
  refine ⟨v, rfl, G, F', h, h2, fun b hb => hF b (h3 b hb), fun c' hc => ?_⟩
  simp only [List.cons.injEq, and_true] at hc
  subst hc
  exact h1
theorem RepA.oneCell {c : AV} {v : Value} (h : RepA P G w m c v F) (ha : c.isAgg = false) (hd : c.isDef = true) : v.oneCell' = true := by
  cases h with
  | pv p v F hna hp => exact hp.oneCell hna
  | rw r p v h1 _ => exact h1
  | rwX r v h1 _ => exact h1
  | ptr _ _ _ _ => rfl
  | ptrX _ _ _ v h1 _ => exact h1
  | ept _ _ _ _ _ _ _ _ _ _ _ _ => rfl
  | eptX _ _ _ v h1 _ => exact h1
  | mp _ _ _ => rfl
  | mpX _ _ v h1 _ => exact h1
  | clo _ _ _ _ => rfl
  | agg _ _ _ _ => simp [AV.isAgg] at ha
  | undef _ => simp [AV.isDef] at hd
  | void => simp [AV.isDef] at hd
theorem cells_one {v : Value} (h : v.oneCell' = true) : v.cells = #[v] := by cases v <;> first | rfl | simp [Value.oneCell'] at h
theorem RepAL.oneCells : ∀ {cs : List AV} {vs : List Value} {F : List Nat}, RepAL P G w m cs vs F → cs.all (·.isDef) = true → ∀ u ∈ vs, u.oneCell' = true
  | _, _, _, .nil, _, u, hu => by simp at hu
  | _, _, _, .cons c v F cs vs F' h0 h1 h2, hd, u, hu => by
    simp only [List.all_cons, Bool.and_eq_true] at hd
    simp only [List.mem_cons] at hu
    rcases hu with rfl | hu
    · exact h1.oneCell (by cases c <;> first | rfl | exact absurd rfl (h0 _)) hd.1
    · exact RepAL.oneCells h2 hd.2 u hu
theorem RepA.cells {c : AV} {v : Value} (h : RepA P G w m c v F) (hd : c.cells.all (·.isDef) = true) : RepAL P G w m c.cells v.cells.toList F ∧ ∀ u ∈ v.cells.toList, u.oneCell' = true := by
  by_cases ha : c.isAgg = true
  · cases h with
    | agg cs vs F hl =>
      refine ⟨by simpa [AV.cells, Value.cells] using hl, ?_⟩
      simp only [AV.cells] at hd
      simp only [Value.cells]
      exact hl.oneCells hd
    | _ => simp [AV.isAgg] at ha
  · have ha : c.isAgg = false := by simpa using ha
    have e : c.cells = [c] := by cases c <;> first | rfl | simp [AV.isAgg] at ha
    rw [e] at hd ⊢
    have h1 := h.oneCell ha (by simpa using hd)
    rw [cells_one h1]
    refine ⟨?_, by simpa using h1⟩
    have := RepAL.cons c v F [] [] [] (fun ds e => by subst e; simp [AV.isAgg] at ha) h .nil
    simpa using this
def zeroB (P : Program) (t : TypeId) (zs : List PV) : Bool := match (P.info? t).bind (·.zero) with
  | some z => repLB zs z.cells.toList
  | none => false
theorem run_alloc' {t : TypeId} {zs : List PV} (h : zeroB P t zs = true) : ∃ z : Value, repLB zs z.cells.toList = true ∧ (Instr.alloc t true (.tuple #[])).run P w = .ok (.pointer (some ⟨w.heap.size, 0, none⟩)) (w.alloc (.cells z.cells t)) ∧ (zeroValue t).run P w = .ok z w := by
  unfold zeroB at h
  split at h
  · rename_i z hz
    obtain ⟨i, hi, hz⟩ := Option.bind_eq_some_iff.1 hz
    refine ⟨z, h, ?_, ?_⟩
    · simp [Instr.alloc, zeroValue, typeInfo, hi, hz, newVar, newRow, newObj, Sem.run]
    · simp [zeroValue, typeInfo, hi, hz]
  · cases h
theorem gives_alloc {t : TypeId} {zs : List PV} (h : Sim P ar N E G ⟨t', m⟩ a w) (hz : zeroB P t zs = true) (ho : o.op = .alloc t) (hs : semL d m (.alloc zs) [] = some (as, m2)) :
    ∃ v w2, (execOp ρ o).run P w = .ok (.value v) w2 ∧ Gives P ar N E 0 t' a as m2 v w2 := by
  simp only [semL] at hs
  split at hs
  · simp only [Option.some.injEq, Prod.mk.injEq] at hs
    obtain ⟨rfl, rfl⟩ := hs
    obtain ⟨z, hr, hrun, _⟩ := run_alloc' (w := w) hz
    obtain ⟨hg, h1⟩ := h.alloc (.cells z.cells t)
    have hrep : RepAL P (relabel G [w.heap.size] .x) (w.alloc (.cells z.cells t)) m (zs.map .pv) z.cells.toList [] := (repLB_sound hr).toA
    obtain ⟨G', hb, h2⟩ := h1.setNew (d := d) (nb := w.heap.size) (vs := z.cells.toList) (ty := t) (by simpa using heap_alloc_new w (.cells z.cells t)) (relabel_in (by simp)) hrep List.nodup_nil (by simp) (by simp)
    refine ⟨_, _, by rw [ex_alloc ho]; exact run_valOf hrun, G', [], h2, List.nodup_nil, by simp, fun c hc => ?_⟩
    simp only [List.cons.injEq, and_true] at hc
    subst hc
    have := RepA.ptr (P := P) (G := G') (w := w.alloc (.cells z.cells t)) (m := m.setNew d (zs.map .pv)) d (m.kb d + 1) 0 (by simp [Mem.setNew, upd])
    rw [hb] at this
    exact this
  · cases hs
theorem gives_box {t : TypeId} {n : Nat} {c : AV} {x : Operand} {x' : Opd} (h : Sim P ar N E G ⟨t', m⟩ a w) (ho : o.op = .box t x) (hr : RepO P G w m [c] [ρ x] F) (hn : F.Nodup) (hF : ∀ b ∈ F, G.γ b = some .x) (hs : semL d m (.box x' n) [c] = some (as, m2)) :
    ∃ v w2, (execOp ρ o).run P w = .ok (.value v) w2 ∧ Gives P ar N E 0 t' a as m2 v w2 := by
  obtain ⟨v, hv, h1⟩ := hr.inv1
  simp only [List.cons.injEq, and_true] at hv
  simp only [semL] at hs
  split at hs
  · split at hs
    · rename_i hc
      simp only [Option.some.injEq, Prod.mk.injEq] at hs
      obtain ⟨rfl, rfl⟩ := hs
      obtain ⟨h2, h3⟩ := h1.cells hc.2
      obtain ⟨hg, h4⟩ := h.alloc (.cells v.cells t)
      have hlt : ∀ b ∈ F, b ≠ w.heap.size := fun b hb e => by have := h.lab b (by rw [hF b hb]; simp); omega
      have h5 := h2.grow hg (fun b hb => heap_alloc_old w _ b (h.lab b (by rw [hF b hb]; simp)))
      obtain ⟨G', hb, h6⟩ := h4.setNew (d := d) (nb := w.heap.size) (vs := v.cells.toList) (ty := t) (by simpa using heap_alloc_new w (.cells v.cells t)) (relabel_in (by simp)) h5 hn
        (fun b hb => by rw [relabel_out (by simpa using hlt b hb)]; exact hF b hb) (fun hb => hlt _ hb rfl)
      refine ⟨.pointer (some ⟨w.heap.size, 0, none⟩), _, ?_, G', [], h6, List.nodup_nil, by simp, fun c' hc' => ?_⟩
      · rw [ex_box ho, hv]
        exact run_valOf (by simp [Instr.box, newVar, newRow, newObj, Sem.run])
      · simp only [List.cons.injEq, and_true] at hc'
        subst hc'
        have := RepA.ptr (P := P) (G := G') (w := w.alloc (.cells v.cells t)) (m := m.setNew d c.cells) d (m.kb d + 1) 0 (by simp [Mem.setNew, upd])
        rw [hb] at this
        exact this
    · cases hs
  · cases hs
theorem gives_store_ptr {t : TypeId} {n ob k c : Nat} {u : AV} {x y : Operand} {x' y' : Opd} (h : Sim P ar N E G ⟨t', m⟩ a w) (ht : knownB P t = true) (hn0 : P.cellsOf t = n) (ho : o.op = .store t x y) (hr : RepO P G w m [.ptr ob k c, u] [ρ x, ρ y] F) (hn : F.Nodup) (hF : ∀ b ∈ F, G.γ b = some .x)
    (hs : semL d m (.store n x' y') [.ptr ob k c, u] = some (as, m2)) : ∃ w2, (execOp ρ o).run P w = .ok .skip w2 ∧ Gives P ar N E 0 t' a as m2 undef w2 := by
  obtain ⟨v, v2, F1, F2, hv, rfl, h1, h2⟩ := hr.inv2
  simp only [List.cons.injEq, and_true] at hv
  obtain ⟨e1, e2⟩ := hv
  simp only [semL] at hs
  split at hs
  · rename_i hc
    obtain ⟨hk, hl, hdef⟩ := hc
    split at hs
    · rename_i cs0 hb
      split at hs
      · rename_i hfit
        simp only [Option.some.injEq, Prod.mk.injEq] at hs
        obtain ⟨rfl, rfl⟩ := hs
        obtain ⟨rfl, rfl⟩ := h1.of_ptr hk
        obtain ⟨h3, h4⟩ := h2.cells hdef
        obtain ⟨arr, ty, g1, g2, g3, g4⟩ := h.box ob cs0 hb
        have hlen := h3.length
        obtain ⟨G', h5⟩ := h.setCells (as := u.cells) (c := c) hb (by omega) g1 h3 (by simpa using hn) (fun b hb => hF b (by simpa using hb))
        refine ⟨_, ?_, G', [], h5, List.nodup_nil, by simp, fun c hc => by simp at hc⟩
        rw [ex_store ho, e1, e2]
        have hst := run_storeCells_at P (G.β ob).1 ((G.β ob).2 + c) ty v2.cells.toList 0 arr w g1 (by omega) h4
        have hsz : v2.cells.size = P.cellsOf t := by rw [hn0, ← hl, hlen]; simp
        simp only [Nat.add_zero] at hst
        simp only [Instr.storeAt, Sem.run_bind, Instr.sureAddr, Sem.run_pure, Result.andThen_ok, storeVar, run_sizeOf' ht, hsz, ne_eq, not_true_eq_false, if_false, hst]
        rfl
      · cases hs
    · cases hs
  · cases hs
end
end Go.Proofs.YtdbcnnehfbcldaaDoor.Pv
