/- A plain reading of Go code and its soundness, part 11. No condition. -/
import Derived.Test.YtngooidedlnmaaaGreatV10
set_option linter.all false
set_option linter.unusedSimpArgs false
set_option linter.unusedVariables false
set_option linter.unnecessarySimpa false
/- Literals of slices. No condition. -/
namespace Go.Proofs.YtngooidedlnmaaaGreat.Pv
open Go
section
variable {P : Program} {ar : Nat → Nat} {N : Nat} {E : Entry} {G G' : Gh} {s : St} {a : Act} {w w' : World} {m m' m2 : Mem} {F : List Nat} {as cs : List AV} {ρ : Operand → Value} {o : Oper} {d : Nat} {t' : Nat → AV}
theorem parts_row : ∀ (l : List (Nat × Operand)) (k : Nat), l.map (·.1) = List.range' k l.length → l.map (fun x => (x.1, ρ x.2)) = ((l.map fun x => ρ x.2).zipIdx k).map fun x => (x.2, x.1)
  | [], _, _ => rfl
  | (i, x) :: l, k, h => by
    simp only [List.map_cons, List.length_cons, List.range'_succ, List.cons.injEq] at h
    obtain ⟨rfl, h⟩ := h
    simp only [List.map_cons, List.zipIdx_cons]
    rw [parts_row l (i + 1) h]
theorem given_rep {c : AV} {v : Value} {p : PV} (h : RepA P G w m c v F) (hg : given c = some p) : Rep P w G.ok p v F ∧ RepL P w G.ok p.cells v.cells.toList F := by
  cases h with
  | pv q v F hna hp =>
    simp only [given, Option.some.injEq] at hg
    subst hg
    refine ⟨hp, ?_⟩
    have e : q.cells = [q] := by cases q <;> first | rfl | exact absurd rfl (hna _)
    rw [e, cells_one (hp.oneCell hna)]
    exact .one hna hp
  | agg cs vs F hl =>
    simp only [given, Option.map_eq_some_iff] at hg
    obtain ⟨ps, h1, rfl⟩ := hg
    rw [pvs_some h1] at hl
    have := hl.ofPv
    exact ⟨.agg ps vs F this, by simpa [PV.cells, Value.cells] using this⟩
  | _ => simp [given] at hg
theorem givens_rep : ∀ {cs : List AV} {vs : List Value} {F : List Nat} {ps : List PV}, RepO P G w m cs vs F → givens cs = some ps → RepL P w G.ok (flatC ps) (vs.flatMap fun v => v.cells.toList) F ∧ ps.length = vs.length ∧ ∀ (i : Nat) p v, ps[i]? = some p → vs[i]? = some v → p.cells.length = v.cells.size
  | [], _, _, ps, h, hg => by
    cases h
    simp only [givens, Option.some.injEq] at hg
    subst hg
    exact ⟨.nil, rfl, by simp⟩
  | c :: cs, _, _, ps, h, hg => by
    cases h with
    | cons c v F cs vs F' h1 h2 =>
      simp only [givens] at hg
      split at hg
      · rename_i p qs hp hq
        simp only [Option.some.injEq] at hg
        subst hg
        obtain ⟨k1, k2⟩ := given_rep h1 hp
        obtain ⟨k3, k4, k5⟩ := givens_rep h2 hq
        refine ⟨?_, by simp [k4], fun i q u hi hu => ?_⟩
        · have e : flatC (p :: qs) = p.cells ++ flatC qs := by simp [flatC]
          rw [e, List.flatMap_cons]
          exact RepL.append k2 k3
        · cases i with
          | zero =>
            simp at hi hu
            subst hi; subst hu
            have := k2.length
            simpa using this
          | succ i => exact k5 i q u (by simpa using hi) (by simpa using hu)
      · cases hg
theorem Sim.newRow (h : Sim P ar N E G ⟨t', m⟩ a w) {e : TypeId} {ps : List PV} {flat : List Value} {cur : Array Value} {cap : Nat} (hr : RepL P w G.ok (flatC ps) flat F) (hu : ∀ x ∈ ps, x.cells.length = P.cellsOf e) (hn : F.Nodup) (hF : ∀ b ∈ F, G.γ b = some .x)
    (h1 : cur.size = cap * P.cellsOf e) (h2 : ps.length ≤ cap) (h3 : cap ≤ maxLen) (h4 : cur.toList.take (ps.length * P.cellsOf e) = flat) :
    ∃ G2 F2, Sim P ar N E G2 ⟨t', m⟩ a (w.alloc (.cells cur e)) ∧ Rep P (w.alloc (.cells cur e)) G2.ok (.sl 2 e ps) (.slice (some ⟨w.heap.size, 0, none⟩) ps.length cap) F2 ∧ F2.Nodup ∧ ∀ b ∈ F2, G2.γ b = some .x := by
  obtain ⟨hg, h5⟩ := h.alloc (.cells cur e)
  have hlt : ∀ b ∈ F, b < w.heap.size := fun b hb => h.lab b (by rw [hF b hb]; simp)
  have hr2 : RepL P (w.alloc (.cells cur e)) (relabel G [w.heap.size] .x).ok (flatC ps) flat F := hr.frame hg.hk hg.size hg.ho (fun b hb => heap_alloc_old w _ b (hlt b hb))
  by_cases hz : cap = 0
  · subst hz
    have : ps = [] := List.eq_nil_of_length_eq_zero (by omega)
    subst this
    exact ⟨_, [], h5, .slE 2 e _, List.nodup_nil, by simp⟩
  refine ⟨_, w.heap.size :: F, h5, ?_, List.nodup_cons.2 ⟨fun hb => Nat.lt_irrefl _ (hlt _ hb), hn⟩, fun b hb => ?_⟩
  · refine .slA e ps flat _ cap F hr2 hu ⟨by rw [← hr.length, flatC_length hu], .inr ⟨_, cap, cur, rfl, Nat.zero_le _, heap_alloc_new w _, h2, h3, h1, h4⟩⟩ hz
  · rcases List.mem_cons.1 hb with rfl | hb
    · exact relabel_in (by simp)
    · rw [relabel_out (by have := hlt b hb; simp; omega)]; exact hF b hb
def litB (P : Program) (t e : TypeId) (n len : Nat) (parts : List (Nat × Operand)) : Bool :=
  decide (len ≤ 2 ^ 24) && P.cellsOf e == n && slB P t e && knownB P e && ((P.info? e).bind (·.zero)).isSome && parts.map (·.1) == List.range' 0 parts.length && parts.length == len && decide (len * P.cellsOf e ≤ 2 ^ 24)
theorem gives_lit_core {t e : TypeId} {len : Nat} {parts : Array (Nat × Operand)} {z : Value} {i : TypeInfo} {ps : List PV} (h : Sim P ar N E G ⟨t', m⟩ a w) (hc8 : len ≤ 2 ^ 24) (ht : P.underlying t = some (.slice e)) (hc2 : knownB P e = true) (hi : P.info? e = some i) (hz : i.zero = some z)
    (hc4 : parts.toList.map (·.1) = List.range' 0 parts.toList.length) (hc5 : parts.toList.length = len) (hc6 : len * P.cellsOf e ≤ 2 ^ 24) (ho : o.op = .buildSlice t len parts) (hn : F.Nodup) (hF : ∀ b ∈ F, G.γ b = some .x)
    (k1 : RepL P w G.ok (flatC ps) ((parts.toList.map fun x => ρ x.2).flatMap fun v => v.cells.toList) F) (k2 : ps.length = (parts.toList.map fun x => ρ x.2).length) (k3 : ∀ (i : Nat) p v, ps[i]? = some p → (parts.toList.map fun x => ρ x.2)[i]? = some v → p.cells.length = v.cells.size)
    (hu : ∀ x ∈ ps, x.cells.length = P.cellsOf e) : ∃ v w2, (execOp ρ o).run P w = .ok (.value v) w2 ∧ Gives P ar N E 0 t' a [.pv (.sl 2 e ps)] m v w2 := by
  have hlen : ps.length = len := by rw [k2, List.length_map, hc5]
  have hsz : ∀ v ∈ parts.toList.map (fun x => ρ x.2), v.cells.size = P.cellsOf e := fun v hv => by
    obtain ⟨j, hj⟩ := List.mem_iff_getElem?.1 hv
    have hjl : j < ps.length := by rw [k2]; exact (List.getElem?_eq_some_iff.1 hj).1
    rw [← k3 j _ v (List.getElem?_eq_getElem hjl) hj]
    exact hu _ (List.getElem_mem hjl)
  have hflat : ((parts.toList.map fun x => ρ x.2).flatMap fun v => v.cells.toList).length = len * P.cellsOf e := by rw [← k1.length, flatC_length hu, hlen]
  obtain ⟨G2, F2, g1, g2, g3, g4⟩ := h.newRow (e := e) (cur := ((parts.toList.map fun x => ρ x.2).flatMap fun v => v.cells.toList).toArray) (cap := len) k1 hu hn hF (by simpa using hflat) (by omega) (by simp only [maxLen]; omega) (by rw [hlen, ← hflat, List.toList_toArray, List.take_length])
  refine ⟨.slice (some ⟨w.heap.size, 0, none⟩) ps.length len, _, ?_, G2, _, g1, g3, g4, fun c hc => ?_⟩
  · rw [ex_buildSlice ho]
    refine run_valOf ?_
    have hp : (parts.map fun x => (x.1, ρ x.2)).toList = ((parts.toList.map fun x => ρ x.2).zipIdx 0).map fun x => (x.2, x.1) := by rw [Array.toList_map]; exact parts_row _ _ hc4
    have hfill := fill_row (sz := P.cellsOf e) (parts.toList.map fun x => ρ x.2) 0 ((Array.range (len * P.cellsOf e)).map fun j => (if len * P.cellsOf e = 0 then #[] else z.cells)[j % (if len * P.cellsOf e = 0 then #[] else z.cells).size]!) hsz (by simp [hc5])
    have hput : putCells ((Array.range (len * P.cellsOf e)).map fun j => (if len * P.cellsOf e = 0 then #[] else z.cells)[j % (if len * P.cellsOf e = 0 then #[] else z.cells).size]!) (0 * P.cellsOf e) ((parts.toList.map fun x => ρ x.2).flatMap fun v => v.cells.toList) = ((parts.toList.map fun x => ρ x.2).flatMap fun v => v.cells.toList).toArray := by
      apply Array.ext'
      simp only [putCells, Nat.zero_mul, List.take_zero, List.nil_append, Nat.zero_add]
      rw [List.drop_eq_nil_of_le (by rw [hflat]; simp), List.append_nil]
    rw [hput] at hfill
    unfold Instr.buildSlice
    have h24 : ¬ (len * P.cellsOf e > 2 ^ 24) := by omega
    have hp' := parts_row (ρ := ρ) parts.toList 0 hc4
    by_cases h0 : len * P.cellsOf e = 0
    · have e0 : (Array.range 0) = #[] := rfl
      simp only [h0, if_true, e0, Array.map_empty] at hfill
      simp [run_underlying ht, run_sizeOf' hc2, h0, newRow]
      rw [hp', e0, Array.map_empty, hfill]
      simp [Sem.run, newObj, hlen]
    · simp only [h0, if_false] at hfill
      simp [run_underlying ht, run_sizeOf' hc2, h0, h24, zeroValue, typeInfo, hi, hz, newRow]
      rw [hp', hfill]
      simp [Sem.run, newObj, hlen]
  · simp only [List.cons.injEq, and_true] at hc
    subst hc
    exact .pv _ _ _ (by simp) g2
theorem gives_lit {t e : TypeId} {n len : Nat} {parts : Array (Nat × Operand)} {os : List Opd} (h : Sim P ar N E G ⟨t', m⟩ a w) (hc : litB P t e n len parts.toList = true) (ho : o.op = .buildSlice t len parts) (hr : RepO P G w m cs (parts.toList.map fun x => ρ x.2) F) (hn : F.Nodup) (hF : ∀ b ∈ F, G.γ b = some .x)
    (hs : semL d m (.lit e n os) cs = some (as, m2)) :
    ∃ v w2, (execOp ρ o).run P w = .ok (.value v) w2 ∧ Gives P ar N E 0 t' a as m2 v w2 := by
  simp only [litB, Bool.and_eq_true, beq_iff_eq, decide_eq_true_eq] at hc
  obtain ⟨⟨⟨⟨⟨⟨⟨hc8, hc7⟩, hc1⟩, hc2⟩, hc3⟩, hc4⟩, hc5⟩, hc6⟩ := hc
  have ht := slB_iff hc1
  obtain ⟨z, hz⟩ := Option.isSome_iff_exists.1 hc3
  obtain ⟨i, hi, hz⟩ := Option.bind_eq_some_iff.1 hz
  simp only [semL] at hs
  split at hs
  · rename_i ps hg
    split at hs
    · rename_i hall
      simp only [Option.some.injEq, Prod.mk.injEq] at hs
      obtain ⟨rfl, rfl⟩ := hs
      obtain ⟨k1, k2, k3⟩ := givens_rep hr hg
      have hu : ∀ x ∈ ps, x.cells.length = P.cellsOf e := fun x hx => by
        have := List.all_eq_true.1 hall x hx
        rw [hc7]; simpa using this
      exact gives_lit_core h hc8 ht hc2 hi hz hc4 hc5 hc6 ho hn hF k1 k2 k3 hu
    · cases hs
  · cases hs
end
end Go.Proofs.YtngooidedlnmaaaGreat.Pv
