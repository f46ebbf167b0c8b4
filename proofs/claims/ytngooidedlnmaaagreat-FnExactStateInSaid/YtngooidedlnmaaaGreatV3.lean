/- A plain reading of Go code and its soundness, part 3. No condition. -/
import Derived.Test.YtngooidedlnmaaaGreatV2
set_option linter.all false
set_option linter.unusedSimpArgs false
set_option linter.unusedVariables false
set_option linter.unnecessarySimpa false
/- Writing a box's cells. No condition. -/
namespace Go.Proofs.YtngooidedlnmaaaGreat.Pv
open Go
section
variable {P : Program} {ar : Nat → Nat} {N : Nat} {E : Entry} {G G' : Gh} {s : St} {a : Act} {w w' : World} {m m' m2 : Mem} {F : List Nat} {as cs : List AV} {ρ : Operand → Value} {o : Oper} {d : Nat} {ok : Bool → Nat → Prop}
theorem Nest.keep {root : Root} (hl : ∀ b, G.γ b = some (.r root) → G'.γ b = some (.r root)) (hc : ∀ b off u, G.γ b = some (.r root) → w.cell? ⟨b, off, none⟩ = some u → w'.cell? ⟨b, off, none⟩ = some u) {p0 : PV} {v0 : Value} {path : List (Nat × Nat)} {p : PV} {v : Value} (h : Nest P G root w p0 v0 path p v) : Nest P G' root w' p0 v0 path p v := by
  induction h with
  | nil p v => exact .nil p v
  | cons fl e xs b off n cap i f rest x c p u v k0 k1 k2 kl k3 k4 ih => exact .cons fl e xs b off n cap i f rest x c p u v k0 k1 k2 (hl b kl) (hc _ _ _ kl k3) ih
def putCells (arr : Array Value) (k : Nat) (vs : List Value) : Array Value := (arr.toList.take k ++ vs ++ arr.toList.drop (k + vs.length)).toArray
theorem putCells_size {arr : Array Value} {k : Nat} {vs : List Value} (h : k + vs.length ≤ arr.size) : (putCells arr k vs).size = arr.size := by
  simp [putCells]; omega
theorem putCells_in {arr : Array Value} {k j : Nat} {vs : List Value} (h : k + vs.length ≤ arr.size) (hj : j < vs.length) : (putCells arr k vs)[k + j]? = vs[j]? := by
  simp only [putCells, List.getElem?_toArray, List.append_assoc]
  have l1 : (arr.toList.take k).length = k := by rw [List.length_take, Array.length_toList]; omega
  rw [List.getElem?_append_right (by omega), l1, Nat.add_sub_cancel_left, List.getElem?_append_left hj]
theorem putCells_out {arr : Array Value} {k j : Nat} {vs : List Value} (h : k + vs.length ≤ arr.size) (hj : j < k ∨ k + vs.length ≤ j) : (putCells arr k vs)[j]? = arr[j]? := by
  simp only [putCells, List.getElem?_toArray, List.append_assoc]
  have l1 : (arr.toList.take k).length = k := by rw [List.length_take, Array.length_toList]; omega
  rcases hj with hj | hj
  · rw [List.getElem?_append_left (by omega), List.getElem?_take, if_pos hj]; simp
  · rw [List.getElem?_append_right (by omega), l1, List.getElem?_append_right (by omega), List.getElem?_drop]
    rw [show k + vs.length + (j - k - vs.length) = j by omega]; simp
theorem setCells_b {ob c : Nat} {cs0 : List AV} (hb : m.b ob = some cs0) : (m.setCells ob c as) = { m with b := upd m.b ob (some (cs0.take c ++ as ++ cs0.drop (c + as.length))), kr := bumpFrom m.kr ob c as.length } := by
  simp [Mem.setCells, hb]
theorem bump_in {kr : Root → Nat} {ob c n j : Nat} (h : c ≤ j ∧ j < c + n) : bumpFrom kr ob c n (.c ob j) = kr (.c ob j) + 1 := by simp [bumpFrom, h]
theorem bump_out {kr : Root → Nat} {ob c n : Nat} {r : Root} (h : ∀ j, c ≤ j → j < c + n → r ≠ .c ob j) : bumpFrom kr ob c n r = kr r := by
  cases r with
  | v t => rfl
  | c o j =>
    simp only [bumpFrom]
    rw [if_neg]
    rintro ⟨rfl, h1, h2⟩
    exact h j h1 h2 rfl
theorem splice_get {cs0 : List AV} {c j : Nat} (h : c + as.length ≤ cs0.length) : (cs0.take c ++ as ++ cs0.drop (c + as.length))[j]? = if c ≤ j ∧ j < c + as.length then as[j - c]? else cs0[j]? := by
  rw [List.append_assoc]
  have l1 : (cs0.take c).length = c := by rw [List.length_take]; omega
  by_cases h1 : j < c
  · rw [List.getElem?_append_left (by omega), List.getElem?_take, if_pos h1, if_neg (by omega)]
  · rw [List.getElem?_append_right (by omega), l1]
    by_cases h2 : j < c + as.length
    · rw [if_pos ⟨by omega, h2⟩, List.getElem?_append_left (by omega)]
    · rw [if_neg (by omega), List.getElem?_append_right (by omega), List.getElem?_drop]
      congr 1; omega
theorem Sim.setCellsW (h : Sim P ar N E G s a w) {ob c : Nat} {cs0 : List AV} {vs : List Value} {arr : Array Value} {ty : TypeId} {W : World} (hb : s.m.b ob = some cs0) (hc : c + as.length ≤ cs0.length) (hw : w.heap[(G.β ob).1]? = some (.cells arr ty (0, 0)))
    (hr : RepAL P G w s.m as vs F) (hn : F.Nodup) (hF : ∀ b ∈ F, G.γ b = some .x)
    (hw' : W.heap[(G.β ob).1]? = some (.cells (putCells arr ((G.β ob).2 + c) vs) ty (0, 0))) (hoth : ∀ b, b ≠ (G.β ob).1 → W.heap[b]? = w.heap[b]?) (hsz : W.heap.size = w.heap.size) (henv : W.os = w.os ∧ W.tape = w.tape ∧ W.output = w.output) :
    ∃ G', Grow P G G' w W s.m (s.m.setCells ob c as) ∧ Sim P ar N E G' ⟨s.t, s.m.setCells ob c as⟩ a W ∧ ∀ b, ¬ b ∈ F → G'.γ b = G.γ b := by
  obtain ⟨Fs, rfl, hrs, hna⟩ := hr.parts
  obtain ⟨arr', ty', g1, g2, g3, g4⟩ := h.box ob cs0 hb
  rw [hw] at g1
  simp only [Option.some.injEq, Obj.cells.injEq, and_true] at g1
  obtain ⟨rfl, rfl⟩ := g1
  have hlen := hrs.length
  have hfit : (G.β ob).2 + c + vs.length ≤ arr.size := by omega
  let G' : Gh := { G with γ := tagR ob c G.γ Fs }
  have hst : ∀ o1, o1 ≠ some .x → ∀ b, G.γ b = o1 → G'.γ b = o1 := fun o1 ho b hb => by
    show tagR _ _ _ _ _ = _
    rw [tagR_out (fun hbF => ho (by rw [← hb, hF b hbF]))]
    exact hb
  have hB : ∀ o1, o1 ≠ some (.b ob) → ∀ b, G.γ b = o1 → b ≠ (G.β ob).1 := fun o1 ho b hb e => ho (by rw [← hb, e, g2])
  have hstay : ∀ o1, o1 ≠ .x → o1 ≠ .b ob → Stay G G' w W o1 := fun o1 ho hob b hb => ⟨hst _ (by simpa using ho) b hb, hoth b (hB _ (by simpa using hob) b hb)⟩
  have hm := setCells_b (as := as) (c := c) hb
  have hat : ∀ r : Root, (∀ j, c ≤ j → j < c + as.length → r ≠ .c ob j) → (s.m.setCells ob c as).at r = s.m.at r := by
    intro r hr
    rw [hm]
    cases r with
    | v t => rfl
    | c o' j =>
      by_cases e : o' = ob
      · subst e
        simp only [Mem.at, Mem.cell, upd_same, hb, Option.bind_some]
        rw [splice_get hc, if_neg (fun hj => hr j hj.1 hj.2 rfl)]
      · simp only [Mem.at, Mem.cell, upd_ne _ _ _ _ e]
  have hkr : ∀ r : Root, (∀ j, c ≤ j → j < c + as.length → r ≠ .c ob j) → (s.m.setCells ob c as).kr r = s.m.kr r := fun r hr => by rw [hm]; exact bump_out hr
  have hkr1 : ∀ j, c ≤ j → j < c + as.length → (s.m.setCells ob c as).kr (.c ob j) = s.m.kr (.c ob j) + 1 := fun j h1 h2 => by rw [hm]; exact bump_in ⟨h1, h2⟩
  have hkn : (s.m.setCells ob c as).kn = s.m.kn := by rw [hm]
  have hkb : (s.m.setCells ob c as).kb = s.m.kb := by rw [hm]
  have hg : Grow P G G' w W s.m (s.m.setCells ob c as) := {
    ent := rfl
    ok := fun b hb _ => hst _ (by simp) b hb
    size := Nat.le_of_eq hsz.symm
    same := fun b hb _ => hoth b (hB _ (by simp) b hb)
    dead := fun r hr => by
      by_cases hd : ∃ j, c ≤ j ∧ j < c + as.length ∧ r.root = .c ob j
      · obtain ⟨j, k1, k2, hj⟩ := hd
        left
        rw [hj, hkr1 j k1 k2]
        rcases hr with h1 | ⟨h1, _⟩ | ⟨_, h1⟩ <;> rw [hj] at h1 <;> omega
      · have hx : ∀ j, c ≤ j → j < c + as.length → r.root ≠ .c ob j := fun j k1 k2 e => hd ⟨j, k1, k2, e⟩
        unfold Dead
        rw [hat _ hx, hkr _ hx, hkn]
        exact hr
    refs := fun r p v hr => refsOf (by
      by_cases hd : ∃ j, c ≤ j ∧ j < c + as.length ∧ r.root = .c ob j
      · obtain ⟨j, k1, k2, hj⟩ := hd
        right; left
        have hv := hr.1
        simp only [Ref.valid, Bool.and_eq_true, beq_iff_eq] at hv
        rw [hj, hkr1 j k1 k2]
        rw [hj] at hv
        omega
      · left
        have hx : ∀ j, c ≤ j → j < c + as.length → r.root ≠ .c ob j := fun j k1 k2 e => hd ⟨j, k1, k2, e⟩
        obtain ⟨h1, p0, v0, h2, h3, h4⟩ := hr
        have hcell : ∀ {b off : Nat} {u : Value}, b ≠ (G.β ob).1 → w.cell? ⟨b, off, none⟩ = some u → W.cell? ⟨b, off, none⟩ = some u := fun hne hu => (World.cell?_of_block (a := ⟨_, _, none⟩) (hoth _ hne)).trans hu
        refine ⟨?_, p0, v0, by rw [hat _ hx]; exact h2, ?_, ?_⟩
        · simp only [Ref.valid] at h1 ⊢
          rw [hkr _ hx, hkn]; exact h1
        · cases hq : r.root with
          | v t => rw [hq] at h3; exact h3
          | c o' n =>
            rw [hq] at h3 hx h2
            simp only [Hd, G'] at h3 ⊢
            by_cases e : o' = ob
            · subst e
              simp only [World.cell?, hw, hw', Option.isSome_none, Bool.false_eq_true, if_false] at h3 ⊢
              rw [putCells_out hfit (by
                by_cases k1 : c ≤ n
                · by_cases k2 : n < c + as.length
                  · exact absurd rfl (hx n k1 k2)
                  · right; omega
                · left; omega)]
              exact h3
            · refine hcell (fun e2 => ?_) h3
              simp only [Mem.at, Mem.cell] at h2
              split at h2
              · rename_i p' hp
                obtain ⟨cs', hcs', _⟩ := Option.bind_eq_some_iff.1 hp
                obtain ⟨_, _, _, g5, _⟩ := h.box o' cs' hcs'
                rw [e2, g2] at g5
                simp at g5
                exact e g5.symm
              · cases h2
        · exact h4.keep (fun b hb => hst _ (by simp) b hb) (fun b off u hb hu => hcell (hB _ (by simp) b hb) hu))
    kb := fun o => by rw [hkb]; exact Nat.le_refl _
    beta := fun o ho => rfl }
  refine ⟨G', hg, {
    ent := h.ent
    size := h.size
    defers := h.defers
    lab := fun b hb => by
      rw [hsz]
      by_cases hbF : b ∈ Fs.flatten
      · exact h.lab b (by rw [hF b hbF]; simp)
      · have : tagR ob c G.γ Fs b ≠ none := hb
        rw [tagR_out hbF] at this
        exact h.lab b this
    tmp := fun t v hv => (h.tmp t v hv).frame hg (hstay _ (by simp) (by simp))
    nn := h.nn
    comp := h.comp
    whole := h.whole
    box := fun o' cs' hc' => by
      by_cases e : o' = ob
      · subst e
        rw [hm] at hc'
        simp only [upd_same, Option.some.injEq] at hc'
        subst hc'
        refine ⟨_, ty, hw', hst _ (by simp) _ g2, ?_, fun j c' hj => ?_⟩
        · rw [putCells_size hfit]
          simp only [List.length_append, List.length_take, List.length_drop]
          show (G.β o').2 + _ ≤ _
          omega
        · rw [splice_get hc] at hj
          split at hj
          · rename_i hin
            obtain ⟨v, F, h1, h2, h3⟩ := hrs.get hj
            have hFm : F ∈ Fs := List.mem_of_getElem? h2
            have hlt : j - c < vs.length := (List.getElem?_eq_some_iff.1 h1).1
            refine ⟨v, F, ?_, ?_, flatten_part hn hFm, fun b hb => ?_, hna c' (List.mem_of_getElem? hj)⟩
            · have := putCells_in (arr := arr) hfit hlt
              rw [h1, show (G.β o').2 + c + (j - c) = (G.β o').2 + j by omega] at this
              exact this
            · refine h3.grow hg (fun b hb => hoth b (hB (some .x) (by simp) b (hF b (List.mem_flatten.2 ⟨F, hFm, hb⟩))))
            · show tagR o' c G.γ Fs b = _
              rw [tagR_in hn h2 hb]
              congr 3; omega
          · rename_i hout
            obtain ⟨v, F, h5, h6, h7, h8, h9⟩ := g4 j c' hj
            refine ⟨v, F, ?_, h6.grow hg (fun b hb => hoth b (hB _ (by simp) b (h8 b hb))), h7, fun b hb => hst _ (by simp) b (h8 b hb), h9⟩
            show (putCells _ _ _)[(G.β o').2 + j]? = _
            rw [putCells_out hfit (by omega)]
            exact h5
      · rw [hm] at hc'
        simp only [upd_ne _ _ _ _ e] at hc'
        exact (h.box o' cs' hc').frame hg rfl (hstay _ (by simp) (by simpa using e)) (fun _ => hstay _ (by simp) (by simp))
    map := fun o' es hc' => by
      rw [hm] at hc'
      have hmap := h.map o' es hc'
      by_cases e : o' = ob
      · subst e
        obtain ⟨ents, clock, k1, _⟩ := hmap
        rw [hw] at k1; cases k1
      · exact hmap.frame hg rfl (hstay _ (by simp) (by simpa using e))
    row := fun t p hp => by
      rw [hm] at hp
      exact (h.row t p hp).frame hg rfl (hstay _ (by simp) (by simp))
    env := {
      mono := h.env.mono
      os := henv.1.trans h.env.os
      tape := henv.2.1.trans h.env.tape
      output := henv.2.2.trans h.env.output
      size := by rw [hsz]; exact h.env.size
      keep := fun b h1 h2 => by
        obtain ⟨k1, k2⟩ := h.env.keep b h1 h2
        exact ⟨hst _ (by simp) b k1, (hoth b (hB _ (by simp) b k1)).trans k2⟩
      lent := fun o' L hL => by
        obtain ⟨k1, ⟨arr0, k2, k3, k4⟩, k5, k6⟩ := h.env.lent o' L hL
        refine ⟨hst _ (by simp) _ k1, ?_, ?_, ?_⟩
        · by_cases e : L.b = (G.β ob).1
          · have eo : o' = ob := by rw [e, g2] at k1; simp at k1; exact k1.symm
            subst eo
            rw [e, hw] at k2
            simp only [Option.some.injEq, Obj.cells.injEq, and_true] at k2
            obtain ⟨rfl, rfl⟩ := k2
            have hk : s.m.kb o' = 0 := Decidable.byContradiction fun hk => k6 hk e.symm
            obtain ⟨k7, k8⟩ := k5 hk
            have hl := k8 cs0 hb
            refine ⟨_, by rw [e]; exact hw', by rw [putCells_size hfit]; exact k3, fun j hj => ?_⟩
            rw [putCells_out hfit (by rw [k7]; simp only; omega)]
            exact k4 j hj
          · exact ⟨arr0, by rw [hoth _ e]; exact k2, k3, k4⟩
        · rw [hkb]
          intro hk
          obtain ⟨k7, k8⟩ := k5 hk
          refine ⟨k7, fun cs' hcs' => ?_⟩
          rw [hm] at hcs'
          by_cases e : o' = ob
          · subst e
            simp only [upd_same, Option.some.injEq] at hcs'
            subst hcs'
            have := k8 cs0 hb
            simp only [List.length_append, List.length_take, List.length_drop]
            omega
          · simp only [upd_ne _ _ _ _ e] at hcs'
            exact k8 cs' hcs'
        · rw [hkb]; exact k6
      hd0 := fun t v hv hk => h.env.hd0 t v hv (by
        rw [hkr _ (fun j _ _ => by simp)] at hk
        exact hk)
      provlt := h.env.provlt
      prov := h.env.prov_next rfl (fun i hk => by
        rw [hkr _ (fun j _ _ => by simp)] at hk
        exact hk) (fun b i hb _ => hst _ (by simp) b hb) } }, fun b hb => tagR_out hb⟩
theorem Sim.setCells (h : Sim P ar N E G s a w) {ob c : Nat} {cs0 : List AV} {vs : List Value} {arr : Array Value} {ty : TypeId} (hb : s.m.b ob = some cs0) (hc : c + as.length ≤ cs0.length) (hw : w.heap[(G.β ob).1]? = some (.cells arr ty (0, 0)))
    (hr : RepAL P G w s.m as vs F) (hn : F.Nodup) (hF : ∀ b ∈ F, G.γ b = some .x) :
    ∃ G', Sim P ar N E G' ⟨s.t, s.m.setCells ob c as⟩ a (w.setRow (G.β ob).1 (putCells arr ((G.β ob).2 + c) vs)) := by
  obtain ⟨G', _, h1, _⟩ := h.setCellsW (W := w.setRow (G.β ob).1 (putCells arr ((G.β ob).2 + c) vs)) hb hc hw hr hn hF (setRow_heap w (G.β ob).1 arr (putCells arr ((G.β ob).2 + c) vs) ty (0, 0) hw) (fun b hb => setRow_other w _ b _ hb) (by simp [World.setRow]) ⟨rfl, rfl, rfl⟩
  exact ⟨G', h1⟩
end
end Go.Proofs.YtngooidedlnmaaaGreat.Pv
