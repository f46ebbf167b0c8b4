/- A plain reading of Go code and its soundness, part 2. No condition. -/
import Derived.Test.YtdbcnnehfbcldaaDoorV1
set_option linter.all false
set_option linter.unusedSimpArgs false
set_option linter.unusedVariables false
set_option linter.unnecessarySimpa false
/- New blocks, new boxes. No condition. -/
namespace Go.Proofs.YtdbcnnehfbcldaaDoor.Pv
open Go
section
variable {P : Program} {ar : Nat → Nat} {N : Nat} {E : Entry} {G G' : Gh} {s : St} {a : Act} {w w' : World} {m m' m2 : Mem} {F : List Nat} {as cs : List AV} {ρ : Operand → Value} {o : Oper} {d : Nat} {ok : Bool → Nat → Prop}
theorem cell_old (hsame : ∀ b, b < w.heap.size → w'.heap[b]? = w.heap[b]?) {ad : Addr} {v : Value} (h : w.cell? ad = some v) : w'.cell? ad = some v :=
  (World.cell?_of_block (hsame ad.block (World.block_lt_of_cell? w ad h))).trans h
theorem Nest.heap {root : Root} (hsame : ∀ b, b < w.heap.size → w'.heap[b]? = w.heap[b]?) (hr : ∀ b, G.γ b = some (.r root) → G'.γ b = some (.r root)) {p0 : PV} {v0 : Value} {path : List (Nat × Nat)} {p : PV} {v : Value} (h : Nest P G root w p0 v0 path p v) : Nest P G' root w' p0 v0 path p v := by
  induction h with
  | nil p v => exact .nil p v
  | cons fl e xs b off n cap i f rest x c p u v h0 h1 h2 hl h3 h4 ih => exact .cons fl e xs b off n cap i f rest x c p u v h0 h1 h2 (hr b hl) (cell_old hsame h3) ih
theorem RefAt.heap {r : Ref} {p : PV} {v : Value} (hsame : ∀ b, b < w.heap.size → w'.heap[b]? = w.heap[b]?) (hb : G'.β = G.β) (hh : G'.hd = G.hd) (hr : ∀ b r, G.γ b = some (.r r) → G'.γ b = some (.r r)) (h : RefAt P G w m r p v) : RefAt P G' w' m r p v := by
  obtain ⟨h1, p0, v0, h2, h3, h4⟩ := h
  refine ⟨h1, p0, v0, h2, ?_, h4.heap hsame (fun b hb => hr b _ hb)⟩
  cases hq : r.root <;> rw [hq] at h3 <;> simp only [Hd, hb, hh] at h3 ⊢
  · exact h3
  · exact cell_old hsame h3
theorem Sim.alloc (h : Sim P ar N E G s a w) (obj : Obj) : Grow P G (relabel G [w.heap.size] .x) w (w.alloc obj) s.m s.m ∧ Sim P ar N E (relabel G [w.heap.size] .x) s a (w.alloc obj) := by
  have hsame : ∀ b, b < w.heap.size → (w.alloc obj).heap[b]? = w.heap[b]? := fun b hb => heap_alloc_old w obj b hb
  have hst : ∀ o1, ∀ b, G.γ b = some o1 → (relabel G [w.heap.size] .x).γ b = some o1 := fun o1 b hb => by
    rw [relabel_out (fun hF => by simp at hF; have := h.lab b (by rw [hb]; simp); omega)]; exact hb
  have hstay : ∀ o1, Stay G (relabel G [w.heap.size] .x) w (w.alloc obj) o1 := fun o1 b hb => ⟨hst o1 b hb, hsame b (h.lab b (by rw [hb]; simp))⟩
  have hg : Grow P G (relabel G [w.heap.size] .x) w (w.alloc obj) s.m s.m := {
    ent := rfl
    ok := fun b hb hl => by rw [relabel_out (fun hF => by simp at hF; omega)]; exact hb
    size := by simp
    same := fun b _ hl => hsame b hl
    dead := fun _ h => h
    refs := fun r p v hr => refsOf (.inl (RefAt.heap (G := G) (G' := relabel G [w.heap.size] .x) hsame rfl rfl (fun b r hb => hst _ b hb) hr))
    kb := fun _ => Nat.le_refl _
    beta := fun _ _ => rfl }
  refine ⟨hg, {
    ent := h.ent
    size := h.size
    defers := h.defers
    lab := fun b hb => by
      by_cases hbF : b = w.heap.size
      · subst hbF; simp
      · rw [relabel_out (by simpa using hbF)] at hb
        have := h.lab b hb
        simp; omega
    tmp := fun t v hv => (h.tmp t v hv).frame hg (hstay _)
    nn := h.nn
    comp := h.comp
    whole := h.whole
    box := fun o cs hc => (h.box o cs hc).frame hg rfl (hstay _) (fun _ => hstay _)
    map := fun o es hc => (h.map o es hc).frame hg rfl (hstay _)
    row := fun t p hp => (h.row t p hp).frame hg rfl (hstay _)
    env := {
      mono := h.env.mono
      os := h.env.os
      tape := h.env.tape
      output := h.env.output
      size := Nat.le_trans h.env.size (by simp)
      keep := fun b h1 h2 => by
        have := h.env.size
        obtain ⟨k1, k2⟩ := h.env.keep b h1 h2
        exact ⟨by rw [relabel_out (fun hF => by simp at hF; have : b < G.E.w0.heap.size := h1; omega)]; exact k1, (hsame b (Nat.lt_of_lt_of_le h1 h.env.size)).trans k2⟩
      lent := fun o L hL => by
        obtain ⟨k1, ⟨arr, k2, k3⟩, k4⟩ := h.env.lent o L hL
        exact ⟨hst _ _ k1, ⟨arr, by rw [(hstay _ _ k1).2]; exact k2, k3⟩, k4⟩
      hd0 := h.env.hd0
      provlt := h.env.provlt
      prov := h.env.prov_next rfl (fun _ hk => hk) (fun b i hb _ => hst _ b hb) } }⟩
def tagR (d k : Nat) (γ : Nat → Option Own) : List (List Nat) → Nat → Option Own
  | [], b => γ b
  | F :: Fs, b => if b ∈ F then some (.r (.c d k)) else tagR d (k + 1) γ Fs b
theorem tagR_out {γ : Nat → Option Own} {b : Nat} : ∀ {Fs : List (List Nat)} {k : Nat}, ¬ b ∈ Fs.flatten → tagR d k γ Fs b = γ b
  | [], _, _ => rfl
  | F :: Fs, k, h => by
    simp only [List.flatten_cons, List.mem_append, not_or] at h
    simp only [tagR, h.1, if_false]
    exact tagR_out h.2
theorem tagR_in {γ : Nat → Option Own} {b : Nat} : ∀ {Fs : List (List Nat)} {k i : Nat} {F : List Nat}, Fs.flatten.Nodup → Fs[i]? = some F → b ∈ F → tagR d k γ Fs b = some (.r (.c d (k + i)))
  | F0 :: Fs, k, 0, F, hn, h, hb => by simp at h; subst h; simp [tagR, hb]
  | F0 :: Fs, k, i + 1, F, hn, h, hb => by
    have hF : F ∈ Fs := List.mem_of_getElem? (by simpa using h)
    have hbf : b ∈ Fs.flatten := List.mem_flatten.2 ⟨F, hF, hb⟩
    rw [List.flatten_cons] at hn
    have : ¬ b ∈ F0 := fun h0 => (List.nodup_append.1 hn).2.2 b h0 b hbf rfl
    simp only [tagR, this, if_false]
    rw [tagR_in (List.nodup_append.1 hn).2.1 (by simpa using h) hb]
    congr 3
    omega
theorem RepAL.parts {vs : List Value} (h : RepAL P G w m cs vs F) : ∃ Fs, F = Fs.flatten ∧ RepOs P G w m cs vs Fs ∧ ∀ c ∈ cs, ∀ ds, c ≠ .agg ds := by
  induction cs generalizing vs F with
  | nil => cases h; exact ⟨[], rfl, .nil, by simp⟩
  | cons c cs ih =>
    cases h with
    | cons c v F cs vs F' h0 h1 h2 =>
      obtain ⟨Fs, rfl, h3, h4⟩ := ih h2
      exact ⟨F :: Fs, rfl, .cons _ _ _ _ _ _ h1 h3, fun c' hc => by
        rcases List.mem_cons.1 hc with rfl | hc
        · exact h0
        · exact h4 c' hc⟩
theorem RepOs.length : ∀ {cs : List AV} {vs : List Value} {Fs : List (List Nat)}, RepOs P G w m cs vs Fs → cs.length = vs.length
  | _, _, _, .nil => rfl
  | _, _, _, .cons _ _ _ _ _ _ _ h => by simp [RepOs.length h]
theorem flatten_part {Fs : List (List Nat)} {F : List Nat} (hn : Fs.flatten.Nodup) (hF : F ∈ Fs) : F.Nodup := by
  obtain ⟨l1, l2, rfl⟩ := List.append_of_mem hF
  simp only [List.flatten_append, List.flatten_cons] at hn
  exact (List.nodup_append.1 (List.nodup_append.1 hn).2.1).1
theorem setNew_at {r : Root} (h : ∀ j, r ≠ .c d j) : (m.setNew d cs).at r = m.at r ∧ (m.setNew d cs).kr r = m.kr r := by
  cases r with
  | v t => exact ⟨rfl, rfl⟩
  | c o n =>
    have ho : o ≠ d := fun e => h n (by rw [e])
    exact ⟨by simp [Mem.at, Mem.cell, Mem.setNew, upd, ho], by simp [Mem.setNew, ho]⟩
theorem setNew_kr (j : Nat) : (m.setNew d cs).kr (.c d j) = m.kr (.c d j) + 1 := by simp [Mem.setNew]
theorem setNew_dead {r : Ref} (hr : Dead m r) : Dead (m.setNew d cs) r := by
  by_cases hd : ∃ j, r.root = .c d j
  · obtain ⟨j, hj⟩ := hd
    left
    rw [hj, setNew_kr]
    rcases hr with h1 | ⟨h1, _⟩ | ⟨_, h1⟩ <;> rw [hj] at h1 <;> omega
  · obtain ⟨e1, e2⟩ := setNew_at (m := m) (cs := cs) (r := r.root) (fun j e => hd ⟨j, e⟩)
    have e3 : (m.setNew d cs).kn r.root = m.kn r.root := rfl
    unfold Dead
    rw [e1, e2, e3]
    exact hr
theorem Sim.setNew (h : Sim P ar N E G s a w) {nb : Nat} {vs : List Value} {ty : TypeId} (hnb : w.heap[nb]? = some (.cells vs.toArray ty (0, 0))) (hx : G.γ nb = some .x) (hr : RepAL P G w s.m cs vs F) (hn : F.Nodup) (hF : ∀ b ∈ F, G.γ b = some .x) (hnF : ¬ nb ∈ F) :
    ∃ G', G'.β d = (nb, 0) ∧ Sim P ar N E G' ⟨s.t, s.m.setNew d cs⟩ a w := by
  obtain ⟨Fs, rfl, hrs, hna⟩ := hr.parts
  let G' : Gh := { γ := fun b => if b = nb then some (.b d) else tagR d 0 G.γ Fs b, β := upd G.β d (nb, 0), hd := G.hd, E := G.E }
  have hst : ∀ o1, o1 ≠ some .x → ∀ b, G.γ b = o1 → G'.γ b = o1 := fun o1 ho b hb => by
    show (if b = nb then _ else _) = _
    rw [if_neg (fun e => by subst e; rw [hx] at hb; exact ho hb.symm), tagR_out (fun hbF => ho (by rw [← hb, hF b hbF]))]
    exact hb
  have hstay : ∀ o1, o1 ≠ .x → Stay G G' w w o1 := fun o1 ho => Stay.of_label (hst _ (by simpa using ho))
  have hg : Grow P G G' w w s.m (s.m.setNew d cs) := {
    ent := rfl
    ok := fun b hb _ => hst _ (by simp) b hb
    size := Nat.le_refl _
    same := fun _ _ _ => rfl
    dead := fun r hr => setNew_dead hr
    refs := fun r p v hr => refsOf (by
      by_cases hd : ∃ j, r.root = .c d j
      · obtain ⟨j, hj⟩ := hd
        right; left
        have hv := hr.1
        simp only [Ref.valid, Bool.and_eq_true, beq_iff_eq] at hv
        rw [hj, setNew_kr]
        rw [hj] at hv
        omega
      · left
        obtain ⟨e1, e2⟩ := setNew_at (m := s.m) (cs := cs) (r := r.root) (fun j e => hd ⟨j, e⟩)
        obtain ⟨h1, p0, v0, h2, h3, h4⟩ := hr
        refine ⟨?_, p0, v0, by rw [e1]; exact h2, ?_, h4.labels (hst _ (by simp))⟩
        · simp only [Ref.valid] at h1 ⊢
          rw [e2]; exact h1
        · cases hq : r.root with
          | v t => rw [hq] at h3; exact h3
          | c o n =>
            have ho : o ≠ d := fun e => hd ⟨n, by rw [hq, e]⟩
            rw [hq] at h3
            simp only [Hd, G', upd, ho, if_false] at h3 ⊢
            exact h3)
    kb := fun o => by
      simp only [Mem.setNew, upd]
      split
      · rename_i e; subst e; omega
      · exact Nat.le_refl _
    beta := fun o ho => by
      have : o ≠ d := fun e => by subst e; simp [Mem.setNew, upd] at ho
      simp [G', upd, this] }
  refine ⟨G', by simp [G', upd], {
    ent := h.ent
    size := h.size
    defers := h.defers
    lab := fun b hb => by
      by_cases e : b = nb
      · subst e; exact h.lab b (by rw [hx]; simp)
      · by_cases hbF : b ∈ Fs.flatten
        · exact h.lab b (by rw [hF b hbF]; simp)
        · have : (if b = nb then some (Own.b d) else tagR d 0 G.γ Fs b) ≠ none := hb
          rw [if_neg e, tagR_out hbF] at this
          exact h.lab b this
    tmp := fun t v hv => (h.tmp t v hv).frame hg (hstay _ (by simp))
    nn := h.nn
    comp := h.comp
    whole := h.whole
    box := fun o' cs' hc => by
      by_cases e : o' = d
      · subst e
        simp only [Mem.setNew, upd_same, Option.some.injEq] at hc
        subst hc
        refine ⟨vs.toArray, ty, by simpa [G', upd] using hnb, by simp [G', upd], by simp [G', upd, hrs.length], fun j c hj => ?_⟩
        obtain ⟨v, F, h1, h2, h3⟩ := hrs.get hj
        have hFm : F ∈ Fs := List.mem_of_getElem? h2
        refine ⟨v, F, by simpa [G', upd] using h1, h3.grow hg (fun _ _ => rfl), flatten_part hn hFm, fun b hb => ?_, hna c (List.mem_of_getElem? hj)⟩
        have hbF : b ∈ Fs.flatten := List.mem_flatten.2 ⟨F, hFm, hb⟩
        show (if b = nb then _ else _) = _
        rw [if_neg (fun e => by subst e; exact hnF hbF), tagR_in hn h2 hb, Nat.zero_add]
      · simp only [Mem.setNew, upd, e, if_false] at hc
        exact (h.box o' cs' hc).frame hg (by simp [G', upd, e]) (hstay _ (by simp)) (fun _ => hstay _ (by simp))
    map := fun o' es hc => by
      by_cases e : o' = d
      · subst e; simp [Mem.setNew, upd] at hc
      · simp only [Mem.setNew, upd, e, if_false] at hc
        exact (h.map o' es hc).frame hg (by simp [G', upd, e]) (hstay _ (by simp))
    row := fun t p hp => (h.row t p hp).frame hg rfl (hstay _ (by simp))
    env := {
      mono := h.env.mono
      os := h.env.os
      tape := h.env.tape
      output := h.env.output
      size := h.env.size
      keep := fun b h1 h2 => ⟨hst _ (by simp) b (h.env.keep b h1 h2).1, (h.env.keep b h1 h2).2⟩
      lent := fun o' L hL => by
        obtain ⟨k1, k2, k3, k4⟩ := h.env.lent o' L hL
        refine ⟨hst _ (by simp) _ k1, k2, fun hk => ?_, fun hk => ?_⟩
        · have : o' ≠ d := fun e => by subst e; simp [Mem.setNew, upd] at hk
          simp only [Mem.setNew, upd, this, if_false] at hk ⊢
          simpa [G', upd, this] using k3 hk
        · by_cases e : o' = d
          · subst e
            simp only [G', upd_same]
            exact fun e => by rw [← e, hx] at k1; cases k1
          · simp only [Mem.setNew, upd, e, if_false] at hk
            simpa [G', upd, e] using k4 hk
      hd0 := h.env.hd0
      provlt := h.env.provlt
      prov := h.env.prov_next rfl (fun _ hk => hk) (fun b i hb _ => hst _ (by simp) b hb) } }⟩
end
end Go.Proofs.YtdbcnnehfbcldaaDoor.Pv
