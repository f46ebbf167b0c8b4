/- A plain reading of Go code and its soundness, part 22. No condition. -/
import Derived.Test.YtdbcnnehfbcldaaDoorV21
set_option linter.all false
set_option linter.unusedSimpArgs false
set_option linter.unusedVariables false
set_option linter.unnecessarySimpa false
/- What is lent leaves a state; worlds between two. No condition. -/
namespace Go.Proofs.YtdbcnnehfbcldaaDoor.Pv
open Go
section
variable {P : Program} {ar : Nat → Nat} {N : Nat} {E : Entry} {G G' : Gh} {s : St} {a : Act} {w w' : World} {m m' m2 : Mem} {ok ok' : Bool → Nat → Prop}
theorem same_vals {vs us : List Value} (hl : vs.length = us.length) (h : ∀ (j : Nat) (v u : Value), vs[j]? = some v → us[j]? = some u → v = u) : vs = us := by
  apply List.ext_getElem? 
  intro j
  by_cases hj : j < vs.length
  · rw [List.getElem?_eq_getElem hj, List.getElem?_eq_getElem (by omega)]
    exact congrArg some (h j _ _ (List.getElem?_eq_getElem hj) (List.getElem?_eq_getElem (by omega)))
  · rw [List.getElem?_eq_none_iff.2 (by omega), List.getElem?_eq_none_iff.2 (by omega)]
mutual
theorem Rep.unique : ∀ {p : PV} {v : Value} {F F' : List Nat}, Rep P w ok p v F → Rep P w ok' p v F' → F = F'
  | _, _, _, _, .int _ _, h => by cases h; rfl
  | _, _, _, _, .bool _, h => by cases h; rfl
  | _, _, _, _, .str _, h => by cases h; rfl
  | _, _, _, _, .nilp, h => by cases h; rfl
  | _, _, _, _, .nili, h => by cases h; rfl
  | _, _, _, _, .iface _ _ _ _, h => by cases h; rfl
  | _, _, _, F', .agg cs vs F h1, h => by
    generalize hv : Value.agg vs.toArray = v at h
    cases h with
    | agg _ us _ h2 =>
      have e : vs = us := by simpa using hv
      subst e
      exact RepL.unique h1 h2
  | _, _, _, _, .ref _ _ _ _ _ _ _ _, h => by cases h; rfl
  | _, _, _, _, .clo _ _ _ _, h => by
    generalize hv : Value.func _ _ _ = v at h
    cases h; rfl
  | _, _, _, _, .slN _ _, h => by cases h; rfl
  | _, _, _, _, .slE _ _ _, h => by cases h <;> first | rfl | exact absurd rfl ‹_ ≠ _›
  | _, _, _, _, .slI _ _ _ _ _ _ _ _ _ _ _ _, h => by cases h <;> rfl
  | _, _, _, F', .slO e xs vs b off cap arr ty F h1 hu hg hc g1 g2 hz, h => by
    cases h with
    | slE _ _ _ => exact absurd rfl hz
    | slO _ _ us _ _ _ arr' ty' G h1' hu' hg' hc' _ _ _ =>
      rw [hg] at hg'
      simp only [Option.some.injEq, Obj.cells.injEq, and_true] at hg'
      obtain ⟨rfl, rfl⟩ := hg'
      have e : vs = us := same_vals (h1.length.symm.trans h1'.length) (fun j v u hv hu => by
        have a := hc j v hv
        rw [hc' j u hu] at a
        exact (Option.some.inj a).symm)
      subst e
      rw [RepL.unique h1 h1']
  | _, _, _, F', .slA e xs vs b cap F h1 hu hr hz, h => by
    cases h with
    | slE _ _ _ => exact absurd rfl hz
    | slA _ _ us _ _ G h1' hu' hr' _ =>
      have e : vs = us := by
        rcases hr.2 with ⟨hn, _⟩ | ⟨g, c, cur, he, _, hg, _, _, _, g6⟩
        · cases hn
        · rcases hr'.2 with ⟨hn, _⟩ | ⟨g', c', cur', he', _, hg', _, _, _, g6'⟩
          · cases hn
          · simp only [Value.slice.injEq, Option.some.injEq, Addr.mk.injEq, and_true, true_and] at he he'
            rw [← he.1] at hg
            rw [← he'.1] at hg'
            rw [hg] at hg'
            simp only [Option.some.injEq, Obj.cells.injEq, and_true] at hg'
            rw [← g6, ← g6', hg']
      subst e
      rw [RepL.unique h1 h1']
theorem RepL.unique : ∀ {ps : List PV} {vs : List Value} {F F' : List Nat}, RepL P w ok ps vs F → RepL P w ok' ps vs F' → F = F'
  | _, _, _, _, .nil, h => by cases h; rfl
  | _, _, _, _, .cons c v F cs vs G h0 h1 h2, h => by
    cases h with
    | cons _ _ F' _ _ G' h0' h1' h2' => rw [h1.unique h1', RepL.unique h2 h2']
end
/-! ### A box's cells leave -/
def freeG (G : Gh) (o c n : Nat) : Gh := { G with γ := fun b => match G.γ b with
  | some (.r (.c o' j)) => if o' = o ∧ c ≤ j ∧ j < c + n then some .x else some (.r (.c o' j))
  | x => x }
theorem freeG_in {o c n j b : Nat} (h : G.γ b = some (.r (.c o j))) (h1 : c ≤ j) (h2 : j < c + n) : (freeG G o c n).γ b = some .x := by
  simp [freeG, h, h1, h2]
theorem freeG_out {o c n b : Nat} (h : ∀ j, c ≤ j → j < c + n → G.γ b ≠ some (.r (.c o j))) : (freeG G o c n).γ b = G.γ b := by
  simp only [freeG]
  split
  · rename_i o' j hg
    rw [if_neg (fun hx => h j hx.2.1 hx.2.2 (by rw [hg, hx.1])), hg]
  · rename_i hx; rfl
theorem undefCells_b {o c n : Nat} {cs : List AV} (hb : m.b o = some cs) : m.undefCells o c n = { m with b := upd m.b o (some (cs.take c ++ List.replicate n .undef ++ cs.drop (c + n))) } := by
  simp [Mem.undefCells, hb]
theorem undef_get {cs : List AV} {c n j : Nat} (h : c + n ≤ cs.length) : (cs.take c ++ List.replicate n AV.undef ++ cs.drop (c + n))[j]? = if c ≤ j ∧ j < c + n then some AV.undef else cs[j]? := by
  have := splice_get (as := List.replicate n AV.undef) (cs0 := cs) (c := c) (j := j) (by simpa using h)
  rw [List.length_replicate] at this
  rw [this]
  split
  · rename_i hj
    rw [List.getElem?_replicate, if_pos (by omega)]
  · rfl
theorem undef_len {cs : List AV} {c n : Nat} (h : c + n ≤ cs.length) : (cs.take c ++ List.replicate n AV.undef ++ cs.drop (c + n)).length = cs.length := by
  simp only [List.length_append, List.length_take, List.length_replicate, List.length_drop]; omega
theorem less_undef {o c n : Nat} {cs : List AV} (hb : m.b o = some cs) (h : c + n ≤ cs.length) : Less m (m.undefCells o c n) := by
  rw [undefCells_b hb]
  refine ⟨rfl, rfl, rfl, fun _ => .inl rfl, fun _ => .inl rfl, fun o' => ?_⟩
  by_cases e : o' = o
  · subst e
    refine .inr ⟨cs, _, hb, by simp only [upd_same], undef_len h, fun j => ?_⟩
    rw [undef_get h]
    split
    · exact .inr rfl
    · exact .inl rfl
  · simp only [upd_ne _ _ _ _ e]
    cases hc : m.b o' with
    | none => exact .inl rfl
    | some cs' => exact .inr ⟨cs', cs', rfl, rfl, rfl, fun _ => .inl rfl⟩
theorem Sim.freeCells (h : Sim P ar N E G s a w) {o c n : Nat} (hno : ∀ j, c ≤ j → j < c + n → s.m.at (.c o j) = none) :
    Grow P G (freeG G o c n) w w s.m s.m ∧ Sim P ar N E (freeG G o c n) s a w := by
  have hst : ∀ o1, (∀ j, c ≤ j → j < c + n → o1 ≠ some (.r (.c o j))) → ∀ b, G.γ b = o1 → (freeG G o c n).γ b = o1 := fun o1 ho b hb => by
    rw [freeG_out (fun j h1 h2 => by rw [hb]; exact ho j h1 h2)]; exact hb
  have hstay : ∀ o1, (∀ j, c ≤ j → j < c + n → o1 ≠ .r (.c o j)) → Stay G (freeG G o c n) w w o1 := fun o1 ho b hb => ⟨hst _ (fun j h1 h2 => by simpa using ho j h1 h2) b hb, rfl⟩
  have hg : Grow P G (freeG G o c n) w w s.m s.m := {
    ent := rfl
    ok := fun b hb _ => hst _ (by simp) b hb
    size := Nat.le_refl _
    same := fun _ _ _ => rfl
    dead := fun _ h => h
    refs := fun r p v hr => refsOf (.inl (by
      obtain ⟨h1, p0, v0, h2, h3, h4⟩ := hr
      refine ⟨h1, p0, v0, h2, h3, h4.labels (fun b hb => hst _ (fun j k1 k2 e => ?_) b hb)⟩
      simp only [Option.some.injEq, Own.r.injEq] at e
      rw [e, hno j k1 k2] at h2; cases h2))
    kb := fun _ => Nat.le_refl _
    beta := fun _ _ => rfl }
  refine ⟨hg, {
    ent := h.ent
    size := h.size
    defers := h.defers
    lab := fun b hb => by
      refine h.lab b fun hx => hb ?_
      exact hst none (by simp) b hx
    tmp := fun t v hv => (h.tmp t v hv).frame hg (hstay _ (by simp))
    nn := h.nn
    comp := h.comp
    whole := h.whole
    box := fun o' cs hc => by
      obtain ⟨arr, ty, k1, k2, k3, k4⟩ := h.box o' cs hc
      refine ⟨arr, ty, k1, hst _ (by simp) _ k2, k3, fun j c' hj => ?_⟩
      obtain ⟨v, F, g1, g2, g3, g4, g5⟩ := k4 j c' hj
      by_cases hin : o' = o ∧ c ≤ j ∧ j < c + n
      · obtain ⟨rfl, i1, i2⟩ := hin
        have hF : F = [] := by
          have := hno j i1 i2
          simp only [Mem.at, Mem.cell, hc, Option.bind_some, hj] at this
          cases g2 with
          | pv p _ _ _ _ => simp at this
          | agg _ _ _ _ => exact absurd rfl (g5 _)
          | _ => rfl
        subst hF
        exact ⟨v, [], g1, g2.grow hg (by simp), List.nodup_nil, by simp, g5⟩
      · exact ⟨v, F, g1, g2.grow hg (fun _ _ => rfl), g3, fun b hb => hst _ (fun j' k1 k2 e => by
          simp only [Option.some.injEq, Own.r.injEq, Root.c.injEq] at e
          exact hin ⟨e.1, by omega, by omega⟩) b (g4 b hb), g5⟩
    map := fun o' es hc => (h.map o' es hc).frame hg rfl (hstay _ (by simp))
    row := fun t p hp => (h.row t p hp).frame hg rfl (hstay _ (by simp))
    env := {
      mono := h.env.mono
      os := h.env.os
      tape := h.env.tape
      output := h.env.output
      size := h.env.size
      keep := fun b h1 h2 => ⟨hst _ (by simp) b (h.env.keep b h1 h2).1, (h.env.keep b h1 h2).2⟩
      lent := fun o' L hL => ⟨hst _ (by simp) _ (h.env.lent o' L hL).1, (h.env.lent o' L hL).2⟩
      hd0 := h.env.hd0
      provlt := h.env.provlt
      prov := h.env.prov_next rfl (fun _ hk => hk) (fun b i hb _ => hst _ (by simp) b hb) } }⟩
theorem Sim.takeCells (h : Sim P ar N E G s a w) {o c n : Nat} {cs : List AV} (hb : s.m.b o = some cs) (hc : c + n ≤ cs.length) :
    ∃ G1, Sim P ar N E G1 ⟨s.t, s.m.undefCells o c n⟩ a w ∧ Grow P G G1 w w s.m (s.m.undefCells o c n) ∧ (∀ b, G.γ b = some .x → G1.γ b = some .x) ∧ (∀ j b, c ≤ j → j < c + n → G.γ b = some (.r (.c o j)) → G1.γ b = some .x) ∧ ∀ b, G1.γ b = some .x → G.γ b = some .x ∨ ∃ j, c ≤ j ∧ j < c + n ∧ G.γ b = some (.r (.c o j)) := by
  have hl := less_undef (n := n) hb hc
  have h1 := h.less hl
  obtain ⟨g2, h2⟩ := h1.freeCells (o := o) (c := c) (n := n) (fun j k1 k2 => by
    simp only [undefCells_b hb, Mem.at, Mem.cell, upd_same, Option.bind_some]
    rw [undef_get hc, if_pos ⟨k1, k2⟩])
  refine ⟨_, h2, hl.grow.trans g2, fun b hx => ?_, fun j b k1 k2 hx => freeG_in hx k1 k2, fun b hx => ?_⟩
  · rw [freeG_out (fun j _ _ => by rw [hx]; simp)]; exact hx
  · by_cases hj : ∃ j, c ≤ j ∧ j < c + n ∧ G.γ b = some (.r (.c o j))
    · exact .inr hj
    · rw [freeG_out (fun j k1 k2 e => hj ⟨j, k1, k2, e⟩)] at hx; exact .inl hx
/-! ### Worlds between two -/
def revert (w w' : World) (L : List Nat) : World := { w' with heap := w'.heap.mapIdx fun b x => if L.contains b then (w.heap[b]?).getD x else x }
theorem revert_size (L : List Nat) : (revert w w' L).heap.size = w'.heap.size := by simp [revert]
theorem revert_in {L : List Nat} {b : Nat} (hb : b ∈ L) (hlt : b < w.heap.size) (hs : w.heap.size ≤ w'.heap.size) : (revert w w' L).heap[b]? = w.heap[b]? := by
  have h1 : b < w'.heap.size := by omega
  simp [revert, hb, h1, hlt]
theorem revert_out {L : List Nat} {b : Nat} (hb : ¬ b ∈ L) : (revert w w' L).heap[b]? = w'.heap[b]? := by
  simp only [revert, Array.getElem?_mapIdx]
  cases w'.heap[b]? <;> simp [hb]
theorem revert_nil : revert w w' [] = w' := by
  have : (w'.heap.mapIdx fun b x => if ([] : List Nat).contains b then (w.heap[b]?).getD x else x) = w'.heap := by
    apply Array.ext
    · simp
    · intro i h1 h2; simp
  simp only [revert, this]
/-! ### Readings under another sharing -/
mutual
theorem Rep.reown : ∀ {p : PV} {v : Value} {F : List Nat}, Rep P w ok p v F → p.allOwn = true → Rep P w ok' p v F
  | _, _, _, .int k n, _ => .int k n
  | _, _, _, .bool b, _ => .bool b
  | _, _, _, .str s, _ => .str s
  | _, _, _, .nilp, _ => .nilp
  | _, _, _, .nili, _ => .nili
  | _, _, _, .iface t x v h, ho => .iface t x v (h.reown (by simpa [PV.allOwn] using ho))
  | _, _, _, .agg cs vs F h, ho => .agg cs vs F (RepL.reown h (by simpa [PV.allOwn] using ho))
  | _, _, _, .ref _ _ _ _ _ _ _ _, ho => by simp [PV.allOwn] at ho
  | _, _, _, .clo _ _ _ _, ho => by simp [PV.allOwn] at ho
  | _, _, _, .slN fl e, _ => .slN fl e
  | _, _, _, .slE fl e ad, _ => .slE fl e ad
  | _, _, _, .slI _ _ _ _ _ _ _ _ _ _ _ _, ho => by simp [PV.allOwn] at ho
  | _, _, _, .slO e xs vs b off cap arr ty F h hu hg hc h1 h2 hz, ho => .slO e xs vs b off cap arr ty F (RepL.reown h (allOwn_flatC (by simpa [PV.allOwn] using ho))) hu hg hc h1 h2 hz
  | _, _, _, .slA e xs vs b cap F h hu hr hz, ho => .slA e xs vs b cap F (RepL.reown h (allOwn_flatC (by simpa [PV.allOwn] using ho))) hu hr hz
theorem RepL.reown : ∀ {ps : List PV} {vs : List Value} {F : List Nat}, RepL P w ok ps vs F → allOwnL ps = true → RepL P w ok' ps vs F
  | _, _, _, .nil, _ => .nil
  | _, _, _, .cons c v F cs vs G h0 h1 h2, ho => by
    simp only [allOwnL, Bool.and_eq_true] at ho
    exact .cons c v F cs vs G h0 (h1.reown ho.1) (RepL.reown h2 ho.2)
theorem allOwn_flatC : ∀ {xs : List PV}, allOwnL xs = true → allOwnL (flatC xs) = true
  | [], _ => rfl
  | x :: xs, h => by
    simp only [allOwnL, Bool.and_eq_true] at h
    have e : flatC (x :: xs) = x.cells ++ flatC xs := by simp [flatC]
    rw [e]
    have ap : ∀ {as bs : List PV}, allOwnL as = true → allOwnL bs = true → allOwnL (as ++ bs) = true := by
      intro as bs ha hb
      induction as with
      | nil => exact hb
      | cons a as ih => simp only [allOwnL, Bool.and_eq_true, List.cons_append] at ha ⊢; exact ⟨ha.1, ih ha.2⟩
    refine ap ?_ (allOwn_flatC h.2)
    cases x <;> first | (simpa [PV.cells, PV.allOwn, allOwnL] using h.1)
end
mutual
theorem Rep.reflat (hk : ∀ b, b < w.heap.size → ok false b → ok' false b) : ∀ {p : PV} {v : Value} {F : List Nat}, Rep P w ok p v F → p.noRef = true → Rep P w ok' p v F
  | _, _, _, .int k n, _ => .int k n
  | _, _, _, .bool b, _ => .bool b
  | _, _, _, .str s, _ => .str s
  | _, _, _, .nilp, _ => .nilp
  | _, _, _, .nili, _ => .nili
  | _, _, _, .iface t x v h, ho => .iface t x v (h.reflat hk (by simpa [PV.noRef] using ho))
  | _, _, _, .agg cs vs F h, ho => .agg cs vs F (RepL.reflat hk h (by simpa [PV.noRef] using ho))
  | _, _, _, .ref _ _ _ _ _ _ _ _, ho => by simp [PV.noRef] at ho
  | _, _, _, .clo _ _ _ _, ho => by simp [PV.noRef] at ho
  | _, _, _, .slN fl e, _ => .slN fl e
  | _, _, _, .slE fl e ad, _ => .slE fl e ad
  | _, _, _, .slI e xs vs b off cap h hu hb hc h1 h2, ho => .slI e xs vs b off cap (RepL.reflat hk h (noRef_flatC (by simpa [PV.noRef] using ho))) hu (fun hx => ⟨hk b (hb hx).2 (hb hx).1, (hb hx).2⟩) hc h1 h2
  | _, _, _, .slO e xs vs b off cap arr ty F h hu hg hc h1 h2 hz, ho => .slO e xs vs b off cap arr ty F (RepL.reflat hk h (noRef_flatC (by simpa [PV.noRef] using ho))) hu hg hc h1 h2 hz
  | _, _, _, .slA e xs vs b cap F h hu hr hz, ho => .slA e xs vs b cap F (RepL.reflat hk h (noRef_flatC (by simpa [PV.noRef] using ho))) hu hr hz
theorem RepL.reflat (hk : ∀ b, b < w.heap.size → ok false b → ok' false b) : ∀ {ps : List PV} {vs : List Value} {F : List Nat}, RepL P w ok ps vs F → noRefL ps = true → RepL P w ok' ps vs F
  | _, _, _, .nil, _ => .nil
  | _, _, _, .cons c v F cs vs G h0 h1 h2, ho => by
    simp only [noRefL, Bool.and_eq_true] at ho
    exact .cons c v F cs vs G h0 (h1.reflat hk ho.1) (RepL.reflat hk h2 ho.2)
theorem noRef_flatC : ∀ {xs : List PV}, noRefL xs = true → noRefL (flatC xs) = true
  | [], _ => rfl
  | x :: xs, h => by
    simp only [noRefL, Bool.and_eq_true] at h
    have e : flatC (x :: xs) = x.cells ++ flatC xs := by simp [flatC]
    rw [e]
    have ap : ∀ {as bs : List PV}, noRefL as = true → noRefL bs = true → noRefL (as ++ bs) = true := by
      intro as bs ha hb
      induction as with
      | nil => exact hb
      | cons a as ih => simp only [noRefL, Bool.and_eq_true, List.cons_append] at ha ⊢; exact ⟨ha.1, ih ha.2⟩
    refine ap ?_ (noRef_flatC h.2)
    cases x <;> first | (simpa [PV.cells, PV.noRef, noRefL] using h.1)
end
end
end Go.Proofs.YtdbcnnehfbcldaaDoor.Pv
