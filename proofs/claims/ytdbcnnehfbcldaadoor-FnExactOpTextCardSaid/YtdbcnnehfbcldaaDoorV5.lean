/- A plain reading of Go code and its soundness, part 5. No condition. -/
import Derived.Test.YtdbcnnehfbcldaaDoorV4
set_option linter.all false
set_option linter.unusedSimpArgs false
set_option linter.unusedVariables false
set_option linter.unnecessarySimpa false
/- A root gives its slice away. No condition. -/
namespace Go.Proofs.YtdbcnnehfbcldaaDoor.Pv
open Go
section
variable {P : Program} {ar : Nat → Nat} {N : Nat} {E : Entry} {G G' : Gh} {s : St} {a : Act} {w w' : World} {m m' m2 : Mem} {F : List Nat} {as cs : List AV} {ρ : Operand → Value} {o : Oper} {d : Nat} {ok : Bool → Nat → Prop} {t' : Nat → AV}
theorem take_kr (r : Root) : (m.take r).kr r = m.kr r + 1 := by
  unfold Mem.take Mem.bumpR
  cases r with
  | v t => simp [upd]
  | c o n => simp only; split <;> simp [upd]
theorem take_kr_ne {r r' : Root} (h : r' ≠ r) : (m.take r).kr r' = m.kr r' := by
  unfold Mem.take Mem.bumpR
  cases r with
  | v t => simp [upd, h]
  | c o n => simp only; split <;> simp [upd, h]
theorem take_kn (r : Root) : (m.take r).kn = m.kn := by
  unfold Mem.take Mem.bumpR
  cases r with
  | v t => rfl
  | c o n => simp only; split <;> rfl
theorem take_kb (r : Root) : (m.take r).kb = m.kb := by
  unfold Mem.take Mem.bumpR
  cases r with
  | v t => rfl
  | c o n => simp only; split <;> rfl
theorem take_mp (r : Root) : (m.take r).mp = m.mp := by
  unfold Mem.take Mem.bumpR
  cases r with
  | v t => rfl
  | c o n => simp only; split <;> rfl
theorem take_at {r r' : Root} (h : r' ≠ r) : (m.take r).at r' = m.at r' := by
  unfold Mem.take Mem.bumpR
  cases r with
  | v t => cases r' with
    | v t' => simp only [Mem.at]; exact upd_ne _ _ _ _ (fun e => h (by rw [e]))
    | c o n => rfl
  | c o n =>
    simp only
    split
    · rename_i cs hb
      cases r' with
      | v t => rfl
      | c o' n' =>
        by_cases e : o' = o
        · subst e
          have hn : n' ≠ n := fun e => h (by rw [e])
          simp only [Mem.at, Mem.cell, upd_same, hb, Option.bind_some]
          rw [List.getElem?_set_ne (fun e => hn e.symm)]
        · simp only [Mem.at, Mem.cell, upd_ne _ _ _ _ e]
    · cases r' <;> rfl
theorem Sim.takeRoot (h : Sim P ar N E G s a w) {root : Root} {p : PV} (hp : s.m.at root = some p) :
    ∃ G' F v, Sim P ar N E G' ⟨s.t, s.m.take root⟩ a w ∧ Hd G w root v ∧ Rep P w G'.ok p v F ∧ F.Nodup ∧ (∀ b ∈ F, G'.γ b = some .x ∧ G.γ b = some (.r root)) ∧ (∀ b, G.γ b = some .x → G'.γ b = some .x) ∧ Grow P G G' w w s.m (s.m.take root) := by
  obtain ⟨F, v, hv, hrep, hn, hF⟩ : ∃ F v, Hd G w root v ∧ Rep P w G.ok p v F ∧ F.Nodup ∧ ∀ b ∈ F, G.γ b = some (.r root) := by
    cases root with
    | v t =>
      obtain ⟨F, h1, h2, h3⟩ := h.row t p hp
      exact ⟨F, _, rfl, h1, h2, h3⟩
    | c ob n =>
      simp only [Mem.at, Mem.cell] at hp
      split at hp
      · rename_i p' hp'
        simp only [Option.some.injEq] at hp
        subst hp
        obtain ⟨cs, hcs, hn⟩ := Option.bind_eq_some_iff.1 hp'
        obtain ⟨arr, ty, g1, g2, g3, g4⟩ := h.box ob cs hcs
        obtain ⟨u, F, g5, g6, g7, g8, _⟩ := g4 n _ hn
        exact ⟨F, u, by simp [Hd, World.cell?, g1, g5], g6.of_pv, g7, g8⟩
      · cases hp
  let G' := relabel G F .x
  have hne : ∀ o1, o1 ≠ some (.r root) → ∀ b ∈ F, G.γ b ≠ o1 := fun o1 ho b hb e => ho (by rw [← e, hF b hb])
  have hst : ∀ o1, o1 ≠ some (.r root) → ∀ b, G.γ b = o1 → G'.γ b = o1 := fun o1 ho b hb => by
    show (relabel _ _ _).γ b = _
    rw [relabel_out (fun hbF => hne o1 ho b hbF hb)]; exact hb
  have hg : Grow P G G' w w s.m (s.m.take root) := {
    ent := rfl
    ok := fun b hb _ => hst _ (by simp) b hb
    size := Nat.le_refl _
    same := fun _ _ _ => rfl
    dead := fun r hr => by
      by_cases e : r.root = root
      · left
        rw [e, take_kr]
        rcases hr with h1 | ⟨h1, _⟩ | ⟨_, h1⟩ <;> rw [e] at h1 <;> omega
      · unfold Dead
        rw [take_kr_ne e, take_kn, take_at e]
        exact hr
    refs := fun r q u hr => refsOf (by
      by_cases e : r.root = root
      · right; left
        have hv := hr.1
        simp only [Ref.valid, Bool.and_eq_true, beq_iff_eq] at hv
        rw [e, take_kr]
        rw [e] at hv
        omega
      · left
        obtain ⟨h1, p0, v0, h2, h3, h4⟩ := hr
        refine ⟨?_, p0, v0, by rw [take_at e]; exact h2, ?_, h4.labels (hst _ (by simpa using e))⟩
        · simp only [Ref.valid] at h1 ⊢
          rw [take_kr_ne e, take_kn]; exact h1
        · cases hq : r.root with
          | v t => rw [hq] at h3; exact h3
          | c o n => rw [hq] at h3; exact h3)
    kb := fun o => by rw [take_kb]; exact Nat.le_refl _
    beta := fun o _ => rfl }
  have hstay : ∀ o1, o1 ≠ .r root → Stay G G' w w o1 := fun o1 ho => Stay.of_label (hst _ (by simpa using ho))
  refine ⟨G', F, v, ?_, hv, hrep.frame hg.hk (Nat.le_refl _) (fun _ _ _ _ => rfl) (fun _ _ => rfl), hn, fun b hb => ⟨relabel_in hb, hF b hb⟩, fun b hb => hst _ (by simp) b hb, hg⟩
  exact {
    ent := h.ent
    size := h.size
    defers := h.defers
    lab := lab_relabel h (hne _ (by simp))
    tmp := fun t u hu => (h.tmp t u hu).frame hg (hstay _ (by simp))
    nn := h.nn
    comp := h.comp
    whole := h.whole
    box := fun o cs hc => by
      cases root with
      | v t => exact (h.box o cs hc).frame hg rfl (hstay _ (by simp)) (fun _ => hstay _ (by simp))
      | c ob n =>
        simp only [Mem.at, Mem.cell] at hp
        split at hp
        · rename_i p' hp'
          obtain ⟨cs0, hcs0, hn0⟩ := Option.bind_eq_some_iff.1 hp'
          have hm : (s.m.take (.c ob n)).b = upd s.m.b ob (some (cs0.set n .undef)) := by simp [Mem.take, Mem.bumpR, hcs0]
          simp only [hm] at hc
          by_cases e : o = ob
          · subst e
            simp only [upd_same, Option.some.injEq] at hc
            subst hc
            obtain ⟨arr, ty, g1, g2, g3, g4⟩ := h.box o cs0 hcs0
            refine ⟨arr, ty, g1, hst _ (by simp) _ g2, by rw [List.length_set]; exact g3, fun j c hj => ?_⟩
            by_cases ej : j = n
            · subst ej
              have hlt : j < cs0.length := (List.getElem?_eq_some_iff.1 hn0).1
              rw [List.getElem?_set_self hlt] at hj
              obtain rfl := Option.some.inj hj
              obtain ⟨u, _, g5, _⟩ := g4 j _ hn0
              exact ⟨u, [], g5, .undef u, List.nodup_nil, by simp, by simp⟩
            · rw [List.getElem?_set_ne (fun e => ej e.symm)] at hj
              obtain ⟨u, F', g5, g6, g7, g8, g9⟩ := g4 j c hj
              exact ⟨u, F', g5, g6.grow hg (fun _ _ => rfl), g7, fun b hb => hst _ (by simpa using ej) b (g8 b hb), g9⟩
          · simp only [upd_ne _ _ _ _ e] at hc
            exact (h.box o cs hc).frame hg rfl (hstay _ (by simp)) (fun _ => hstay _ (by simp [e]))
        · cases hp
    map := fun o es hc => by
      simp only [take_mp] at hc
      exact (h.map o es hc).frame hg rfl (hstay _ (by simp))
    row := fun t q hq => by
      cases root with
      | v t0 =>
        have hm : (s.m.take (.v t0)).r = upd s.m.r t0 none := rfl
        simp only [hm] at hq
        by_cases e : t = t0
        · subst e; simp [upd] at hq
        · simp only [upd_ne _ _ _ _ e] at hq
          exact (h.row t q hq).frame hg rfl (hstay _ (by simpa using e))
      | c ob n =>
        have hm : (s.m.take (.c ob n)).r = s.m.r := by
          unfold Mem.take Mem.bumpR
          simp only
          split <;> rfl
        simp only [hm] at hq
        exact (h.row t q hq).frame hg rfl (hstay _ (by simp))
    env := {
      mono := h.env.mono
      os := h.env.os
      tape := h.env.tape
      output := h.env.output
      size := h.env.size
      keep := fun b h1 h2 => ⟨hst _ (by simp) b (h.env.keep b h1 h2).1, (h.env.keep b h1 h2).2⟩
      lent := fun o L hL => by
        obtain ⟨k1, k2, k3, k4⟩ := h.env.lent o L hL
        refine ⟨hst _ (by simp) _ k1, k2, fun hk => ?_, fun hk => ?_⟩
        · simp only [take_kb] at hk
          obtain ⟨k5, k6⟩ := k3 hk
          refine ⟨k5, fun cs hcs => ?_⟩
          cases root with
          | v t => exact k6 cs hcs
          | c ob n =>
            unfold Mem.take Mem.bumpR at hcs
            simp only at hcs
            split at hcs
            · rename_i cs0 hcs0
              by_cases e : o = ob
              · subst e
                simp only [upd_same, Option.some.injEq] at hcs
                subst hcs
                simpa using k6 cs0 hcs0
              · simp only [upd_ne _ _ _ _ e] at hcs
                exact k6 cs hcs
            · exact k6 cs hcs
        · simp only [take_kb] at hk; exact k4 hk
      hd0 := fun t u hu hk => by
        refine h.env.hd0 t u hu ?_
        by_cases e : Root.v t = root
        · rw [← e] at hk
          simp only [take_kr] at hk
          omega
        · simp only [take_kr_ne e] at hk; exact hk
      provlt := h.env.provlt
      prov := h.env.prov_next rfl (fun i hk => by
        by_cases e : Root.v i = root
        · rw [← e] at hk; simp only [take_kr] at hk; omega
        · simpa only [take_kr_ne e] using hk) (fun b i hb hk => hst _ (fun e => by
          have e2 : Root.v i = root := by simpa using e
          rw [← e2] at hk; simp only [take_kr] at hk; omega) b hb) } }
end
end Go.Proofs.YtdbcnnehfbcldaaDoor.Pv
