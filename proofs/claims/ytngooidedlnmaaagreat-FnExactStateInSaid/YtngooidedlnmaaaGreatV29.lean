/- A plain reading of Go code and its soundness, part 29. No condition. -/
import Derived.Test.YtngooidedlnmaaaGreatV28
set_option linter.all false
set_option linter.unusedSimpArgs false
set_option linter.unusedVariables false
set_option linter.unnecessarySimpa false
/- What is owned is shared from now on; a part of it is taken. No condition. -/
namespace Go.Proofs.YtngooidedlnmaaaGreat.Pv
open Go
def unlabel (G : Gh) (F : List Nat) : Gh := { G with γ := fun b => if b ∈ F then none else G.γ b }
section
variable {P : Program} {ar : Nat → Nat} {N : Nat} {E : Entry} {G G' : Gh} {s : St} {a : Act} {w w' : World} {m m' m2 : Mem} {F : List Nat} {as cs : List AV} {ρ : Operand → Value} {o : Oper} {d : Nat} {ok : Bool → Nat → Prop} {t' : Nat → AV}
theorem unlabel_in {b : Nat} (h : b ∈ F) : (unlabel G F).γ b = none := by simp [unlabel, h]
theorem unlabel_out {b : Nat} (h : ¬ b ∈ F) : (unlabel G F).γ b = G.γ b := by simp [unlabel, h]
theorem Sim.made (h : Sim P ar N E G s a w) {b : Nat} (hb : G.γ b ≠ none) (hlt : b < G.E.w0.heap.size) : G.E.held b := Classical.byContradiction fun hx => hb (h.env.keep b hlt hx).1
theorem Sim.share (h : Sim P ar N E G s a w) (hF : ∀ b ∈ F, G.γ b = some .x) : Sim P ar N E (unlabel G F) s a w ∧ Grow P G (unlabel G F) w w s.m s.m ∧ ∀ b ∈ F, (unlabel G F).ok false b := by
  have hst : ∀ o1, o1 ≠ some .x → ∀ b, G.γ b = o1 → (unlabel G F).γ b = o1 := fun o1 ho b hb => by
    rw [unlabel_out (fun hbF => ho (by rw [← hb, hF b hbF]))]; exact hb
  have hstay : ∀ o1, o1 ≠ .x → Stay G (unlabel G F) w w o1 := fun o1 ho => Stay.of_label (hst _ (by simpa using ho))
  have hg : Grow P G (unlabel G F) w w s.m s.m := {
    ent := rfl
    ok := fun b hb _ => hst _ (by simp) b hb
    size := Nat.le_refl _
    same := fun _ _ _ => rfl
    dead := fun _ h => h
    refs := fun r p v hr => refsOf (.inl (RefAt.congr (G := G) rfl rfl (fun b r hb => hst _ (by simp) b hb) hr))
    kb := fun _ => Nat.le_refl _
    beta := fun _ _ => rfl }
  refine ⟨?_, hg, fun b hb => ⟨unlabel_in hb, fun hlt => .inl (h.made (by rw [hF b hb]; simp) hlt)⟩⟩
  exact {
    ent := h.ent
    size := h.size
    defers := h.defers
    lab := fun b hb => by
      by_cases hbF : b ∈ F
      · rw [unlabel_in hbF] at hb; exact absurd rfl hb
      · rw [unlabel_out hbF] at hb; exact h.lab b hb
    tmp := fun t u hu => (h.tmp t u hu).frame hg (hstay _ (by simp))
    nn := h.nn
    comp := h.comp
    whole := h.whole
    box := fun o cs hc => (h.box o cs hc).frame hg rfl (hstay _ (by simp)) (fun _ => hstay _ (by simp))
    map := fun o es hc => (h.map o es hc).frame hg rfl (hstay _ (by simp))
    row := fun t q hq => (h.row t q hq).frame hg rfl (hstay _ (by simp))
    env := {
      mono := h.env.mono
      os := h.env.os
      tape := h.env.tape
      output := h.env.output
      size := h.env.size
      keep := fun b h1 h2 => ⟨hst _ (by simp) b (h.env.keep b h1 h2).1, (h.env.keep b h1 h2).2⟩
      lent := fun o L hL => ⟨hst _ (by simp) _ (h.env.lent o L hL).1, (h.env.lent o L hL).2⟩
      hd0 := h.env.hd0
      provlt := h.env.provlt
      prov := h.env.prov_next rfl (fun _ hk => hk) (fun b i hb _ => hst _ (by simp) b hb) } }
theorem Sim.freeze (h : Sim P ar N E G s a w) {t : Nat} {p : PV} (hp : s.m.r t = some p) (hk : s.m.kr (.v t) ≠ 0) (hsh : Shape p p.dem) :
    ∃ G', Sim P ar N E G' ⟨s.t, s.m.freeze t p.dem⟩ a w ∧ Grow P G G' w w s.m (s.m.freeze t p.dem) ∧ Rep P w G'.ok p.dem (G.hd t) [] ∧ ∀ b, G.γ b = some .x → G'.γ b = some .x := by
  obtain ⟨F, hrep, hn, hF⟩ := h.row t p hp
  have hst : ∀ o1, o1 ≠ some (.r (.v t)) → ∀ b, G.γ b = o1 → (unlabel G F).γ b = o1 := fun o1 ho b hb => by
    rw [unlabel_out (fun hbF => ho (by rw [← hb, hF b hbF]))]; exact hb
  have hstay : ∀ o1, o1 ≠ .r (.v t) → Stay G (unlabel G F) w w o1 := fun o1 ho => Stay.of_label (hst _ (by simpa using ho))
  have hat : ∀ r, r ≠ .v t → (s.m.freeze t p.dem).at r = s.m.at r := fun r hr => by
    cases r with
    | v t2 => simp only [Mem.at, Mem.freeze]; exact upd_ne _ _ _ _ (fun e => hr (by rw [e]))
    | c o n => rfl
  have hkn : ∀ r, r ≠ .v t → (s.m.freeze t p.dem).kn r = s.m.kn r := fun r hr => by simp only [Mem.freeze]; exact upd_ne _ _ _ _ hr
  have hknt : (s.m.freeze t p.dem).kn (.v t) = s.m.kn (.v t) + 1 := by simp [Mem.freeze, upd]
  have hkr : (s.m.freeze t p.dem).kr = s.m.kr := rfl
  have hg : Grow P G (unlabel G F) w w s.m (s.m.freeze t p.dem) := {
    ent := rfl
    ok := fun b hb _ => hst _ (by simp) b hb
    size := Nat.le_refl _
    same := fun _ _ _ => rfl
    dead := fun r hr => by
      by_cases e : r.root = .v t
      · unfold Dead
        rw [e, hkr, hknt]
        rcases hr with h1 | ⟨h1, h2, h3⟩ | ⟨h1, _⟩
        · rw [e] at h1; exact .inl h1
        · rw [e] at h1 h3; exact .inr (.inl ⟨h1, h2, by omega⟩)
        · rw [e] at h1; simp only [Mem.at] at h1; rw [hp] at h1; cases h1
      · unfold Dead
        rw [hkr, hkn _ e, hat _ e]
        exact hr
    refs := fun r q u hr => by
      by_cases e : r.root = .v t
      · by_cases hpath : r.path = []
        · left
          obtain ⟨h1, p0, v0, h2, h3, h4⟩ := hr
          rw [e] at h2
          simp only [Mem.at] at h2
          rw [hp] at h2
          obtain rfl := Option.some.inj h2
          rw [hpath] at h4
          cases h4 with
          | nil _ _ =>
            refine ⟨p.dem, ⟨?_, p.dem, u, ?_, ?_, ?_⟩, hsh⟩
            · simp only [Ref.valid] at h1 ⊢
              rw [hkr, hpath]
              rw [hpath] at h1
              simpa using h1
            · rw [e]; simp [Mem.at, Mem.freeze, upd]
            · rw [e] at h3 ⊢; exact h3
            · rw [hpath]; exact .nil _ _
        · right; right; left
          have hv := hr.1
          simp only [Ref.valid, Bool.and_eq_true, Bool.or_eq_true, beq_iff_eq, List.isEmpty_iff] at hv
          refine ⟨by rw [hkr]; exact hv.1.symm, hpath, ?_⟩
          rw [e, hknt]
          rcases hv.2 with h1 | h1
          · exact absurd h1 hpath
          · rw [e] at h1; omega
      · refine refsOf (.inl ?_)
        obtain ⟨h1, p0, v0, h2, h3, h4⟩ := hr
        refine ⟨?_, p0, v0, by rw [hat _ e]; exact h2, ?_, h4.labels (hst _ (by simpa using e))⟩
        · simp only [Ref.valid] at h1 ⊢
          rw [hkr, hkn _ e]; exact h1
        · cases hq : r.root with
          | v t => rw [hq] at h3; exact h3
          | c o n => rw [hq] at h3; exact h3
    kb := fun _ => Nat.le_refl _
    beta := fun _ _ => rfl }
  have hok : ∀ b ∈ F, (unlabel G F).ok false b := fun b hb => ⟨unlabel_in hb, fun hlt => .inl (h.made (by rw [hF b hb]; simp) hlt)⟩
  have hdem : Rep P w (unlabel G F).ok p.dem (G.hd t) [] := hrep.dem hg.hk hok
  refine ⟨unlabel G F, ?_, hg, hdem, fun b hb => hst _ (by simp) b hb⟩
  exact {
    ent := h.ent
    size := h.size
    defers := h.defers
    lab := fun b hb => by
      by_cases hbF : b ∈ F
      · rw [unlabel_in hbF] at hb; exact absurd rfl hb
      · rw [unlabel_out hbF] at hb; exact h.lab b hb
    tmp := fun t u hu => (h.tmp t u hu).frame hg (hstay _ (by simp))
    nn := h.nn
    comp := h.comp
    whole := h.whole
    box := fun o cs hc => (h.box o cs hc).frame hg rfl (hstay _ (by simp)) (fun _ => hstay _ (by simp))
    map := fun o es hc => (h.map o es hc).frame hg rfl (hstay _ (by simp))
    row := fun t2 q hq => by
      by_cases e : t2 = t
      · subst e
        simp only [Mem.freeze, upd_same, Option.some.injEq] at hq
        subst hq
        exact ⟨[], hdem, List.nodup_nil, by simp⟩
      · simp only [Mem.freeze, upd_ne _ _ _ _ e] at hq
        exact (h.row t2 q hq).frame hg rfl (hstay _ (by simpa using e))
    env := {
      mono := h.env.mono
      os := h.env.os
      tape := h.env.tape
      output := h.env.output
      size := h.env.size
      keep := fun b h1 h2 => ⟨hst _ (by simp) b (h.env.keep b h1 h2).1, (h.env.keep b h1 h2).2⟩
      lent := fun o L hL => ⟨hst _ (by simp) _ (h.env.lent o L hL).1, (h.env.lent o L hL).2⟩
      hd0 := h.env.hd0
      provlt := h.env.provlt
      prov := h.env.prov_next rfl (fun _ hk => hk) (fun b i hb hki => hst _ (fun e => by
        have e2 : i = t := by simpa using e
        subst e2
        exact hk hki) b hb) } }
theorem dem_sl (fl : Nat) (e : TypeId) (xs : List PV) : PV.dem (.sl fl e xs) = .sl 0 e (demL xs) := by simp only [PV.dem]
theorem demL_length (xs : List PV) : (demL xs).length = xs.length := by rw [demL_map, List.length_map]
theorem Sim.slvIn (h : Sim P ar N E G ⟨t', m⟩ a w) {c : AV} {v : Value} {p : PV} {F2 : List Nat} (hr : RepA P G w m c v F) (hF : ∀ b ∈ F, G.γ b = some .x) (hF2 : ∀ b ∈ F2, G.γ b = some .x) (hd : (F ++ F2).Nodup) (hs : slvIn m c = some (p, m2)) :
    ∃ G', Sim P ar N E G' ⟨t', m2⟩ a w ∧ Grow P G G' w w m m2 ∧ Rep P w G'.ok p v [] ∧ ∀ b ∈ F2, G'.γ b = some .x := by
  cases c with
  | rw r =>
    simp only [Pv.slvIn] at hs
    split at hs
    · rename_i t fl e xs hroot hder
      split at hs
      · rename_i hc
        simp only [Option.some.injEq, Prod.mk.injEq] at hs
        obtain ⟨rfl, rfl⟩ := hs
        obtain ⟨href, _⟩ := hr.of_deref hder
        obtain ⟨h1, p0, v0, h2, h3, h4⟩ := href
        rw [hroot] at h2 h3
        rw [hc.1] at h4
        cases h4 with
        | nil _ _ =>
          obtain ⟨G', k1, k2, k3, k4⟩ := h.freeze (t := t) (p := .sl fl e xs) h2 hc.2 (.inr ⟨fl, 0, e, xs, demL xs, rfl, dem_sl _ _ _, demL_length xs⟩)
          rw [dem_sl] at k1 k2 k3
          refine ⟨G', k1, k2, ?_, fun b hb => k4 b (hF2 b hb)⟩
          have : v = G.hd t := h3
          rw [this]; exact k3
      · cases hs
    · cases hs
  | pv q =>
    simp only [Pv.slvIn, Option.some.injEq, Prod.mk.injEq] at hs
    obtain ⟨rfl, rfl⟩ := hs
    obtain ⟨k1, k2, k3⟩ := h.share hF
    have hq := hr.of_pv
    refine ⟨_, k1, k2, ?_, fun b hb => ?_⟩
    · split
      · exact hq.dem k2.hk k3
      · rename_i ho
        have hFn : F = [] := hq.own_none (by simpa using ho)
        subst hFn
        exact hq.frame k2.hk (Nat.le_refl _) (fun _ _ _ _ => rfl) (by simp)
    · rw [unlabel_out (fun hbF => (List.nodup_append.1 hd).2.2 b hbF b hb rfl)]; exact hF2 b hb
  | _ => simp [Pv.slvIn] at hs
theorem own_dem (p : PV) : p.dem.own = false := by
  cases p with
  | agg cs =>
    simp only [PV.dem, PV.own, demL_map, List.any_eq_false]
    intro c hc
    obtain ⟨x, _, rfl⟩ := List.mem_map.1 hc
    cases x <;> simp [PV.dem, ownP]
  | _ => simp [PV.dem, PV.own, ownP]
theorem dem_agg_iff {p : PV} (h : ∀ ds, p ≠ .agg ds) : ∀ ds, p.dem ≠ .agg ds := by
  intro ds e
  cases p <;> simp [PV.dem] at e
  exact h _ rfl
theorem shareC_rep {c : AV} {v : Value} (hg : Grow P G G' w w m m) (hok : ∀ b ∈ F, G'.ok false b) (h : RepA P G w m c v F) (hna : ∀ ds, c ≠ .agg ds) : RepA P G' w m (shareC c) v [] := by
  cases c with
  | pv p =>
    simp only [shareC, shareP]
    cases h with
    | pv _ _ _ hn hp =>
      split
      · exact .pv _ _ _ (dem_agg_iff hn) (hp.dem hg.hk hok)
      · rename_i ho
        have hF : F = [] := hp.own_none (by simpa using ho)
        subst hF
        exact .pv _ _ _ hn (hp.frame hg.hk hg.size hg.ho (by simp))
  | agg ds => exact absurd rfl (hna ds)
  | _ =>
    have hF : F = [] := h.own_none rfl
    subst hF
    exact h.grow hg (by simp)
theorem shareL_rep (hg : Grow P G G' w w m m) : ∀ {cs : List AV} {vs : List Value} {F : List Nat}, RepAL P G w m cs vs F → (∀ b ∈ F, G'.ok false b) → RepAL P G' w m (cs.map shareC) vs []
  | _, _, _, .nil, _ => .nil
  | _, _, _, .cons c v F cs vs F' h0 h1 h2, hok => by
    have := RepAL.cons (P := P) (G := G') (w := w) (m := m) (shareC c) v [] (cs.map shareC) vs [] (fun ds e => by
      cases c with
      | agg ds => exact h0 ds rfl
      | _ => simp [shareC] at e) (shareC_rep hg (fun b hb => hok b (List.mem_append_left _ hb)) h1 h0) (shareL_rep hg h2 (fun b hb => hok b (List.mem_append_right _ hb)))
    simpa using this
theorem shareA_rep {c : AV} {v : Value} (hg : Grow P G G' w w m m) (hok : ∀ b ∈ F, G'.ok false b) (h : RepA P G w m c v F) : RepA P G' w m (shareA c) v [] := by
  cases c with
  | agg cs =>
    cases h with
    | agg _ vs _ hl => exact .agg _ _ _ (shareL_rep hg hl hok)
  | _ => exact shareC_rep hg hok h (by simp)
theorem Sim.shareIn : ∀ {qs : List Pm} {as : List AV} {vs : List Value} {F X : List Nat} {G : Gh}, Sim P ar N E G ⟨t', m⟩ a w → RepO P G w m as vs F → (F ++ X).Nodup → (∀ b ∈ F ++ X, G.γ b = some .x) →
    ∃ G' F', Sim P ar N E G' ⟨t', m⟩ a w ∧ Grow P G G' w w m m ∧ RepO P G' w m (shareIn qs as) vs F' ∧ (∀ b ∈ F', b ∈ F) ∧ F'.Nodup ∧ (∀ b ∈ F' ++ X, G'.γ b = some .x)
  | qs, _, _, _, X, G, h, .nil, hn, hF => ⟨G, [], h, (Less.refl m).grow, by cases qs <;> first | exact .nil | (rename_i q qs; cases q <;> exact .nil), by simp, List.nodup_nil, fun b hb => hF b hb⟩
  | [], _, _, F, X, G, h, hr, hn, hF => ⟨G, F, h, (Less.refl m).grow, hr, fun _ h => h, (List.nodup_append.1 hn).1, hF⟩
  | q :: qs, _, _, _, X, G, h, .cons c v F as vs F2 h1 h2, hn, hF => by
    have hn' : (F ++ (F2 ++ X)).Nodup := by rw [← List.append_assoc]; exact hn
    have hF' : ∀ b ∈ F ++ (F2 ++ X), G.γ b = some .x := by rw [← List.append_assoc]; exact hF
    by_cases hq : q = .val
    · subst hq
      obtain ⟨k1, k2, k3⟩ := h.share (F := F) (fun b hb => hF' b (List.mem_append_left _ hb))
      have hx : ∀ b ∈ F2 ++ X, (unlabel G F).γ b = some .x := fun b hb => by
        rw [unlabel_out (fun hbF => (List.nodup_append.1 hn').2.2 b hbF b hb rfl)]
        exact hF' b (List.mem_append_right _ hb)
      obtain ⟨G', F', g1, g2, g3, g4, g5, g6⟩ := Sim.shareIn (qs := qs) k1 (h2.grow k2 (fun _ _ => rfl)) (List.nodup_append.1 hn').2.1 hx
      refine ⟨G', F', g1, k2.trans g2, ?_, fun b hb => List.mem_append_right _ (g4 b hb), g5, g6⟩
      have hc : RepA P (unlabel G F) w m (shareA c) v [] := shareA_rep k2 k3 h1
      have := RepO.cons (P := P) (shareA c) v [] _ _ F' (hc.grow g2 (fun _ _ => rfl)) g3
      simpa [Pv.shareIn] using this
    · have e : Pv.shareIn (q :: qs) (c :: as) = c :: Pv.shareIn qs as := by cases q <;> first | rfl | exact absurd rfl hq
      have hn2 : (F2 ++ (F ++ X)).Nodup := by
        refine List.Perm.nodup ?_ hn'
        rw [← List.append_assoc, ← List.append_assoc]
        exact List.Perm.append_right _ List.perm_append_comm
      obtain ⟨G', F', g1, g2, g3, g4, g5, g6⟩ := Sim.shareIn (qs := qs) (X := F ++ X) h h2 hn2 (fun b hb => hF' b (by
        simp only [List.mem_append] at hb ⊢
        rcases hb with hb | hb | hb
        · exact .inr (.inl hb)
        · exact .inl hb
        · exact .inr (.inr hb)))
      refine ⟨G', F ++ F', g1, g2, ?_, fun b hb => ?_, ?_, fun b hb => ?_⟩
      · rw [e]
        exact .cons _ _ _ _ _ _ (h1.grow g2 (fun _ _ => rfl)) g3
      · rcases List.mem_append.1 hb with hb | hb
        · exact List.mem_append_left _ hb
        · exact List.mem_append_right _ (g4 b hb)
      · refine List.nodup_append.2 ⟨(List.nodup_append.1 hn').1, g5, fun x hx y hy e => ?_⟩
        exact (List.nodup_append.1 hn').2.2 x hx y (List.mem_append_left _ (g4 y hy)) e
      · refine g6 b ?_
        simp only [List.mem_append] at hb ⊢
        rcases hb with (hb | hb) | hb
        · exact .inr (.inl hb)
        · exact .inl hb
        · exact .inr (.inr hb)
theorem tk_sound {ob : Nat} : ∀ (n j : Nat) {G : Gh} {m m1 : Mem} {xs : List AV}, Sim P ar N E G ⟨t', m⟩ a w → tkCells ob j n m = some (xs, m1) →
    ∃ G' F vs, Sim P ar N E G' ⟨t', m1⟩ a w ∧ Grow P G G' w w m m1 ∧ RepAL P G' w m1 xs vs F ∧ F.Nodup ∧ (∀ b ∈ F, G'.γ b = some .x ∧ G.γ b ≠ some .x) ∧ (∀ b, G.γ b = some .x → G'.γ b = some .x) ∧ vs.length = n ∧
      ∀ (i : Nat) v, vs[i]? = some v → w.cell? ⟨(G.β ob).1, (G.β ob).2 + (j + i), none⟩ = some v
  | 0, j, G, m, m1, xs, h, ht => by
    simp only [tkCells, Option.some.injEq, Prod.mk.injEq] at ht
    obtain ⟨rfl, rfl⟩ := ht
    exact ⟨G, [], [], h, (Less.refl m).grow, .nil, List.nodup_nil, by simp, fun _ h => h, rfl, by simp⟩
  | n + 1, j, G, m, m1, xs, h, ht => by
    simp only [tkCells] at ht
    split at ht
    · rename_i p hcell
      split at ht
      · rename_i ys m3 hrec
        simp only [Option.some.injEq, Prod.mk.injEq] at ht
        obtain ⟨rfl, rfl⟩ := ht
        obtain ⟨cs, hcs, hj⟩ := Option.bind_eq_some_iff.1 hcell
        obtain ⟨arr, ty, g1, g2, g3, g4⟩ := h.box ob cs hcs
        obtain ⟨u, F0, g5, g6, g7, g8, g9⟩ := g4 j _ hj
        have hcu : w.cell? ⟨(G.β ob).1, (G.β ob).2 + j, none⟩ = some u := by simp [World.cell?, g1, g5]
        by_cases ho : ownP p = true
        · rw [if_pos ho] at hrec
          have hat : m.at (.c ob j) = some p := by simp [Mem.at, hcell]
          obtain ⟨G1, F1, v1, k1, k2, k3, k4, k5, k6, k7⟩ := h.takeRoot (root := .c ob j) hat
          have hv1 : v1 = u := by
            have := k2.symm.trans hcu
            exact Option.some.inj this
          subst hv1
          obtain ⟨G2, F2, vs, q1, q2, q3, q4, q5, q6, q7, q8⟩ := tk_sound n (j + 1) k1 hrec
          have hβ : G1.β ob = G.β ob := k7.beta ob (by rw [take_kb])
          have hp : RepA P G2 w m3 (.pv p) v1 F1 := by
            have : RepA P G1 w (m.take (.c ob j)) (.pv p) v1 F1 := .pv p v1 F1 (by intro ds e; subst e; simp [ownP] at ho) k3
            exact this.grow q2 (fun _ _ => rfl)
          refine ⟨G2, F1 ++ F2, v1 :: vs, q1, k7.trans q2, .cons _ _ _ _ _ _ (by simp) hp q3, ?_, fun b hb => ?_, fun b hb => q6 b (k6 b hb), by simp [q7], fun i v hi => ?_⟩
          · refine List.nodup_append.2 ⟨k4, q4, fun x hx y hy e => ?_⟩
            subst e
            exact (q5 x hy).2 (k5 x hx).1
          · rcases List.mem_append.1 hb with hb | hb
            · exact ⟨q6 b (k5 b hb).1, by rw [(k5 b hb).2]; simp⟩
            · exact ⟨(q5 b hb).1, fun hx => (q5 b hb).2 (k6 b hx)⟩
          · cases i with
            | zero => simp at hi; subst hi; exact hcu
            | succ i =>
              have := q8 i v (by simpa using hi)
              rw [hβ] at this
              rw [show j + (i + 1) = j + 1 + i by omega]
              exact this
        · rw [if_neg ho] at hrec
          have hF0 : F0 = [] := by
            have := g6.of_pv
            exact this.own_nil (by simpa using ho) (by cases g6; assumption)
          subst hF0
          obtain ⟨G2, F2, vs, q1, q2, q3, q4, q5, q6, q7, q8⟩ := tk_sound n (j + 1) h hrec
          have hp : RepA P G2 w m3 (.pv p) u [] := g6.grow q2 (fun _ _ => rfl)
          refine ⟨G2, F2, u :: vs, q1, q2, ?_, q4, q5, q6, by simp [q7], fun i v hi => ?_⟩
          · have := RepAL.cons (P := P) (G := G2) (w := w) (m := m3) (.pv p) u [] _ _ F2 (by simp) hp q3
            simpa using this
          · cases i with
            | zero => simp at hi; subst hi; exact hcu
            | succ i =>
              have := q8 i v (by simpa using hi)
              rw [show j + (i + 1) = j + 1 + i by omega]
              exact this
      · cases ht
    · cases ht
theorem gives_ldt {t : TypeId} {n ob k c : Nat} {x : Operand} {x' : Opd} (h : Sim P ar N E G ⟨t', m⟩ a w) (ht : varB P t n true = true) (ho : o.op = .load t x) (hr : RepO P G w m [.ptr ob k c] [ρ x] F) (hs : semL d m (.ldt n x') [.ptr ob k c] = some (as, m2)) :
    ∃ v w2, (execOp ρ o).run P w = .ok (.value v) w2 ∧ Gives P ar N E 0 t' a as m2 v w2 := by
  obtain ⟨v, hv, h1⟩ := hr.inv1
  simp only [List.cons.injEq, and_true] at hv
  simp only [semL] at hs
  split at hs
  · rename_i hk
    simp only [Option.map_eq_some_iff, Prod.mk.injEq] at hs
    obtain ⟨⟨xs, m1⟩, hx, rfl, rfl⟩ := hs
    obtain ⟨rfl, rfl⟩ := h1.of_ptr hk
    obtain ⟨G', F', vs, q1, q2, q3, q4, q5, q6, q7, q8⟩ := tk_sound n c h hx
    refine ⟨_, w, run_load ht ho hv q7 (by simp) (fun j u hj => by rw [Nat.add_assoc]; exact q8 j u hj), G', F', q1, q4, fun b hb => (q5 b hb).1, fun c' hc' => ?_⟩
    simp only [List.cons.injEq, and_true] at hc'
    subst hc'
    exact .agg xs vs F' q3
  · cases hs
end
end Go.Proofs.YtngooidedlnmaaaGreat.Pv
