/- A plain reading of Go code and its soundness, part 27. No condition. -/
import Derived.Test.YtngooidedlnmaaaGreatV26
set_option linter.all false
set_option linter.unusedSimpArgs false
set_option linter.unusedVariables false
set_option linter.unnecessarySimpa false
/- A call, as an operation of its caller. No condition. -/
namespace Go.Proofs.YtngooidedlnmaaaGreat.Pv
open Go
section
variable {P : Program} {ar : Nat → Nat} {N : Nat} {E : Entry} {G G' : Gh} {s : St} {a : Act} {w w' : World} {m m' m2 : Mem} {t' : Nat → AV} {Q : Nat → Prop}
theorem apart_nodup : ∀ {l : List Nat}, apartB l = true → l.Nodup
  | [], _ => List.nodup_nil
  | x :: l, h => by
    simp only [apartB, Bool.and_eq_true, Bool.not_eq_true'] at h
    exact List.nodup_cons.2 ⟨fun hm => by simp [hm] at h, apart_nodup h.2⟩
theorem rows_nodup {ok0 : Bool → Nat → Prop} {qs : List Pm} {ps : List PV} {vs : List Value} {As Bs : List (List (List Nat))} (h : ArgsRep P w ok0 qs ps vs As Bs) (hn : (handed As Bs).Nodup) : Bs.flatten.flatten.Nodup := by
  induction h with
  | nil => simp
  | cons q p v A B qs ps vs As Bs _ h2 ih =>
    simp only [handed] at hn
    obtain ⟨_, n2, _⟩ := List.nodup_append.1 hn
    obtain ⟨n3, n4, n5⟩ := List.nodup_append.1 n2
    rw [List.flatten_cons, List.flatten_append]
    exact List.nodup_append.2 ⟨n3, ih n4, fun x hx y hy => n5 x hx y (rows_handed h2 y hy)⟩
theorem jt_nodup {G1 : Gh} : ∀ {js : List Jt}, (jtC G1 js).Nodup → (jtF js).Nodup ∧ ∀ b, b ∈ jtB G1 js → b ∈ jtF js → False
  | [], _ => ⟨by simp [jtF], by simp [jtF]⟩
  | j :: js, h => by
    have h' : ((G1.β j.o).1 :: (j.F ++ jtC G1 js)).Nodup := by simpa [jtC] using h
    obtain ⟨n1, n2⟩ := List.nodup_cons.1 h'
    obtain ⟨n3, n4, n5⟩ := List.nodup_append.1 n2
    obtain ⟨i1, i2⟩ := jt_nodup n4
    have sub : ∀ b, b ∈ jtF js ∨ b ∈ jtB G1 js → b ∈ jtC G1 js := fun b hb => by
      rcases hb with hb | hb
      · obtain ⟨j2, h1, h2⟩ := List.mem_flatMap.1 hb
        exact List.mem_flatMap.2 ⟨j2, h1, List.mem_cons_of_mem _ h2⟩
      · obtain ⟨j2, h1, rfl⟩ := List.mem_map.1 hb
        exact List.mem_flatMap.2 ⟨j2, h1, List.mem_cons_self⟩
    have e : jtF (j :: js) = j.F ++ jtF js := by simp [jtF]
    have e2 : jtB G1 (j :: js) = (G1.β j.o).1 :: jtB G1 js := rfl
    refine ⟨by rw [e]; exact List.nodup_append.2 ⟨n3, i1, fun x hx y hy => n5 x hx y (sub y (.inl hy))⟩, fun b h1 h2 => ?_⟩
    rw [e2] at h1
    rw [e] at h2
    rcases List.mem_cons.1 h1 with rfl | h1 <;> rcases List.mem_append.1 h2 with h2 | h2
    · exact n1 (List.mem_append_left _ h2)
    · exact n1 (List.mem_append_right _ (sub _ (.inl h2)))
    · exact n5 b h2 b (sub b (.inr h1)) rfl
    · exact i2 b h1 h2
theorem boxes_nodup {G1 : Gh} : ∀ {js : List Jt}, (js.map (·.o)).Nodup → (∀ j ∈ js, G1.γ (G1.β j.o).1 = some (.b j.o)) → (jtB G1 js).Nodup
  | [], _, _ => by simp [jtB]
  | j :: js, hn, hl => by
    have hn' := List.nodup_cons.1 (by simpa using hn : (j.o :: js.map (·.o)).Nodup)
    have e2 : jtB G1 (j :: js) = (G1.β j.o).1 :: jtB G1 js := rfl
    rw [e2]
    refine List.nodup_cons.2 ⟨fun hm => ?_, boxes_nodup hn'.2 (fun j2 h2 => hl j2 (List.mem_cons_of_mem _ h2))⟩
    obtain ⟨j2, h1, h2⟩ := List.mem_map.1 hm
    have a := hl j List.mem_cons_self
    have b := hl j2 (List.mem_cons_of_mem _ h1)
    rw [h2, a] at b
    simp only [Option.some.injEq, Own.b.injEq] at b
    exact hn'.1 (b ▸ List.mem_map.2 ⟨j2, h1, rfl⟩)
theorem RepRs.toO {G : Gh} : ∀ {rs : List PV} {us : List Value} {F : List Nat}, RepRs P w G.ok rs us F → RepO P G w m (rs.map ofPV) us F := by
  intro rs us F h
  induction h with
  | nil => exact .nil
  | cons r v F rs vs G' hr _ ih => exact .cons _ _ _ _ _ _ (RepA.of_PV hr) ih
theorem RepRs.frame' {ok ok' : Bool → Nat → Prop} (hk : ∀ i b, ok i b → ok' i b) {rs : List PV} {us : List Value} {F : List Nat} (h : RepRs P w ok rs us F) : RepRs P w ok' rs us F := by
  induction h with
  | nil => exact .nil
  | cons r v F rs vs G' hr _ ih => exact .cons _ _ _ _ _ _ (hr.frame (fun i b hb _ => hk i b hb) (Nat.le_refl _) (fun _ _ _ _ => rfl) (fun _ _ => rfl)) ih
def gBack (G1 : Gh) (KX I : List Nat) : Gh := { G1 with γ := fun b => if b ∈ KX then some .x else if b ∈ I then none else G1.γ b }
theorem call_back {qs : List Pm} {as : List AV} {ps rs outs : List PV} {vs us : List Value} {As Bs : List (List (List Nat))} {I Fv : List Nat} {Rs : List Root} {G1 : Gh} {m1 m3 : Mem} {ta tp : Bool} {ok1 : Bool → Nat → Prop} {Fr : List Nat} {Cs : List (List Nat)} {Ds : List (List (List Nat))} {v : Value}
    (h : Sim P ar N E G1 ⟨t', m1⟩ a w) (hC : CallArgs P G1 w m1 qs as ps vs As Bs I (ioBoxes qs as) Rs) (hA : ArgsRep P w (okX G1 m3 (· ∈ Fv) ta tp) qs ps vs As Bs) (hI : (I ++ Fv).Nodup) (hIx : ∀ b ∈ I ++ Fv, G1.γ b = some .x) (hO : (ioBoxes qs as).Nodup) (hR : Rs.Nodup) (hn : (handed As Bs).Nodup)
    (hE : EndRep P w w' (okX G1 m3 (· ∈ Fv) ta tp) qs vs As Bs rs outs v ok1 us Fr Cs Ds) (hk1 : ta = true → allOwnL rs = true ∧ outOwn outs = true) (hk2 : tp = true → noRefL rs = true ∧ outNoRef outs = true) (ho : argsOut m1 qs as outs = some m2) :
    ∃ G4, Sim P ar N E G4 ⟨t', m2⟩ a w' ∧ RepO P G4 w' m2 (rs.map ofPV) us Fr ∧ Fr.Nodup ∧ ∀ b ∈ Fr, G4.γ b = some .x := by
  simp only [argsOut, Option.bind_eq_some_iff] at ho
  obtain ⟨mr, hrow, hio⟩ := ho
  obtain ⟨lab1, lab2, lab3⟩ := hC.lab
  obtain ⟨js1, _, _, js3, js4⟩ := ios_items hC hE.outs hio
  have hnd := hE.nodup
  obtain ⟨nF, nCD, nFCD⟩ := List.nodup_append.1 hnd
  obtain ⟨nC, nD, nCxD⟩ := List.nodup_append.1 nCD
  have hlt : ∀ b o, G1.γ b = some o → b < w.heap.size := fun b o hb => h.lab b (by rw [hb]; simp)
  have boxIn : ∀ o ∈ ioBoxes qs as, (G1.β o).1 ∈ Cs.flatten := fun o ho => by
    rw [← js3] at ho
    obtain ⟨j, hj, rfl⟩ := List.mem_map.1 ho
    rw [js4]
    exact List.mem_flatMap.2 ⟨j, hj, List.mem_cons_self⟩
  -- the blocks that are told anew, the blocks that wait
  let L0 := Bs.flatten.flatten ++ (ioBoxes qs as).map fun o => (G1.β o).1
  let All := Fr ++ (Cs.flatten ++ Ds.flatten.flatten)
  let KX := All.filter fun b => !L0.contains b
  have hKX : ∀ b, b ∈ KX ↔ b ∈ All ∧ ¬ b ∈ L0 := fun b => by
    show b ∈ All.filter _ ↔ _
    rw [List.mem_filter]
    simp
  have labL : ∀ b ∈ L0, (∃ R, G1.γ b = some (.r R)) ∨ ∃ o ∈ ioBoxes qs as, b = (G1.β o).1 ∧ G1.γ b = some (.b o) := fun b hb => by
    rcases List.mem_append.1 hb with hb | hb
    · obtain ⟨R, _, h1⟩ := lab2 b hb; exact .inl ⟨R, h1⟩
    · obtain ⟨o, ho, rfl⟩ := List.mem_map.1 hb
      refine .inr ⟨o, ho, rfl, ?_⟩
      rw [← js3] at ho
      obtain ⟨j, hj, rfl⟩ := List.mem_map.1 ho
      obtain ⟨js', _, i2, i3, _⟩ := ios_items hC hE.outs hio
      have : j.o ∈ js'.map (·.o) := by rw [i3, ← js3]; exact ho
      obtain ⟨j', hj', e⟩ := List.mem_map.1 this
      have := (i2 j' hj').lab
      rw [e] at this; exact this
  have labLx : ∀ b ∈ L0, G1.γ b ≠ some .x ∧ G1.γ b ≠ none := fun b hb => by
    rcases labL b hb with ⟨R, h1⟩ | ⟨o, _, _, h1⟩ <;> rw [h1] <;> simp
  have poolQ : ∀ b, (b ∈ pool As ∨ w.heap.size ≤ b) → ¬ b ∈ Cs.flatten ∨ (∀ o ∈ ioBoxes qs as, b ≠ (G1.β o).1) → ¬ b ∈ L0 ∧ (G1.γ b = some .x ∨ w.heap.size ≤ b) := fun b hb hx => by
    rcases hb with hb | hb
    · rcases lab1 b hb with h1 | ⟨o, h1, h2, h3⟩
      · have := hIx b (by simp [h1])
        exact ⟨fun hm => (labLx b hm).1 this, .inl this⟩
      · exfalso
        rcases hx with hx | hx
        · exact hx (h2 ▸ boxIn o h1)
        · exact hx o h1 h2
    · refine ⟨fun hm => ?_, .inr hb⟩
      have h3 := (labLx b hm).2
      have := h.lab b h3
      omega
  have KXx : ∀ b ∈ KX, G1.γ b = some .x ∨ w.heap.size ≤ b := fun b hb => by
    obtain ⟨h1, h2⟩ := (hKX b).1 hb
    have notBox : ∀ o ∈ ioBoxes qs as, b ≠ (G1.β o).1 := fun o ho e => h2 (List.mem_append_right _ (List.mem_map.2 ⟨o, ho, e.symm⟩))
    have fromPool : (b ∈ pool As ∨ w.heap.size ≤ b) → G1.γ b = some .x ∨ w.heap.size ≤ b := fun hp => (poolQ b hp (.inr notBox)).2
    rcases List.mem_append.1 h1 with h1 | h1
    · exact fromPool (hE.pool b (List.mem_append_left _ h1))
    · rcases List.mem_append.1 h1 with h1 | h1
      · exact fromPool (hE.pool b (List.mem_append_right _ h1))
      · obtain ⟨its, _, i2, i3, i4, _⟩ := rows_items hC hE.outs hrow
        rw [← i4] at h1
        obtain ⟨it, hit, hb'⟩ := List.mem_flatMap.1 h1
        rcases (i2 it hit).sub b hb' with h3 | h3
        · exact absurd (List.mem_append_left _ (by rw [← i3]; exact List.mem_flatMap.2 ⟨it, hit, h3⟩)) h2
        · exact fromPool h3
  let G2 := gBack G1 KX I
  have hG2 : ∀ b, G2.γ b = if b ∈ KX then some .x else if b ∈ I then none else G1.γ b := fun _ => rfl
  have keepG : ∀ b, ¬ b ∈ KX → ¬ b ∈ I → G2.γ b = G1.γ b := fun b h1 h2 => by rw [hG2, if_neg h1, if_neg h2]
  have hAlllt : ∀ b ∈ All, b < w'.heap.size := fun b hb => by
    rcases List.mem_append.1 hb with hb | hb
    · exact hE.res.lt b hb
    · rcases List.mem_append.1 hb with hb | hb
      · exact hE.outs.lt.1 b hb
      · exact hE.outs.lt.2 b hb
  have hL0lt : ∀ b ∈ L0, b < w.heap.size := fun b hb => h.lab b (labLx b hb).2
  obtain ⟨g12, h2⟩ := h.hand (G' := G2) (w' := revert w w' L0) rfl rfl rfl (fun b o hox hb => by
      refine (keepG b (fun hm => ?_) (fun hm => ?_)).trans hb
      · rcases KXx b hm with h1 | h1
        · rw [hb] at h1; exact hox (Option.some.inj h1)
        · have := hlt b o hb; omega
      · have := hIx b (by simp [hm]); rw [hb] at this; exact hox (Option.some.inj this))
    (fun b hbl hb => by
      refine (keepG b (fun hm => ?_) (fun hm => ?_)).trans hb
      · rcases KXx b hm with h1 | h1
        · rw [hb] at h1; cases h1
        · omega
      · have := hIx b (by simp [hm]); rw [hb] at this; cases this)
    (fun b hb => by
      rw [revert_size]
      rw [hG2] at hb
      by_cases hm : b ∈ KX
      · exact hAlllt b ((hKX b).1 hm).1
      · rw [if_neg hm] at hb
        by_cases hm2 : b ∈ I
        · rw [if_pos hm2] at hb; exact absurd rfl hb
        · rw [if_neg hm2] at hb; exact Nat.lt_of_lt_of_le (h.lab b hb) hE.size)
    hE.os hE.tape hE.output (by rw [revert_size]; exact hE.size) (fun b hbl hb => by
      by_cases hm : b ∈ L0
      · exact revert_in hm hbl hE.size
      · rw [revert_out hm]
        refine hE.same b hbl fun hh => ?_
        rcases lab3 b hh with h1 | h1
        · rcases lab1 b h1 with h1 | ⟨o, h1, h2, _⟩
          · exact hb (hIx b (by simp [h1]))
          · exact hm (List.mem_append_right _ (List.mem_map.2 ⟨o, h1, h2.symm⟩))
        · exact hm (List.mem_append_left _ h1))
  -- what can be shared from now on
  have share : ∀ i b, ok1 i b → (¬ (ta = true ∨ (tp = true ∧ i = true))) → G2.ok i b := fun i b hb hno => by
    obtain ⟨k1, k2, k3⟩ := hE.ok i b hb
    have hnK : ¬ b ∈ KX := fun hm => k1 ((hKX b).1 hm).1
    by_cases hbl : b < w.heap.size
    · rcases k3 hbl with k3 | k3
      · rcases lab3 b k3 with h1 | h1
        · rcases lab1 b h1 with h1 | ⟨o, h1, h2, _⟩
          · refine ⟨by rw [hG2, if_neg hnK, if_pos h1], fun hE0 => .inl ?_⟩
            exact Classical.byContradiction fun hx => by
              have := (h.env.keep b hE0 hx).1
              rw [hIx b (by simp [h1])] at this; cases this
          · exact absurd (List.mem_append_right _ (List.mem_append_left _ (h2 ▸ boxIn o h1))) k1
        · exact absurd h1 k2
      · rcases k3 with k3 | ⟨k3, _⟩
        · refine ⟨?_, k3.2⟩
          rw [hG2, if_neg hnK, if_neg (fun hm => by have := hIx b (by simp [hm]); rw [k3.1] at this; cases this)]
          exact k3.1
        · exact absurd k3 hno
    · have hg : G1.γ b = none := by
        cases hg : G1.γ b with
        | none => rfl
        | some o => exact absurd (hlt b o hg) hbl
      refine ⟨?_, fun hE0 => absurd (Nat.lt_of_lt_of_le hE0 h.env.size) hbl⟩
      rw [hG2, if_neg hnK, if_neg (fun hm => by have := hIx b (by simp [hm]); rw [hg] at this; cases this)]
      exact hg
  have s0 : ta = false → ∀ b, b < w'.heap.size → ok1 false b → G2.ok false b := fun hta b _ hb => share false b hb (by rintro (h1 | ⟨_, h1⟩) <;> simp_all)
  have s1 : ta = false → tp = false → ∀ i b, b < w'.heap.size → ok1 i b → G2.ok i b := fun hta htp i b _ hb => share i b hb (by rintro (h1 | ⟨h1, _⟩) <;> simp_all)
  have hres := hE.res.keeps s0 s1 (fun h => (hk1 h).1) (fun h => (hk2 h).1)
  have houts := hE.outs.keeps s0 s1 (fun h => (hk1 h).2) (fun h => (hk2 h).2)
  obtain ⟨its, i1, i2, i3, i4, i5⟩ := rows_items hC houts hrow
  obtain ⟨js, j1, j2, j3, j4⟩ := ios_items hC houts hio
  have eL : L0 = itF its ++ jtB G1 js := by
    show Bs.flatten.flatten ++ (ioBoxes qs as).map (fun o => (G1.β o).1) = _
    rw [i3, ← j3, List.map_map]; rfl
  have hjl : ∀ j ∈ js, G1.γ (G1.β j.o).1 = some (.b j.o) := fun j hj => (j2 j hj).lab
  have hjB : (jtB G1 js).Nodup := boxes_nodup (by rw [j3]; exact hO) hjl
  have hjBl : ∀ b ∈ jtB G1 js, ∃ o, G1.γ b = some (.b o) := fun b hb => by
    obtain ⟨j, hj, rfl⟩ := List.mem_map.1 hb; exact ⟨_, hjl j hj⟩
  have hL0nd : (itF its ++ jtB G1 js).Nodup := by
    rw [i3]
    refine List.nodup_append.2 ⟨rows_nodup hA hn, hjB, fun x hx y hy e => ?_⟩
    subst e
    obtain ⟨R, _, h1⟩ := lab2 x hx
    obtain ⟨o, h2⟩ := hjBl x hy
    rw [h1] at h2; cases h2
  have hG2L : ∀ b ∈ L0, G2.γ b = G1.γ b := fun b hb => by
    rw [hG2, if_neg (fun hm => ((hKX b).1 hm).2 hb), if_neg (fun hm => (labLx b hb).1 (hIx b (by simp [hm])))]
  have inCs : ∀ b, b ∈ jtB G1 js ∨ b ∈ jtF js → b ∈ Cs.flatten := fun b hb => by
    rw [j4]
    rcases hb with hb | hb
    · obtain ⟨j, hj, rfl⟩ := List.mem_map.1 hb
      exact List.mem_flatMap.2 ⟨j, hj, List.mem_cons_self⟩
    · obtain ⟨j, hj, hb⟩ := List.mem_flatMap.1 hb
      exact List.mem_flatMap.2 ⟨j, hj, List.mem_cons_of_mem _ hb⟩
  rw [eL] at h2 g12
  obtain ⟨G3, r1, r2, r3, r4, r5, r6⟩ := rows_back (G1 := G1) (G2 := G2) (Q := fun b => b ∈ pool As ∨ w.heap.size ≤ b) hE.size (its := its) (Lb := jtB G1 js) h2 g12 (fun _ _ h => h) i2 (fun it hit => (i2 it hit).deref) (by rw [i5]; exact hR) hL0nd (fun b hb => by
      rw [← eL] at hb
      rw [hG2L b hb]
      exact ⟨(labLx b hb).2, hL0lt b hb⟩) (by rw [i4]; exact nD) (fun it hit b hb => by
      rcases (i2 it hit).sub b hb with h1 | h1
      · exact .inl h1
      · have hDs : b ∈ Ds.flatten.flatten := by rw [← i4]; exact List.mem_flatMap.2 ⟨it, hit, hb⟩
        have hq := (poolQ b h1 (.inl fun hc => nCxD b hc b hDs rfl)).1
        refine .inr ⟨by rw [← eL]; exact hq, ?_⟩
        rw [hG2, if_pos ((hKX b).2 ⟨List.mem_append_right _ (List.mem_append_right _ hDs), hq⟩)]) i1
  have notF' : ∀ b, b ∈ Fr ∨ b ∈ Cs.flatten → ¬ b ∈ itF' its := fun b hb hm => by
    rw [i4] at hm
    rcases hb with hb | hb
    · exact nFCD b hb b (List.mem_append_right _ hm) rfl
    · exact nCxD b hb b hm rfl
  obtain ⟨f1, f2⟩ := jt_nodup (G1 := G1) (js := js) (by rw [← j4]; exact nC)
  have inKX : ∀ b, b ∈ Fr ∨ b ∈ jtF js → b ∈ KX := fun b hb => by
    rw [hKX]
    rcases hb with hb | hb
    · exact ⟨List.mem_append_left _ hb, (poolQ b (hE.pool b (List.mem_append_left _ hb)) (.inl fun hc => nFCD b hb b (List.mem_append_left _ hc) rfl)).1⟩
    · have hc := inCs b (.inr hb)
      refine ⟨List.mem_append_right _ (List.mem_append_left _ hc), (poolQ b (hE.pool b (List.mem_append_right _ hc)) (.inr fun o ho e => ?_)).1⟩
      refine f2 b ?_ hb
      rw [← j3] at ho
      obtain ⟨j, hj, rfl⟩ := List.mem_map.1 ho
      exact List.mem_map.2 ⟨j, hj, e.symm⟩
  have inL0 : ∀ b ∈ jtB G1 js, b ∈ L0 := fun b hb => by rw [eL]; exact List.mem_append_right _ hb
  obtain ⟨G4, c1, c2, c3⟩ := ios_back (G1 := G1) (G2 := G2) hE.size (js := js) r1 r6 j2 (fun j hj => by
      obtain ⟨cs0, b1, b2⟩ := (j2 j hj).box
      obtain ⟨cs1, b3, b4⟩ := r5 j.o cs0 b1
      exact ⟨r2.beta j.o (by rw [r4]), cs1, b3, by omega⟩) hjB (fun b hb => by
      rw [r3 b (notF' b (.inr (inCs b (.inl hb)))), hG2L b (inL0 b hb)]
      exact ⟨(labLx b (inL0 b hb)).2, (labLx b (inL0 b hb)).1, hL0lt b (inL0 b hb)⟩) f1 (fun b hb => by
      rw [r3 b (notF' b (.inr (inCs b (.inr hb)))), hG2, if_pos (inKX b (.inr hb))])
  rw [← j1] at c1
  refine ⟨G4, c1, (hres.frame' c3).toO, nF, fun b hb => ?_⟩
  rw [c2 b (fun hm => nFCD b hb b (List.mem_append_left _ (inCs b (.inr hm))) rfl), r3 b (notF' b (.inl hb)), hG2, if_pos (inKX b (.inl hb))]
theorem gives_call {R : Oracle} {modes : FuncId → List Pm} {f : FuncId} {as as' : List AV} {vs : List Value} {F : List Nat} (hS : Sound P modes R) (h : Sim P ar N E G ⟨t', m⟩ a w) (hr : RepO P G w m as vs F) (hn : F.Nodup) (hF : ∀ b ∈ F, G.γ b = some .x) (hc : doCall R modes f as m = some (as', m2)) :
    Calls P f vs.toArray w fun e w' => ∃ v, e = .returned v ∧ ∃ G' F' us, Sim P ar N E G' ⟨t', m2⟩ a w' ∧ v = tupled us ∧ RepO P G' w' m2 as' us F' ∧ F'.Nodup ∧ ∀ b ∈ F', G'.γ b = some .x := by
  unfold doCall at hc
  split at hc
  · rename_i ps m1 m3 harg
    split at hc
    · rename_i rs outs hR
      split at hc
      · cases hc
      · rename_i htaint
        split at hc
        · rename_i m2' hout
          simp only [Option.some.injEq, Prod.mk.injEq] at hc
          obtain ⟨rfl, rfl⟩ := hc
          unfold argsIn at harg
          split at harg
          · rename_i hap
            split at harg
            · rename_i xs mt ht
              split at harg
              · rename_i ys ml hl
                split at harg
                · rename_i ps' hv
                  simp only [Option.some.injEq, Prod.mk.injEq] at harg
                  obtain ⟨rfl, rfl, rfl⟩ := harg
                  obtain ⟨G1, I, Fv, a1, a2, a3, a4, a5, a6, a7, a8⟩ := takes_rep h hr hn hF ht
                  obtain ⟨b1, Bs, Rs, b2, b3, b4⟩ := lends_rep a1 (Less.refl _) a8 hl
                  have hl3 : Less mt (ml.hideBoxes (ioBoxes (modes f) as)) := b1.trans (less_hideBoxes _ _)
                  have hta : ∀ c ∈ vals (modes f) as, (tnt (ml.hideBoxes (ioBoxes (modes f) as)) 4 c = true → (vals (modes f) as).any (tnt (ml.hideBoxes (ioBoxes (modes f) as)) 4) = true) ∧ (tntP 4 c = true → (vals (modes f) as).any (tntP 4) = true) := fun c hc => ⟨fun h => List.any_eq_true.2 ⟨c, hc, h⟩, fun h => List.any_eq_true.2 ⟨c, hc, h⟩⟩
                  obtain ⟨As, c1, c2⟩ := callArgs_of (X := (· ∈ Fv)) a1 hl3 a8 b2 (fun b hb => hb) hta hv
                  have hO := apart_nodup hap
                  have hIx : ∀ b ∈ I ++ Fv, G1.γ b = some .x := fun b hb => (a7 b hb).1
                  have hnd := c1.nodup (List.nodup_append.1 a6).1 (fun b hb => hIx b (by simp [hb])) hO b3
                  obtain ⟨lab1, lab2, lab3⟩ := c1.lab
                  refine (hS f ps' rs outs hR w _ vs As Bs (okX_mono a1) c2 hnd (fun i b hb hm => ?_)).mono ?_
                  · have hlabel : (b ∈ I) ∨ (∃ o ∈ ioBoxes (modes f) as, G1.γ b = some (.b o)) ∨ ∃ R ∈ Rs, G1.γ b = some (.r R) := by
                      rcases lab3 b hm with h1 | h1
                      · rcases lab1 b h1 with h1 | ⟨o, h1, _, h2⟩
                        · exact .inl h1
                        · exact .inr (.inl ⟨o, h1, h2⟩)
                      · exact .inr (.inr (lab2 b h1))
                    rcases hb with hb | ⟨_, hb⟩
                    · rcases hlabel with h1 | ⟨o, _, h1⟩ | ⟨R, _, h1⟩
                      · have := hIx b (by simp [h1]); rw [hb.1] at this; cases this
                      · rw [hb.1] at h1; cases h1
                      · rw [hb.1] at h1; cases h1
                    · rcases hb with hb | ⟨R, hb1, hb2⟩ | ⟨o, hb1, hb2⟩
                      · have hx := hIx b (by simp [hb])
                        rcases hlabel with h1 | ⟨o, _, h1⟩ | ⟨R, _, h1⟩
                        · exact (List.nodup_append.1 a6).2.2 b h1 b hb rfl
                        · rw [hx] at h1; cases h1
                        · rw [hx] at h1; cases h1
                      · rcases hlabel with h1 | ⟨o, _, h1⟩ | ⟨R', h1, h2⟩
                        · have := hIx b (by simp [h1]); rw [hb2] at this; cases this
                        · rw [hb2] at h1; cases h1
                        · rw [hb2] at h2
                          simp only [Option.some.injEq, Own.r.injEq] at h2
                          subst h2
                          exact hb1 (less_at (less_hideBoxes _ _) (b4 R h1).2)
                      · rcases hlabel with h1 | ⟨o', h1, h2⟩ | ⟨R, _, h1⟩
                        · have := hIx b (by simp [h1]); rw [hb2] at this; cases this
                        · rw [hb2] at h2
                          simp only [Option.some.injEq, Own.b.injEq] at h2
                          subst h2
                          refine hb1 ?_
                          simp [Mem.hideBoxes, h1]
                        · rw [hb2] at h1; cases h1
                  · rintro e w' ⟨v, rfl, ok1, us, Fr, Cs, Ds, hE⟩
                    have ht2 := htaint
                    simp only [Bool.or_eq_true, Bool.and_eq_true, Bool.not_eq_true', not_or, not_and] at ht2
                    obtain ⟨G4, d1, d2, d3, d4⟩ := call_back a1 c1 c2 a6 hIx hO b3 hnd hE (fun h => by
                        have := ht2.1 h
                        simpa using this) (fun h => by
                        have := ht2.2 h
                        simpa using this) hout
                    exact ⟨v, rfl, G4, Fr, us, d1, hE.val, d2, d3, d4⟩
                · cases harg
              · cases harg
            · cases harg
          · cases harg
        · cases hc
    · cases hc
  · cases hc
end
end Go.Proofs.YtngooidedlnmaaaGreat.Pv
