/- A plain reading of Go code and its soundness, part 21. No condition. -/
import Derived.Test.YtngooidedlnmaaaGreatV20
set_option linter.all false
set_option linter.unusedSimpArgs false
set_option linter.unusedVariables false
set_option linter.unnecessarySimpa false
/- A function's contract, out of its code's reading. No condition. -/
namespace Go.Proofs.YtngooidedlnmaaaGreat.Pv
open Go
theorem tagsAll_mem {x : Own × List Nat} : ∀ {qs : List Pm} {As Bs : List (List (List Nat))} {i : Nat}, x ∈ tagsAll i qs As Bs → ∃ k q A B, qs[k]? = some q ∧ As[k]? = some A ∧ Bs[k]? = some B ∧ x ∈ tagsOf (i + k) q A B
  | q :: qs, A :: As, B :: Bs, i, h => by
    simp only [tagsAll] at h
    rcases List.mem_append.1 h with h | h
    · exact ⟨0, q, A, B, rfl, rfl, rfl, h⟩
    · obtain ⟨k, q', A', B', h1, h2, h3, h4⟩ := tagsAll_mem h
      exact ⟨k + 1, q', A', B', by simpa using h1, by simpa using h2, by simpa using h3, by rw [show i + (k + 1) = i + 1 + k by omega]; exact h4⟩
  | [], _, _, i, h => by simp [tagsAll] at h
  | _ :: _, [], _, i, h => by simp [tagsAll] at h
  | _ :: _, _ :: _, [], i, h => by simp [tagsAll] at h
theorem cellTags_mem {f : Nat → Own} {x : Own × List Nat} : ∀ {Fs : List (List Nat)} {j : Nat}, x ∈ cellTags f j Fs → ∃ k, Fs[k]? = some x.2 ∧ x.1 = f (j + k)
  | [], j, h => by simp [cellTags] at h
  | F :: Fs, j, h => by
    simp only [cellTags] at h
    rcases List.mem_cons.1 h with rfl | h
    · exact ⟨0, rfl, rfl⟩
    · obtain ⟨k, h1, h2⟩ := cellTags_mem h
      exact ⟨k + 1, by simpa using h1, by rw [h2, show j + (k + 1) = j + 1 + k by omega]⟩
def resSem (tmps : Array Value) : ResultVar → Sem Value
  | .tmp t => pure (tmps.getD t undef)
  | .cell a t => do loadVar t (← asAddr (tmps.getD a undef))
theorem run_results {P : Program} {w : World} {fn : Func} {tmps : Array Value} {vs : List Value} (hl : vs.length = fn.results.toList.length) (h : ∀ (i : Nat) r v, fn.results.toList[i]? = some r → vs[i]? = some v → (resSem tmps r).run P w = .ok v w) : (results fn tmps).run P w = .ok (tupled vs) w := by
  have key : ∀ (g : ResultVar → Sem Value) (rs : List ResultVar) (vs : List Value), vs.length = rs.length → (∀ (i : Nat) r v, rs[i]? = some r → vs[i]? = some v → (g r).run P w = .ok v w) → (rs.mapM g).run P w = .ok vs w := by
    intro g rs
    induction rs with
    | nil => intro vs hl _; obtain rfl := List.eq_nil_of_length_eq_zero hl; simp [Sem.run_pure]
    | cons r rs ih =>
      intro vs hl hg
      cases vs with
      | nil => simp at hl
      | cons v vs =>
        rw [List.mapM_cons]
        simp only [Sem.run_bind, Sem.run_pure, Result.andThen_ok, hg 0 r v rfl rfl, ih vs (by simpa using hl) (fun i r' v' h1 h2 => hg (i + 1) r' v' (by simpa using h1) (by simpa using h2))]
  unfold results
  rw [Array.mapM_eq_mapM_toList, map_eq_pure_bind]
  simp only [Sem.run_bind]
  have k : ∀ g : ResultVar → Sem Value, (∀ r, g r = resSem tmps r) → (fn.results.toList.mapM g).run P w = .ok vs w := fun g hg => key g _ vs hl (fun i r v h1 h2 => by rw [hg]; exact h i r v h1 h2)
  rw [k _ (fun r => by cases r <;> rfl)]
  simp only [Result.andThen_ok, Sem.run_pure]
  congr 1
  match vs with
  | [] => rfl
  | [v] => rfl
  | v :: u :: l => simp [tupled]
section
variable {P : Program} {ar : Nat → Nat} {N : Nat} {G : Gh} {s : St} {a : Act} {w w' : World} {ok0 : Bool → Nat → Prop}
theorem rows_handed {qs : List Pm} {ps : List PV} {vs : List Value} {As Bs : List (List (List Nat))} (h : ArgsRep P w ok0 qs ps vs As Bs) : ∀ b ∈ Bs.flatten.flatten, b ∈ handed As Bs := by
  induction h with
  | nil => simp
  | cons q p v A B qs ps vs As Bs _ _ ih =>
    intro b hb
    simp only [List.flatten_cons, List.flatten_append, List.mem_append] at hb
    simp only [handed, List.mem_append]
    rcases hb with hb | hb
    · exact .inr (.inl hb)
    · exact .inr (.inr (ih b hb))
theorem pool_handed {qs : List Pm} {ps : List PV} {vs : List Value} {As Bs : List (List (List Nat))} (h : ArgsRep P w ok0 qs ps vs As Bs) : ∀ b ∈ pool As, b ∈ handed As Bs := by
  induction h with
  | nil => simp [pool]
  | cons q p v A B qs ps vs As Bs _ _ ih =>
    intro b hb
    simp only [pool, List.flatten_cons, List.flatten_append, List.mem_append] at hb
    simp only [handed, List.mem_append]
    rcases hb with hb | hb
    · exact .inl hb
    · exact .inr (.inr (ih b hb))
theorem pool_rows {qs : List Pm} {ps : List PV} {vs : List Value} {As Bs : List (List (List Nat))} (h : ArgsRep P w ok0 qs ps vs As Bs) (hn : (handed As Bs).Nodup) : ∀ b, b ∈ pool As → b ∈ Bs.flatten.flatten → False := by
  induction h with
  | nil => simp [pool]
  | cons q p v A B qs ps vs As Bs _ h2 ih =>
    intro b h1 h3
    simp only [handed] at hn
    obtain ⟨_, n2, n3⟩ := List.nodup_append.1 hn
    obtain ⟨_, n4, n5⟩ := List.nodup_append.1 n2
    simp only [pool, List.flatten_cons, List.flatten_append, List.mem_append] at h1
    simp only [List.flatten_cons, List.flatten_append, List.mem_append] at h3
    rcases h1 with h1 | h1 <;> rcases h3 with h3 | h3
    · exact n3 b h1 b (List.mem_append_left _ h3) rfl
    · exact n3 b h1 b (List.mem_append_right _ (rows_handed h2 b h3)) rfl
    · exact n5 b h3 b (pool_handed h2 b h1) rfl
    · exact ih n4 b h1 h3
theorem resL_get : ∀ {rs : List (Nat × Option (Nat × Bool))} {cs : List AV}, resL s rs = some cs → cs.length = rs.length ∧ ∀ (i : Nat) r c, rs[i]? = some r → cs[i]? = some c → resOf s r = some c
  | [], cs, h => by simp only [resL, Option.some.injEq] at h; subst h; exact ⟨rfl, fun i r c h => by simp at h⟩
  | r :: rs, cs, h => by
    simp only [resL] at h
    split at h
    · rename_i a0 ha
      split at h
      · rename_i as0 has
        simp only [Option.some.injEq] at h; subst h
        obtain ⟨h1, h2⟩ := resL_get has
        refine ⟨by simp [h1], fun i r' c' hr hc => ?_⟩
        cases i with
        | zero => simp at hr hc; subst hr; subst hc; exact ha
        | succ i => exact h2 i r' c' (by simpa using hr) (by simpa using hc)
      · cases h
    · cases h
theorem ends_of {qs : List Pm} {ps : List PV} {vs : List Value} {As Bs : List (List (List Nat))} {pf : PF} {rs os : List PV} {us : List Value} (h : Sim P ar N (entryOf w ok0 qs vs As Bs) G s a w') (hA : ArgsRep P w ok0 qs ps vs As Bs) (hn : (handed As Bs).Nodup)
    (hl : qs.length ≤ 1000000) (hsm : ∀ (k : Nat) (ks : List Bool), qs[k]? = some (Pm.rows ks) → ks.length ≤ 1000) (hp : pf.params = qs) (hres : (pf.res.map (·.1)).Nodup) (hul : us.length = pf.res.length)
    (hu : ∀ (i : Nat) r c (v : Value), pf.res[i]? = some r → resOf s r = some c → us[i]? = some v → TmpAt P G w' s.m r.1 c v) (hf : finish pf s = some (rs, os)) : Ends P w w' ok0 qs vs As Bs rs os (tupled us) := by
  subst hp
  unfold finish at hf
  split at hf
  rotate_left
  · cases hf
  rename_i cs hrl
  split at hf
  · rename_i rs' g0 ho
    split at hf
    · rename_i os' g2 hb
      simp only [Option.some.injEq, Prod.mk.injEq] at hf
      obtain ⟨rfl, rfl⟩ := hf
      obtain ⟨rl1, rl2⟩ := resL_get hrl
      obtain ⟨Fr, r1, r2, _, r4⟩ := outs_rep h hres (by rw [hul, List.length_map]) (by rw [rl1, List.length_map]) (fun i t c v h1 h2 h3 => by
        rw [List.getElem?_map] at h1
        cases hr : pf.res[i]? with
        | none => rw [hr] at h1; cases h1
        | some r =>
          rw [hr] at h1
          simp only [Option.map_some, Option.some.injEq] at h1
          subst h1
          exact hu i r c v hr (rl2 i r c hr h2) h3) ho
      have hE := h.ent
      have hrows := backs_rows hb
      have hT := tags_blocks hA 0
      have hnT : (blocksOf (tagsAll 0 pf.params As Bs)).Nodup := by rw [hT]; exact hn
      -- where a block that was handed over came from
      have fromH : ∀ b, b ∈ handed As Bs → (b ∈ pool As) ∨ ∃ t F, IsRowB 0 pf.params Bs t F ∧ b ∈ F ∧ G.γ b = some (.r (.v t)) ∧ IsRowVar 0 pf.params t := by
        intro b hheld
        rw [← hT] at hheld
        obtain ⟨F0, hF, hbF⟩ := List.mem_flatten.1 hheld
        obtain ⟨⟨o0, F1⟩, hx, rfl⟩ := List.mem_map.1 hF
        have hg0 := gamma0_in hnT hx hbF
        obtain ⟨k, q, A, B, h1, h2, h3, h4⟩ := tagsAll_mem hx
        rw [Nat.zero_add] at h4
        obtain ⟨p, v, A', B', g1, g2, g3, g4, g5⟩ := hA.get h1
        rw [h2] at g3; rw [h3] at g4
        obtain rfl := Option.some.inj g3
        obtain rfl := Option.some.inj g4
        have inPool : F1 ∈ A → b ∈ pool As := fun hm => List.mem_flatten.2 ⟨F1, List.mem_flatten.2 ⟨A, List.mem_of_getElem? h2, hm⟩, hbF⟩
        have prov : ∀ t, o0 = .r (.v t) → IsRowVar 0 pf.params t → G.γ b = some (.r (.v t)) := fun t ht hrv => by
          have hpv : G.E.prov b = some t := by rw [hE]; simp only [entryOf, provOf, hg0, ht]
          exact h.env.prov b t hpv (hrows t hrv).1
        cases g5 with
        | val _ _ _ => simp [tagsOf] at h4
        | own _ _ F _ _ => exact .inl (inPool (by simp only [tagsOf, List.map_cons, List.map_nil, List.mem_singleton, Prod.mk.injEq] at h4; simp [h4.2]))
        | io n cs us Fs b0 off arr ty _ _ _ _ _ =>
          refine .inl (inPool ?_)
          simp only [tagsOf] at h4
          rcases List.mem_cons.1 h4 with h4 | h4
          · simp only [Prod.mk.injEq] at h4; simp [h4.2]
          · obtain ⟨j, j1, _⟩ := cellTags_mem h4
            exact List.mem_cons_of_mem _ (List.mem_of_getElem? j1)
        | row _ _ F _ _ =>
          simp only [tagsOf, List.map_cons, List.map_nil, List.mem_singleton, Prod.mk.injEq] at h4
          obtain ⟨h5, rfl⟩ := h4
          have hrv : IsRowVar 0 pf.params k := ⟨k, .inl ⟨h1, by omega⟩⟩
          exact .inr ⟨k, F1, ⟨k, .inl ⟨h1, by omega, h3⟩⟩, hbF, prov k h5 hrv, hrv⟩
        | rows ks cs us Fs hm hrc =>
          simp only [tagsOf] at h4
          obtain ⟨j, j1, j2⟩ := cellTags_mem h4
          rw [Nat.zero_add] at j2
          simp only at j1 j2
          have hjl : j < cs.length := by
            have := (List.getElem?_eq_some_iff.1 j1).1
            rw [hrc.length.2] at this; exact this
          obtain ⟨u, F', c1, c2, c3, c4⟩ := hrc.get (List.getElem?_eq_getElem hjl)
          rw [j1] at c2
          obtain rfl := Option.some.inj c2
          have hown : ownP cs[j] = true := by
            cases hx : ownP cs[j] with
            | true => rfl
            | false => rw [c3.own_nil hx c4] at hbF; simp at hbF
          have hks : ks[j]? = some true := by rw [← hm, List.getElem?_map, List.getElem?_eq_getElem hjl]; simp [hown]
          have hrv : IsRowVar 0 pf.params (rowVar k j) := ⟨k, .inr ⟨ks, j, h1, hks, by rw [Nat.zero_add]⟩⟩
          exact .inr ⟨rowVar k j, F1, ⟨k, .inr ⟨ks, j, B, h1, hks, by rw [Nat.zero_add], h3, j1⟩⟩, hbF, prov _ j2 hrv, hrv⟩
      have from0 : ∀ b o, G.γ b = some o → b < w.heap.size → (b ∈ pool As) ∨ ∃ t F, IsRowB 0 pf.params Bs t F ∧ b ∈ F ∧ o = .r (.v t) ∧ IsRowVar 0 pf.params t := by
        intro b o ho hlt
        rcases fromH b (Decidable.byContradiction fun hx => by
          have := (h.env.keep b (by rw [hE]; exact hlt) (by rw [hE]; exact hx)).1
          rw [ho] at this; cases this) with h1 | ⟨t, F, h1, h2, h3, h4⟩
        · exact .inl h1
        · rw [ho] at h3; exact .inr ⟨t, F, h1, h2, Option.some.inj h3, h4⟩
      have uniq : ∀ t F F', IsRowB 0 pf.params Bs t F → IsRowB 0 pf.params Bs t F' → F = F' := by
        intro t F F' ⟨k, h1⟩ ⟨k', h2⟩
        rw [Nat.zero_add] at h1 h2
        have kl : ∀ {k : Nat} {q : Pm}, pf.params[k]? = some q → k < 1000000 := fun hk => by have := (List.getElem?_eq_some_iff.1 hk).1; omega
        rcases h1 with ⟨a1, a2, a3⟩ | ⟨ks, j, Fs, a1, a2, a3, a4, a5⟩ <;> rcases h2 with ⟨b1, b2, b3⟩ | ⟨ks', j', Fs', b1, b2, b3, b4, b5⟩
        · have : k = k' := by omega
          subst this
          rw [a3] at b3
          simpa using b3
        · have := kl a1; simp only [rowVar] at b3; omega
        · have := kl b1; simp only [rowVar] at a3; omega
        · have l1 := hsm k ks a1
          have l2 := hsm k' ks' b1
          have m1 := (List.getElem?_eq_some_iff.1 a2).1
          have m2 := (List.getElem?_eq_some_iff.1 b2).1
          simp only [rowVar] at a3 b3
          have e1 : k = k' := by omega
          have e2 : j = j' := by omega
          subst e1; subst e2
          rw [a4] at b4
          obtain rfl := Option.some.inj b4
          rw [a5] at b5
          exact Option.some.inj b5
      obtain ⟨Cs, Ds, b1, b2, b3, b4, b5, b6⟩ := backs_rep (w := w) (Q := fun b => b ∈ pool As ∨ w.heap.size ≤ b) h hA (fun k n b off h1 h2 => by
          obtain ⟨p, v, A', B', g1, g2, g3, g4, g5⟩ := hA.get h1
          rw [h2] at g2
          cases g5 with
          | io _ cs us Fs b0 off arr ty hcl hrc hg hsz hcell =>
            simp only [Option.some.injEq, Value.pointer.injEq, Addr.mk.injEq, and_true] at g2
            obtain ⟨rfl, rfl⟩ := g2
            refine ⟨arr, ty, hg, hsz, ?_⟩
            rw [hE, Nat.zero_add]
            simp only [entryOf, lentOf, h1, h2, hg])
        (fun k v h1 => by
          rw [hE, Nat.zero_add]
          simp only [entryOf, Option.some.injEq]
          exact hdOf_arg h1 (by have := (List.getElem?_eq_some_iff.1 h1).1; have := hA.length.2.1; omega))
        (fun k ks us j u h1 h2 h3 => by
          rw [hE, Nat.zero_add]
          simp only [entryOf, Option.some.injEq]
          refine hdOf_row h2 h3 ?_
          obtain ⟨p, v, A', B', g1, g2, g3, g4, g5⟩ := hA.get h1
          rw [h2] at g2
          cases g5 with
          | rows _ cs us' Fs hm hrc =>
            have e : us = us' := by simpa using g2
            subst e
            have l1 := hsm k ks h1
            have l2 := hrc.length.1
            have l3 := (List.getElem?_eq_some_iff.1 h3).1
            have l4 : cs.length = ks.length := by rw [← hm, List.length_map]
            omega)
        (fun t F hB b hb => by
          by_cases hlt : b < w.heap.size
          · rcases from0 b _ hb hlt with h1 | ⟨t', F', h1, h2, h3, _⟩
            · exact .inr (.inl h1)
            · simp only [Own.r.injEq, Root.v.injEq] at h3
              subst h3
              rw [uniq _ _ _ hB h1]
              exact .inl h2
          · exact .inr (.inr (by omega))) hb
      have labFr : ∀ b ∈ Fr, (∃ t, G.γ b = some (.t t)) ∨ Newly G [] g0 b := fun b hb => by
        rcases r4 b hb with ⟨t, _, ht⟩ | k
        · exact .inl ⟨t, ht⟩
        · exact .inr k
      have hnone : ∀ b ∈ Fr ++ (Cs.flatten ++ Ds.flatten.flatten), G.γ b ≠ none := fun b hb hx => by
        rcases List.mem_append.1 hb with hb | hb
        · rcases labFr b hb with ⟨t, ht⟩ | ⟨R, _, _, hR⟩
          · rw [hx] at ht; cases ht
          · rw [hx] at hR; cases hR
        · rcases List.mem_append.1 hb with hb | hb
          · rcases b4 b hb with ⟨k, _, hk⟩ | ⟨R, _, _, hR⟩
            · rw [hx] at hk; cases hk
            · rw [hx] at hR; cases hR
          · obtain ⟨R, _, _, hR⟩ := b5 b hb
            rw [hx] at hR; cases hR
      refine ⟨G.ok, us, Fr, Cs, Ds, {
        mono := h.mono
        os := h.env.os.trans (by rw [hE]; rfl)
        tape := h.env.tape.trans (by rw [hE]; rfl)
        output := h.env.output.trans (by rw [hE]; rfl)
        size := by have := h.env.size; rw [hE] at this; exact this
        same := fun b h1 h2 => by
          have := (h.env.keep b (by rw [hE]; exact h1) (by rw [hE]; exact h2)).2
          rw [hE] at this; exact this
        res := r1
        val := rfl
        outs := b1
        nodup := ?_
        pool := fun b hb => ?_
        ok := fun i b hb => ⟨fun hm => hnone b hm hb.1, (fun hm => by
          rcases fromH b (rows_handed hA b hm) with h1 | ⟨t, F, _, _, h3, _⟩
          · exact pool_rows hA hn b h1 hm
          · rw [hb.1] at h3; cases h3), fun hlt => by
          have := hb.2 (by rw [hE]; exact hlt)
          rw [hE] at this; exact this⟩ }⟩
      · refine List.nodup_append.2 ⟨r2, b2, fun x hx y hy e => ?_⟩
        subst e
        rcases labFr x hx with ⟨t, ht⟩ | k
        · rcases List.mem_append.1 hy with hy | hy
          · rcases b4 x hy with ⟨k, _, hk⟩ | ⟨R, _, _, hR⟩
            · rw [ht] at hk; cases hk
            · rw [ht] at hR; cases hR
          · obtain ⟨R, _, _, hR⟩ := b5 x hy
            rw [ht] at hR; cases hR
        · rcases List.mem_append.1 hy with hy | hy
          · rcases b4 x hy with ⟨k', _, hk⟩ | k'
            · obtain ⟨R, _, _, hR⟩ := k
              rw [hk] at hR; cases hR
            · exact k.apart k'
          · exact k.apart (b5 x hy)
      · by_cases hlt : b < w.heap.size
        · left
          cases hg : G.γ b with
          | none => exact absurd hg (hnone b (by
              rcases List.mem_append.1 hb with hb | hb
              · exact List.mem_append_left _ hb
              · exact List.mem_append_right _ (List.mem_append_left _ hb)))
          | some o =>
            rcases from0 b o hg hlt with h1 | ⟨t, F, _, _, rfl, hrv⟩
            · exact h1
            · exfalso
              rcases List.mem_append.1 hb with hb | hb
              · rcases labFr b hb with ⟨t', ht⟩ | ⟨R, k1, _, k3⟩
                · rw [hg] at ht; cases ht
                · rw [hg] at k3
                  simp only [Option.some.injEq, Own.r.injEq] at k3
                  subst k3
                  exact (hrows t hrv).2 k1
              · exact b6 b hb t hrv hg
        · exact .inr (by omega)
    · cases hf
  · cases hf
def resOK (P : Program) : ResultVar → Nat × Option (Nat × Bool) → Prop
  | .tmp t, (u, none) => t = u ∧ u < 1000000
  | .cell t ty, (u, some (n, g)) => t = u ∧ u < 1000000 ∧ varB P ty n g = true ∧ (g = false → n = 1)
  | _, _ => False
theorem res_one {E : Entry} (h : Sim P ar N E G s a w) {rv : ResultVar} {r : Nat × Option (Nat × Bool)} {c : AV} (hok : resOK P rv r) (hr : resOf s r = some c) : ∃ v, (resSem a.tmps rv).run P w = .ok v w ∧ TmpAt P G w s.m r.1 c v := by
  obtain ⟨u, x⟩ := r
  match rv, x, hok, hr with
  | .tmp t, none, hok, hr =>
    obtain ⟨rfl, hu⟩ := hok
    simp only [resOf, Option.some.injEq] at hr
    subst hr
    exact ⟨a.tmps.getD t undef, rfl, h.tmp t _ (by simp [conc, hu])⟩
  | .cell t ty, some (n, g), hok, hr =>
    obtain ⟨rfl, hu, hv, h1⟩ := hok
    simp only [resOf] at hr
    split at hr
    · rename_i o k c0 ht
      have ht0 := h.tmp t (a.tmps.getD t undef) (by simp [conc, hu])
      rw [ht] at ht0
      obtain ⟨F0, k1, k2, k3⟩ := ht0
      split at hr
      · rename_i a0 m2 hs
        simp only [Option.some.injEq] at hr; subst hr
        simp only [semL] at hs
        split at hs
        · rename_i hk
          split at hs
          · rename_i cs hb
            split at hs
            · rename_i hl
              simp only [single, Option.map_eq_some_iff, Prod.mk.injEq] at hs
              obtain ⟨u0, hu0, hs, rfl⟩ := hs
              simp only [List.cons.injEq, and_true] at hs
              subst hs
              generalize hvv : a.tmps.getD t undef = vv at k1
              obtain ⟨rfl, rfl⟩ := k1.of_ptr hk
              obtain ⟨vs, hl2, hc, hrep⟩ := h.box_cells hb hl
              obtain ⟨h2, h3⟩ := one_plain (by rw [readCells_length, hl]) hrep hu0
              obtain ⟨v1, v2, v3⟩ := varB_iff hv
              refine ⟨if g then .agg vs.toArray else vs.headD undef, ?_, [], h2, List.nodup_nil, by simp⟩
              simp only [resSem, Sem.run_bind, hvv, asAddr, Sem.run_pure, Result.andThen_ok]
              exact run_loadVar' v1 v2 v3 hl2 h1 hc
            · cases hs
          · cases hs
        · cases hs
      · cases hr
    · cases hr
theorem res_all {E : Entry} (h : Sim P ar N E G s a w) : ∀ {rvs : List ResultVar} {rs : List (Nat × Option (Nat × Bool))} {cs : List AV}, rvs.length = rs.length → (∀ (i : Nat) rv r, rvs[i]? = some rv → rs[i]? = some r → resOK P rv r) → resL s rs = some cs →
    ∃ us : List Value, us.length = rs.length ∧ (∀ (i : Nat) rv v, rvs[i]? = some rv → us[i]? = some v → (resSem a.tmps rv).run P w = .ok v w) ∧ ∀ (i : Nat) r c (v : Value), rs[i]? = some r → resOf s r = some c → us[i]? = some v → TmpAt P G w s.m r.1 c v
  | [], [], cs, _, _, _ => ⟨[], rfl, fun i rv v h => by simp at h, fun i r c v h => by simp at h⟩
  | [], _ :: _, _, hl, _, _ => by simp at hl
  | _ :: _, [], _, hl, _, _ => by simp at hl
  | rv :: rvs, r :: rs, cs, hl, hok, hr => by
    simp only [resL] at hr
    split at hr
    · rename_i a0 ha
      split at hr
      · rename_i as0 has
        obtain ⟨us, h1, h2, h3⟩ := res_all h (rvs := rvs) (rs := rs) (by simpa using hl) (fun i rv' r' k1 k2 => hok (i + 1) rv' r' (by simpa using k1) (by simpa using k2)) has
        obtain ⟨v, hv1, hv2⟩ := res_one h (hok 0 rv r rfl rfl) ha
        refine ⟨v :: us, by simp [h1], fun i rv' v' k1 k2 => ?_, fun i r' c' v' k1 k2 k3 => ?_⟩
        · cases i with
          | zero => simp at k1 k2; subst k1; subst k2; exact hv1
          | succ i => exact h2 i rv' v' (by simpa using k1) (by simpa using k2)
        · cases i with
          | zero =>
            simp at k1 k3; subst k1; subst k3
            rw [ha] at k2
            obtain rfl := Option.some.inj k2
            exact hv2
          | succ i => exact h3 i r' c' v' (by simpa using k1) k2 (by simpa using k3)
      · cases hr
    · cases hr
theorem holds_of {modes : FuncId → List Pm} {R : Oracle} {f : FuncId} {fn : Func} {c : Go.Code} {pf : PF} {n : Nat} {ps rs os : List PV} {s : St} (hfn : P.funcs[f]? = some fn) (hb : fn.body = some c) (hrl : fn.results.toList.length = pf.res.length) (hr : ∀ (i : Nat) rv r, fn.results.toList[i]? = some rv → pf.res[i]? = some r → resOK P rv r) (hres : (pf.res.map (·.1)).Nodup)
    (hlen : pf.params.length ≤ fn.ntmps) (hN : fn.ntmps ≤ 1000000) (har : ∀ i, i < pf.params.length → ar i = 0) (hsm : ∀ (k : Nat) (ks : List Bool), pf.params[k]? = some (Pm.rows ks) → ks.length ≤ 1000)
    (hex : ∀ (E : Entry) (r : Ex × St), exec R modes pf.V n pf.body s = some r → ∀ G a w, Sim P ar fn.ntmps E G s a w → c.wp P (Post P ar fn.ntmps E r) a w)
    (he : enter 0 pf.params ps s0 = some s) (hf : finishK pf (exec R modes pf.V n pf.body s) = some (rs, os)) : Holds P pf.params f ps rs os := by
  intro w ok0 vs As Bs hm hA hn hok
  obtain ⟨r, hx⟩ : ∃ r, exec R modes pf.V n pf.body s = some r := by
    cases hx : exec R modes pf.V n pf.body s with
    | none => rw [hx] at hf; simp [finishK] at hf
    | some r => exact ⟨r, rfl⟩
  rw [hx] at hf
  have hl := hA.length
  refine calls_of_wp hfn hb ?_
  have hsim := entry_sim (N := fn.ntmps) (ar := ar) hA hn hm hok he hlen hN har
  have e1 : (vs.toArray ++ Array.replicate (fn.ntmps - vs.toArray.size) undef) = vs.toArray ++ Array.replicate (fn.ntmps - vs.length) undef := by simp
  rw [e1]
  refine wp_mono (hex _ r hx _ _ w hsim) fun e a' w' hp => ?_
  have fin : finish pf r.2 = some (rs, os) → (∃ G, Sim P ar fn.ntmps (entryOf w ok0 pf.params vs As Bs) G r.2 a' w') → a'.defers = [] ∧ ∃ v, (results fn a'.tmps).run P w' = .ok v w' ∧ ∃ v', Ending.returned v = .returned v' ∧ Ends P w w' ok0 pf.params vs As Bs rs os v' := by
    rintro hf ⟨G, h⟩
    obtain ⟨cs, hcs⟩ : ∃ cs, resL r.2 pf.res = some cs := by
      cases hx : resL r.2 pf.res with
      | none => simp [finish, hx] at hf
      | some cs => exact ⟨cs, rfl⟩
    obtain ⟨us, u1, u2, u3⟩ := res_all h hrl hr hcs
    refine ⟨h.defers, _, run_results (by rw [u1, hrl]) u2, _, rfl, ?_⟩
    exact ends_of h hA hn (by omega) hsm rfl hres u1 u3 hf
  obtain ⟨e1, s1⟩ := r
  cases e with
  | normal => obtain ⟨rfl, h⟩ := hp; exact fin hf h
  | ret => obtain ⟨rfl, h⟩ := hp; exact fin hf h
  | exit id => obtain ⟨rfl, h⟩ := hp; simp [finishK] at hf
  | _ => exact hp.elim
end
end Go.Proofs.YtngooidedlnmaaaGreat.Pv
