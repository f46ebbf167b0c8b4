/- A plain reading of Go code and its soundness, part 7. No condition. -/
import Derived.Test.YtngooidedlnmaaaGreatV6
set_option linter.all false
set_option linter.unusedSimpArgs false
set_option linter.unusedVariables false
set_option linter.unnecessarySimpa false
/- A slice within a slice of one's own is written: what the whole is then. No condition. -/
namespace Go.Proofs.YtngooidedlnmaaaGreat.Pv
open Go
section
variable {P : Program} {G G' : Gh} {w W : World} {F : List Nat} {ok ok' : Bool → Nat → Prop}
theorem put_notAgg {c q : PV} (hc : ∀ ds, c ≠ .agg ds) (hq : ∀ ds, q ≠ .agg ds) : ∀ path, ∀ ds, c.put q path ≠ .agg ds
  | [], ds => by simpa [PV.put] using hq ds
  | (i, f) :: rest, ds => by
    unfold PV.put
    split
    · split
      · split
        · simp
        · simp
      · simp
    · exact hc ds
theorem Nest.write {root : Root} {p0 p q : PV} {v0 v : Value} {path : List (Nat × Nat)} {S D H : List Nat} (hnest : Nest P G root w p0 v0 path p v) (hqna : ∀ ds, q ≠ .agg ds)
    (hend : ∀ F, Rep P w ok p v F → F.Nodup → (∀ x ∈ H, ¬ x ∈ F) → (∀ x ∈ S, x ∈ F) ∧ (∀ x ∈ D, x ∈ F) ∧ ∃ F', Rep P W ok' q v F' ∧ F'.Nodup ∧ (∀ x ∈ F', x ∈ F ∨ x ∈ H) ∧ ∀ x ∈ F', ¬ x ∈ D)
    (hoth : ∀ b', ¬ b' ∈ S → W.heap[b']? = w.heap[b']?) (hsz : w.heap.size ≤ W.heap.size) (hk : ∀ i b', ok i b' → b' < w.heap.size → ok' i b') (hokb : ∀ i b', ok i b' → ¬ b' ∈ S) :
    ∀ {F : List Nat}, Rep P w ok p0 v0 F → F.Nodup → (∀ x ∈ H, ¬ x ∈ F) → (∀ x ∈ S, x ∈ F) ∧ (∀ x ∈ D, x ∈ F) ∧ ∃ F', Rep P W ok' (p0.put q path) v0 F' ∧ F'.Nodup ∧ (∀ x ∈ F', x ∈ F ∨ x ∈ H) ∧ ∀ x ∈ F', ¬ x ∈ D := by
  induction hnest with
  | nil p v => intro F h hn hH; simpa [PV.put] using hend F h hn hH
  | cons fl e xs b off n cap i f rest x c p u v h0 h1 h2 hl h3 h4 ih =>
    intro F h hn hH
    have ih' := fun {F : List Nat} (a : Rep P w ok c u F) (b : F.Nodup) (c : ∀ x ∈ H, ¬ x ∈ F) => ih hend a b c
    have hput : PV.put (.sl fl e xs) q ((i, f) :: rest) = .sl fl e (xs.set i (Pv.setCells x f [c.put q rest])) := by simp [PV.put, h1, h2]
    rw [hput]
    have hi : i < xs.length := (List.getElem?_eq_some_iff.1 h1).1
    have hf : f < x.cells.length := (List.getElem?_eq_some_iff.1 h2).1
    have hcells := h.own_cells h0 (by rintro rfl; simp at h1)
    have key : ∀ {vs : List Value} {F1 : List Nat} {arr : Array Value} {ty : TypeId}, RepL P w ok (flatC xs) vs F1 → (∀ x ∈ xs, x.cells.length = P.cellsOf e) → F = b :: F1 → w.heap[b]? = some (.cells arr ty (0, 0)) → (∀ j v, vs[j]? = some v → arr[off + j]? = some v) →
        (∀ x ∈ S, x ∈ F1) ∧ (∀ x ∈ D, x ∈ F1) ∧ ∃ F', RepL P W ok' (flatC (xs.set i (Pv.setCells x f [c.put q rest]))) vs F' ∧ F'.Nodup ∧ (∀ x ∈ F', x ∈ F1 ∨ x ∈ H) ∧ (∀ x ∈ F', ¬ x ∈ D) ∧ ∀ y ∈ xs.set i (Pv.setCells x f [c.put q rest]), y.cells.length = P.cellsOf e := by
      intro vs F1 arr ty hrl hu hF hg hc
      subst hF
      have hn1 := List.nodup_cons.1 hn
      have hcna : ∀ ds, c ≠ .agg ds := hrl.notAgg c (List.mem_of_getElem? (flatC_get hu h1 h2))
      have hna : ∀ p ∈ [c.put q rest], ∀ ds, p ≠ .agg ds := by
        intro p hp
        simp only [List.mem_singleton] at hp
        subst hp
        exact put_notAgg hcna hqna rest
      have hlt : i * P.cellsOf e + f < (flatC xs).length := (List.getElem?_eq_some_iff.1 (flatC_get hu h1 h2)).1
      rw [flatC_set hu h1 (by simp) (by simp; omega) hna]
      have e1 : flatC xs = (flatC xs).take (i * P.cellsOf e + f) ++ ([c] ++ (flatC xs).drop (i * P.cellsOf e + f + 1)) := by
        have : (flatC xs)[i * P.cellsOf e + f] = c := (List.getElem?_eq_some_iff.1 (flatC_get hu h1 h2)).2
        rw [List.singleton_append, ← this, ← List.drop_eq_getElem_cons hlt, List.take_append_drop]
      have hrl2 := hrl
      rw [e1] at hrl2
      obtain ⟨va, vb, vc, Fa, Fb, Fc, rfl, rfl, l1, l2, r1, r2, r3⟩ := hrl2.splice
      obtain ⟨u', rfl, r4⟩ := r2.of_one
      have hu' : u' = u := by
        have l1' : va.length = i * P.cellsOf e + f := by rw [l1, List.length_take]; omega
        have : (va ++ ([u'] ++ vc))[i * P.cellsOf e + f]? = some u' := by rw [← l1', List.getElem?_append_right (Nat.le_refl _)]; simp
        have := hc _ _ this
        simp only [World.cell?, hg, Option.isSome_none, Bool.false_eq_true, if_false] at h3
        rw [this] at h3
        exact Option.some.inj h3
      subst hu'
      obtain ⟨n1, n2, n3⟩ := List.nodup_append.1 hn1.2
      obtain ⟨n4, n5, n6⟩ := List.nodup_append.1 n2
      obtain ⟨hS, hD, Fb', k1, k2, k3, k4⟩ := ih' r4 n4 (fun x hx hxF => hH x hx (by simp [hxF]))
      have fr : ∀ {ps : List PV} {us : List Value} {F2 : List Nat}, RepL P w ok ps us F2 → (∀ x ∈ F2, ¬ x ∈ S) → RepL P W ok' ps us F2 := fun hp hne => hp.frame hk hsz (fun i b' hb _ => hoth b' (hokb i b' hb)) (fun b' hb => hoth b' (hne b' hb))
      refine ⟨fun x hx => by simp [hS x hx], fun x hx => by simp [hD x hx], Fa ++ (Fb' ++ Fc), ?_, nodup_splice hn1.2 k2 k3 (fun x hx hxF => hH x hx (List.mem_cons_of_mem _ hxF)), fun x hx => ?_, fun x hx hxD => ?_, fun y hy => ?_⟩
      · refine RepL.append (fr r1 (fun x hx e => n3 x hx x (by simp [hS x e]) rfl)) (RepL.append (.one (hna _ (by simp)) k1) (fr r3 (fun x hx e => n6 x (hS x e) x hx rfl)))
      · simp only [List.mem_append] at hx ⊢
        rcases hx with hx | hx | hx
        · exact .inl (.inl hx)
        · rcases k3 x hx with hx | hx
          · exact .inl (.inr (.inl hx))
          · exact .inr hx
        · exact .inl (.inr (.inr hx))
      · simp only [List.mem_append] at hx
        rcases hx with hx | hx | hx
        · exact n3 x hx x (by simp [hD x hxD]) rfl
        · exact k4 x hx hxD
        · exact n6 x (hD x hxD) x hx rfl
      · rcases List.mem_or_eq_of_mem_set hy with hy | rfl
        · exact hu y hy
        · rw [setCells_len (by simp) (by simp; omega) hna]; exact hu x (List.mem_of_getElem? h1)
    have hlen : (xs.set i (Pv.setCells x f [c.put q rest])).length = xs.length := List.length_set
    cases h with
    | slE _ _ _ => simp at h1
    | slI _ _ _ _ _ _ _ _ _ _ _ _ => omega
    | slO _ _ vs _ _ _ arr ty F1 hrl hu hg hc g1 g2 hz =>
      obtain ⟨hS, hD, F', k1, k2, k3, k5, k4⟩ := key hrl hu rfl hg hc
      have hbS : ¬ b ∈ S := fun e => (List.nodup_cons.1 hn).1 (hS b e)
      have hbD : ¬ b ∈ D := fun e => (List.nodup_cons.1 hn).1 (hD b e)
      refine ⟨fun x hx => List.mem_cons_of_mem _ (hS x hx), fun x hx => List.mem_cons_of_mem _ (hD x hx), b :: F', ?_, List.nodup_cons.2 ⟨fun hb => ?_, k2⟩, fun x hx => ?_, fun x hx => ?_⟩
      · rw [← hlen]
        exact .slO e _ vs b off cap arr ty F' k1 k4 (by rw [hoth b hbS]; exact hg) hc (by rw [hlen]; exact g1) g2 hz
      · rcases k3 b hb with hb | hb
        · exact (List.nodup_cons.1 hn).1 hb
        · exact hH b hb List.mem_cons_self
      · rcases List.mem_cons.1 hx with rfl | hx
        · exact .inl List.mem_cons_self
        · rcases k3 x hx with hx | hx
          · exact .inl (List.mem_cons_of_mem _ hx)
          · exact .inr hx
      · rcases List.mem_cons.1 hx with rfl | hx
        · exact hbD
        · exact k5 x hx
    | slA _ _ vs _ _ F1 hrl hu ho hz =>
      have ho2 := ho
      rcases ho.2 with ⟨hnn, _⟩ | ⟨g, c', cur, he, _, hg, g3, g4, g5, g6⟩
      · cases hnn
      · simp only [Value.slice.injEq, Option.some.injEq, Addr.mk.injEq, and_true, true_and] at he
        obtain ⟨rfl, rfl⟩ := he
        obtain ⟨hS, hD, F', k1, k2, k3, k5, k4⟩ := key hrl hu rfl hg (fun j v hj => by
          rw [← g6, List.getElem?_take] at hj
          split at hj
          · simpa using hj
          · cases hj)
        have hbS : ¬ b ∈ S := fun e => (List.nodup_cons.1 hn).1 (hS b e)
        have hbD : ¬ b ∈ D := fun e => (List.nodup_cons.1 hn).1 (hD b e)
        refine ⟨fun x hx => List.mem_cons_of_mem _ (hS x hx), fun x hx => List.mem_cons_of_mem _ (hD x hx), b :: F', ?_, List.nodup_cons.2 ⟨fun hb => ?_, k2⟩, fun x hx => ?_, fun x hx => ?_⟩
        · rw [← hlen]
          exact .slA e _ vs b cap F' k1 k4 ⟨by rw [hlen]; exact ho.1, .inr ⟨b, cap, cur, rfl, Nat.zero_le _, by rw [hoth b hbS]; exact hg, by rw [hlen]; exact g3, g4, g5, by rw [hlen]; exact g6⟩⟩ hz
        · rcases k3 b hb with hb | hb
          · exact (List.nodup_cons.1 hn).1 hb
          · exact hH b hb List.mem_cons_self
        · rcases List.mem_cons.1 hx with rfl | hx
          · exact .inl List.mem_cons_self
          · rcases k3 x hx with hx | hx
            · exact .inl (List.mem_cons_of_mem _ hx)
            · exact .inr hx
        · rcases List.mem_cons.1 hx with rfl | hx
          · exact hbD
          · exact k5 x hx
end
end Go.Proofs.YtngooidedlnmaaaGreat.Pv
