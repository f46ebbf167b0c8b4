/- A plain reading of Go code and its soundness, part 20. No condition. -/
import Derived.Test.YtdbcnnehfbcldaaDoorV19
set_option linter.all false
set_option linter.unusedSimpArgs false
set_option linter.unusedVariables false
set_option linter.unnecessarySimpa false
/- What lent parameters hold at a call's end. No condition. -/
namespace Go.Proofs.YtdbcnnehfbcldaaDoor.Pv
open Go
theorem outCell_mono {m : Mem} {c : AV} {gone g' : List Root} {p : PV} (h : outCell m gone c = some (p, g')) : ∀ x ∈ gone, x ∈ g' := by
  cases c with
  | pv q => simp only [outCell, Option.some.injEq, Prod.mk.injEq] at h; obtain ⟨_, rfl⟩ := h; exact fun _ h => h
  | rw r =>
    simp only [outCell] at h
    split at h
    · split at h
      · simp only [Option.some.injEq, Prod.mk.injEq] at h; obtain ⟨_, rfl⟩ := h; exact fun _ h => List.mem_cons_of_mem _ h
      · cases h
    · cases h
  | _ => simp [outCell] at h
theorem outBox_mono {m : Mem} {o : Nat} : ∀ {cs : List AV} {j : Nat} {gone g' : List Root} {ps : List PV}, outBox m o j gone cs = some (ps, g') → ∀ x ∈ gone, x ∈ g'
  | [], j, gone, g', ps, h => by simp only [outBox, Option.some.injEq, Prod.mk.injEq] at h; obtain ⟨_, rfl⟩ := h; exact fun _ h => h
  | c :: cs, j, gone, g', ps, h => by
    simp only [outBox] at h
    split at h
    · rename_i p g1 hp
      split at h
      · rename_i qs g2 hq
        simp only [Option.some.injEq, Prod.mk.injEq] at h
        obtain ⟨_, rfl⟩ := h
        intro x hx
        refine outBox_mono hq x ?_
        split at hp
        · split at hp
          · split at hp
            · cases hp
            · simp only [Option.some.injEq, Prod.mk.injEq] at hp; obtain ⟨_, rfl⟩ := hp; exact List.mem_cons_of_mem _ hx
          · simp only [Option.some.injEq, Prod.mk.injEq] at hp; obtain ⟨_, rfl⟩ := hp; exact hx
        · exact outCell_mono hp x hx
      · cases h
    · cases h
theorem rowBack_gone {m : Mem} {t : Nat} {gone g' : List Root} {p : PV} (h : rowBack m gone t = some (p, g')) : m.kr (.v t) = 0 ∧ ¬ Root.v t ∈ gone ∧ Root.v t ∈ g' ∧ ∀ x ∈ gone, x ∈ g' := by
  unfold rowBack at h
  split at h
  · split at h
    · rename_i hc
      simp only [Option.some.injEq, Prod.mk.injEq] at h
      obtain ⟨_, rfl⟩ := h
      exact ⟨hc.2.1, hc.1, List.mem_cons_self, fun _ h => List.mem_cons_of_mem _ h⟩
    · cases h
  · cases h
theorem rowBacks_gone {m : Mem} {i : Nat} : ∀ {ks : List Bool} {j : Nat} {gone g' : List Root} {ps : List PV}, rowBacks m i j gone ks = some (ps, g') → (∀ x ∈ gone, x ∈ g') ∧ ∀ l, ks[l]? = some true → m.kr (.v (rowVar i (j + l))) = 0 ∧ ¬ Root.v (rowVar i (j + l)) ∈ gone
  | [], j, gone, g', ps, h => by simp only [rowBacks, Option.some.injEq, Prod.mk.injEq] at h; obtain ⟨_, rfl⟩ := h; exact ⟨fun _ h => h, by simp⟩
  | k :: ks, j, gone, g', ps, h => by
    simp only [rowBacks] at h
    split at h
    · rename_i p g1 hp
      split at h
      · rename_i qs g2 hq
        simp only [Option.some.injEq, Prod.mk.injEq] at h
        obtain ⟨_, rfl⟩ := h
        obtain ⟨k1, k2⟩ := rowBacks_gone hq
        have first : (∀ x ∈ gone, x ∈ g1) ∧ (k = true → m.kr (.v (rowVar i j)) = 0 ∧ ¬ Root.v (rowVar i j) ∈ gone) := by
          cases k
          · simp only [Bool.false_eq_true, if_false, Option.some.injEq, Prod.mk.injEq] at hp
            obtain ⟨_, rfl⟩ := hp
            exact ⟨fun _ h => h, fun h => by cases h⟩
          · simp only [if_true] at hp
            obtain ⟨a, b, _, d⟩ := rowBack_gone hp
            exact ⟨d, fun _ => ⟨a, b⟩⟩
        refine ⟨fun x hx => k1 x (first.1 x hx), fun l hl => ?_⟩
        cases l with
        | zero => simp at hl; exact first.2 hl
        | succ l =>
          obtain ⟨a, b⟩ := k2 l (by simpa using hl)
          rw [show j + (l + 1) = j + 1 + l by omega]
          exact ⟨a, fun hx => b (first.1 _ hx)⟩
      · cases h
    · cases h
theorem rowBacks_told {m : Mem} {i : Nat} : ∀ {ks : List Bool} {j l : Nat} {gone g' : List Root} {ps : List PV}, rowBacks m i j gone ks = some (ps, g') → ks[l]? = some true → Root.v (rowVar i (j + l)) ∈ g'
  | [], j, l, gone, g', ps, h, hl => by simp at hl
  | k :: ks, j, l, gone, g', ps, h, hl => by
    simp only [rowBacks] at h
    split at h
    · rename_i p g1 hp
      split at h
      · rename_i qs g2 hq
        simp only [Option.some.injEq, Prod.mk.injEq] at h
        obtain ⟨_, rfl⟩ := h
        cases l with
        | zero =>
          simp at hl
          subst hl
          simp only [if_true] at hp
          exact (rowBacks_gone hq).1 _ (rowBack_gone hp).2.2.1
        | succ l =>
          rw [show j + (l + 1) = j + 1 + l by omega]
          exact rowBacks_told hq (by simpa using hl)
      · cases h
    · cases h
def IsRowVar (i : Nat) (qs : List Pm) (t : Nat) : Prop := ∃ k, (qs[k]? = some .row ∧ t = i + k) ∨ ∃ ks j, qs[k]? = some (.rows ks) ∧ ks[j]? = some true ∧ t = rowVar (i + k) j
theorem IsRowVar.cons {i t : Nat} {q : Pm} {qs : List Pm} (h : IsRowVar i (q :: qs) t) : (q = .row ∧ t = i) ∨ (∃ ks j, q = .rows ks ∧ ks[j]? = some true ∧ t = rowVar i j) ∨ IsRowVar (i + 1) qs t := by
  obtain ⟨k, h⟩ := h
  cases k with
  | zero =>
    rcases h with ⟨h1, h2⟩ | ⟨ks, j, h1, h2, h3⟩
    · simp at h1; exact .inl ⟨h1, by omega⟩
    · simp at h1; exact .inr (.inl ⟨ks, j, h1, h2, by simpa using h3⟩)
  | succ k =>
    refine .inr (.inr ⟨k, ?_⟩)
    rw [show i + (k + 1) = i + 1 + k by omega] at h
    simpa using h
def IsRowB (i : Nat) (qs : List Pm) (Bs : List (List (List Nat))) (t : Nat) (F : List Nat) : Prop :=
  ∃ k, (qs[k]? = some .row ∧ t = i + k ∧ Bs[k]? = some [F]) ∨ ∃ ks j Fs, qs[k]? = some (.rows ks) ∧ ks[j]? = some true ∧ t = rowVar (i + k) j ∧ Bs[k]? = some Fs ∧ Fs[j]? = some F
theorem IsRowB.succ {i t : Nat} {q : Pm} {B : List (List Nat)} {qs : List Pm} {Bs : List (List (List Nat))} {F : List Nat} (h : IsRowB (i + 1) qs Bs t F) : IsRowB i (q :: qs) (B :: Bs) t F := by
  obtain ⟨k, h⟩ := h
  rw [show i + 1 + k = i + (k + 1) by omega] at h
  exact ⟨k + 1, by simpa using h⟩
theorem backs_rows {m : Mem} : ∀ {qs : List Pm} {i : Nat} {gone g' : List Root} {os : List PV}, backs m i gone qs = some (os, g') → ∀ t, IsRowVar i qs t → m.kr (.v t) = 0 ∧ ¬ Root.v t ∈ gone
  | [], i, gone, g', os, h, t, ht => by obtain ⟨k, h | ⟨_, _, h, _⟩⟩ := ht <;> simp at h
  | q :: qs, i, gone, g', os, h, t, ht => by
    simp only [backs] at h
    have ht := ht.cons
    cases q with
    | val =>
      rcases ht with ⟨h1, _⟩ | ⟨_, _, h1, _⟩ | ht
      · cases h1
      · cases h1
      · exact backs_rows h t ht
    | own =>
      rcases ht with ⟨h1, _⟩ | ⟨_, _, h1, _⟩ | ht
      · cases h1
      · cases h1
      · exact backs_rows h t ht
    | io n =>
      simp only at h
      split at h
      · split at h
        · split at h
          · rename_i ps g1 hb
            split at h
            · split at h
              · rename_i os' g2 hq
                rcases ht with ⟨h1, _⟩ | ⟨_, _, h1, _⟩ | ht
                · cases h1
                · cases h1
                · obtain ⟨a, b⟩ := backs_rows hq t ht
                  exact ⟨a, fun hx => b (outBox_mono hb _ hx)⟩
              · cases h
            · cases h
          · cases h
        · cases h
      · cases h
    | row =>
      simp only at h
      split at h
      · rename_i p g1 hb
        obtain ⟨a, b, c, d⟩ := rowBack_gone hb
        split at h
        · rename_i os' g2 hq
          rcases ht with ⟨_, rfl⟩ | ⟨_, _, h1, _⟩ | ht
          · exact ⟨a, b⟩
          · cases h1
          · obtain ⟨a', b'⟩ := backs_rows hq t ht
            exact ⟨a', fun hx => b' (d _ hx)⟩
        · cases h
      · cases h
    | rows ks =>
      simp only at h
      split at h
      · rename_i ps g1 hb
        obtain ⟨a, b⟩ := rowBacks_gone hb
        split at h
        · rename_i os' g2 hq
          rcases ht with ⟨h1, _⟩ | ⟨ks', j, h1, h2, rfl⟩ | ht
          · cases h1
          · simp only [Pm.rows.injEq] at h1
            subst h1
            have := b j h2
            rwa [Nat.zero_add] at this
          · obtain ⟨a', b'⟩ := backs_rows hq t ht
            exact ⟨a', fun hx => b' (a _ hx)⟩
        · cases h
      · cases h
section
variable {P : Program} {ar : Nat → Nat} {N : Nat} {E : Entry} {G : Gh} {s : St} {a : Act} {w w' : World} {ok0 : Bool → Nat → Prop} {Q : Nat → Prop}
theorem rowBacks_rep (h : Sim P ar N E G s a w') {i : Nat} : ∀ {ks : List Bool} {us : List Value} {Fs : List (List Nat)} {j : Nat} {gone g' : List Root} {ps : List PV}, us.length = ks.length → Fs.length = ks.length →
    (∀ (l : Nat) (u : Value), us[l]? = some u → G.E.hd0 (rowVar i (j + l)) = some u) → (∀ (l : Nat) (F : List Nat), Fs[l]? = some F → ks[l]? = some true → ∀ b, G.γ b = some (.r (.v (rowVar i (j + l)))) → b ∈ F ∨ Q b) →
    rowBacks s.m i j gone ks = some (ps, g') → ∃ D, RowOuts P w' G.ok Q ks ps us Fs D ∧ D.flatten.Nodup ∧ ∀ b ∈ D.flatten, Newly G gone g' b
  | [], us, Fs, j, gone, g', ps, hl, hl2, hd, hQ, ho => by
    obtain rfl := List.eq_nil_of_length_eq_zero hl
    obtain rfl := List.eq_nil_of_length_eq_zero hl2
    simp only [rowBacks, Option.some.injEq, Prod.mk.injEq] at ho
    obtain ⟨rfl, rfl⟩ := ho
    exact ⟨[], .nil, List.nodup_nil, by simp⟩
  | k :: ks, [], _, j, gone, g', ps, hl, hl2, hd, hQ, ho => by simp at hl
  | k :: ks, _ :: _, [], j, gone, g', ps, hl, hl2, hd, hQ, ho => by simp at hl2
  | k :: ks, u :: us, F :: Fs, j, gone, g', ps, hl, hl2, hd, hQ, ho => by
    simp only [rowBacks] at ho
    split at ho
    · rename_i p g1 hp
      split at ho
      · rename_i qs g2 hq
        simp only [Option.some.injEq, Prod.mk.injEq] at ho
        obtain ⟨rfl, rfl⟩ := ho
        obtain ⟨D, d1, d2, d3⟩ := rowBacks_rep h (by simpa using hl) (by simpa using hl2) (fun l u' hu => by
          have := hd (l + 1) u' (by simpa using hu)
          rwa [show j + (l + 1) = j + 1 + l by omega] at this) (fun l F' hF hk => by
          have := hQ (l + 1) F' (by simpa using hF) (by simpa using hk)
          rwa [show j + (l + 1) = j + 1 + l by omega] at this) hq
        obtain ⟨m1, _⟩ := rowBacks_gone hq
        cases k with
        | false =>
          simp only [Bool.false_eq_true, if_false, Option.some.injEq, Prod.mk.injEq] at hp
          obtain ⟨rfl, rfl⟩ := hp
          exact ⟨[] :: D, .untold _ _ _ _ _ _ _ _ d1, by simpa using d2, by simpa using d3⟩
        | true =>
          simp only [if_true] at hp
          obtain ⟨k0, kown, F', k1, k2, k3, k4, k5, k6⟩ := rowBack_rep h hp
          have hh := h.env.hd0 _ _ (hd 0 u rfl) k0
          rw [Nat.add_zero] at hh
          rw [hh] at k1
          refine ⟨F' :: D, .told _ _ _ _ _ _ _ _ _ kown k1 (fun b hb => hQ 0 F rfl rfl b (by rw [Nat.add_zero]; exact k6 b hb)) d1, ?_, ?_⟩
          · rw [List.flatten_cons]
            refine List.nodup_append.2 ⟨k2, d2, fun x hx y hy e => ?_⟩
            subst e
            exact (show Newly G gone g1 x from ⟨_, k4, k5, k6 x hx⟩).apart (d3 x hy)
          · intro b hb
            rw [List.flatten_cons] at hb
            rcases List.mem_append.1 hb with hb | hb
            · exact ⟨_, m1 _ k4, k5, k6 b hb⟩
            · exact (d3 b hb).mono' k3
      · cases ho
    · cases ho
theorem backs_rep (h : Sim P ar N E G s a w') : ∀ {qs : List Pm} {ps : List PV} {vs : List Value} {As Bs : List (List (List Nat))} {i : Nat} {gone g' : List Root} {os : List PV}, ArgsRep P w ok0 qs ps vs As Bs →
    (∀ (k n b off : Nat), qs[k]? = some (.io n) → vs[k]? = some (.pointer (some ⟨b, off, none⟩)) → ∃ arr ty, w.heap[b]? = some (.cells arr ty (0, 0)) ∧ off + n ≤ arr.size ∧ G.E.lent (i + k) = some ⟨b, off, n, arr, ty⟩) →
    (∀ (k : Nat) (v : Value), vs[k]? = some v → G.E.hd0 (i + k) = some v) → (∀ (k : Nat) (ks : List Bool) (us : List Value) (j : Nat) (u : Value), qs[k]? = some (.rows ks) → vs[k]? = some (.agg us.toArray) → us[j]? = some u → G.E.hd0 (rowVar (i + k) j) = some u) →
    (∀ t F, IsRowB i qs Bs t F → ∀ b, G.γ b = some (.r (.v t)) → b ∈ F ∨ Q b) → backs s.m i gone qs = some (os, g') →
    ∃ Cs Ds, OutsRep P w w' G.ok Q qs vs Bs os Cs Ds ∧ (Cs.flatten ++ Ds.flatten.flatten).Nodup ∧ (∀ x ∈ gone, x ∈ g') ∧ (∀ b ∈ Cs.flatten, (∃ k, i ≤ k ∧ G.γ b = some (.b k)) ∨ Newly G gone g' b) ∧ (∀ b ∈ Ds.flatten.flatten, Newly G gone g' b) ∧
      ∀ b ∈ Cs.flatten, ∀ t, IsRowVar i qs t → G.γ b ≠ some (.r (.v t)) := by
  intro qs
  induction qs with
  | nil =>
    intro ps vs As Bs i gone g' os hA hl hd hd2 hQ ho
    cases hA
    simp only [backs, Option.some.injEq, Prod.mk.injEq] at ho
    obtain ⟨rfl, rfl⟩ := ho
    exact ⟨[], [], .nil, List.nodup_nil, fun _ h => h, by simp, by simp, by simp⟩
  | cons q qs ih =>
    intro ps vs As Bs i gone g' os hA hl hd hd2 hQ ho
    cases hA with
    | cons _ p v A B _ ps vs As Bs hA1 hA2 =>
    have rest : ∀ {gone g' os}, backs s.m (i + 1) gone qs = some (os, g') → ∃ Cs Ds, OutsRep P w w' G.ok Q qs vs Bs os Cs Ds ∧ (Cs.flatten ++ Ds.flatten.flatten).Nodup ∧ (∀ x ∈ gone, x ∈ g') ∧ (∀ b ∈ Cs.flatten, (∃ k, i + 1 ≤ k ∧ G.γ b = some (.b k)) ∨ Newly G gone g' b) ∧ (∀ b ∈ Ds.flatten.flatten, Newly G gone g' b) ∧
        ∀ b ∈ Cs.flatten, ∀ t, IsRowVar (i + 1) qs t → G.γ b ≠ some (.r (.v t)) := fun ho =>
      ih hA2 (fun k n b off h1 h2 => by
          have := hl (k + 1) n b off (by simpa using h1) (by simpa using h2)
          rwa [show i + (k + 1) = i + 1 + k by omega] at this)
        (fun k v h1 => by
          have := hd (k + 1) v (by simpa using h1)
          rwa [show i + (k + 1) = i + 1 + k by omega] at this)
        (fun k ks us j u h1 h2 h3 => by
          have := hd2 (k + 1) ks us j u (by simpa using h1) (by simpa using h2) h3
          rwa [show i + (k + 1) = i + 1 + k by omega] at this)
        (fun t F ht => hQ t F ht.succ) ho
    simp only [backs] at ho
    have skip : (q = .val ∨ q = .own) → backs s.m (i + 1) gone qs = some (os, g') → ∃ Cs Ds, OutsRep P w w' G.ok Q (q :: qs) (v :: vs) (B :: Bs) os Cs Ds ∧ (Cs.flatten ++ Ds.flatten.flatten).Nodup ∧ (∀ x ∈ gone, x ∈ g') ∧ (∀ b ∈ Cs.flatten, (∃ k, i ≤ k ∧ G.γ b = some (.b k)) ∨ Newly G gone g' b) ∧ (∀ b ∈ Ds.flatten.flatten, Newly G gone g' b) ∧
        ∀ b ∈ Cs.flatten, ∀ t, IsRowVar i (q :: qs) t → G.γ b ≠ some (.r (.v t)) := fun hq ho => by
      obtain ⟨Cs, Ds, a1, a2, a3, a4, a5, a6⟩ := rest ho
      refine ⟨[] :: Cs, [] :: Ds, .skip _ _ _ _ _ _ _ _ _ hq a1, by simpa using a2, a3, fun b hb => ?_, by simpa using a5, fun b hb t ht => ?_⟩
      · rcases a4 b (by simpa using hb) with ⟨k, k1, k2⟩ | k
        · exact .inl ⟨k, by omega, k2⟩
        · exact .inr k
      · rcases ht.cons with ⟨h1, _⟩ | ⟨_, _, h1, _⟩ | ht
        · rcases hq with rfl | rfl <;> cases h1
        · rcases hq with rfl | rfl <;> cases h1
        · exact a6 b (by simpa using hb) t ht
    cases hA1 with
    | val _ _ _ => exact skip (.inl rfl) ho
    | own _ _ _ _ _ => exact skip (.inr rfl) ho
    | row _ _ F hown hrep =>
      simp only at ho
      split at ho
      · rename_i p1 g1 hbk
        split at ho
        · rename_i os' g2 hq
          simp only [Option.some.injEq, Prod.mk.injEq] at ho
          obtain ⟨rfl, rfl⟩ := ho
          obtain ⟨Cs, Ds, a1, a2, a3, a4, a5, a6⟩ := rest hq
          obtain ⟨k0, kown, F', k1, k2, k3, k4, k5, k6⟩ := rowBack_rep h hbk
          have hh := h.env.hd0 _ _ (hd 0 v rfl) (by rw [Nat.add_zero]; exact k0)
          rw [Nat.add_zero] at hh
          rw [hh] at k1
          have hnew : ∀ b ∈ F', Newly G gone g1 b := fun b hb => ⟨_, k4, k5, k6 b hb⟩
          refine ⟨[] :: Cs, [F'] :: Ds, .out _ _ _ _ _ _ _ _ _ _ _ _ (.row _ _ _ _ kown k1 (fun b hb => hQ i F ⟨0, .inl ⟨rfl, rfl, rfl⟩⟩ b (k6 b hb))) a1, ?_, fun x hx => a3 x (k3 x hx), fun b hb => ?_, fun b hb => ?_, fun b hb t ht => ?_⟩
          · simp only [List.flatten_cons, List.nil_append, List.flatten_nil, List.append_nil]
            have n1 := List.nodup_append.1 a2
            refine List.nodup_append.2 ⟨n1.1, List.nodup_append.2 ⟨k2, n1.2.1, fun x hx y hy e => ?_⟩, fun x hx y hy e => ?_⟩
            · subst e; exact (hnew x hx).apart (a5 x hy)
            · subst e
              rcases List.mem_append.1 hy with hy | hy
              · rcases a4 x hx with ⟨k, _, hk⟩ | k
                · rw [k6 x hy] at hk; cases hk
                · exact (hnew x hy).apart k
              · exact n1.2.2 x hx x hy rfl
          · rcases a4 b (by simpa using hb) with ⟨k, hk1, hk2⟩ | k
            · exact .inl ⟨k, by omega, hk2⟩
            · exact .inr (k.mono' k3)
          · simp only [List.flatten_cons, List.flatten_nil, List.append_nil] at hb
            rcases List.mem_append.1 hb with hb | hb
            · exact (hnew b hb).mono a3
            · exact (a5 b hb).mono' k3
          · simp only [List.flatten_cons, List.nil_append] at hb
            rcases ht.cons with ⟨_, rfl⟩ | ⟨_, _, h1, _⟩ | ht
            · intro hx
              rcases a4 b hb with ⟨k, _, hk⟩ | ⟨R, r1, r2, r3⟩
              · rw [hx] at hk; cases hk
              · rw [hx] at r3
                simp only [Option.some.injEq, Own.r.injEq] at r3
                subst r3
                exact r2 k4
            · cases h1
            · exact a6 b hb t ht
        · cases ho
      · cases ho
    | rows ks cs us Fs hm hrc =>
      simp only at ho
      split at ho
      · rename_i ps1 g1 hb
        have hb' := hb
        split at ho
        · rename_i os' g2 hq
          simp only [Option.some.injEq, Prod.mk.injEq] at ho
          obtain ⟨rfl, rfl⟩ := ho
          obtain ⟨Cs, Ds, a1, a2, a3, a4, a5, a6⟩ := rest hq
          have hlen : cs.length = ks.length := by rw [← hm, List.length_map]
          obtain ⟨D, d1, d2, d3⟩ := rowBacks_rep (Q := Q) h (ks := ks) (us := us) (Fs := B) (by rw [← hrc.length.1, hlen]) (by rw [hrc.length.2, hlen]) (fun l u hu => by
              have := hd2 0 ks us l u rfl rfl hu
              rwa [Nat.add_zero, ← Nat.zero_add l] at this) (fun l F hF hk => hQ _ F ⟨0, .inr ⟨ks, l, B, rfl, hk, by rw [Nat.add_zero, Nat.zero_add], rfl, hF⟩⟩) hb
          obtain ⟨m1, m2⟩ := rowBacks_gone hb
          refine ⟨[] :: Cs, D :: Ds, .out _ _ _ _ _ _ _ _ _ _ _ _ (.rows _ _ _ _ _ d1) a1, ?_, fun x hx => a3 x (m1 x hx), fun b hb => ?_, fun b hb => ?_, fun b hb t ht => ?_⟩
          · simp only [List.flatten_cons, List.nil_append, List.flatten_append]
            have n1 := List.nodup_append.1 a2
            refine List.nodup_append.2 ⟨n1.1, List.nodup_append.2 ⟨d2, n1.2.1, fun x hx y hy e => ?_⟩, fun x hx y hy e => ?_⟩
            · subst e; exact (d3 x hx).apart (a5 x hy)
            · subst e
              rcases List.mem_append.1 hy with hy | hy
              · rcases a4 x hx with ⟨k, _, hk⟩ | k
                · obtain ⟨R, _, _, hR⟩ := d3 x hy
                  rw [hk] at hR; cases hR
                · exact (d3 x hy).apart k
              · exact n1.2.2 x hx x hy rfl
          · rcases a4 b (by simpa using hb) with ⟨k, hk1, hk2⟩ | k
            · exact .inl ⟨k, by omega, hk2⟩
            · exact .inr (k.mono' m1)
          · simp only [List.flatten_cons, List.flatten_append] at hb
            rcases List.mem_append.1 hb with hb | hb
            · exact (d3 b hb).mono a3
            · exact (a5 b hb).mono' m1
          · simp only [List.flatten_cons, List.nil_append] at hb
            rcases ht.cons with ⟨h1, _⟩ | ⟨ks', j, h1, h2, rfl⟩ | ht
            · cases h1
            · simp only [Pm.rows.injEq] at h1
              subst h1
              intro hx
              rcases a4 b hb with ⟨k, _, hk⟩ | ⟨R, r1, r2, r3⟩
              · rw [hx] at hk; cases hk
              · rw [hx] at r3
                simp only [Option.some.injEq, Own.r.injEq] at r3
                subst r3
                refine r2 ?_
                -- the variable is given back in this step
                have := rowBacks_told hb' h2
                rwa [Nat.zero_add] at this
            · exact a6 b hb t ht
        · cases ho
      · cases ho
    | io n cs us Fs b0 off arr ty hcl hrc hg hsz hcell =>
      simp only at ho
      split at ho
      · rename_i hk0
        split at ho
        · rename_i cs' hcs
          split at ho
          · rename_i ps1 g1 hb
            split at ho
            · rename_i hpl
              split at ho
              · rename_i os' g2 hq
                simp only [Option.some.injEq, Prod.mk.injEq] at ho
                obtain ⟨rfl, rfl⟩ := ho
                obtain ⟨Cs, Ds, a1, a2, a3, a4, a5, a6⟩ := rest hq
                obtain ⟨arr0, ty0, l1, l2, l3⟩ := hl 0 n b0 off rfl rfl
                rw [Nat.add_zero] at l3
                obtain ⟨e1, ⟨arr', e2, e3, e4⟩, e5, e6⟩ := h.env.lent i _ l3
                obtain ⟨e7, e8⟩ := e5 hk0
                obtain ⟨arr2, ty2, g1', g2', g3', g4'⟩ := h.box i cs' hcs
                rw [e7] at g1' g2' g3' g4'
                simp only at e1 e2 e3 e4 g1' g2' g3' g4'
                rw [e2] at g1'
                simp only [Option.some.injEq, Obj.cells.injEq, and_true] at g1'
                obtain ⟨rfl, rfl⟩ := g1'
                have hlen : cs'.length = n := e8 cs' hcs
                let us' : List Value := (arr'.toList.drop off).take n
                have husl : us'.length = n := by
                  simp only [us', List.length_take, List.length_drop, Array.length_toList]; omega
                have hus : ∀ k v, us'[k]? = some v → arr'[off + k]? = some v := fun k v hv => by
                  simp only [us'] at hv
                  rw [List.getElem?_take] at hv
                  split at hv
                  · rw [List.getElem?_drop] at hv; simpa using hv
                  · cases hv
                obtain ⟨F', f1, f2, f3, f4⟩ := outBox_rep (o := i) h (cs := cs') (us := us') (j := 0) (by rw [hlen, husl]) (fun k c v h1 h2 => by
                    obtain ⟨v', F, k1, k2, k3, k4, k5⟩ := g4' k c h1
                    rw [hus k v h2] at k1
                    obtain rfl := Option.some.inj k1
                    exact ⟨F, k2, k3, fun b hb => by rw [Nat.zero_add]; exact k4 b hb, k5⟩) hb
                refine ⟨(b0 :: F') :: Cs, [] :: Ds, .out _ _ _ _ _ _ _ _ _ _ _ _ (.io n ps1 us' F' b0 off arr0 arr' ty0 hpl f1 l1 e2 e3 l2 e4 hus) a1, ?_, fun x hx => a3 x (f3 x hx), fun b hb => ?_, fun b hb => ?_, fun b hb t ht => ?_⟩
                · simp only [List.flatten_cons, List.nil_append, List.cons_append, List.append_assoc]
                  refine List.nodup_cons.2 ⟨fun hx => ?_, List.nodup_append.2 ⟨f2, a2, fun x hx y hy e => ?_⟩⟩
                  · rcases List.mem_append.1 hx with hx | hx
                    · obtain ⟨R, _, _, hR⟩ := f4 b0 hx
                      rw [e1] at hR; cases hR
                    · rcases List.mem_append.1 hx with hx | hx
                      · rcases a4 b0 hx with ⟨k, hk1, hk2⟩ | ⟨R, _, _, hR⟩
                        · rw [e1] at hk2
                          simp only [Option.some.injEq, Own.b.injEq] at hk2
                          omega
                        · rw [e1] at hR; cases hR
                      · obtain ⟨R, _, _, hR⟩ := a5 b0 hx
                        rw [e1] at hR; cases hR
                  · subst e
                    rcases List.mem_append.1 hy with hy | hy
                    · rcases a4 x hy with ⟨k, hk1, hk2⟩ | k
                      · obtain ⟨R, _, _, hR⟩ := f4 x hx
                        rw [hk2] at hR; cases hR
                      · exact (f4 x hx).apart k
                    · exact (f4 x hx).apart (a5 x hy)
                · simp only [List.flatten_cons, List.cons_append, List.mem_cons, List.mem_append] at hb
                  rcases hb with rfl | hb | hb
                  · exact .inl ⟨i, Nat.le_refl _, e1⟩
                  · exact .inr ((f4 b hb).mono a3)
                  · rcases a4 b hb with ⟨k, hk1, hk2⟩ | k
                    · exact .inl ⟨k, by omega, hk2⟩
                    · exact .inr (k.mono' f3)
                · simp only [List.flatten_cons, List.nil_append] at hb
                  exact (a5 b hb).mono' f3
                · rcases ht.cons with ⟨h1, _⟩ | ⟨_, _, h1, _⟩ | ht
                  · cases h1
                  · cases h1
                  · simp only [List.flatten_cons, List.cons_append, List.mem_cons, List.mem_append] at hb
                    rcases hb with rfl | hb | hb
                    · rw [e1]; simp
                    · intro hx
                      obtain ⟨R, r1, r2, r3⟩ := f4 b hb
                      rw [hx] at r3
                      simp only [Option.some.injEq, Own.r.injEq] at r3
                      subst r3
                      exact (backs_rows hq t ht).2 r1
                    · exact a6 b hb t ht
              · cases ho
            · cases ho
          · cases ho
        · cases ho
      · cases ho
end
end Go.Proofs.YtdbcnnehfbcldaaDoor.Pv
