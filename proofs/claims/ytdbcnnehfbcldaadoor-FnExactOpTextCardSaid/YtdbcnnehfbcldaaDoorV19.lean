/- A plain reading of Go code and its soundness, part 19. No condition. -/
import Derived.Test.YtdbcnnehfbcldaaDoorV18
set_option linter.all false
set_option linter.unusedSimpArgs false
set_option linter.unusedVariables false
set_option linter.unnecessarySimpa false
/- What a call leaves behind. No condition. -/
namespace Go.Proofs.YtdbcnnehfbcldaaDoor.Pv
open Go
inductive RepRs (P : Program) (w : World) (ok : Bool → Nat → Prop) : List PV → List Value → List Nat → Prop
  | nil : RepRs P w ok [] [] []
  | cons (r : PV) (v : Value) (F : List Nat) (rs : List PV) (vs : List Value) (G : List Nat) : Rep P w ok r v F → RepRs P w ok rs vs G → RepRs P w ok (r :: rs) (v :: vs) (F ++ G)
inductive RowOuts (P : Program) (w' : World) (ok : Bool → Nat → Prop) (Q : Nat → Prop) : List Bool → List PV → List Value → List (List Nat) → List (List Nat) → Prop
  | nil : RowOuts P w' ok Q [] [] [] [] []
  | told (c : PV) (v : Value) (F F' : List Nat) (ks : List Bool) (cs : List PV) (vs : List Value) (Fs Fs' : List (List Nat)) : ownP c = true → Rep P w' ok c v F' → (∀ b ∈ F', b ∈ F ∨ Q b) → RowOuts P w' ok Q ks cs vs Fs Fs' → RowOuts P w' ok Q (true :: ks) (c :: cs) (v :: vs) (F :: Fs) (F' :: Fs')
  | untold (c : PV) (v : Value) (F : List Nat) (ks : List Bool) (cs : List PV) (vs : List Value) (Fs Fs' : List (List Nat)) : RowOuts P w' ok Q ks cs vs Fs Fs' → RowOuts P w' ok Q (false :: ks) (c :: cs) (v :: vs) (F :: Fs) ([] :: Fs')
inductive OutRep (P : Program) (w w' : World) (ok : Bool → Nat → Prop) (Q : Nat → Prop) : Pm → Value → List (List Nat) → PV → List Nat → List (List Nat) → Prop
  | row (p : PV) (v : Value) (F F' : List Nat) : ownP p = true → Rep P w' ok p v F' → (∀ b ∈ F', b ∈ F ∨ Q b) → OutRep P w w' ok Q .row v [F] p [] [F']
  | rows (ks : List Bool) (cs : List PV) (vs : List Value) (Fs Fs' : List (List Nat)) : RowOuts P w' ok Q ks cs vs Fs Fs' → OutRep P w w' ok Q (.rows ks) (.agg vs.toArray) Fs (.agg cs) [] Fs'
  | io (n : Nat) (cs : List PV) (vs : List Value) (F : List Nat) (b off : Nat) (arr arr' : Array Value) (ty : TypeId) : cs.length = n → RepL P w' ok cs vs F → w.heap[b]? = some (.cells arr ty (0, 0)) → w'.heap[b]? = some (.cells arr' ty (0, 0)) → arr'.size = arr.size → off + n ≤ arr.size →
      (∀ j, (j < off ∨ off + n ≤ j) → arr'[j]? = arr[j]?) → (∀ j v, vs[j]? = some v → arr'[off + j]? = some v) → OutRep P w w' ok Q (.io n) (.pointer (some ⟨b, off, none⟩)) [] (.ref cs) (b :: F) []
inductive OutsRep (P : Program) (w w' : World) (ok : Bool → Nat → Prop) (Q : Nat → Prop) : List Pm → List Value → List (List (List Nat)) → List PV → List (List Nat) → List (List (List Nat)) → Prop
  | nil : OutsRep P w w' ok Q [] [] [] [] [] []
  | skip (q : Pm) (v : Value) (B : List (List Nat)) (qs : List Pm) (vs : List Value) (Bs : List (List (List Nat))) (outs : List PV) (Cs : List (List Nat)) (Ds : List (List (List Nat))) : q = .val ∨ q = .own → OutsRep P w w' ok Q qs vs Bs outs Cs Ds → OutsRep P w w' ok Q (q :: qs) (v :: vs) (B :: Bs) outs ([] :: Cs) ([] :: Ds)
  | out (q : Pm) (v : Value) (B : List (List Nat)) (p : PV) (C : List Nat) (D : List (List Nat)) (qs : List Pm) (vs : List Value) (Bs : List (List (List Nat))) (outs : List PV) (Cs : List (List Nat)) (Ds : List (List (List Nat))) : OutRep P w w' ok Q q v B p C D → OutsRep P w w' ok Q qs vs Bs outs Cs Ds → OutsRep P w w' ok Q (q :: qs) (v :: vs) (B :: Bs) (p :: outs) (C :: Cs) (D :: Ds)
def tupled : List Value → Value
  | [v] => v
  | vs => .tuple vs.toArray
structure EndRep (P : Program) (w w' : World) (ok0 : Bool → Nat → Prop) (qs : List Pm) (vs : List Value) (As Bs : List (List (List Nat))) (rs outs : List PV) (v : Value) (ok1 : Bool → Nat → Prop) (us : List Value) (Fr : List Nat) (Cs : List (List Nat)) (Ds : List (List (List Nat))) : Prop where
  mono : ∀ b, ok1 false b → ok1 true b
  os : w'.os = w.os
  tape : w'.tape = w.tape
  output : w'.output = w.output
  size : w.heap.size ≤ w'.heap.size
  same : ∀ b, b < w.heap.size → ¬ b ∈ handed As Bs → w'.heap[b]? = w.heap[b]?
  res : RepRs P w' ok1 rs us Fr
  val : v = tupled us
  outs : OutsRep P w w' ok1 (fun b => b ∈ pool As ∨ w.heap.size ≤ b) qs vs Bs outs Cs Ds
  nodup : (Fr ++ (Cs.flatten ++ Ds.flatten.flatten)).Nodup
  pool : ∀ b ∈ Fr ++ Cs.flatten, b ∈ Pv.pool As ∨ w.heap.size ≤ b
  ok : ∀ i b, ok1 i b → ¬ b ∈ Fr ++ (Cs.flatten ++ Ds.flatten.flatten) ∧ ¬ b ∈ Bs.flatten.flatten ∧ (b < w.heap.size → b ∈ handed As Bs ∨ ok0 i b)
def Ends (P : Program) (w w' : World) (ok0 : Bool → Nat → Prop) (qs : List Pm) (vs : List Value) (As Bs : List (List (List Nat))) (rs outs : List PV) (v : Value) : Prop :=
  ∃ ok1 us Fr Cs Ds, EndRep P w w' ok0 qs vs As Bs rs outs v ok1 us Fr Cs Ds
def Holds (P : Program) (qs : List Pm) (f : FuncId) (ps rs outs : List PV) : Prop :=
  ∀ (w : World) (ok0 : Bool → Nat → Prop) (vs : List Value) (As Bs : List (List (List Nat))), (∀ b, ok0 false b → ok0 true b) → ArgsRep P w ok0 qs ps vs As Bs → (handed As Bs).Nodup → (∀ i b, ok0 i b → ¬ b ∈ handed As Bs) →
    Calls P f vs.toArray w fun e w' => ∃ v, e = .returned v ∧ Ends P w w' ok0 qs vs As Bs rs outs v
def Sound (P : Program) (modes : FuncId → List Pm) (R : Oracle) : Prop := ∀ f ps rs outs, R f ps = some (rs, outs) → Holds P (modes f) f ps rs outs
section
variable {P : Program} {ar : Nat → Nat} {N : Nat} {E : Entry} {G : Gh} {s : St} {a : Act} {w w' : World}
def Newly (G : Gh) (gone gone' : List Root) (b : Nat) : Prop := ∃ R, R ∈ gone' ∧ ¬ R ∈ gone ∧ G.γ b = some (.r R)
theorem Newly.mono {g0 g1 g2 : List Root} {b : Nat} (h : Newly G g0 g1 b) (h2 : ∀ x ∈ g1, x ∈ g2) : Newly G g0 g2 b := by
  obtain ⟨R, a, b, c⟩ := h; exact ⟨R, h2 R a, b, c⟩
theorem Newly.mono' {g0 g1 g2 : List Root} {b : Nat} (h : Newly G g1 g2 b) (h2 : ∀ x ∈ g0, x ∈ g1) : Newly G g0 g2 b := by
  obtain ⟨R, a, b, c⟩ := h; exact ⟨R, a, fun hx => b (h2 R hx), c⟩
theorem Newly.apart {g0 g1 g2 : List Root} {b : Nat} (h : Newly G g0 g1 b) (h2 : Newly G g1 g2 b) : False := by
  obtain ⟨R, a1, _, c1⟩ := h
  obtain ⟨R2, _, b2, c2⟩ := h2
  rw [c1] at c2
  simp only [Option.some.injEq, Own.r.injEq] at c2
  subst c2
  exact b2 a1
theorem outCell_rep (h : Sim P ar N E G s a w) {c : AV} {v : Value} {F : List Nat} {gone g' : List Root} {p : PV} (hr : RepA P G w s.m c v F) (hn : F.Nodup) (ho : outCell s.m gone c = some (p, g')) :
    ∃ F', Rep P w G.ok p v F' ∧ (∀ ds, p ≠ .agg ds) ∧ F'.Nodup ∧ (∀ x ∈ gone, x ∈ g') ∧ ∀ b ∈ F', b ∈ F ∨ Newly G gone g' b := by
  cases c with
  | pv q =>
    simp only [outCell, Option.some.injEq, Prod.mk.injEq] at ho
    obtain ⟨rfl, rfl⟩ := ho
    cases hr with
    | pv _ _ _ hna hp => exact ⟨F, hp, hna, hn, fun _ h => h, fun b hb => .inl hb⟩
  | rw r =>
    simp only [outCell] at ho
    split at ho
    · rename_i q hd
      split at ho
      · rename_i hc
        simp only [Option.some.injEq, Prod.mk.injEq] at ho
        obtain ⟨rfl, rfl⟩ := ho
        have h1 : v.oneCell' = true := by cases hr <;> assumption
        obtain ⟨href, rfl⟩ := hr.of_deref hd
        obtain ⟨F', k1, k2, k3⟩ := h.root href
        refine ⟨F', k1, ?_, k2, fun x hx => List.mem_cons_of_mem _ hx, fun b hb => .inr ⟨r.root, List.mem_cons_self, hc.2, k3 b hb⟩⟩
        rintro ds rfl
        cases k1
        simp [Value.oneCell'] at h1
      · cases ho
    · cases ho
  | _ => simp [outCell] at ho
theorem outCells_rep (h : Sim P ar N E G s a w) : ∀ {cs : List AV} {vs : List Value} {F : List Nat} {gone g' : List Root} {ps : List PV} {L : Own}, RepAL P G w s.m cs vs F → F.Nodup → (∀ b ∈ F, G.γ b = some L) → (∀ R, L ≠ .r R) → outCells s.m gone cs = some (ps, g') →
    ∃ F', RepL P w G.ok ps vs F' ∧ F'.Nodup ∧ (∀ x ∈ gone, x ∈ g') ∧ ∀ b ∈ F', b ∈ F ∨ Newly G gone g' b
  | [], _, _, gone, g', ps, L, hr, hn, hL, hLr, ho => by
    cases hr
    simp only [outCells, Option.some.injEq, Prod.mk.injEq] at ho
    obtain ⟨rfl, rfl⟩ := ho
    exact ⟨[], .nil, List.nodup_nil, fun _ h => h, by simp⟩
  | c :: cs, _, _, gone, g', ps, L, hr, hn, hL, hLr, ho => by
    cases hr with
    | cons c v F cs vs F2 h0 h1 h2 =>
      simp only [outCells] at ho
      split at ho
      · rename_i p g1 hp
        split at ho
        · rename_i qs g2 hq
          simp only [Option.some.injEq, Prod.mk.injEq] at ho
          obtain ⟨rfl, rfl⟩ := ho
          obtain ⟨n1, n2, n3⟩ := List.nodup_append.1 hn
          obtain ⟨Fa, a1, a2, a3, a4, a5⟩ := outCell_rep h h1 n1 hp
          obtain ⟨Fb, b1, b3, b4, b5⟩ := outCells_rep h h2 n2 (fun b hb => hL b (by simp [hb])) hLr hq
          refine ⟨Fa ++ Fb, .cons _ _ _ _ _ _ a2 a1 b1, List.nodup_append.2 ⟨a3, b3, fun x hx y hy e => ?_⟩, fun x hx => b4 x (a4 x hx), fun b hb => ?_⟩
          · subst e
            rcases a5 x hx with k1 | k1 <;> rcases b5 x hy with k2 | k2
            · exact n3 x k1 x k2 rfl
            · obtain ⟨R, _, _, hR⟩ := k2
              rw [hL x (by simp [k1])] at hR
              exact hLr R (Option.some.inj hR)
            · obtain ⟨R, _, _, hR⟩ := k1
              rw [hL x (by simp [k2])] at hR
              exact hLr R (Option.some.inj hR)
            · exact k1.apart k2
          · rcases List.mem_append.1 hb with hb | hb
            · rcases a5 b hb with k | k
              · exact .inl (by simp [k])
              · exact .inr (k.mono b4)
            · rcases b5 b hb with k | k
              · exact .inl (by simp [k])
              · exact .inr (k.mono' a4)
        · cases ho
      · cases ho
theorem outOne_rep (h : Sim P ar N E G s a w) {c : AV} {v : Value} {F : List Nat} {gone g' : List Root} {p : PV} {L : Own} (hr : RepA P G w s.m c v F) (hn : F.Nodup) (hL : ∀ b ∈ F, G.γ b = some L) (hLr : ∀ R, L ≠ .r R) (ho : outOne s.m gone c = some (p, g')) :
    ∃ F', Rep P w G.ok p v F' ∧ F'.Nodup ∧ (∀ x ∈ gone, x ∈ g') ∧ ∀ b ∈ F', b ∈ F ∨ Newly G gone g' b := by
  have other : outCell s.m gone c = some (p, g') → ∃ F', Rep P w G.ok p v F' ∧ F'.Nodup ∧ (∀ x ∈ gone, x ∈ g') ∧ ∀ b ∈ F', b ∈ F ∨ Newly G gone g' b := fun ho => by
    obtain ⟨F', k1, _, k3, k4, k5⟩ := outCell_rep h hr hn ho
    exact ⟨F', k1, k3, k4, k5⟩
  cases c with
  | agg cs =>
    simp only [outOne, Option.map_eq_some_iff] at ho
    obtain ⟨⟨ps, g1⟩, h1, h2⟩ := ho
    simp only [Prod.mk.injEq] at h2
    obtain ⟨rfl, rfl⟩ := h2
    cases hr with
    | agg _ vs _ hl =>
      obtain ⟨F', k1, k2, k3, k4⟩ := outCells_rep h hl hn hL hLr h1
      exact ⟨F', .agg _ _ _ k1, k2, k3, k4⟩
  | _ => exact other ho
theorem outs_rep (h : Sim P ar N E G s a w) : ∀ {ts : List Nat} {cs : List AV} {vs : List Value} {gone g' : List Root} {rs : List PV}, ts.Nodup → vs.length = ts.length → cs.length = ts.length → (∀ (i t : Nat) (c : AV) (v : Value), ts[i]? = some t → cs[i]? = some c → vs[i]? = some v → TmpAt P G w s.m t c v) → outs s.m gone cs = some (rs, g') →
    ∃ F', RepRs P w G.ok rs vs F' ∧ F'.Nodup ∧ (∀ x ∈ gone, x ∈ g') ∧ ∀ b ∈ F', (∃ t ∈ ts, G.γ b = some (.t t)) ∨ Newly G gone g' b
  | [], cs, vs, gone, g', rs, hn, hl, hl2, hv, ho => by
    obtain rfl := List.eq_nil_of_length_eq_zero hl
    obtain rfl := List.eq_nil_of_length_eq_zero hl2
    simp only [outs, Option.some.injEq, Prod.mk.injEq] at ho
    obtain ⟨rfl, rfl⟩ := ho
    exact ⟨[], .nil, List.nodup_nil, fun _ h => h, by simp⟩
  | t :: ts, cs, [], gone, g', rs, hn, hl, hl2, hv, ho => by simp at hl
  | t :: ts, [], v :: vs, gone, g', rs, hn, hl, hl2, hv, ho => by simp at hl2
  | t :: ts, c :: cs, v :: vs, gone, g', rs, hn, hl, hl2, hv, ho => by
    simp only [outs] at ho
    split at ho
    · rename_i p g1 hp
      split at ho
      · rename_i qs g2 hq
        simp only [Option.some.injEq, Prod.mk.injEq] at ho
        obtain ⟨rfl, rfl⟩ := ho
        obtain ⟨F, r1, r2, r3⟩ := hv 0 t c v rfl rfl rfl
        obtain ⟨Fa, a1, a2, a3, a4⟩ := outOne_rep h r1 r2 r3 (by simp) hp
        obtain ⟨Fb, b1, b2, b3, b4⟩ := outs_rep h (List.nodup_cons.1 hn).2 (by simpa using hl) (by simpa using hl2) (fun i t' c' v' h1 h2 h3 => hv (i + 1) t' c' v' (by simpa using h1) (by simpa using h2) (by simpa using h3)) hq
        refine ⟨Fa ++ Fb, .cons _ _ _ _ _ _ a1 b1, List.nodup_append.2 ⟨a2, b2, fun x hx y hy e => ?_⟩, fun x hx => b3 x (a3 x hx), fun b hb => ?_⟩
        · subst e
          rcases a4 x hx with k1 | k1 <;> rcases b4 x hy with ⟨t', k2, k3⟩ | k2
          · rw [r3 x k1] at k3
            simp only [Option.some.injEq, Own.t.injEq] at k3
            subst k3
            exact (List.nodup_cons.1 hn).1 k2
          · obtain ⟨R, _, _, hR⟩ := k2
            rw [r3 x k1] at hR; cases hR
          · obtain ⟨R, _, _, hR⟩ := k1
            rw [k3] at hR; cases hR
          · exact k1.apart k2
        · rcases List.mem_append.1 hb with hb | hb
          · rcases a4 b hb with k | k
            · exact .inl ⟨t, List.mem_cons_self, r3 b k⟩
            · exact .inr (k.mono b3)
          · rcases b4 b hb with ⟨t', k1, k2⟩ | k
            · exact .inl ⟨t', List.mem_cons_of_mem _ k1, k2⟩
            · exact .inr (k.mono' a3)
      · cases ho
    · cases ho
theorem outBox_rep (h : Sim P ar N E G s a w) {o : Nat} : ∀ {cs : List AV} {us : List Value} {j : Nat} {gone g' : List Root} {ps : List PV}, cs.length = us.length →
    (∀ k c v, cs[k]? = some c → us[k]? = some v → ∃ F, RepA P G w s.m c v F ∧ F.Nodup ∧ (∀ b ∈ F, G.γ b = some (.r (.c o (j + k)))) ∧ ∀ ds, c ≠ .agg ds) → outBox s.m o j gone cs = some (ps, g') →
    ∃ F', RepL P w G.ok ps us F' ∧ F'.Nodup ∧ (∀ x ∈ gone, x ∈ g') ∧ ∀ b ∈ F', Newly G gone g' b
  | [], us, j, gone, g', ps, hl, hc, ho => by
    obtain rfl := List.eq_nil_of_length_eq_zero hl.symm
    simp only [outBox, Option.some.injEq, Prod.mk.injEq] at ho
    obtain ⟨rfl, rfl⟩ := ho
    exact ⟨[], .nil, List.nodup_nil, fun _ h => h, by simp⟩
  | c :: cs, [], j, gone, g', ps, hl, hc, ho => by simp at hl
  | c :: cs, v :: us, j, gone, g', ps, hl, hc, ho => by
    obtain ⟨F, r1, r2, r3, r4⟩ := hc 0 c v rfl rfl
    rw [Nat.add_zero] at r3
    simp only [outBox] at ho
    split at ho
    · rename_i p g1 hp
      split at ho
      · rename_i qs g2 hq
        simp only [Option.some.injEq, Prod.mk.injEq] at ho
        obtain ⟨rfl, rfl⟩ := ho
        have first : ∃ F', Rep P w G.ok p v F' ∧ (∀ ds, p ≠ .agg ds) ∧ F'.Nodup ∧ (∀ x ∈ gone, x ∈ g1) ∧ ∀ b ∈ F', Newly G gone g1 b := by
          split at hp
          · rename_i q
            have hq := r1
            cases hq with
            | pv _ _ _ hna hrep =>
            split at hp
            · split at hp
              · cases hp
              · rename_i hng
                simp only [Option.some.injEq, Prod.mk.injEq] at hp
                obtain ⟨rfl, rfl⟩ := hp
                exact ⟨F, hrep, hna, r2, fun x hx => List.mem_cons_of_mem _ hx, fun b hb => ⟨_, List.mem_cons_self, hng, r3 b hb⟩⟩
            · rename_i hown
              simp only [Option.some.injEq, Prod.mk.injEq] at hp
              obtain ⟨rfl, rfl⟩ := hp
              have hF : F = [] := hrep.own_nil (by simpa using hown) hna
              subst hF
              exact ⟨[], hrep, hna, r2, fun _ h => h, by simp⟩
          · rename_i hnp
            obtain ⟨F', k1, k2, k3, k4, k5⟩ := outCell_rep h r1 r2 hp
            refine ⟨F', k1, k2, k3, k4, fun b hb => ?_⟩
            rcases k5 b hb with k | k
            · exfalso
              cases r1 with
              | pv q _ _ _ _ => exact hnp q rfl
              | agg _ _ _ _ => exact r4 _ rfl
              | _ => simp at k
            · exact k
        obtain ⟨Fa, a1, a2, a3, a4, a5⟩ := first
        obtain ⟨Fb, b1, b2, b3, b4⟩ := outBox_rep (o := o) h (by simpa using hl) (fun k c' v' h1 h2 => by
          obtain ⟨F', f1, f2, f3, f4⟩ := hc (k + 1) c' v' (by simpa using h1) (by simpa using h2)
          exact ⟨F', f1, f2, fun b hb => by rw [f3 b hb, show j + (k + 1) = j + 1 + k by omega], f4⟩) hq
        refine ⟨Fa ++ Fb, .cons _ _ _ _ _ _ a2 a1 b1, List.nodup_append.2 ⟨a3, b2, fun x hx y hy e => ?_⟩, fun x hx => b3 x (a4 x hx), fun b hb => ?_⟩
        · subst e; exact (a5 x hx).apart (b4 x hy)
        · rcases List.mem_append.1 hb with hb | hb
          · exact (a5 b hb).mono b3
          · exact (b4 b hb).mono' a4
      · cases ho
    · cases ho
theorem rowBack_rep (h : Sim P ar N E G s a w) {t : Nat} {gone g' : List Root} {p : PV} (ho : rowBack s.m gone t = some (p, g')) :
    s.m.kr (.v t) = 0 ∧ ownP p = true ∧ ∃ F', Rep P w G.ok p (G.hd t) F' ∧ F'.Nodup ∧ (∀ x ∈ gone, x ∈ g') ∧ Root.v t ∈ g' ∧ ¬ Root.v t ∈ gone ∧ ∀ b ∈ F', G.γ b = some (.r (.v t)) := by
  unfold rowBack at ho
  split at ho
  · rename_i q hq
    split at ho
    · rename_i hc
      simp only [Option.some.injEq, Prod.mk.injEq] at ho
      obtain ⟨rfl, rfl⟩ := ho
      obtain ⟨F, k1, k2, k3⟩ := h.row t q hq
      exact ⟨hc.2.1, hc.2.2, F, k1, k2, fun x hx => List.mem_cons_of_mem _ hx, List.mem_cons_self, hc.1, k3⟩
    · cases ho
  · cases ho
end
end Go.Proofs.YtdbcnnehfbcldaaDoor.Pv
