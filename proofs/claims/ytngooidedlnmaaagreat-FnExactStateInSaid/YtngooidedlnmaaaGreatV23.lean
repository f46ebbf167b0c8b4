/- A plain reading of Go code and its soundness, part 23. No condition. -/
import Derived.Test.YtngooidedlnmaaaGreatV22
set_option linter.all false
set_option linter.unusedSimpArgs false
set_option linter.unusedVariables false
set_option linter.unnecessarySimpa false
/- A call's arguments, as the machine hands them over. No condition. -/
namespace Go.Proofs.YtngooidedlnmaaaGreat.Pv
open Go
section
variable {P : Program} {ar : Nat → Nat} {N : Nat} {E : Entry} {G G' : Gh} {s : St} {a : Act} {w w' : World} {m m' m2 : Mem} {ok ok' : Bool → Nat → Prop} {t' : Nat → AV}
inductive TakesRep (P : Program) (G : Gh) (w : World) (m : Mem) : List Pm → List AV → List Value → List (Option PV) → List Nat → List Nat → Prop
  | nil : TakesRep P G w m [] [] [] [] [] []
  | own (a : AV) (p : PV) (v : Value) (F : List Nat) (qs : List Pm) (as : List AV) (vs : List Value) (xs : List (Option PV)) (I Fv : List Nat) : ownP p = true → Rep P w G.ok p v F → TakesRep P G w m qs as vs xs I Fv → TakesRep P G w m (.own :: qs) (a :: as) (v :: vs) (some p :: xs) (F ++ I) Fv
  | io (n o k c : Nat) (cs : List PV) (us : List Value) (Fs : List (List Nat)) (arr : Array Value) (ty : TypeId) (qs : List Pm) (as : List AV) (vs : List Value) (xs : List (Option PV)) (I Fv : List Nat) : m.kb o = k → cs.length = n → RowCells P w G.ok cs us Fs → w.heap[(G.β o).1]? = some (.cells arr ty (0, 0)) →
      (G.β o).2 + c + n ≤ arr.size → (∀ j u, us[j]? = some u → arr[(G.β o).2 + c + j]? = some u) → (∃ cs0, m.b o = some cs0 ∧ c + n ≤ cs0.length) → TakesRep P G w m qs as vs xs I Fv →
      TakesRep P G w m (.io n :: qs) (.ptr o k c :: as) (.pointer (some ⟨(G.β o).1, (G.β o).2 + c, none⟩) :: vs) (some (.ref cs) :: xs) (Fs.flatten ++ I) Fv
  | skip (q : Pm) (a : AV) (v : Value) (F : List Nat) (qs : List Pm) (as : List AV) (vs : List Value) (xs : List (Option PV)) (I Fv : List Nat) : q ≠ .own → (∀ n, q ≠ .io n) → RepA P G w m a v F → TakesRep P G w m qs as vs xs I Fv → TakesRep P G w m (q :: qs) (a :: as) (v :: vs) (none :: xs) I (F ++ Fv)
theorem TakesRep.len {qs : List Pm} {as : List AV} {vs : List Value} {xs : List (Option PV)} {I Fv : List Nat} (h : TakesRep P G w m qs as vs xs I Fv) : as.length = qs.length ∧ vs.length = qs.length ∧ xs.length = qs.length := by
  induction h <;> simp_all
theorem take_boxes (m : Mem) (r : Root) (o : Nat) (cs : List AV) (h : m.b o = some cs) : ∃ cs', (m.take r).b o = some cs' ∧ cs'.length = cs.length := by
  unfold Mem.take Mem.bumpR
  cases r with
  | v t => exact ⟨cs, h, rfl⟩
  | c ob n =>
    simp only
    split
    · rename_i cs0 hcs0
      by_cases e : o = ob
      · subst e
        rw [h] at hcs0
        obtain rfl := Option.some.inj hcs0
        exact ⟨_, by simp only [upd_same]; rfl, by simp⟩
      · exact ⟨cs, by simp only [upd_ne _ _ _ _ e]; exact h, rfl⟩
    · exact ⟨cs, h, rfl⟩
theorem undef_boxes (m : Mem) (o c n o' : Nat) (cs cs0 : List AV) (hb : m.b o = some cs0) (hc : c + n ≤ cs0.length) (h : m.b o' = some cs) : ∃ cs', (m.undefCells o c n).b o' = some cs' ∧ cs'.length = cs.length := by
  rw [undefCells_b hb]
  by_cases e : o' = o
  · subst e
    rw [hb] at h
    obtain rfl := Option.some.inj h
    exact ⟨_, by simp only [upd_same], undef_len hc⟩
  · exact ⟨cs, by simp only [upd_ne _ _ _ _ e]; exact h, rfl⟩
theorem undefCells_kb (m : Mem) (o c n : Nat) : (m.undefCells o c n).kb = m.kb := by
  unfold Mem.undefCells; split <;> rfl
theorem take_rep {q : Pm} {c : AV} {v : Value} {F : List Nat} {x : Option PV} (h : Sim P ar N E G ⟨t', m⟩ a w) (hr : RepA P G w m c v F) (hn : F.Nodup) (hF : ∀ b ∈ F, G.γ b = some .x) (ht : takeIn m q c = some (x, m')) :
    ∃ G1 I Fv, Sim P ar N E G1 ⟨t', m'⟩ a w ∧ Grow P G G1 w w m m' ∧ (∀ b, G.γ b = some .x → G1.γ b = some .x) ∧ m'.kb = m.kb ∧ (∀ o cs, m.b o = some cs → ∃ cs', m'.b o = some cs' ∧ cs'.length = cs.length) ∧ (I ++ Fv).Nodup ∧ (∀ b ∈ I ++ Fv, G1.γ b = some .x ∧ (b ∈ F ∨ G.γ b ≠ some .x)) ∧
      TakesRep P G1 w m' [q] [c] [v] [x] I Fv := by
  have same : (q ≠ .own ∧ ∀ n, q ≠ .io n) → x = none → m' = m → ∃ G1 I Fv, Sim P ar N E G1 ⟨t', m'⟩ a w ∧ Grow P G G1 w w m m' ∧ (∀ b, G.γ b = some .x → G1.γ b = some .x) ∧ m'.kb = m.kb ∧ (∀ o cs, m.b o = some cs → ∃ cs', m'.b o = some cs' ∧ cs'.length = cs.length) ∧ (I ++ Fv).Nodup ∧ (∀ b ∈ I ++ Fv, G1.γ b = some .x ∧ (b ∈ F ∨ G.γ b ≠ some .x)) ∧
      TakesRep P G1 w m' [q] [c] [v] [x] I Fv := by
    rintro hq rfl rfl
    refine ⟨G, [], F, h, Grow.labels rfl rfl rfl (fun _ _ h => h) (fun _ h => h), fun _ h => h, rfl, fun o cs h => ⟨cs, h, rfl⟩, by simpa using hn, fun b hb => ⟨hF b (by simpa using hb), .inl (by simpa using hb)⟩, ?_⟩
    have := TakesRep.skip (P := P) (G := G) (w := w) (m := m') q c v F [] [] [] [] [] [] hq.1 hq.2 hr .nil
    simpa using this
  cases q with
  | val => simp only [takeIn, Option.some.injEq, Prod.mk.injEq] at ht; exact same ⟨by simp, by simp⟩ ht.1.symm ht.2.symm
  | row => simp only [takeIn, Option.some.injEq, Prod.mk.injEq] at ht; exact same ⟨by simp, by simp⟩ ht.1.symm ht.2.symm
  | rows ks => simp only [takeIn, Option.some.injEq, Prod.mk.injEq] at ht; exact same ⟨by simp, by simp⟩ ht.1.symm ht.2.symm
  | own =>
    cases c with
    | pv p =>
      simp only [takeIn] at ht
      split at ht
      · rename_i ho
        simp only [Option.some.injEq, Prod.mk.injEq] at ht
        obtain ⟨rfl, rfl⟩ := ht
        refine ⟨G, F, [], h, Grow.labels rfl rfl rfl (fun _ _ h => h) (fun _ h => h), fun _ h => h, rfl, fun o cs h => ⟨cs, h, rfl⟩, by simpa using hn, fun b hb => ⟨hF b (by simpa using hb), .inl (by simpa using hb)⟩, ?_⟩
        have := TakesRep.own (P := P) (G := G) (w := w) (m := m) (.pv p) p v F [] [] [] [] [] [] ho hr.of_pv .nil
        simpa using this
      · cases ht
    | rw r =>
      simp only [takeIn] at ht
      split at ht
      · rename_i hpath
        split at ht
        · rename_i p hd
          split at ht
          · rename_i ho
            simp only [Option.some.injEq, Prod.mk.injEq] at ht
            obtain ⟨rfl, rfl⟩ := ht
            obtain ⟨⟨hv, p0, v0, k1, k2, k3⟩, rfl⟩ := hr.of_deref hd
            rw [hpath] at k3
            obtain ⟨rfl, rfl⟩ := k3.nil_inv
            obtain ⟨G1, F1, u, g1, g2, g3, g4, g5, g6, g7⟩ := h.takeRoot k1
            have := g2.unique k2
            subst this
            refine ⟨G1, F1, [], g1, g7, g6, take_kb _, fun o cs h => take_boxes m r.root o cs h, by simpa using g4, fun b hb => ?_, ?_⟩
            · have hb : b ∈ F1 := by simpa using hb
              exact ⟨(g5 b hb).1, .inr (by rw [(g5 b hb).2]; simp)⟩
            · have := TakesRep.own (P := P) (G := G1) (w := w) (m := m.take r.root) (.rw r) p0 u F1 [] [] [] [] [] [] ho g3 .nil
              simpa using this
          · cases ht
        · cases ht
      · cases ht
    | _ => simp [takeIn] at ht
  | io n =>
    cases c with
    | ptr o k c =>
      simp only [takeIn] at ht
      split at ht
      · rename_i hk
        split at ht
        · rename_i cs hb
          split at ht
          · rename_i ps hps
            split at ht
            · rename_i hl0
              obtain ⟨hl, hn1⟩ := hl0
              simp only [Option.some.injEq, Prod.mk.injEq] at ht
              obtain ⟨rfl, rfl⟩ := ht
              obtain ⟨rfl, rfl⟩ := hr.of_ptr hk
              have hcs := pvs_some hps
              have hlen : ((cs.drop c).take n).length = n := by rw [hcs, List.length_map, hl]
              have hfit : c + n ≤ cs.length ∨ n = 0 := by
                simp only [List.length_take, List.length_drop] at hlen
                omega
              have hget : ∀ j p, ps[j]? = some p → cs[c + j]? = some (.pv p) := fun j p hj => by
                have : ((cs.drop c).take n)[j]? = some (.pv p) := by rw [hcs, List.getElem?_map, hj]; rfl
                rw [List.getElem?_take] at this
                split at this
                · rw [List.getElem?_drop] at this; exact this
                · cases this
              rcases hfit with hfit | hn0
              · obtain ⟨G1, g1, g2, g3, g4, g5⟩ := h.takeCells (o := o) (c := c) (n := n) hb hfit
                obtain ⟨arr, ty, b1, b2, b3, b4⟩ := h.box o cs hb
                have hbeta : G1.β o = G.β o := g2.beta o (by rw [undefCells_kb])
                -- the cells, each with its blocks
                have cells : ∀ (l : List PV) (j0 : Nat), (∀ j p, l[j]? = some p → cs[c + j0 + j]? = some (.pv p)) → j0 + l.length ≤ n → ∃ us Fs, RowCells P w G1.ok l us Fs ∧ (∀ j u, us[j]? = some u → arr[(G.β o).2 + c + j0 + j]? = some u) ∧ Fs.flatten.Nodup ∧ ∀ b ∈ Fs.flatten, ∃ j, c + j0 ≤ j ∧ j < c + n ∧ G.γ b = some (.r (.c o j)) := by
                  intro l
                  induction l with
                  | nil => intro j0 _ _; exact ⟨[], [], .nil, by simp, by simp, by simp⟩
                  | cons p l ih =>
                    intro j0 hl0 hle
                    simp only [List.length_cons] at hle
                    obtain ⟨us, Fs, i1, i2, i3, i4⟩ := ih (j0 + 1) (fun j q hj => by
                      have := hl0 (j + 1) q (by simpa using hj)
                      rwa [show c + j0 + (j + 1) = c + (j0 + 1) + j by omega] at this) (by omega)
                    have h0 := hl0 0 p rfl
                    rw [Nat.add_zero] at h0
                    obtain ⟨v, F, k1, k2, k3, k4, k5⟩ := b4 (c + j0) _ h0
                    cases k2 with
                    | pv _ _ _ hna hp =>
                      refine ⟨v :: us, F :: Fs, .cons _ _ _ _ _ _ hna (hp.frame g2.hk (Nat.le_refl _) (fun _ _ _ _ => rfl) (fun _ _ => rfl)) i1, fun j u hj => ?_, ?_, fun b hb => ?_⟩
                      · cases j with
                        | zero => simp at hj; subst hj; rw [Nat.add_zero, show (G.β o).2 + c + j0 = (G.β o).2 + (c + j0) by omega]; exact k1
                        | succ j =>
                          have := i2 j u (by simpa using hj)
                          rwa [show (G.β o).2 + c + j0 + (j + 1) = (G.β o).2 + c + (j0 + 1) + j by omega]
                      · rw [List.flatten_cons]
                        refine List.nodup_append.2 ⟨k3, i3, fun x hx y hy e => ?_⟩
                        subst e
                        obtain ⟨j, j1, _, j3⟩ := i4 x hy
                        rw [k4 x hx] at j3
                        simp only [Option.some.injEq, Own.r.injEq, Root.c.injEq, true_and] at j3
                        omega
                      · rw [List.flatten_cons] at hb
                        rcases List.mem_append.1 hb with hb | hb
                        · exact ⟨c + j0, Nat.le_refl _, by omega, k4 b hb⟩
                        · obtain ⟨j, j1, j2, j3⟩ := i4 b hb
                          exact ⟨j, by omega, j2, j3⟩
                obtain ⟨us, Fs, c1, c2, c3, c4⟩ := cells ps 0 (fun j p hj => by rw [Nat.add_zero]; exact hget j p hj) (by omega)
                refine ⟨G1, Fs.flatten, [], g1, g2, g3, undefCells_kb _ _ _ _, fun o' cs' h' => undef_boxes m o c n o' cs' cs hb hfit h', by simpa using c3, fun b hb => ?_, ?_⟩
                · obtain ⟨j, j1, j2, j3⟩ := c4 b (by simpa using hb)
                  exact ⟨g4 j b (by omega) j2 j3, .inr (by rw [j3]; simp)⟩
                · have := TakesRep.io (P := P) (G := G1) (w := w) (m := m.undefCells o c n) n o k c ps us Fs arr ty [] [] [] [] [] [] (by rw [undefCells_kb]; exact hk) hl c1 (by rw [hbeta]; exact b1) (by rw [hbeta]; omega) (fun j u hj => by rw [hbeta]; have := c2 j u hj; rwa [Nat.add_zero] at this) (by
                    obtain ⟨cs', e1, e2⟩ := undef_boxes m o c n o cs cs hb hfit hb
                    exact ⟨cs', e1, by omega⟩) .nil
                  rw [hbeta] at this
                  simpa using this
              · omega
            · cases ht
          · cases ht
        · cases ht
      · cases ht
    | _ => simp [takeIn] at ht
theorem TakesRep.grow {w2 : World} (hg : Grow P G G' w w2 m m') (hkb : m'.kb = m.kb) (hbx : ∀ o cs, m.b o = some cs → ∃ cs', m'.b o = some cs' ∧ cs'.length = cs.length) (hh : ∀ b o, G.γ b = some (.b o) → w2.heap[b]? = w.heap[b]?) (hlab : ∀ o cs, m.b o = some cs → G.γ (G.β o).1 = some (.b o)) {qs : List Pm} {as : List AV} {vs : List Value} {xs : List (Option PV)} {I Fv : List Nat} (h : TakesRep P G w m qs as vs xs I Fv)
    (hI : ∀ b ∈ I ++ Fv, w2.heap[b]? = w.heap[b]?) : TakesRep P G' w2 m' qs as vs xs I Fv := by
  induction h with
  | nil => exact .nil
  | own a p v F qs as vs xs I Fv ho hp _ ih =>
    exact .own _ _ _ _ _ _ _ _ _ _ ho (hp.frame hg.hk hg.size hg.ho (fun b hb => hI b (by simp [hb]))) (ih (fun b hb => hI b (by simp only [List.append_assoc]; exact List.mem_append_right _ hb)))
  | io n o k c cs us Fs arr ty qs as vs xs I Fv hk hl hr hw hs hc hb _ ih =>
    have hbeta : G'.β o = G.β o := hg.beta o (by rw [hkb])
    obtain ⟨cs0, hb1, hb2⟩ := hb
    obtain ⟨cs1, hb3, hb4⟩ := hbx o cs0 hb1
    have := TakesRep.io (P := P) (G := G') (w := w2) (m := m') n o k c cs us Fs arr ty qs as vs xs I Fv (by rw [hkb]; exact hk) hl (hr.frame hg.hk hg.size hg.ho (fun b hb => hI b (by simp [hb]))) (by rw [hbeta, hh _ o (hlab o cs0 hb1)]; exact hw) (by rw [hbeta]; exact hs) (by rw [hbeta]; exact hc) ⟨cs1, hb3, by omega⟩
      (ih (fun b hb => hI b (by simp only [List.append_assoc]; exact List.mem_append_right _ hb)))
    rw [hbeta] at this
    exact this
  | skip q a v F qs as vs xs I Fv h1 h2 hr _ ih =>
    exact .skip _ _ _ _ _ _ _ _ _ _ h1 h2 (hr.grow hg (fun b hb => hI b (by simp [hb]))) (ih (fun b hb => hI b (by
      rcases List.mem_append.1 hb with hb | hb
      · exact List.mem_append_left _ hb
      · exact List.mem_append_right _ (List.mem_append_right _ hb))))
theorem takes_rep : ∀ {qs : List Pm} {as : List AV} {vs : List Value} {F : List Nat} {G : Gh} {m m' : Mem} {xs : List (Option PV)}, Sim P ar N E G ⟨t', m⟩ a w → RepO P G w m as vs F → F.Nodup → (∀ b ∈ F, G.γ b = some .x) → takesIn m qs as = some (xs, m') →
    ∃ G1 I Fv, Sim P ar N E G1 ⟨t', m'⟩ a w ∧ Grow P G G1 w w m m' ∧ (∀ b, G.γ b = some .x → G1.γ b = some .x) ∧ m'.kb = m.kb ∧ (∀ o cs, m.b o = some cs → ∃ cs', m'.b o = some cs' ∧ cs'.length = cs.length) ∧ (I ++ Fv).Nodup ∧ (∀ b ∈ I ++ Fv, G1.γ b = some .x ∧ (b ∈ F ∨ G.γ b ≠ some .x)) ∧
      TakesRep P G1 w m' qs as vs xs I Fv
  | [], [], vs, F, G, m, m', xs, h, hr, hn, hF, ht => by
    cases hr
    simp only [takesIn, Option.some.injEq, Prod.mk.injEq] at ht
    obtain ⟨rfl, rfl⟩ := ht
    exact ⟨G, [], [], h, Grow.labels rfl rfl rfl (fun _ _ h => h) (fun _ h => h), fun _ h => h, rfl, fun o cs h => ⟨cs, h, rfl⟩, List.nodup_nil, by simp, .nil⟩
  | [], _ :: _, _, _, _, _, _, _, h, hr, hn, hF, ht => by simp [takesIn] at ht
  | _ :: _, [], _, _, _, _, _, _, h, hr, hn, hF, ht => by simp [takesIn] at ht
  | q :: qs, c :: as, _, _, G, m, m', xs, h, hr, hn, hF, ht => by
    cases hr with
    | cons c v F0 as vs F1 h1 h2 =>
      simp only [takesIn] at ht
      split at ht
      · rename_i x m1 hx
        split at ht
        · rename_i ys m2 hy
          simp only [Option.some.injEq, Prod.mk.injEq] at ht
          obtain ⟨rfl, rfl⟩ := ht
          obtain ⟨n1, n2, n3⟩ := List.nodup_append.1 hn
          obtain ⟨G1, I0, V0, a1, a2, a3, a4, a5, a6, a7, a8⟩ := take_rep h h1 n1 (fun b hb => hF b (by simp [hb])) hx
          obtain ⟨G2, I1, V1, b1, b2, b3, b4, b5, b6, b7, b8⟩ := takes_rep a1 (h2.grow a2 (fun _ _ => rfl)) n2 (fun b hb => a3 b (hF b (by simp [hb]))) hy
          have apart : ∀ b ∈ I0 ++ V0, ∀ c ∈ I1 ++ V1, b ≠ c := by
            intro b hb c hc e
            subst e
            obtain ⟨x1, x2⟩ := a7 b hb
            rcases (b7 b hc).2 with y | y
            · rcases x2 with x2 | x2
              · exact n3 b x2 b y rfl
              · exact x2 (hF b (by simp [y]))
            · exact y x1
          have hfirst := a8.grow b2 b4 b5 (fun _ _ _ => rfl) (fun o cs hb => by
            obtain ⟨_, _, _, g, _⟩ := a1.box o cs hb; exact g) (fun _ _ => rfl)
          refine ⟨G2, I0 ++ I1, V0 ++ V1, b1, a2.trans b2, fun b hb => b3 b (a3 b hb), b4.trans a4, fun o cs hb => ?_, ?_, fun b hb => ?_, ?_⟩
          · obtain ⟨cs1, k1, k2⟩ := a5 o cs hb
            obtain ⟨cs2, k3, k4⟩ := b5 o cs1 k1
            exact ⟨cs2, k3, k4.trans k2⟩
          · have p1 := List.nodup_append.1 a6
            have p2 := List.nodup_append.1 b6
            refine List.nodup_append.2 ⟨List.nodup_append.2 ⟨p1.1, p2.1, fun b hb c hc => apart b (by simp [hb]) c (by simp [hc])⟩, List.nodup_append.2 ⟨p1.2.1, p2.2.1, fun b hb c hc => apart b (by simp [hb]) c (by simp [hc])⟩, fun b hb c hc => ?_⟩
            rcases List.mem_append.1 hb with hb | hb <;> rcases List.mem_append.1 hc with hc | hc
            · exact p1.2.2 b hb c hc
            · exact apart b (by simp [hb]) c (by simp [hc])
            · exact fun e => apart c (by simp [hc]) b (by simp [hb]) e.symm
            · exact p2.2.2 b hb c hc
          · have hb' : b ∈ I0 ++ V0 ∨ b ∈ I1 ++ V1 := by
              simp only [List.mem_append] at hb ⊢
              rcases hb with (hb | hb) | hb | hb <;> simp [hb]
            rcases hb' with hb | hb
            · obtain ⟨x1, x2⟩ := a7 b hb
              exact ⟨b3 b x1, x2.imp (fun h => by simp [h]) id⟩
            · obtain ⟨x1, x2⟩ := b7 b hb
              refine ⟨x1, ?_⟩
              rcases x2 with x2 | x2
              · exact .inl (by simp [x2])
              · exact .inr fun e => x2 (a3 b e)
          · generalize hl : [x] = lx at hfirst
            generalize hl2 : [q] = lq at hfirst
            generalize hl3 : [v] = lv at hfirst
            cases hfirst with
            | own a p v F qs as vs xs I Fv ho hp hrest =>
              cases hrest
              simp only [List.cons.injEq, and_true] at hl hl2 hl3
              subst hl; subst hl2; subst hl3
              have := TakesRep.own (P := P) (G := G2) (w := w) (m := m2) c p v F _ _ _ _ I1 V1 ho hp b8
              simpa using this
            | io n o k c cs us Fs arr ty qs as vs xs I Fv hk hcl hrc hw hs hc hb hrest =>
              cases hrest
              simp only [List.cons.injEq, and_true] at hl hl2 hl3
              subst hl; subst hl2; subst hl3
              have := TakesRep.io n o k c cs us Fs arr ty _ _ _ _ I1 V1 hk hcl hrc hw hs hc hb b8
              simpa using this
            | skip q a v F qs as vs xs I Fv hq1 hq2 hra hrest =>
              cases hrest
              simp only [List.cons.injEq, and_true] at hl hl2 hl3
              subst hl; subst hl2; subst hl3
              have := TakesRep.skip _ _ v F _ _ _ _ I1 V1 hq1 hq2 hra b8
              simpa using this
        · cases ht
      · cases ht
inductive LendCells (P : Program) (G : Gh) (w : World) (m : Mem) : List AV → List PV → List Value → List (List Nat) → List Root → Prop
  | nil : LendCells P G w m [] [] [] [] []
  | rw (r : Ref) (p : PV) (v : Value) (F : List Nat) (cs : List AV) (ps : List PV) (vs : List Value) (Fs : List (List Nat)) (Rs : List Root) : ownP p = true → m.deref r = some p → v.oneCell' = true → RefAt P G w m r p v → Rep P w G.ok p v F → F.Nodup → (∀ b ∈ F, G.γ b = some (.r r.root)) → LendCells P G w m cs ps vs Fs Rs →
      LendCells P G w m (.rw r :: cs) (p :: ps) (v :: vs) (F :: Fs) (r.root :: Rs)
  | pv (p : PV) (v : Value) (cs : List AV) (ps : List PV) (vs : List Value) (Fs : List (List Nat)) (Rs : List Root) : ownP p = false → (∀ ds, p ≠ .agg ds) → Rep P w G.ok p v [] → LendCells P G w m cs ps vs Fs Rs → LendCells P G w m (.pv p :: cs) (p :: ps) (v :: vs) ([] :: Fs) Rs
inductive LendsRep (P : Program) (G : Gh) (w : World) (m : Mem) : List Pm → List AV → List Value → List (Option PV) → List (List (List Nat)) → List Root → Prop
  | nil : LendsRep P G w m [] [] [] [] [] []
  | row (a : AV) (p : PV) (v : Value) (F : List Nat) (R : Root) (qs : List Pm) (as : List AV) (vs : List Value) (ys : List (Option PV)) (Bs : List (List (List Nat))) (Rs : List Root) : LendCells P G w m [a] [p] [v] [F] [R] → LendsRep P G w m qs as vs ys Bs Rs → LendsRep P G w m (.row :: qs) (a :: as) (v :: vs) (some p :: ys) ([F] :: Bs) (R :: Rs)
  | rows (ks : List Bool) (cs : List AV) (ps : List PV) (us : List Value) (Fs : List (List Nat)) (R0 : List Root) (qs : List Pm) (as : List AV) (vs : List Value) (ys : List (Option PV)) (Bs : List (List (List Nat))) (Rs : List Root) : ps.map ownP = ks → LendCells P G w m cs ps us Fs R0 → LendsRep P G w m qs as vs ys Bs Rs →
      LendsRep P G w m (.rows ks :: qs) (.agg cs :: as) (.agg us.toArray :: vs) (some (.agg ps) :: ys) (Fs :: Bs) (R0 ++ Rs)
  | skip (q : Pm) (a : AV) (v : Value) (qs : List Pm) (as : List AV) (vs : List Value) (ys : List (Option PV)) (Bs : List (List (List Nat))) (Rs : List Root) : q ≠ .row → (∀ ks, q ≠ .rows ks) → LendsRep P G w m qs as vs ys Bs Rs → LendsRep P G w m (q :: qs) (a :: as) (v :: vs) (none :: ys) ([] :: Bs) Rs
theorem less_hide (m : Mem) (R : Root) : Less m (m.hideRoot R) := by
  cases R with
  | v t =>
    refine ⟨rfl, rfl, rfl, fun t' => ?_, fun _ => .inl rfl, fun o => ?_⟩
    · simp only [Mem.hideRoot, upd]
      split
      · exact .inr rfl
      · exact .inl rfl
    · show (m.b o = none ∨ _)
      cases h : m.b o with
      | none => exact .inl rfl
      | some cs => exact .inr ⟨cs, cs, rfl, h, rfl, fun _ => .inl rfl⟩
  | c ob n =>
    simp only [Mem.hideRoot]
    split
    · rename_i cs0 hcs0
      refine ⟨rfl, rfl, rfl, fun _ => .inl rfl, fun _ => .inl rfl, fun o => ?_⟩
      by_cases e : o = ob
      · subst e
        refine .inr ⟨cs0, cs0.set n .undef, hcs0, upd_same _ _ _, by simp, fun j => ?_⟩
        by_cases ej : j = n
        · subst ej
          by_cases hlt : j < cs0.length
          · right; rw [List.getElem?_set_self hlt]
          · left; rw [List.getElem?_eq_none_iff.2 (by simp; omega), List.getElem?_eq_none_iff.2 (by omega)]
        · left; rw [List.getElem?_set_ne (fun e => ej e.symm)]
      · simp only [upd_ne _ _ _ _ e]
        cases h : m.b o with
        | none => exact .inl rfl
        | some cs => exact .inr ⟨cs, cs, rfl, rfl, rfl, fun _ => .inl rfl⟩
    · exact Less.refl m
theorem hide_at {R : Root} {p : PV} (h : m.at R = some p) : (m.hideRoot R).at R = none := by
  cases R with
  | v t => simp [Mem.hideRoot, Mem.at, upd]
  | c ob n =>
    simp only [Mem.at, Mem.cell] at h
    split at h
    · rename_i q hq
      obtain ⟨cs0, hcs0, hn0⟩ := Option.bind_eq_some_iff.1 hq
      have hlt : n < cs0.length := (List.getElem?_eq_some_iff.1 hn0).1
      simp [Mem.hideRoot, hcs0, Mem.at, Mem.cell, upd, hlt]
    · cases h
theorem less_deref (hl : Less m m') {r : Ref} {p : PV} (h : m'.deref r = some p) : m.deref r = some p ∧ m'.at r.root ≠ none := by
  unfold Mem.deref Ref.valid at h ⊢
  rw [hl.kr, hl.kn] at h
  split at h
  · rename_i hv
    rw [if_pos hv]
    rcases hl.at r.root with h2 | h2
    · rw [← h2]; exact ⟨h, fun e => by rw [e] at h; cases h⟩
    · rw [h2] at h; cases h
  · cases h
theorem less_at (hl : Less m m') {R : Root} (h : m.at R = none) : m'.at R = none := by
  rcases hl.at R with h2 | h2
  · rw [h2]; exact h
  · exact h2
theorem row_rep (h : Sim P ar N E G ⟨t', m⟩ a w) {mk mk' : Mem} (hl : Less m mk) {c : AV} {v : Value} {F0 : List Nat} {p : PV} (hr : RepA P G w m c v F0) (ho : rowIn mk c = some (p, mk')) : ∃ r, c = .rw r ∧ ownP p = true ∧ m.deref r = some p ∧ mk.at r.root ≠ none ∧ mk' = mk.hideRoot r.root ∧ mk'.at r.root = none ∧ v.oneCell' = true ∧ RefAt P G w m r p v ∧ ∃ F, Rep P w G.ok p v F ∧ F.Nodup ∧ ∀ b ∈ F, G.γ b = some (.r r.root) := by
  cases c with
  | rw r =>
    simp only [rowIn] at ho
    split at ho
    · rename_i q hd
      split at ho
      · rename_i hown
        simp only [Option.some.injEq, Prod.mk.injEq] at ho
        obtain ⟨rfl, rfl⟩ := ho
        obtain ⟨d1, d2⟩ := less_deref hl hd
        obtain ⟨href, _⟩ := hr.of_deref d1
        obtain ⟨p1, hp1⟩ : ∃ p1, mk.at r.root = some p1 := by
          cases hx : mk.at r.root with
          | none => exact absurd hx d2
          | some p1 => exact ⟨p1, rfl⟩
        exact ⟨r, rfl, hown, d1, d2, rfl, hide_at hp1, by cases hr <;> assumption, href, h.root href⟩
      · cases ho
    · cases ho
  | _ => simp [rowIn] at ho
theorem cells_rep (h : Sim P ar N E G ⟨t', m⟩ a w) : ∀ {cs : List AV} {us : List Value} {F0 : List Nat} {mk mk' : Mem} {ps : List PV}, Less m mk → RepAL P G w m cs us F0 → cellsIn mk cs = some (ps, mk') →
    Less mk mk' ∧ ∃ Fs Rs, LendCells P G w m cs ps us Fs Rs ∧ Rs.Nodup ∧ ∀ R ∈ Rs, mk.at R ≠ none ∧ mk'.at R = none
  | [], us, F0, mk, mk', ps, hl, hr, ho => by
    cases hr
    simp only [cellsIn, Option.some.injEq, Prod.mk.injEq] at ho
    obtain ⟨rfl, rfl⟩ := ho
    exact ⟨Less.refl _, [], [], .nil, List.nodup_nil, by simp⟩
  | c :: cs, _, _, mk, mk', ps, hl, hr, ho => by
    cases hr with
    | cons c v F cs us F1 h0 h1 h2 =>
      have rowCase : ∀ {p m1 qs m2}, rowIn mk c = some (p, m1) → cellsIn m1 cs = some (qs, m2) → ps = p :: qs → mk' = m2 → Less mk mk' ∧ ∃ Fs Rs, LendCells P G w m (c :: cs) ps (v :: us) Fs Rs ∧ Rs.Nodup ∧ ∀ R ∈ Rs, mk.at R ≠ none ∧ mk'.at R = none := by
        rintro p m1 qs m2 hp hq rfl rfl
        obtain ⟨r, rfl, k1, k2, k3, k4, k5, k6, k7, F', k8, k9, k10⟩ := row_rep h hl h1 hp
        have hlm : Less mk m1 := by rw [k4]; exact less_hide mk r.root
        obtain ⟨l1, Fs, Rs, l2, l3, l4⟩ := cells_rep h (hl.trans hlm) h2 hq
        refine ⟨hlm.trans l1, F' :: Fs, r.root :: Rs, .rw _ _ _ _ _ _ _ _ _ k1 k2 k6 k7 k8 k9 k10 l2, List.nodup_cons.2 ⟨fun hm => (l4 _ hm).1 k5, l3⟩, fun R hR => ?_⟩
        rcases List.mem_cons.1 hR with rfl | hR
        · exact ⟨k3, less_at l1 k5⟩
        · exact ⟨fun e => (l4 R hR).1 (less_at hlm e), (l4 R hR).2⟩
      cases c with
      | pv p =>
        simp only [cellsIn] at ho
        split at ho
        · cases ho
        · rename_i hown
          split at ho
          · rename_i qs m2 hq
            simp only [Option.some.injEq, Prod.mk.injEq] at ho
            obtain ⟨rfl, rfl⟩ := ho
            obtain ⟨l1, Fs, Rs, l2, l3, l4⟩ := cells_rep h hl h2 hq
            cases h1 with
            | pv _ _ _ hna hp =>
              have hF : F = [] := hp.own_nil (by simpa using hown) hna
              subst hF
              exact ⟨l1, _, Rs, .pv _ _ _ _ _ _ _ (by simpa using hown) hna hp l2, l3, l4⟩
          · cases ho
      | rw r =>
        simp only [cellsIn] at ho
        split at ho
        · rename_i p m1 hp
          split at ho
          · rename_i qs m2 hq
            simp only [Option.some.injEq, Prod.mk.injEq] at ho
            exact rowCase hp hq ho.1.symm ho.2.symm
          · cases ho
        · cases ho
      | _ => simp [cellsIn, rowIn] at ho
theorem lends_rep (h : Sim P ar N E G ⟨t', m⟩ a w) : ∀ {qs : List Pm} {as : List AV} {vs : List Value} {xs ys : List (Option PV)} {I Fv : List Nat} {mk mk' : Mem}, Less m mk → TakesRep P G w m qs as vs xs I Fv → lendsIn mk qs as = some (ys, mk') →
    Less mk mk' ∧ ∃ Bs Rs, LendsRep P G w m qs as vs ys Bs Rs ∧ Rs.Nodup ∧ ∀ R ∈ Rs, mk.at R ≠ none ∧ mk'.at R = none := by
  intro qs as vs xs ys I Fv mk mk' hl ht
  induction ht generalizing mk mk' ys with
  | nil =>
    intro ho
    simp only [lendsIn, Option.some.injEq, Prod.mk.injEq] at ho
    obtain ⟨rfl, rfl⟩ := ho
    exact ⟨Less.refl _, [], [], .nil, List.nodup_nil, by simp⟩
  | own a p v F qs as vs xs I Fv ho hp _ ih =>
    intro hx
    simp only [lendsIn, lendIn] at hx
    split at hx
    · rename_i ys m2 hq
      simp only [Option.some.injEq, Prod.mk.injEq] at hx
      obtain ⟨rfl, rfl⟩ := hx
      obtain ⟨l1, Bs, Rs, l2, l3, l4⟩ := ih hl hq
      exact ⟨l1, _, Rs, .skip _ _ _ _ _ _ _ _ _ (by simp) (by simp) l2, l3, l4⟩
    · cases hx
  | io n o k c cs us Fs arr ty qs as vs xs I Fv _ _ _ _ _ _ _ _ ih =>
    intro hx
    simp only [lendsIn, lendIn] at hx
    split at hx
    · rename_i ys m2 hq
      simp only [Option.some.injEq, Prod.mk.injEq] at hx
      obtain ⟨rfl, rfl⟩ := hx
      obtain ⟨l1, Bs, Rs, l2, l3, l4⟩ := ih hl hq
      exact ⟨l1, _, Rs, .skip _ _ _ _ _ _ _ _ _ (by simp) (by simp) l2, l3, l4⟩
    · cases hx
  | skip q c v F qs as vs xs I Fv hq1 hq2 hr _ ih =>
    intro hx
    simp only [lendsIn] at hx
    split at hx
    · rename_i y m1 hy
      split at hx
      · rename_i ys m2 hq
        simp only [Option.some.injEq, Prod.mk.injEq] at hx
        obtain ⟨rfl, rfl⟩ := hx
        cases q with
        | own => exact absurd rfl hq1
        | io n => exact absurd rfl (hq2 n)
        | val =>
          simp only [lendIn, Option.some.injEq, Prod.mk.injEq] at hy
          obtain ⟨rfl, rfl⟩ := hy
          obtain ⟨l1, Bs, Rs, l2, l3, l4⟩ := ih hl hq
          exact ⟨l1, _, Rs, .skip _ _ _ _ _ _ _ _ _ (by simp) (by simp) l2, l3, l4⟩
        | row =>
          simp only [lendIn] at hy
          split at hy
          · rename_i p m1' hp
            simp only [Option.some.injEq, Prod.mk.injEq] at hy
            obtain ⟨rfl, rfl⟩ := hy
            obtain ⟨r, rfl, k1, k2, k3, k4, k5, k6, k7, F', k8, k9, k10⟩ := row_rep h hl hr hp
            have hlm : Less mk m1' := by rw [k4]; exact less_hide mk r.root
            obtain ⟨l1, Bs, Rs, l2, l3, l4⟩ := ih (hl.trans hlm) hq
            refine ⟨hlm.trans l1, _, _, .row _ _ _ _ _ _ _ _ _ _ _ (.rw _ _ _ _ _ _ _ _ _ k1 k2 k6 k7 k8 k9 k10 .nil) l2, List.nodup_cons.2 ⟨fun hm => (l4 _ hm).1 k5, l3⟩, fun R hR => ?_⟩
            rcases List.mem_cons.1 hR with rfl | hR
            · exact ⟨k3, less_at l1 k5⟩
            · exact ⟨fun e => (l4 R hR).1 (less_at hlm e), (l4 R hR).2⟩
          · cases hy
        | rows ks =>
          cases c with
          | agg cs =>
            simp only [lendIn] at hy
            split at hy
            · rename_i ps m1' hp
              split at hy
              · rename_i hmask
                simp only [Option.some.injEq, Prod.mk.injEq] at hy
                obtain ⟨rfl, rfl⟩ := hy
                cases hr with
                | agg _ us _ hal =>
                  obtain ⟨c1, Fs, R0, c2, c3, c4⟩ := cells_rep h hl hal hp
                  obtain ⟨l1, Bs, Rs, l2, l3, l4⟩ := ih (hl.trans c1) hq
                  refine ⟨c1.trans l1, _, _, .rows ks _ _ _ _ _ _ _ _ _ _ _ hmask c2 l2, List.nodup_append.2 ⟨c3, l3, fun x hx y hy e => ?_⟩, fun R hR => ?_⟩
                  · subst e; exact (l4 x hy).1 (c4 x hx).2
                  · rcases List.mem_append.1 hR with hR | hR
                    · exact ⟨(c4 R hR).1, less_at l1 (c4 R hR).2⟩
                    · exact ⟨fun e => (l4 R hR).1 (less_at c1 e), (l4 R hR).2⟩
              · cases hy
            · cases hy
          | _ => simp [lendIn] at hy
      · cases hx
    · cases hx
end
end Go.Proofs.YtngooidedlnmaaaGreat.Pv
