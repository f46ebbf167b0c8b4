/- A plain reading of Go code and its soundness, part 18. No condition. -/
import Derived.Test.YtdbcnnehfbcldaaDoorV17
set_option linter.all false
set_option linter.unusedSimpArgs false
set_option linter.unusedVariables false
set_option linter.unnecessarySimpa false
/- The state in which a call begins, and what it says of the machine. No condition. -/
namespace Go.Proofs.YtdbcnnehfbcldaaDoor.Pv
open Go
def hdOf (vs : List Value) (t : Nat) : Value := if t < 1000000 then vs.getD t undef else match vs[(t - 1000000) / 1000]? with
  | some (.agg cs) => cs.getD ((t - 1000000) % 1000) undef
  | _ => undef
def betaOf (vs : List Value) (i : Nat) : Nat × Nat := match vs[i]? with
  | some (.pointer (some a)) => (a.block, a.off)
  | _ => (0, 0)
def lentOf (w : World) (qs : List Pm) (vs : List Value) (o : Nat) : Option Lent := match qs[o]?, vs[o]? with
  | some (.io n), some (.pointer (some a)) => match w.heap[a.block]? with
    | some (.cells arr ty _) => some ⟨a.block, a.off, n, arr, ty⟩
    | _ => none
  | _, _ => none
def provOf (T : List (Own × List Nat)) (b : Nat) : Option Nat := match gamma0 T b with
  | some (.r (.v t)) => some t
  | _ => none
def entryOf (w : World) (ok0 : Bool → Nat → Prop) (qs : List Pm) (vs : List Value) (As Bs : List (List (List Nat))) : Entry :=
  ⟨w, fun b => b ∈ handed As Bs, ok0, lentOf w qs vs, fun t => some (hdOf vs t), provOf (tagsAll 0 qs As Bs)⟩
def gh0 (w : World) (ok0 : Bool → Nat → Prop) (qs : List Pm) (vs : List Value) (As Bs : List (List (List Nat))) : Gh :=
  ⟨gamma0 (tagsAll 0 qs As Bs), betaOf vs, hdOf vs, entryOf w ok0 qs vs As Bs⟩
theorem enter_small : ∀ {qs : List Pm} {ps : List PV} {i : Nat} {s s' : St}, enter i qs ps s = some s' → ∀ (k : Nat) (n : List Bool) (cs : List PV), qs[k]? = some (Pm.rows n) → ps[k]? = some (PV.agg cs) → cs.length ≤ 1000
  | [], [], i, s, s', h, k, n, cs, h1, h2 => by simp at h1
  | q :: qs, p :: ps, i, s, s', h, 0, n, cs, h1, h2 => by
    simp at h1 h2
    subst h1; subst h2
    simp only [enter] at h
    split at h
    · rename_i hc
      have := congrArg List.length hc.1
      simp only [List.length_map] at this
      omega
    · cases h
  | q :: qs, p :: ps, i, s, s', h, k + 1, n, cs, h1, h2 => by
    have hs1 : ∃ s1, enter (i + 1) qs ps s1 = some s' := by
      cases q with
      | val => simp only [enter] at h; exact ⟨_, h⟩
      | io n =>
        cases p <;> simp only [enter, reduceCtorEq] at h
        split at h
        · exact ⟨_, h⟩
        · cases h
      | row =>
        simp only [enter] at h
        split at h
        · exact ⟨_, h⟩
        · cases h
      | own =>
        simp only [enter] at h
        split at h
        · exact ⟨_, h⟩
        · cases h
      | rows n =>
        cases p <;> simp only [enter, reduceCtorEq] at h
        split at h
        · exact ⟨_, h⟩
        · cases h
    obtain ⟨s1, h3⟩ := hs1
    exact enter_small h3 k n cs (by simpa using h1) (by simpa using h2)
  | [], _ :: _, i, s, s', h, _, _, _, _, _ => by simp [enter] at h
  | q :: qs, [], i, s, s', h, _, _, _, _, _ => by cases q <;> simp [enter] at h
theorem rFind_at {x : PV} {q : Pm} {p0 : PV} {t : Nat} : ∀ {qs : List Pm} {ps : List PV} {i k : Nat}, i + qs.length ≤ 1000000 → (∀ (k : Nat) (n : List Bool) (cs : List PV), qs[k]? = some (Pm.rows n) → ps[k]? = some (PV.agg cs) → cs.length ≤ 1000) →
    qs[k]? = some q → ps[k]? = some p0 → rAt (i + k) q p0 t = some x → rFind i qs ps t = some x
  | q' :: qs, p' :: ps, i, k, hl, hs, h1, h2, h3 => by
    simp only [List.length_cons] at hl
    have hs' : ∀ (k : Nat) (n : List Bool) (cs : List PV), qs[k]? = some (Pm.rows n) → ps[k]? = some (PV.agg cs) → cs.length ≤ 1000 := fun k n cs a b => hs (k + 1) n cs (by simpa using a) (by simpa using b)
    simp only [rFind]
    cases k with
    | zero =>
      simp at h1 h2; subst h1; subst h2
      cases hr : rFind (i + 1) qs ps t with
      | none => simpa using h3
      | some y =>
        exfalso
        obtain ⟨k', q2, p2, g1, g2, g3⟩ := rFind_some hr
        have hk' : k' < qs.length := (List.getElem?_eq_some_iff.1 g1).1
        rcases rAt_at h3 with ⟨_, a1, _⟩ | ⟨n1, cs1, j1, a0, a00, a1, a2, _⟩ <;> rcases rAt_at g3 with ⟨_, b1, _⟩ | ⟨n2, cs2, j2, b0, b00, b1, b2, _⟩
        · omega
        · simp only [rowVar] at b1; omega
        · simp only [rowVar] at a1; omega
        · subst a0; subst a00; subst b0; subst b00
          have c1 := hs 0 n1 cs1 rfl rfl
          have c2 := hs' k' n2 cs2 g1 g2
          have d1 := (List.getElem?_eq_some_iff.1 a2).1
          have d2 := (List.getElem?_eq_some_iff.1 b2).1
          simp only [rowVar] at a1 b1; omega
    | succ k =>
      have := rFind_at (i := i + 1) (k := k) (by omega) hs' (by simpa using h1) (by simpa using h2) (by rw [show i + 1 + k = i + (k + 1) by omega]; exact h3)
      rw [this]
  | [], _, _, _, _, _, h1, _, _ => by simp at h1
  | _ :: _, [], _, _, _, _, _, h2, _ => by simp at h2
theorem rowCells_get {i : Nat} : ∀ {cs : List PV} {j k : Nat}, (rowCells i j cs)[k]? = (cs[k]?).map fun c => if ownP c then .rw ⟨.v (rowVar i (j + k)), 0, 0, []⟩ else .pv c
  | [], j, k => by simp [rowCells]
  | c :: cs, j, 0 => by simp [rowCells]
  | c :: cs, j, k + 1 => by
    simp only [rowCells, List.getElem?_cons_succ]
    rw [rowCells_get, show j + 1 + k = j + (k + 1) by omega]
theorem rowCells_length {i : Nat} : ∀ {cs : List PV} {j : Nat}, (rowCells i j cs).length = cs.length
  | [], j => rfl
  | c :: cs, j => by simp [rowCells, rowCells_length (cs := cs)]
theorem hdOf_row {vs : List Value} {i j : Nat} {us : List Value} {u : Value} (hi : vs[i]? = some (.agg us.toArray)) (hu : us[j]? = some u) (hj : j < 1000) : hdOf vs (rowVar i j) = u := by
  unfold hdOf rowVar
  rw [if_neg (by omega), show (1000000 + 1000 * i + j - 1000000) / 1000 = i by omega, show (1000000 + 1000 * i + j - 1000000) % 1000 = j by omega, hi]
  simp [Array.getD_eq_getD_getElem?, hu]
theorem hdOf_arg {vs : List Value} {i : Nat} {v : Value} (hi : vs[i]? = some v) (hl : i < 1000000) : hdOf vs i = v := by
  unfold hdOf
  rw [if_pos hl, List.getD_eq_getElem?_getD, hi]; rfl
section
variable {P : Program} {ar : Nat → Nat} {N : Nat} {w w' : World} {ok0 : Bool → Nat → Prop}
theorem gamma0_none {T : List (Own × List Nat)} {b : Nat} (h : ¬ b ∈ blocksOf T) : gamma0 T b = none := by
  cases hg : gamma0 T b with
  | none => rfl
  | some o =>
    obtain ⟨F, h1, h2⟩ := gamma0_some hg
    exact absurd (List.mem_flatten.2 ⟨F, List.mem_map.2 ⟨_, h1, rfl⟩, h2⟩) h
theorem RowCells.lt {ok : Bool → Nat → Prop} {cs : List PV} {vs : List Value} {Fs : List (List Nat)} (h : RowCells P w ok cs vs Fs) : ∀ b ∈ Fs.flatten, b < w.heap.size := h.toL.lt
theorem handed_lt {qs : List Pm} {ps : List PV} {vs : List Value} {As Bs : List (List (List Nat))} (h : ArgsRep P w ok0 qs ps vs As Bs) : ∀ b ∈ handed As Bs, b < w.heap.size := by
  induction h with
  | nil => simp [handed]
  | cons q p v A B qs ps vs As Bs h1 _ ih =>
    intro b hb
    simp only [handed, List.mem_append] at hb
    have key : ∀ b, b ∈ A.flatten ∨ b ∈ B.flatten → b < w.heap.size := by
      intro b hb
      cases h1 with
      | val _ _ _ => simp at hb
      | own _ _ F _ hr => exact hr.lt b (by simpa using hb)
      | row _ _ F _ hr => exact hr.lt b (by simpa using hb)
      | rows n cs vs Fs _ hr => exact hr.lt b (by simpa using hb)
      | io n cs vs Fs b0 off arr ty _ hr hg _ _ =>
        simp only [List.flatten_cons, List.flatten_nil, List.not_mem_nil, or_false] at hb
        rcases List.mem_append.1 hb with hb | hb
        · simp only [List.mem_singleton] at hb
          subst hb
          exact (Array.getElem?_eq_some_iff.1 hg).1
        · exact hr.lt b hb
    rcases hb with hb | hb | hb
    · exact key b (.inl hb)
    · exact key b (.inr hb)
    · exact ih b hb
theorem entry_sim {qs : List Pm} {ps : List PV} {vs : List Value} {As Bs : List (List (List Nat))} {s : St} (h : ArgsRep P w ok0 qs ps vs As Bs) (hn : (handed As Bs).Nodup) (hm : ∀ b, ok0 false b → ok0 true b)
    (hok : ∀ i b, ok0 i b → ¬ b ∈ handed As Bs) (he : enter 0 qs ps s0 = some s) (hlen : qs.length ≤ N) (hN : N ≤ 1000000) (har : ∀ i, i < qs.length → ar i = 0) :
    Sim P ar N (entryOf w ok0 qs vs As Bs) (gh0 w ok0 qs vs As Bs) s ⟨vs.toArray ++ Array.replicate (N - vs.length) undef, []⟩ w := by
  obtain ⟨k1, k2, k3, k4, k5, k6, k7⟩ := enter_spec he
  have hsm := enter_small he
  have hT := tags_blocks h 0
  have hnT : (blocksOf (tagsAll 0 qs As Bs)).Nodup := by rw [hT]; exact hn
  have hl := h.length
  have k1' : ∀ t, s.t t = match qs[t]?, ps[t]? with | some q, some p => tAt t q p | _, _ => .undef := fun t => by
    have := k1 t
    simp only [Nat.zero_le, if_true, Nat.sub_zero, s0] at this
    rw [this]
    cases qs[t]? <;> cases ps[t]? <;> rfl
  have k2' : ∀ o, s.m.b o = match qs[o]?, ps[o]? with | some q, some p => bAt q p | _, _ => none := fun o => by
    have := k2 o
    simp only [Nat.zero_le, if_true, Nat.sub_zero, s0, m0] at this
    rw [this]
    cases qs[o]? <;> cases ps[o]? <;> try rfl
    simp only
    split <;> simp_all
  have k3' : ∀ t, s.m.r t = rFind 0 qs ps t := fun t => by
    rw [k3 t]; cases rFind 0 qs ps t <;> simp [s0, m0]
  have hmp : ∀ o, s.m.mp o = none := fun o => by rw [k7]; rfl
  have hkb : ∀ o, s.m.kb o = 0 := fun o => by rw [k4]; rfl
  have hkr : ∀ o, s.m.kr o = 0 := fun o => by rw [k5]; rfl
  have hkn : ∀ o, s.m.kn o = 0 := fun o => by rw [k6]; rfl
  have hgx : ∀ b, (gh0 w ok0 qs vs As Bs).γ b = gamma0 (tagsAll 0 qs As Bs) b := fun _ => rfl
  have hlab : ∀ b, gamma0 (tagsAll 0 qs As Bs) b ≠ none → b < w.heap.size := fun b hb => by
    refine handed_lt h b ?_
    rw [← hT]
    exact Decidable.byContradiction fun hx => hb (gamma0_none hx)
  have hkok : ∀ i b, ok0 i b → b < w.heap.size → (gh0 w ok0 qs vs As Bs).ok i b := fun i b hb _ => ⟨by rw [hgx]; exact gamma0_none (by rw [hT]; exact hok i b hb), fun _ => .inr hb⟩
  have hrep : ∀ {p v F}, Rep P w ok0 p v F → Rep P w (gh0 w ok0 qs vs As Bs).ok p v F := fun h => h.frame hkok (Nat.le_refl _) (fun _ _ _ _ => rfl) (fun _ _ => rfl)
  have hin : ∀ {k q A B o F b}, qs[k]? = some q → As[k]? = some A → Bs[k]? = some B → (o, F) ∈ tagsOf k q A B → b ∈ F → (gh0 w ok0 qs vs As Bs).γ b = some o := fun h1 h2 h3 h4 hb => by
    rw [hgx]
    exact gamma0_in hnT (tagsAll_get (i := 0) h1 h2 h3 _ (by rw [Nat.zero_add]; exact h4)) hb
  have hnd : ∀ {k q A B o F}, qs[k]? = some q → As[k]? = some A → Bs[k]? = some B → (o, F) ∈ tagsOf k q A B → F.Nodup := fun h1 h2 h3 h4 =>
    flatten_part hnT (List.mem_map.2 ⟨_, tagsAll_get (i := 0) h1 h2 h3 _ (by rw [Nat.zero_add]; exact h4), rfl⟩)
  have hconc : ∀ t, t < 1000000 → conc ⟨vs.toArray ++ Array.replicate (N - vs.length) undef, []⟩ t = some ((vs.toArray ++ Array.replicate (N - vs.length) undef).getD t undef) := fun t ht => by
    unfold conc; rw [if_pos ht]
  have hval : ∀ t v, vs[t]? = some v → (vs.toArray ++ Array.replicate (N - vs.length) undef).getD t undef = v := fun t v hv => by
    have hlt : t < vs.length := (List.getElem?_eq_some_iff.1 hv).1
    rw [Array.getD_eq_getD_getElem?, Array.getElem?_append_left (by simpa using hlt)]
    simp [hv]
  have hbig : ∀ t, qs.length ≤ t → s.t t = .undef := fun t ht => by
    rw [k1' t, List.getElem?_eq_none_iff.2 ht]
  have hrow : ∀ {i q p x t}, qs[i]? = some q → ps[i]? = some p → rAt i q p t = some x → s.m.r t = some x := fun h1 h2 h3 => by
    rw [k3']
    exact rFind_at (i := 0) (by omega) hsm h1 h2 (by rw [Nat.zero_add]; exact h3)
  have href : ∀ {t x v}, s.m.r t = some x → hdOf vs t = v → RefAt P (gh0 w ok0 qs vs As Bs) w s.m ⟨.v t, 0, 0, []⟩ x v := fun h1 h2 =>
    ⟨by simp [Ref.valid, hkr], _, _, h1, h2.symm, .nil _ _⟩
  exact {
    ent := rfl
    size := by simp; omega
    defers := rfl
    lab := hlab
    tmp := fun t v hv => by
      by_cases ht : t < 1000000
      · rw [hconc t ht] at hv
        obtain rfl := Option.some.inj hv
        rw [k1' t]
        cases hq : qs[t]? with
        | none => exact ⟨[], .undef _, List.nodup_nil, by simp⟩
        | some q =>
          obtain ⟨p, v, A, B, h1, h2, h3, h4, h5⟩ := h.get hq
          rw [h1, hval t v h2]
          simp only
          cases h5 with
          | val _ _ hr => exact ⟨[], .of_PV (hrep hr), List.nodup_nil, by simp⟩
          | own _ _ F ho hr => exact ⟨[], .rw _ p _ (hr.oneCell (by rintro cs rfl; simp [ownP] at ho)) (href (hrow hq h1 (by simp [rAt])) (hdOf_arg h2 ht)), List.nodup_nil, by simp⟩
          | row _ _ F ho hr => exact ⟨[], .rw _ p _ (hr.oneCell (by rintro cs rfl; simp [ownP] at ho)) (href (hrow hq h1 (by simp [rAt])) (hdOf_arg h2 ht)), List.nodup_nil, by simp⟩
          | rows n cs us Fs hcl hr =>
            refine ⟨[], .agg _ _ _ (RepAL.of_get (by rw [rowCells_length]; exact hr.length.1) (fun j c u hj hu => ?_)), List.nodup_nil, by simp⟩
            rw [rowCells_get] at hj
            obtain ⟨c0, hc0, rfl⟩ := Option.map_eq_some_iff.1 hj
            have hj1 : j < 1000 := by
              have a := (List.getElem?_eq_some_iff.1 hc0).1
              have b := hsm t n cs hq h1
              omega
            obtain ⟨u', F, g1, g2, g3, g4⟩ := hr.get hc0
            rw [hu] at g1
            obtain rfl := Option.some.inj g1
            rw [Nat.zero_add]
            split
            · rename_i hown
              refine ⟨.rw _ c0 _ (g3.oneCell g4) (href (hrow hq h1 ?_) (hdOf_row h2 hu hj1)), by simp⟩
              simp only [rAt]
              rw [if_pos (by simp only [rowVar]; omega), show rowVar t j - rowVar t 0 = j by simp only [rowVar]; omega, hc0]
              simp [hown]
            · rename_i hown
              have hF : F = [] := g3.own_nil (by simpa using hown) g4
              subst hF
              exact ⟨.pv _ _ _ g4 (hrep g3), by simp⟩
          | io n cs us Fs b off arr ty hcl hr hg hsz hc =>
            refine ⟨[], ?_, List.nodup_nil, by simp⟩
            have := RepA.ptr (P := P) (G := gh0 w ok0 qs vs As Bs) (w := w) (m := s.m) t 0 0 (hkb t)
            have hb : (gh0 w ok0 qs vs As Bs).β t = (b, off) := by simp [gh0, betaOf, h2]
            rw [hb] at this
            exact this
      · rw [hbig t (by omega)]
        exact ⟨[], .undef _, List.nodup_nil, by simp⟩
    nn := fun t ht => by
      by_cases hl2 : t < 1000000
      · rw [hconc t hl2] at ht; cases ht
      · exact hbig t (by omega)
    comp := fun t ht _ => hbig t (by omega)
    whole := fun t ht ha => by
      refine hbig t (Nat.le_of_not_lt fun hlt => ha (har t hlt))
    box := fun o cs' hc => by
      rw [k2' o] at hc
      cases hq : qs[o]? with
      | none => rw [hq] at hc; simp at hc
      | some q =>
        obtain ⟨p, v, A, B, h1, h2, h3, h4, h5⟩ := h.get hq
        rw [hq, h1] at hc
        simp only at hc
        cases h5 with
        | io n cs us Fs b off arr ty hcl hr hg hsz hcell =>
          simp only [bAt, Option.some.injEq] at hc
          subst hc
          have hb : (gh0 w ok0 qs vs As Bs).β o = (b, off) := by simp [gh0, betaOf, h2]
          refine ⟨arr, ty, by rw [hb]; exact hg, by rw [hb]; exact hin hq h3 h4 (o := .b o) (F := [b]) (by simp [tagsOf]) (by simp), by rw [hb]; simpa [hcl] using hsz, fun j c hj => ?_⟩
          rw [List.getElem?_map] at hj
          obtain ⟨c0, hc0, rfl⟩ := Option.map_eq_some_iff.1 hj
          obtain ⟨u, F, g1, g2, g3, g4⟩ := hr.get hc0
          have htag : (Own.r (.c o j), F) ∈ tagsOf o (.io n) ([b] :: Fs) [] := by
            have := cellTags_get (f := fun j => .r (.c o j)) (j := 0) g2
            rw [Nat.zero_add] at this
            exact List.mem_cons_of_mem _ this
          exact ⟨u, F, by rw [hb]; exact hcell j u g1, .pv _ _ _ g4 (hrep g3), hnd hq h3 h4 htag, fun b' hb' => hin hq h3 h4 htag hb', by simp⟩
        | _ => simp [bAt] at hc
    map := fun o es hc => by rw [hmp] at hc; cases hc
    row := fun t p hp => by
      rw [k3'] at hp
      obtain ⟨k, q, p0, g1, g2, g3⟩ := rFind_some hp
      rw [Nat.zero_add] at g3
      obtain ⟨p', v, A, B, h1, h2, h3, h4, h5⟩ := h.get g1
      rw [g2] at h1
      obtain rfl := Option.some.inj h1
      have hkl : k < 1000000 := by have := (List.getElem?_eq_some_iff.1 g1).1; omega
      rcases rAt_at g3 with ⟨hq, rfl, rfl⟩ | ⟨n, cs, j, rfl, rfl, rfl, hc, ho⟩
      · rcases hq with rfl | rfl
        · cases h5 with
          | row _ _ F ho hr =>
            have htag : (Own.r (.v t), F) ∈ tagsOf t .row [] [F] := by simp [tagsOf]
            exact ⟨F, by show Rep P w _ _ (hdOf vs t) F; rw [hdOf_arg h2 hkl]; exact hrep hr, hnd g1 h3 h4 htag, fun b hb => hin g1 h3 h4 htag hb⟩
        · cases h5 with
          | own _ _ F ho hr =>
            have htag : (Own.r (.v t), F) ∈ tagsOf t .own [F] [] := by simp [tagsOf]
            exact ⟨F, by show Rep P w _ _ (hdOf vs t) F; rw [hdOf_arg h2 hkl]; exact hrep hr, hnd g1 h3 h4 htag, fun b hb => hin g1 h3 h4 htag hb⟩
      · cases h5 with
        | rows _ _ us Fs hcl hr =>
          obtain ⟨u, F, f1, f2, f3, f4⟩ := hr.get hc
          have hj1 : j < 1000 := by
            have a := (List.getElem?_eq_some_iff.1 hc).1
            have b := hsm k n cs g1 g2
            omega
          have htag : (Own.r (.v (rowVar k j)), F) ∈ tagsOf k (.rows n) [] B := by
            have := cellTags_get (f := fun j => .r (.v (rowVar k j))) (j := 0) f2
            rw [Nat.zero_add] at this
            exact this
          exact ⟨F, by show Rep P w _ _ (hdOf vs (rowVar k j)) F; rw [hdOf_row h2 f1 hj1]; exact hrep f3, hnd g1 h3 h4 htag, fun b hb => hin g1 h3 h4 htag hb⟩
    env := {
      mono := hm
      os := rfl
      tape := rfl
      output := rfl
      size := Nat.le_refl _
      keep := fun b _ h2 => ⟨by rw [hgx]; exact gamma0_none (by rw [hT]; exact h2), rfl⟩
      lent := fun o L hL => by
        simp only [gh0, entryOf, lentOf] at hL
        split at hL
        · rename_i n ad hq hv
          obtain ⟨p, v, A, B, h1, h2, h3, h4, h5⟩ := h.get hq
          rw [hv] at h2
          cases h5 with
          | io _ cs us Fs b off arr ty hcl hr hg hsz hcell =>
            simp only [Option.some.injEq, Value.pointer.injEq] at h2
            subst h2
            rw [hg] at hL
            simp only [Option.some.injEq] at hL
            subst hL
            refine ⟨hin hq h3 h4 (o := .b o) (F := [b]) (by simp [tagsOf]) (by simp), ⟨arr, hg, rfl, fun _ _ => rfl⟩, fun _ => ⟨by simp [gh0, betaOf, hv], fun cs' hc' => ?_⟩, fun hk => absurd (hkb o) hk⟩
            rw [k2' o, hq, h1] at hc'
            simp only [bAt, Option.some.injEq] at hc'
            subst hc'
            simpa using hcl
        · cases hL
      hd0 := fun t v hv _ => by
        simp only [gh0, entryOf, Option.some.injEq] at hv ⊢
        exact hv
      provlt := fun b i hb => by
        simp only [gh0, entryOf, provOf] at hb ⊢
        refine hlab b ?_
        intro hx; rw [hx] at hb; simp at hb
      prov := fun b i hb _ => by
        simp only [gh0, entryOf, provOf] at hb ⊢
        split at hb
        · rename_i heq
          simp only [Option.some.injEq] at hb
          rw [heq, hb]
        · cases hb } }
end
end Go.Proofs.YtdbcnnehfbcldaaDoor.Pv
