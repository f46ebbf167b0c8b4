/- A plain reading of Go code and its soundness, part 24. No condition. -/
import Derived.Test.YtdbcnnehfbcldaaDoorV23
set_option linter.all false
set_option linter.unusedSimpArgs false
set_option linter.unusedVariables false
set_option linter.unnecessarySimpa false
/- What a callee may read of its caller's values. No condition. -/
namespace Go.Proofs.YtdbcnnehfbcldaaDoor.Pv
open Go
def rdB (G : Gh) (m : Mem) (X : Nat → Prop) (b : Nat) : Prop := X b ∨ (∃ R, m.at R ≠ none ∧ G.γ b = some (.r R)) ∨ ∃ o, m.b o ≠ none ∧ G.γ b = some (.b o)
def okX (G : Gh) (m : Mem) (X : Nat → Prop) (ta tp : Bool) : Bool → Nat → Prop := fun i b => G.ok i b ∨ ((ta = true ∨ (tp = true ∧ i = true)) ∧ rdB G m X b)
section
variable {P : Program} {ar : Nat → Nat} {N : Nat} {E : Entry} {G G' : Gh} {s : St} {a : Act} {w w' : World} {m m' m2 : Mem} {t' : Nat → AV} {X : Nat → Prop} {ta tp : Bool}
theorem okX_in {i : Bool} {b : Nat} (h : G.ok i b) : okX G m X ta tp i b := .inl h
theorem okX_mono (h : Sim P ar N E G s a w) (b : Nat) (hb : okX G m X ta tp false b) : okX G m X ta tp true b := by
  rcases hb with hb | ⟨hb, hr⟩
  · exact .inl (h.mono b hb)
  · exact .inr ⟨hb.imp id (fun hx => ⟨hx.1, rfl⟩), hr⟩
theorem RepAL.notAgg : ∀ {cs : List AV} {vs : List Value} {F : List Nat}, RepAL P G w m cs vs F → ∀ c ∈ cs, ∀ ds, c ≠ .agg ds
  | _, _, _, .nil, c, hc => by simp at hc
  | _, _, _, .cons c v F cs vs F' h0 h1 h2, c', hc => by
    rcases List.mem_cons.1 hc with rfl | hc
    · exact h0
    · exact RepAL.notAgg h2 c' hc
theorem Rep.refDrop {ok : Bool → Nat → Prop} {cs : List PV} {b o : Nat} (h : Rep P w ok (.ref cs) (.pointer (some ⟨b, o, none⟩)) []) (f : Nat) : Rep P w ok (.ref (cs.drop f)) (.pointer (some ⟨b, o + f, none⟩)) [] := by
  cases h with
  | ref _ vs _ _ h hb hlt hc =>
    refine .ref _ (vs.drop f) b (o + f) (h.take_drop0 f) hb hlt (fun j v hj => ?_)
    rw [List.getElem?_drop] at hj
    have := hc (f + j) v hj
    rwa [show o + (f + j) = o + f + j by omega] at this
theorem toPV_rep (h : Sim P ar N E G ⟨t', m⟩ a w) : ∀ (n : Nat) {c : AV} {v : Value} {F : List Nat} {p : PV}, RepA P G w m c v F → toPV m n c = some p → (∀ b ∈ F, rdB G m X b) → (tnt m n c = true → ta = true) → (tntP n c = true → tp = true) →
    Rep P w (okX G m X ta tp) p v [] ∧ ((∀ ds, c ≠ .agg ds) → ∀ ds, p ≠ .agg ds) := by
  intro n
  induction n with
  | zero => intro c v F p hr ht; simp [toPV] at ht
  | succ n ih =>
    have list : ∀ {cs : List AV} {ps : List PV} {vs : List Value}, cs.mapM (toPV m n) = some ps → cs.length = vs.length → (∀ (j : Nat) c v, cs[j]? = some c → vs[j]? = some v → ∃ F, RepA P G w m c v F ∧ (∀ b ∈ F, rdB G m X b) ∧ (tnt m n c = true → ta = true) ∧ (tntP n c = true → tp = true) ∧ ∀ ds, c ≠ .agg ds) → RepL P w (okX G m X ta tp) ps vs [] := by
      intro cs
      induction cs with
      | nil =>
        intro ps vs hm hl hc
        obtain rfl := List.eq_nil_of_length_eq_zero hl.symm
        simp only [List.mapM_nil] at hm
        obtain rfl : [] = ps := Option.some.inj hm
        exact .nil
      | cons c cs ihl =>
        intro ps vs hm hl hc
        cases vs with
        | nil => simp at hl
        | cons v vs =>
          rw [List.mapM_cons] at hm
          simp only [Option.bind_eq_bind, Option.bind_eq_some_iff] at hm
          obtain ⟨p, hp, qs, hq, hm⟩ := hm
          obtain rfl : p :: qs = ps := Option.some.inj hm
          obtain ⟨F, r1, r2, r3, r4, r5⟩ := hc 0 c v rfl rfl
          obtain ⟨k1, k2⟩ := ih r1 hp r2 r3 r4
          have := RepL.cons p v [] qs vs [] (k2 r5) k1 (ihl hq (by simpa using hl) (fun j c' v' h1 h2 => hc (j + 1) c' v' (by simpa using h1) (by simpa using h2)))
          simpa using this
    intro c v F p hr ht hF htn htp
    have hk : ∀ i b, G.ok i b → b < w.heap.size → okX G m X ta tp i b := fun i b hb _ => okX_in hb
    cases c with
    | pv q =>
      simp only [toPV, Option.some.injEq] at ht
      cases hr with
      | pv _ _ _ hna hp =>
        split at ht
        · rename_i hown
          subst ht
          have hta := htn (by simp only [tnt]; exact hown)
          refine ⟨hp.dem hk (fun b hb => .inr ⟨.inl hta, hF b hb⟩), fun _ ds e => ?_⟩
          cases q <;> simp_all [PV.dem]
        · rename_i hown
          subst ht
          have hF0 : F = [] := hp.own_none (by simpa using hown)
          subst hF0
          exact ⟨hp.frame hk (Nat.le_refl _) (fun _ _ _ _ => rfl) (fun _ _ => rfl), fun _ => hna⟩
    | rw r =>
      simp only [toPV, Option.map_eq_some_iff] at ht
      obtain ⟨q, hd, rfl⟩ := ht
      have hta := htn (by simp [tnt])
      have h1 : v.oneCell' = true := by cases hr <;> assumption
      obtain ⟨href, rfl⟩ := hr.of_deref hd
      obtain ⟨F', k1, k2, k3⟩ := h.root href
      have hat : m.at r.root ≠ none := by
        obtain ⟨_, p0, v0, k, _⟩ := href
        rw [k]; simp
      refine ⟨k1.dem hk (fun b hb => .inr ⟨.inl hta, .inr (.inl ⟨r.root, hat, k3 b hb⟩)⟩), fun _ ds e => ?_⟩
      cases k1 <;> simp_all [PV.dem, Value.oneCell']
    | ptr o k c =>
      simp only [toPV] at ht
      split at ht
      · rename_i hkb
        simp only [Option.map_eq_some_iff, Option.bind_eq_some_iff] at ht
        obtain ⟨ps, ⟨cs, hb, hm⟩, rfl⟩ := ht
        obtain ⟨rfl, rfl⟩ := hr.of_ptr hkb
        have htpv := htp (by simp [tntP])
        obtain ⟨arr, ty, b1, b2, b3, b4⟩ := h.box o cs hb
        have hbn : m.b o ≠ none := by rw [hb]; simp
        let us : List Value := ((arr.toList.drop (G.β o).2).take cs.length).drop c
        have husl : (cs.drop c).length = us.length := by
          simp only [us, List.length_drop, List.length_take, Array.length_toList]; omega
        have hus : ∀ j v, us[j]? = some v → arr[(G.β o).2 + (c + j)]? = some v := fun j v hj => by
          simp only [us, List.getElem?_drop, List.getElem?_take] at hj
          split at hj
          · simpa using hj
          · cases hj
        have hrl := list hm husl (fun j c0 v0 h1 h2 => by
          rw [List.getElem?_drop] at h1
          obtain ⟨v', F', k1, k2, k3, k4, k5⟩ := b4 (c + j) c0 h1
          have e := hus j v0 h2
          rw [k1] at e
          obtain rfl := Option.some.inj e
          refine ⟨F', k2, fun b hb' => ?_, fun ht => htn ?_, fun _ => htpv, k5⟩
          · refine .inr (.inl ⟨.c o (c + j), ?_, k4 b hb'⟩)
            cases k2 with
            | pv q _ _ _ _ => simp [Mem.at, Mem.cell, hb, h1]
            | agg _ _ _ _ => exact absurd rfl (k5 _)
            | _ => simp at hb'
          · simp only [tnt, hb]
            exact List.any_eq_true.2 ⟨c0, List.mem_of_getElem? (by rw [List.getElem?_drop]; exact h1), ht⟩)
        refine ⟨.ref ps us _ _ hrl (.inr ⟨.inr ⟨htpv, rfl⟩, .inr (.inr ⟨o, hbn, b2⟩)⟩) ((Array.getElem?_eq_some_iff.1 b1).1) (fun j v hj => ?_), fun _ => by simp⟩
        have := hus j v hj
        simp only [World.cell?, b1, Option.isSome_none, Bool.false_eq_true, if_false]
        rwa [show (G.β o).2 + c + j = (G.β o).2 + (c + j) by omega]
      · cases ht
    | ept r i f =>
      simp only [toPV] at ht
      split at ht
      · rename_i fl e xs hd
        simp only [Option.map_eq_some_iff] at ht
        obtain ⟨x, hx, rfl⟩ := ht
        have hta := htn (by simp [tnt])
        obtain ⟨b, off, len, cap, href, hi, rfl, rfl⟩ := hr.of_deref_ept hd
        obtain ⟨F', k1, k2, k3⟩ := h.root href
        have hat : m.at r.root ≠ none := by
          obtain ⟨_, p0, v0, k, _⟩ := href
          rw [k]; simp
        have hdem := k1.dem hk (fun b hb => .inr ⟨.inl hta, .inr (.inl ⟨r.root, hat, k3 b hb⟩)⟩)
        simp only [PV.dem] at hdem
        have hxd : (demL xs)[i]? = some x.dem := by rw [demL_map, List.getElem?_map, hx]; rfl
        obtain ⟨b', off', n', cap', e1, e2, e3⟩ := hdem.elem (okX_mono h) hxd
        simp only [Value.slice.injEq, Option.some.injEq, Addr.mk.injEq, and_true] at e1
        obtain ⟨⟨rfl, rfl⟩, _, _⟩ := e1
        rw [dem_cells] at e3
        have := e3.refDrop f
        have e4 : (demL x.cells).drop f = demL (x.cells.drop f) := by rw [demL_map, demL_map, List.map_drop]
        rw [e4] at this
        exact ⟨by rwa [show off + (i * P.cellsOf e + f) = off + i * P.cellsOf e + f by omega], fun _ => by simp⟩
      · cases ht
    | mp o k => simp [toPV] at ht
    | undef => simp [toPV] at ht
    | void => simp [toPV] at ht
    | clo g caps =>
      simp only [toPV, Option.map_eq_some_iff] at ht
      obtain ⟨ps, hm, rfl⟩ := ht
      cases hr with
      | clo _ _ vs hl =>
        refine ⟨.clo g ps vs (list hm hl.length (fun j c0 v0 h1 h2 => ?_)), fun _ => by simp⟩
        obtain ⟨v', F', k1, k2, k3, _⟩ := hl.get h1
        rw [h2] at k1
        obtain rfl := Option.some.inj k1
        have hF' : F' = [] := List.eq_nil_iff_forall_not_mem.2 (fun b hb => by simpa using k3 b hb)
        subst hF'
        refine ⟨[], k2, by simp, fun ht => htn ?_, fun ht => htp ?_, ?_⟩
        · simp only [tnt]; exact List.any_eq_true.2 ⟨c0, List.mem_of_getElem? h1, ht⟩
        · simp only [tntP]; exact List.any_eq_true.2 ⟨c0, List.mem_of_getElem? h1, ht⟩
        · exact hl.notAgg c0 (List.mem_of_getElem? h1)
    | agg cs =>
      simp only [toPV, Option.map_eq_some_iff] at ht
      obtain ⟨ps, hm, rfl⟩ := ht
      cases hr with
      | agg _ vs _ hl =>
        refine ⟨.agg ps vs [] (list hm hl.length (fun j c0 v0 h1 h2 => ?_)), fun hx => absurd rfl (hx _)⟩
        obtain ⟨v', F', k1, k2, k3, _⟩ := hl.get h1
        rw [h2] at k1
        obtain rfl := Option.some.inj k1
        refine ⟨F', k2, fun b hb => hF b (k3 b hb), fun ht => htn ?_, fun ht => htp ?_, ?_⟩
        · simp only [tnt]; exact List.any_eq_true.2 ⟨c0, List.mem_of_getElem? h1, ht⟩
        · simp only [tntP]; exact List.any_eq_true.2 ⟨c0, List.mem_of_getElem? h1, ht⟩
        · exact hl.notAgg c0 (List.mem_of_getElem? h1)
theorem less_hideBoxes (m : Mem) (L : List Nat) : Less m (m.hideBoxes L) := by
  refine ⟨rfl, rfl, rfl, fun _ => .inl rfl, fun _ => .inl rfl, fun o => ?_⟩
  simp only [Mem.hideBoxes]
  split
  · exact .inl rfl
  · cases h : m.b o with
    | none => exact .inl rfl
    | some cs => exact .inr ⟨cs, cs, rfl, rfl, rfl, fun _ => .inl rfl⟩
/-! ### All arguments together -/
inductive CallArgs (P : Program) (G : Gh) (w : World) (m : Mem) : List Pm → List AV → List PV → List Value → List (List (List Nat)) → List (List (List Nat)) → List Nat → List Nat → List Root → Prop
  | nil : CallArgs P G w m [] [] [] [] [] [] [] [] []
  | val (a : AV) (p : PV) (v : Value) (qs : List Pm) (as : List AV) (ps : List PV) (vs : List Value) (As Bs : List (List (List Nat))) (I Os : List Nat) (Rs : List Root) : CallArgs P G w m qs as ps vs As Bs I Os Rs → CallArgs P G w m (.val :: qs) (a :: as) (p :: ps) (v :: vs) ([] :: As) ([] :: Bs) I Os Rs
  | own (a : AV) (p : PV) (v : Value) (F : List Nat) (qs : List Pm) (as : List AV) (ps : List PV) (vs : List Value) (As Bs : List (List (List Nat))) (I Os : List Nat) (Rs : List Root) : Rep P w G.ok p v F → CallArgs P G w m qs as ps vs As Bs I Os Rs →
      CallArgs P G w m (.own :: qs) (a :: as) (p :: ps) (v :: vs) ([F] :: As) ([] :: Bs) (F ++ I) Os Rs
  | io (n o k c : Nat) (cs : List PV) (us : List Value) (Fs : List (List Nat)) (arr : Array Value) (ty : TypeId) (qs : List Pm) (as : List AV) (ps : List PV) (vs : List Value) (As Bs : List (List (List Nat))) (I Os : List Nat) (Rs : List Root) : m.kb o = k → cs.length = n → RowCells P w G.ok cs us Fs → w.heap[(G.β o).1]? = some (.cells arr ty (0, 0)) →
      (G.β o).2 + c + n ≤ arr.size → (∀ j u, us[j]? = some u → arr[(G.β o).2 + c + j]? = some u) → (∃ cs0, m.b o = some cs0 ∧ c + n ≤ cs0.length) → G.γ (G.β o).1 = some (.b o) → CallArgs P G w m qs as ps vs As Bs I Os Rs →
      CallArgs P G w m (.io n :: qs) (.ptr o k c :: as) (.ref cs :: ps) (.pointer (some ⟨(G.β o).1, (G.β o).2 + c, none⟩) :: vs) (([(G.β o).1] :: Fs) :: As) ([] :: Bs) (Fs.flatten ++ I) (o :: Os) Rs
  | row (a : AV) (p : PV) (v : Value) (F : List Nat) (R : Root) (qs : List Pm) (as : List AV) (ps : List PV) (vs : List Value) (As Bs : List (List (List Nat))) (I Os : List Nat) (Rs : List Root) : LendCells P G w m [a] [p] [v] [F] [R] → CallArgs P G w m qs as ps vs As Bs I Os Rs →
      CallArgs P G w m (.row :: qs) (a :: as) (p :: ps) (v :: vs) ([] :: As) ([F] :: Bs) I Os (R :: Rs)
  | rows (ks : List Bool) (cs : List AV) (qs0 : List PV) (us : List Value) (Fs : List (List Nat)) (R0 : List Root) (qs : List Pm) (as : List AV) (ps : List PV) (vs : List Value) (As Bs : List (List (List Nat))) (I Os : List Nat) (Rs : List Root) : qs0.map ownP = ks → LendCells P G w m cs qs0 us Fs R0 → CallArgs P G w m qs as ps vs As Bs I Os Rs →
      CallArgs P G w m (.rows ks :: qs) (.agg cs :: as) (.agg qs0 :: ps) (.agg us.toArray :: vs) ([] :: As) (Fs :: Bs) I Os (R0 ++ Rs)
theorem LendCells.cells {cs : List AV} {ps : List PV} {vs : List Value} {Fs : List (List Nat)} {Rs : List Root} {ok' : Bool → Nat → Prop} (hk : ∀ i b, G.ok i b → ok' i b) (h : LendCells P G w m cs ps vs Fs Rs) : RowCells P w ok' ps vs Fs := by
  induction h with
  | nil => exact .nil
  | rw r p v F cs ps vs Fs Rs ho _ h1 _ hp _ _ _ ih =>
    refine .cons _ _ _ _ _ _ ?_ (hp.frame (fun i b hb _ => hk i b hb) (Nat.le_refl _) (fun _ _ _ _ => rfl) (fun _ _ => rfl)) ih
    rintro ds rfl
    simp [ownP] at ho
  | pv p v _ _ _ _ _ _ hna hp _ ih => exact .cons _ _ _ _ _ _ hna (hp.frame (fun i b hb _ => hk i b hb) (Nat.le_refl _) (fun _ _ _ _ => rfl) (fun _ _ => rfl)) ih
theorem callArgs_of (h : Sim P ar N E G ⟨t', m⟩ a w) {m3 : Mem} (hl3 : Less m m3) : ∀ {qs : List Pm} {as : List AV} {vs : List Value} {xs ys : List (Option PV)} {I Fv : List Nat} {Bs : List (List (List Nat))} {Rs : List Root} {ps : List PV}, TakesRep P G w m qs as vs xs I Fv → LendsRep P G w m qs as vs ys Bs Rs → (∀ b ∈ Fv, X b) → (∀ c ∈ Pv.vals qs as, (tnt m3 4 c = true → ta = true) ∧ (tntP 4 c = true → tp = true)) → valsIn m3 qs as xs ys = some ps →
    ∃ As, CallArgs P G w m qs as ps vs As Bs I (ioBoxes qs as) Rs ∧ ArgsRep P w (okX G m3 X ta tp) qs ps vs As Bs := by
  have h3 := h.less hl3
  have hk : ∀ i b, G.ok i b → b < w.heap.size → okX G m3 X ta tp i b := fun i b hb _ => okX_in hb
  have hk' := hk
  have hfr : ∀ {p v F}, Rep P w G.ok p v F → Rep P w (okX G m3 X ta tp) p v F := fun h => h.frame hk (Nat.le_refl _) (fun _ _ _ _ => rfl) (fun _ _ => rfl)
  intro qs as vs xs ys I Fv Bs Rs ps ht
  induction ht generalizing ys Bs Rs ps with
  | nil =>
    intro hl hX hta hv
    cases hl
    simp only [valsIn, Option.some.injEq] at hv
    subst hv
    exact ⟨[], .nil, .nil⟩
  | own c p v F qs as vs xs I Fv ho hp _ ih =>
    intro hl hX hta hv
    cases hl with
    | skip _ _ _ _ _ _ ys Bs Rs _ _ hl =>
      simp only [valsIn] at hv
      split at hv
      · rename_i ps' hq
        simp only [Option.some.injEq] at hv
        subst hv
        obtain ⟨As, hA, hR⟩ := ih hl hX (fun c hc => hta c (by simpa [Pv.vals] using hc)) hq
        exact ⟨_, .own _ _ _ F _ _ _ _ _ _ _ _ _ hp hA, .cons _ _ _ _ _ _ _ _ _ _ (.own _ _ _ ho (hfr hp)) hR⟩
      · cases hv
  | io n o k c cs us Fs arr ty qs as vs xs I Fv hk hcl hrc hw hs hc hb _ ih =>
    intro hl hX hta hv
    cases hl with
    | skip _ _ _ _ _ _ ys Bs Rs _ _ hl =>
      simp only [valsIn] at hv
      split at hv
      · rename_i ps' hq
        simp only [Option.some.injEq] at hv
        subst hv
        obtain ⟨As, hA, hR⟩ := ih hl hX (fun c hc => hta c (by simpa [Pv.vals] using hc)) hq
        have hlab : G.γ (G.β o).1 = some (.b o) := by
          obtain ⟨cs0, hb1, _⟩ := hb
          obtain ⟨_, _, _, g, _⟩ := h.box o cs0 hb1
          exact g
        exact ⟨_, .io n o k c cs us Fs arr ty _ _ _ _ _ _ _ _ _ hk hcl hrc hw hs hc hb hlab hA,
          .cons _ _ _ _ _ _ _ _ _ _ (.io n cs us Fs _ _ arr ty hcl (hrc.frame hk' (Nat.le_refl _) (fun _ _ _ _ => rfl) (fun _ _ => rfl)) hw hs hc) hR⟩
      · cases hv
  | skip q c v F qs as vs xs I Fv hq1 hq2 hr _ ih =>
    intro hl hX hta hv
    cases q with
    | own => exact absurd rfl hq1
    | io n => exact absurd rfl (hq2 n)
    | val =>
      cases hl with
      | skip _ _ _ _ _ _ ys Bs Rs _ _ hl =>
        simp only [valsIn] at hv
        split at hv
        · rename_i p ps' hp hq
          simp only [Option.some.injEq] at hv
          subst hv
          obtain ⟨As, hA, hR⟩ := ih hl (fun b hb => hX b (by simp [hb])) (fun c' hc => hta c' (by simp only [Pv.vals]; exact List.mem_cons_of_mem _ hc)) hq
          obtain ⟨t1, t2⟩ := hta c (by simp only [Pv.vals]; exact List.mem_cons_self)
          have hrep := (toPV_rep (X := X) (ta := ta) (tp := tp) h3 4 (hr.grow hl3.grow (fun _ _ => rfl)) hp (fun b hb => .inl (hX b (by simp [hb]))) t1 t2).1
          exact ⟨_, .val _ _ _ _ _ _ _ _ _ _ _ _ hA, .cons _ _ _ _ _ _ _ _ _ _ (.val _ _ hrep) hR⟩
        · cases hv
    | row =>
      cases hl with
      | row _ p _ F R _ _ _ ys Bs Rs hc hl =>
        simp only [valsIn] at hv
        split at hv
        · rename_i ps' hq
          simp only [Option.some.injEq] at hv
          subst hv
          obtain ⟨As, hA, hR⟩ := ih hl (fun b hb => hX b (by simp [hb])) (fun c' hc => hta c' (by simpa [Pv.vals] using hc)) hq
          refine ⟨_, .row _ _ _ F R _ _ _ _ _ _ _ _ _ hc hA, .cons _ _ _ _ _ _ _ _ _ _ ?_ hR⟩
          cases hc with
          | rw r _ _ _ _ _ _ _ _ ho _ _ _ hp _ _ _ => exact .row _ _ _ ho (hfr hp)
          | pv _ _ _ _ _ _ _ _ _ _ hrest => cases hrest
        · cases hv
      | skip _ _ _ _ _ _ _ _ _ h1 _ _ => exact absurd rfl h1
    | rows ks =>
      cases hl with
      | rows _ cs ps0 us Fs R0 _ _ _ ys Bs Rs hmask hc hl =>
        simp only [valsIn] at hv
        split at hv
        · rename_i ps' hq
          simp only [Option.some.injEq] at hv
          subst hv
          obtain ⟨As, hA, hR⟩ := ih hl (fun b hb => hX b (by simp [hb])) (fun c' hc' => hta c' (by simpa [Pv.vals] using hc')) hq
          exact ⟨_, .rows ks cs _ _ Fs R0 _ _ _ _ _ _ _ _ _ hmask hc hA, .cons _ _ _ _ _ _ _ _ _ _ (.rows ks _ _ _ hmask (hc.cells (fun i b hb => okX_in hb))) hR⟩
        · cases hv
      | skip _ _ _ _ _ _ _ _ _ _ h1 _ => exact absurd rfl (h1 _)
theorem LendCells.lab {cs : List AV} {ps : List PV} {vs : List Value} {Fs : List (List Nat)} {Rs : List Root} (h : LendCells P G w m cs ps vs Fs Rs) : ∀ b ∈ Fs.flatten, ∃ R ∈ Rs, G.γ b = some (.r R) := by
  induction h with
  | nil => simp
  | rw r p v F cs ps vs Fs Rs _ _ _ _ _ _ hl _ ih =>
    intro b hb
    rw [List.flatten_cons] at hb
    rcases List.mem_append.1 hb with hb | hb
    · exact ⟨_, List.mem_cons_self, hl b hb⟩
    · obtain ⟨R, h1, h2⟩ := ih b hb
      exact ⟨R, List.mem_cons_of_mem _ h1, h2⟩
  | pv _ _ _ _ _ _ _ _ _ _ _ ih => intro b hb; exact ih b (by simpa using hb)
theorem LendCells.nodup {cs : List AV} {ps : List PV} {vs : List Value} {Fs : List (List Nat)} {Rs : List Root} (h : LendCells P G w m cs ps vs Fs Rs) (hn : Rs.Nodup) : Fs.flatten.Nodup := by
  induction h with
  | nil => simp
  | rw r p v F cs ps vs Fs Rs _ _ _ _ _ hF hl hrest ih =>
    rw [List.flatten_cons]
    have hn' := List.nodup_cons.1 hn
    refine List.nodup_append.2 ⟨hF, ih hn'.2, fun x hx y hy e => ?_⟩
    subst e
    obtain ⟨R, h1, h2⟩ := hrest.lab x hy
    rw [hl x hx] at h2
    simp only [Option.some.injEq, Own.r.injEq] at h2
    exact hn'.1 (h2 ▸ h1)
  | pv _ _ _ _ _ _ _ _ _ _ _ ih => simpa using ih hn
theorem CallArgs.lab {qs : List Pm} {as : List AV} {ps : List PV} {vs : List Value} {As Bs : List (List (List Nat))} {I Os : List Nat} {Rs : List Root} (h : CallArgs P G w m qs as ps vs As Bs I Os Rs) :
    (∀ b ∈ pool As, b ∈ I ∨ ∃ o ∈ Os, b = (G.β o).1 ∧ G.γ b = some (.b o)) ∧ (∀ b ∈ Bs.flatten.flatten, ∃ R ∈ Rs, G.γ b = some (.r R)) ∧ ∀ b ∈ handed As Bs, b ∈ pool As ∨ b ∈ Bs.flatten.flatten := by
  induction h with
  | nil => simp [pool, handed]
  | val a p v qs as ps vs As Bs I Os Rs _ ih =>
    refine ⟨fun b hb => ih.1 b (by simpa [pool] using hb), fun b hb => ih.2.1 b (by simpa using hb), fun b hb => ?_⟩
    have := ih.2.2 b (by simpa [handed] using hb)
    simpa [pool] using this
  | own a p v F qs as ps vs As Bs I Os Rs hp _ ih =>
    refine ⟨fun b hb => ?_, fun b hb => ih.2.1 b (by simpa using hb), fun b hb => ?_⟩
    · simp only [pool, List.flatten_cons, List.flatten_append, List.flatten_nil, List.append_nil, List.mem_append] at hb
      rcases hb with hb | hb
      · exact .inl (by simp [hb])
      · exact (ih.1 b hb).imp (fun h => by simp [h]) id
    · simp only [handed, List.flatten_cons, List.flatten_nil, List.append_nil, List.nil_append, List.mem_append] at hb
      simp only [pool, List.flatten_cons, List.flatten_append, List.flatten_nil, List.append_nil, List.nil_append, List.mem_append]
      rcases hb with hb | hb
      · exact .inl (.inl hb)
      · rcases ih.2.2 b hb with h | h
        · exact .inl (.inr h)
        · exact .inr h
  | io n o k c cs us Fs arr ty qs as ps vs As Bs I Os Rs hk hcl hrc hw hs hc hb hlab _ ih =>
    refine ⟨fun b hb => ?_, fun b hb => ih.2.1 b (by simpa using hb), fun b hb => ?_⟩
    · simp only [pool, List.flatten_cons, List.flatten_append, List.cons_append, List.nil_append, List.mem_cons, List.mem_append] at hb
      rcases hb with rfl | hb | hb
      · exact .inr ⟨o, List.mem_cons_self, rfl, hlab⟩
      · exact .inl (by simp [hb])
      · rcases ih.1 b hb with h | ⟨o', h1, h2, h3⟩
        · exact .inl (by simp [h])
        · exact .inr ⟨o', List.mem_cons_of_mem _ h1, h2, h3⟩
    · simp only [handed, List.flatten_nil, List.nil_append, List.mem_append] at hb
      simp only [pool, List.flatten_cons, List.flatten_append, List.nil_append, List.mem_append]
      rcases hb with hb | hb
      · exact .inl (.inl (by simpa using hb))
      · rcases ih.2.2 b hb with h | h
        · exact .inl (.inr h)
        · exact .inr h
  | row a p v F R qs as ps vs As Bs I Os Rs hc _ ih =>
    refine ⟨fun b hb => ih.1 b (by simpa [pool] using hb), fun b hb => ?_, fun b hb => ?_⟩
    · simp only [List.flatten_cons, List.flatten_append, List.flatten_nil, List.append_nil, List.mem_append] at hb
      rcases hb with hb | hb
      · obtain ⟨R', h1, h2⟩ := hc.lab b (by simpa using hb)
        exact ⟨R', by simp only [List.mem_singleton] at h1; simp [h1], h2⟩
      · obtain ⟨R', h1, h2⟩ := ih.2.1 b hb
        exact ⟨R', List.mem_cons_of_mem _ h1, h2⟩
    · simp only [handed, List.flatten_nil, List.nil_append, List.mem_append] at hb
      simp only [pool, List.flatten_cons, List.flatten_append, List.flatten_nil, List.nil_append, List.mem_append]
      rcases hb with hb | hb
      · exact .inr (.inl (by simpa using hb))
      · rcases ih.2.2 b hb with h | h
        · exact .inl h
        · exact .inr (.inr h)
  | rows ks cs qs0 us Fs R0 qs as ps vs As Bs I Os Rs hmask hc _ ih =>
    refine ⟨fun b hb => ih.1 b (by simpa [pool] using hb), fun b hb => ?_, fun b hb => ?_⟩
    · simp only [List.flatten_cons, List.flatten_append, List.mem_append] at hb
      rcases hb with hb | hb
      · obtain ⟨R', h1, h2⟩ := hc.lab b hb
        exact ⟨R', by simp [h1], h2⟩
      · obtain ⟨R', h1, h2⟩ := ih.2.1 b hb
        exact ⟨R', by simp [h1], h2⟩
    · simp only [handed, List.flatten_nil, List.nil_append, List.mem_append] at hb
      simp only [pool, List.flatten_cons, List.flatten_append, List.flatten_nil, List.nil_append, List.mem_append]
      rcases hb with hb | hb
      · exact .inr (.inl hb)
      · rcases ih.2.2 b hb with h | h
        · exact .inl h
        · exact .inr (.inr h)
theorem CallArgs.nodup {qs : List Pm} {as : List AV} {ps : List PV} {vs : List Value} {As Bs : List (List (List Nat))} {I Os : List Nat} {Rs : List Root} (h : CallArgs P G w m qs as ps vs As Bs I Os Rs) (hI : I.Nodup) (hIx : ∀ b ∈ I, G.γ b = some .x) (hO : Os.Nodup) (hR : Rs.Nodup) : (handed As Bs).Nodup := by
  induction h with
  | nil => simp [handed]
  | val a p v qs as ps vs As Bs I Os Rs _ ih => simpa [handed] using ih hI hIx hO hR
  | own a p v F qs as ps vs As Bs I Os Rs hp hrest ih =>
    obtain ⟨n1, n2, n3⟩ := List.nodup_append.1 hI
    simp only [handed, List.flatten_cons, List.flatten_nil, List.append_nil, List.nil_append]
    refine List.nodup_append.2 ⟨n1, ih n2 (fun b hb => hIx b (by simp [hb])) hO hR, fun x hx y hy e => ?_⟩
    subst e
    have hxl := hIx x (by simp [hx])
    rcases hrest.lab.2.2 x hy with h | h
    · rcases hrest.lab.1 x h with h | ⟨o, _, _, h⟩
      · exact n3 x hx x h rfl
      · rw [hxl] at h; cases h
    · obtain ⟨R, _, h⟩ := hrest.lab.2.1 x h
      rw [hxl] at h; cases h
  | io n o k c cs us Fs arr ty qs as ps vs As Bs I Os Rs hk hcl hrc hw hs hc hb hlab hrest ih =>
    obtain ⟨n1, n2, n3⟩ := List.nodup_append.1 hI
    have hO' := List.nodup_cons.1 hO
    simp only [handed, List.flatten_cons, List.flatten_nil, List.nil_append, List.cons_append]
    have tail := fun x (hy : x ∈ handed As Bs) => hrest.lab.2.2 x hy
    refine List.nodup_cons.2 ⟨fun hx => ?_, List.nodup_append.2 ⟨n1, ih n2 (fun b hb => hIx b (by simp [hb])) hO'.2 hR, fun x hx y hy e => ?_⟩⟩
    · rcases List.mem_append.1 hx with hx | hx
      · have := hIx _ (List.mem_append_left I hx)
        rw [hlab] at this; cases this
      · rcases tail _ hx with h | h
        · rcases hrest.lab.1 _ h with h | ⟨o', h1, _, h⟩
          · have := hIx _ (List.mem_append_right Fs.flatten h)
            rw [hlab] at this; cases this
          · rw [hlab] at h
            simp only [Option.some.injEq, Own.b.injEq] at h
            exact hO'.1 (h ▸ h1)
        · obtain ⟨R, _, h⟩ := hrest.lab.2.1 _ h
          rw [hlab] at h; cases h
    · subst e
      have hxl := hIx x (by simp [hx])
      rcases tail x hy with h | h
      · rcases hrest.lab.1 x h with h | ⟨o, _, _, h⟩
        · exact n3 x hx x h rfl
        · rw [hxl] at h; cases h
      · obtain ⟨R, _, h⟩ := hrest.lab.2.1 x h
        rw [hxl] at h; cases h
  | row a p v F R qs as ps vs As Bs I Os Rs hc hrest ih =>
    have hR' := List.nodup_cons.1 hR
    simp only [handed, List.flatten_nil, List.nil_append]
    refine List.nodup_append.2 ⟨hc.nodup (by simp), ih hI hIx hO hR'.2, fun x hx y hy e => ?_⟩
    subst e
    obtain ⟨R', h1, h2⟩ := hc.lab x hx
    simp only [List.mem_singleton] at h1
    subst h1
    rcases hrest.lab.2.2 x hy with h | h
    · rcases hrest.lab.1 x h with h | ⟨o, _, _, h⟩
      · rw [hIx x h] at h2; cases h2
      · rw [h] at h2; cases h2
    · obtain ⟨R2, h3, h⟩ := hrest.lab.2.1 x h
      rw [h2] at h
      simp only [Option.some.injEq, Own.r.injEq] at h
      exact hR'.1 (h ▸ h3)
  | rows ks cs qs0 us Fs R0 qs as ps vs As Bs I Os Rs hmask hc hrest ih =>
    obtain ⟨n1, n2, n3⟩ := List.nodup_append.1 hR
    simp only [handed, List.flatten_nil, List.nil_append]
    refine List.nodup_append.2 ⟨hc.nodup n1, ih hI hIx hO n2, fun x hx y hy e => ?_⟩
    subst e
    obtain ⟨R', h1, h2⟩ := hc.lab x hx
    rcases hrest.lab.2.2 x hy with h | h
    · rcases hrest.lab.1 x h with h | ⟨o, _, _, h⟩
      · rw [hIx x h] at h2; cases h2
      · rw [h] at h2; cases h2
    · obtain ⟨R2, h3, h⟩ := hrest.lab.2.1 x h
      rw [h2] at h
      simp only [Option.some.injEq, Own.r.injEq] at h
      exact n3 R' h1 R2 h3 h
end
end Go.Proofs.YtdbcnnehfbcldaaDoor.Pv
