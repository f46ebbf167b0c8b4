/- A plain reading of Go code and its soundness, part 25. No condition. -/
import Derived.Test.YtngooidedlnmaaaGreatV24
set_option linter.all false
set_option linter.unusedSimpArgs false
set_option linter.unusedVariables false
set_option linter.unnecessarySimpa false
/- What comes back of a call: the state behind it. No condition. -/
namespace Go.Proofs.YtngooidedlnmaaaGreat.Pv
open Go
section
variable {P : Program} {ar : Nat → Nat} {N : Nat} {E : Entry} {G G' : Gh} {s : St} {a : Act} {w w' : World} {m m' m2 : Mem} {t' : Nat → AV} {ok1 : Bool → Nat → Prop} {Q : Nat → Prop}
theorem RepRs.lt {ok : Bool → Nat → Prop} {rs : List PV} {us : List Value} {F : List Nat} (h : RepRs P w ok rs us F) : ∀ b ∈ F, b < w.heap.size := by
  induction h with
  | nil => simp
  | cons r v F rs vs G hr _ ih =>
    intro b hb
    rcases List.mem_append.1 hb with hb | hb
    · exact hr.lt b hb
    · exact ih b hb
theorem RepRs.length {ok : Bool → Nat → Prop} {rs : List PV} {us : List Value} {F : List Nat} (h : RepRs P w ok rs us F) : us.length = rs.length := by
  induction h with
  | nil => rfl
  | cons _ _ _ _ _ _ _ _ ih => simp [ih]
theorem RowOuts.lt {ok : Bool → Nat → Prop} {ks : List Bool} {cs : List PV} {vs : List Value} {Fs Ds : List (List Nat)} (h : RowOuts P w ok Q ks cs vs Fs Ds) : ∀ b ∈ Ds.flatten, b < w.heap.size := by
  induction h with
  | nil => simp
  | told c v F F' ks cs vs Fs Fs' _ hr _ _ ih =>
    intro b hb
    rw [List.flatten_cons] at hb
    rcases List.mem_append.1 hb with hb | hb
    · exact hr.lt b hb
    · exact ih b hb
  | untold _ _ _ _ _ _ _ _ _ ih => intro b hb; exact ih b (by simpa using hb)
theorem OutsRep.lt {w0 : World} {ok : Bool → Nat → Prop} {qs : List Pm} {vs : List Value} {Bs : List (List (List Nat))} {outs : List PV} {Cs : List (List Nat)} {Ds : List (List (List Nat))} (h : OutsRep P w0 w ok Q qs vs Bs outs Cs Ds) : (∀ b ∈ Cs.flatten, b < w.heap.size) ∧ ∀ b ∈ Ds.flatten.flatten, b < w.heap.size := by
  induction h with
  | nil => simp
  | skip q v B qs vs Bs outs Cs Ds _ _ ih => exact ⟨fun b hb => ih.1 b (by simpa using hb), fun b hb => ih.2 b (by simpa using hb)⟩
  | out q v B p C D qs vs Bs outs Cs Ds ho _ ih =>
    have key : (∀ b ∈ C, b < w.heap.size) ∧ ∀ b ∈ D.flatten, b < w.heap.size := by
      cases ho with
      | row p v F F' _ hr _ => exact ⟨by simp, fun b hb => hr.lt b (by simpa using hb)⟩
      | rows ks cs vs Fs Fs' hr => exact ⟨by simp, hr.lt⟩
      | io n cs vs F b0 off arr arr' ty _ hr _ hg _ _ _ _ =>
        refine ⟨fun b hb => ?_, by simp⟩
        rcases List.mem_cons.1 hb with rfl | hb
        · exact (Array.getElem?_eq_some_iff.1 hg).1
        · exact hr.lt b hb
    refine ⟨fun b hb => ?_, fun b hb => ?_⟩
    · rw [List.flatten_cons] at hb
      rcases List.mem_append.1 hb with hb | hb
      · exact key.1 b hb
      · exact ih.1 b hb
    · rw [List.flatten_cons, List.flatten_append] at hb
      rcases List.mem_append.1 hb with hb | hb
      · exact key.2 b hb
      · exact ih.2 b hb
/-! ### Slices that were lent -/
structure It where
  r : Ref
  p : PV
  v : Value
  F : List Nat
  q : PV
  F' : List Nat
def wrIts (m : Mem) : List It → Option Mem
  | [] => some m
  | it :: its => match rowOut m it.r it.q with
    | some m1 => wrIts m1 its
    | none => none
theorem wrIts_append {m m1 : Mem} : ∀ {l1 l2 : List It}, wrIts m l1 = some m1 → wrIts m (l1 ++ l2) = wrIts m1 l2 := by
  intro l1
  induction l1 generalizing m with
  | nil => intro l2 h; simp only [wrIts, Option.some.injEq] at h; subst h; rfl
  | cons it l1 ih =>
    intro l2 h
    simp only [wrIts, List.cons_append] at h ⊢
    split at h
    · exact ih h
    · cases h
structure ItOk (P : Program) (w w' : World) (G1 : Gh) (m1 : Mem) (ok : Bool → Nat → Prop) (Q : Nat → Prop) (it : It) : Prop where
  deref : m1.deref it.r = some it.p
  ref : RefAt P G1 w m1 it.r it.p it.v
  rep : Rep P w G1.ok it.p it.v it.F
  lab : ∀ b ∈ it.F, G1.γ b = some (.r it.r.root)
  rep' : Rep P w' ok it.q it.v it.F'
  sub : ∀ b ∈ it.F', b ∈ it.F ∨ Q b
def itF (its : List It) : List Nat := its.flatMap It.F
def itF' (its : List It) : List Nat := its.flatMap It.F'
def itR (its : List It) : List Root := its.map fun it => it.r.root
theorem cells_items {w0 : World} {G1 : Gh} {m1 : Mem} {ok : Bool → Nat → Prop} {cs : List AV} {ps : List PV} {us : List Value} {Fs : List (List Nat)} {R0 : List Root} (h : LendCells P G1 w0 m1 cs ps us Fs R0) : ∀ {ks : List Bool} {qs : List PV} {Ds : List (List Nat)} {mk mr : Mem}, ps.map ownP = ks → RowOuts P w' ok Q ks qs us Fs Ds → cellsOut mk cs qs = some mr →
    ∃ its, wrIts mk its = some mr ∧ (∀ it ∈ its, ItOk P w0 w' G1 m1 ok Q it) ∧ itF its = Fs.flatten ∧ itF' its = Ds.flatten ∧ itR its = R0 := by
  induction h with
  | nil =>
    intro ks qs Ds mk mr hm ho hc
    cases ho
    · simp only [cellsOut, Option.some.injEq] at hc
      subst hc
      exact ⟨[], rfl, by simp, rfl, rfl, rfl⟩
  | rw r p v F cs ps vs Fs Rs hown hd h1 hrf hp hn hl _ ih =>
    intro ks qs Ds mk mr hm ho hc
    cases ho with
    | told c _ _ F' ks cs' _ _ Fs' _ hr' hs hrest =>
      simp only [cellsOut] at hc
      split at hc
      · rename_i m2 hm2
        simp only [List.map_cons, List.cons.injEq] at hm
        obtain ⟨its, i1, i2, i3, i4, i5⟩ := ih hm.2 hrest hc
        refine ⟨⟨r, p, v, F, c, F'⟩ :: its, by simp only [wrIts, hm2]; exact i1, fun it hit => ?_, ?_, ?_, ?_⟩
        · rcases List.mem_cons.1 hit with rfl | hit
          · exact ⟨hd, hrf, hp, hl, hr', hs⟩
          · exact i2 it hit
        · simp only [itF, List.flatMap_cons, List.flatten_cons] at i3 ⊢; rw [i3]
        · simp only [itF', List.flatMap_cons, List.flatten_cons] at i4 ⊢; rw [i4]
        · simp only [itR, List.map_cons] at i5 ⊢; rw [i5]
      · cases hc
    | untold c _ _ ks cs' _ _ Fs' hrest =>
      simp only [List.map_cons, List.cons.injEq] at hm
      rw [hown] at hm
      exact absurd hm.1 (by simp)
  | pv p v cs ps vs Fs Rs hown hna hp _ ih =>
    intro ks qs Ds mk mr hm ho hc
    cases ho with
    | told c _ _ F' ks cs' _ _ Fs' _ hr' hs hrest =>
      simp only [List.map_cons, List.cons.injEq] at hm
      rw [hown] at hm
      exact absurd hm.1 (by simp)
    | untold c _ _ ks cs' _ _ Fs' hrest =>
      simp only [cellsOut] at hc
      simp only [List.map_cons, List.cons.injEq] at hm
      obtain ⟨its, i1, i2, i3, i4, i5⟩ := ih hm.2 hrest hc
      exact ⟨its, i1, i2, by simpa using i3, by simpa using i4, i5⟩
theorem rows_items {w0 : World} {G1 : Gh} {m1 : Mem} {ok : Bool → Nat → Prop} {qs : List Pm} {as : List AV} {ps : List PV} {vs : List Value} {As Bs : List (List (List Nat))} {I Os : List Nat} {Rs : List Root} (h : CallArgs P G1 w0 m1 qs as ps vs As Bs I Os Rs) :
    ∀ {outs : List PV} {Cs : List (List Nat)} {Ds : List (List (List Nat))} {mk mr : Mem}, OutsRep P w0 w' ok Q qs vs Bs outs Cs Ds → rowsOut mk qs as outs = some mr →
    ∃ its, wrIts mk its = some mr ∧ (∀ it ∈ its, ItOk P w0 w' G1 m1 ok Q it) ∧ itF its = Bs.flatten.flatten ∧ itF' its = Ds.flatten.flatten ∧ itR its = Rs := by
  induction h with
  | nil =>
    intro outs Cs Ds mk mr ho hc
    cases ho
    simp only [rowsOut, Option.some.injEq] at hc
    subst hc
    exact ⟨[], rfl, by simp, rfl, rfl, rfl⟩
  | val a p v qs as ps vs As Bs I Os Rs _ ih =>
    intro outs Cs Ds mk mr ho hc
    cases ho with
    | skip _ _ _ _ _ _ _ _ _ _ ho =>
      simp only [rowsOut] at hc
      obtain ⟨its, i1, i2, i3, i4, i5⟩ := ih ho hc
      exact ⟨its, i1, i2, by simpa using i3, by simpa using i4, i5⟩
    | out _ _ _ _ _ _ _ _ _ _ _ _ hx _ => cases hx
  | own a p v F qs as ps vs As Bs I Os Rs hp _ ih =>
    intro outs Cs Ds mk mr ho hc
    cases ho with
    | skip _ _ _ _ _ _ _ _ _ _ ho =>
      simp only [rowsOut] at hc
      obtain ⟨its, i1, i2, i3, i4, i5⟩ := ih ho hc
      exact ⟨its, i1, i2, by simpa using i3, by simpa using i4, i5⟩
    | out _ _ _ _ _ _ _ _ _ _ _ _ hx _ => cases hx
  | io n o k c cs us Fs arr ty qs as ps vs As Bs I Os Rs hk hcl hrc hw hs hcl2 hb hlab _ ih =>
    intro outs Cs Ds mk mr ho hc
    cases ho with
    | skip _ _ _ _ _ _ _ _ _ hq _ => rcases hq with hq | hq <;> cases hq
    | out _ _ _ _ _ _ _ _ _ _ _ _ hx ho =>
      cases hx with
      | io _ cs2 us2 F b0 off arr2 arr' ty2 g1 g2 g3 g4 g5 g6 g7 g8 =>
        simp only [rowsOut] at hc
        obtain ⟨its, i1, i2, i3, i4, i5⟩ := ih ho hc
        exact ⟨its, i1, i2, by simpa using i3, by simpa using i4, i5⟩
  | row a p v F R qs as ps vs As Bs I Os Rs hcell _ ih =>
    intro outs Cs Ds mk mr ho hc
    cases ho with
    | skip _ _ _ _ _ _ _ _ _ hq _ => rcases hq with hq | hq <;> cases hq
    | out _ _ _ po _ _ _ _ _ _ _ _ hx ho =>
      cases hx with
      | row q _ _ F' _ g1 g2 =>
        cases hcell with
        | rw r _ _ _ _ _ _ _ _ hown hd h1 hrf hp hn hl hrest =>
          cases hrest
          simp only [rowsOut] at hc
          split at hc
          · rename_i m2 hm2
            obtain ⟨its, i1, i2, i3, i4, i5⟩ := ih ho hc
            refine ⟨⟨r, p, v, F, po, F'⟩ :: its, by simp only [wrIts, hm2]; exact i1, fun it hit => ?_, ?_, ?_, ?_⟩
            · rcases List.mem_cons.1 hit with rfl | hit
              · exact ⟨hd, hrf, hp, hl, g1, g2⟩
              · exact i2 it hit
            · simp only [itF, List.flatMap_cons, List.flatten_cons, List.flatten_append, List.flatten_nil, List.append_nil] at i3 ⊢; rw [i3]
            · simp only [itF', List.flatMap_cons, List.flatten_cons, List.flatten_append, List.flatten_nil, List.append_nil] at i4 ⊢; rw [i4]
            · simp only [itR, List.map_cons] at i5 ⊢; rw [i5]
          · cases hc
        | pv _ _ _ _ _ _ _ _ _ _ hrest => cases hrest
  | rows ks cs qs0 us Fs R0 qs as ps vs As Bs I Os Rs hmask hcell _ ih =>
    intro outs Cs Ds mk mr ho hc
    generalize hv : Value.agg us.toArray = vv at ho
    cases ho with
    | skip _ _ _ _ _ _ _ _ _ hq _ => rcases hq with hq | hq <;> cases hq
    | out _ _ _ _ _ _ _ _ _ _ _ _ hx ho =>
      cases hx with
      | rows _ qs2 us2 _ Fs' hro =>
        have e : us = us2 := by simpa using hv
        subst e
        simp only [rowsOut] at hc
        split at hc
        · rename_i m2 hm2
          obtain ⟨it0, j1, j2, j3, j4, j5⟩ := cells_items hcell hmask hro hm2
          obtain ⟨its, i1, i2, i3, i4, i5⟩ := ih ho hc
          refine ⟨it0 ++ its, by rw [wrIts_append j1]; exact i1, fun it hit => ?_, ?_, ?_, ?_⟩
          · rcases List.mem_append.1 hit with hit | hit
            · exact j2 it hit
            · exact i2 it hit
          · simp only [itF, List.flatMap_append, List.flatten_cons, List.flatten_append] at i3 j3 ⊢; rw [i3, j3]
          · simp only [itF', List.flatMap_append, List.flatten_cons, List.flatten_append] at i4 j4 ⊢; rw [i4, j4]
          · simp only [itR, List.map_append] at i5 j5 ⊢; rw [i5, j5]
        · cases hc
theorem setRef_other {r r0 : Ref} {q p : PV} (hne : r.root ≠ r0.root) (hp : m.at r0.root = some p) : (m.setRef r0 q).deref r = m.deref r := by
  have hm : m.setRef r0 q = (m.setRoot r0.root (p.put q r0.path)).bumpN r0.root := by simp [Mem.setRef, hp]
  obtain ⟨kr1, kn1, _, _⟩ := setRoot_kr (m := m) r0.root (p.put q r0.path)
  have hat : (m.setRef r0 q).at r.root = m.at r.root := by
    rw [hm]
    have := setRoot_at (r := r.root) (p := p.put q r0.path) hp
    rw [if_neg hne] at this
    rw [← this]
    cases r.root <;> rfl
  have hkr : (m.setRef r0 q).kr = m.kr := by rw [hm]; exact kr1
  have hkn : (m.setRef r0 q).kn r.root = m.kn r.root := by
    rw [hm]
    simp only [Mem.bumpN, kn1]
    exact upd_ne _ _ _ _ hne
  unfold Mem.deref Ref.valid
  rw [hat, hkr, hkn]
theorem setRef_kb (r0 : Ref) (q : PV) : (m.setRef r0 q).kb = m.kb := by
  unfold Mem.setRef
  split
  · rename_i p hp
    exact (setRoot_kr (m := m) r0.root (p.put q r0.path)).2.2.1
  · rfl
theorem setRef_boxes (r0 : Ref) (q : PV) (o : Nat) (cs : List AV) (h : m.b o = some cs) : ∃ cs', (m.setRef r0 q).b o = some cs' ∧ cs'.length = cs.length := by
  unfold Mem.setRef
  split
  · rename_i p hp
    simp only [Mem.bumpN]
    cases hr : r0.root with
    | v t => exact ⟨cs, h, rfl⟩
    | c ob n =>
      simp only [Mem.setRoot]
      split
      · rename_i cs0 hcs0
        by_cases e : o = ob
        · subst e
          rw [h] at hcs0
          obtain rfl := Option.some.inj hcs0
          exact ⟨_, upd_same _ _ _, by simp⟩
        · exact ⟨cs, by simp only [upd_ne _ _ _ _ e]; exact h, rfl⟩
      · exact ⟨cs, h, rfl⟩
  · exact ⟨cs, h, rfl⟩
theorem revert_env (L : List Nat) : (revert w w' L).os = w'.os ∧ (revert w w' L).tape = w'.tape ∧ (revert w w' L).output = w'.output := ⟨rfl, rfl, rfl⟩
theorem rows_back {G1 G2 : Gh} {m1 : Mem} (hsz : w.heap.size ≤ w'.heap.size) : ∀ {its : List It} {Gk : Gh} {mk mr : Mem} {Lb : List Nat},
    Sim P ar N E Gk ⟨t', mk⟩ a (revert w w' (itF its ++ Lb)) → Grow P G1 Gk w (revert w w' (itF its ++ Lb)) m1 mk → (∀ i b, G2.ok i b → Gk.ok i b) → (∀ it ∈ its, ItOk P w w' G1 m1 G2.ok Q it) → (∀ it ∈ its, mk.deref it.r = some it.p) → (itR its).Nodup → (itF its ++ Lb).Nodup →
    (∀ b ∈ itF its ++ Lb, Gk.γ b ≠ none ∧ b < w.heap.size) → (itF' its).Nodup → (∀ it ∈ its, ∀ b ∈ it.F', b ∈ it.F ∨ (¬ b ∈ itF its ++ Lb ∧ Gk.γ b = some .x)) → wrIts mk its = some mr →
    ∃ G', Sim P ar N E G' ⟨t', mr⟩ a (revert w w' Lb) ∧ Grow P Gk G' (revert w w' (itF its ++ Lb)) (revert w w' Lb) mk mr ∧ (∀ b, ¬ b ∈ itF' its → G'.γ b = Gk.γ b) ∧ mr.kb = mk.kb ∧ (∀ o cs, mk.b o = some cs → ∃ cs', mr.b o = some cs' ∧ cs'.length = cs.length) ∧ ∀ i b, G2.ok i b → G'.ok i b := by
  intro its
  induction its with
  | nil =>
    intro Gk mk mr Lb h hg hok hit hd hR hF hFl hF' hsub hwr
    simp only [wrIts, Option.some.injEq] at hwr
    subst hwr
    have e : itF [] ++ Lb = Lb := rfl
    rw [e] at h
    exact ⟨Gk, h, Grow.labels rfl rfl rfl (fun _ _ h => h) (fun _ h => h), fun _ _ => rfl, rfl, fun o cs h => ⟨cs, h, rfl⟩, hok⟩
  | cons it its ih =>
    intro Gk mk mr Lb h hg hok hit hd hR hF hFl hF' hsub hwr
    simp only [wrIts] at hwr
    split at hwr
    · rename_i mn hmn
      have k := hit it List.mem_cons_self
      have hdk := hd it List.mem_cons_self
      have e1 : itF (it :: its) ++ Lb = it.F ++ (itF its ++ Lb) := by simp [itF]
      rw [e1] at h hg hF hFl ⊢
      have hsub' := fun it2 (h2 : it2 ∈ it :: its) => by have := hsub it2 h2; rw [e1] at this; exact this
      obtain ⟨n1, n2, n3⟩ := List.nodup_append.1 hF
      -- the reference, now
      have href : RefAt P Gk (revert w w' (it.F ++ (itF its ++ Lb))) mk it.r it.p it.v := by
        rcases hg.refs _ _ _ k.ref with ⟨p', h1, _⟩ | h1
        · have := h1.deref; rw [hdk] at this; obtain rfl := Option.some.inj this; exact h1
        · rw [h1.deref] at hdk; cases hdk
      unfold rowOut at hmn
      rw [hdk] at hmn
      split at hmn
      · rename_i fl e xs fl' e' xs' hp hq
        simp only [Option.some.injEq] at hp
        split at hmn
        · rename_i hshape
          obtain ⟨rfl, rfl, hlen⟩ := hshape
          simp only [Option.some.injEq] at hmn
          have hinF : ∀ b ∈ it.F, (revert w w' (it.F ++ (itF its ++ Lb))).heap[b]? = w.heap[b]? := fun b hb => revert_in (by simp [hb]) (hFl b (by simp [hb])).2 hsz
          have hrepk : Rep P (revert w w' (it.F ++ (itF its ++ Lb))) Gk.ok it.p it.v it.F := k.rep.frame hg.hk hg.size hg.ho hinF
          have hnone : ∀ i b, Gk.ok i b → ¬ b ∈ it.F ++ (itF its ++ Lb) := fun i b hb hm => (hFl b hm).1 hb.1
          have hHx : ∀ b ∈ it.F'.filter (fun b => !it.F.contains b), Gk.γ b = some .x := fun b hb => by
            obtain ⟨h1, h2⟩ := List.mem_filter.1 hb
            exact ((hsub' it List.mem_cons_self b h1).resolve_left (by simpa using h2)).2
          have hF'out : ∀ b ∈ it.F', ¬ b ∈ itF its ++ Lb := fun b hb hm => by
            rcases hsub' it List.mem_cons_self b hb with h1 | h1
            · exact n3 b h1 b hm rfl
            · exact h1.1 (by simp [hm])
          have hwg : ∀ i b, G2.ok i b → (wgh Gk it.r.root (it.F'.filter (fun b => !it.F.contains b)) []).ok i b := fun i b hb => by
            have h1 := hok i b hb
            refine ⟨?_, h1.2⟩
            show (if b ∈ _ then some _ else if b ∈ [] then none else Gk.γ b) = none
            rw [if_neg (fun hm => by have := hHx b hm; rw [h1.1] at this; cases this), if_neg (by simp)]
            exact h1.1
          obtain ⟨g1, g2⟩ := h.writeRef (S := it.F) (D := []) (H := it.F'.filter (fun b => !it.F.contains b)) (W := revert w w' (itF its ++ Lb)) (q := it.q) href (by rw [hp, hq]; exact .inr ⟨fl, fl, e, xs, xs', rfl, rfl, hlen⟩) (by rw [hp]; simp) (by rw [hq]; simp) hHx rfl (fun F0 hF0 hn0 _ => by
              have e0 := hF0.unique hrepk
              subst e0
              refine ⟨fun _ h => h, by simp, it.F', ?_, ?_, fun b hb => ?_, by simp⟩
              · refine k.rep'.frame (fun i b hb _ => hwg i b hb) (by rw [revert_size]; exact Nat.le_refl _) (fun i b hb _ => revert_out fun hm => ?_) (fun b hb => revert_out (hF'out b hb))
                exact hnone i b (hok i b hb) (by simp [hm])
              · have : (it.F' ++ itF' its).Nodup := by simpa [itF'] using hF'
                exact (List.nodup_append.1 this).1
              · by_cases hm : b ∈ it.F
                · exact .inl hm
                · exact .inr (List.mem_filter.2 ⟨hb, by simpa using hm⟩))
            (fun b hb => by
              by_cases hm : b ∈ itF its ++ Lb
              · rw [revert_in hm (hFl b (by simp [hm])).2 hsz, revert_in (by simp [hm]) (hFl b (by simp [hm])).2 hsz]
              · rw [revert_out hm, revert_out (fun h1 => (List.mem_append.1 h1).elim hb hm)])
            (by rw [revert_size, revert_size]) ⟨rfl, rfl, rfl⟩
          rw [← hq] at hmn
          rw [hmn] at g1 g2
          have hkeep : ∀ b, ¬ b ∈ it.F' → (wgh Gk it.r.root (it.F'.filter (fun b => !it.F.contains b)) []).γ b = Gk.γ b := fun b hb => by
            show (if b ∈ _ then some _ else if b ∈ [] then none else Gk.γ b) = _
            rw [if_neg (fun hm => hb (List.mem_filter.1 hm).1), if_neg (by simp)]
          have hR' := List.nodup_cons.1 (by simpa [itR] using hR : (it.r.root :: itR its).Nodup)
          have hF'n : (it.F' ++ itF' its).Nodup := by simpa [itF'] using hF'
          obtain ⟨p0, hat⟩ : ∃ p0, mk.at it.r.root = some p0 := by
            obtain ⟨_, p0, _, k1, _⟩ := href; exact ⟨p0, k1⟩
          obtain ⟨G', c1, c2, c3, c4, c5, c6⟩ := ih (Lb := Lb) g2 (hg.trans g1) hwg (fun it2 h2 => hit it2 (List.mem_cons_of_mem _ h2)) (fun it2 h2 => by
              rw [← hmn, setRef_other (fun e => hR'.1 (e ▸ List.mem_map.2 ⟨it2, h2, rfl⟩)) hat]
              exact hd it2 (List.mem_cons_of_mem _ h2)) hR'.2 n2 (fun b hb => by
              refine ⟨?_, (hFl b (by simp [hb])).2⟩
              rw [hkeep b (fun hm => hF'out b hm hb)]
              exact (hFl b (by simp [hb])).1) (List.nodup_append.1 hF'n).2.1 (fun it2 h2 b hb => by
              rcases hsub' it2 (List.mem_cons_of_mem _ h2) b hb with h3 | ⟨h3, h4⟩
              · exact .inl h3
              · refine .inr ⟨fun hm => h3 (by simp [hm]), ?_⟩
                rw [hkeep b (fun hm => (List.nodup_append.1 hF'n).2.2 b hm b (List.mem_flatMap.2 ⟨it2, h2, hb⟩) rfl)]
                exact h4) hwr
          refine ⟨G', c1, g1.trans c2, fun b hb => ?_, ?_, fun o cs hb => ?_, c6⟩
          · have hb' : ¬ b ∈ it.F' ∧ ¬ b ∈ itF' its := by simpa [itF'] using hb
            rw [c3 b hb'.2, hkeep b hb'.1]
          · rw [c4, ← hmn, setRef_kb]
          · obtain ⟨cs1, k1, k2⟩ := setRef_boxes it.r it.q o cs hb
            rw [hmn] at k1
            obtain ⟨cs2, k3, k4⟩ := c5 o cs1 k1
            exact ⟨cs2, k3, k4.trans k2⟩
        · cases hmn
      · cases hmn
    · cases hwr
end
end Go.Proofs.YtngooidedlnmaaaGreat.Pv
