/- A plain reading of Go code and its soundness, part 8. No condition. -/
import Derived.Test.YtdbcnnehfbcldaaDoorV7
set_option linter.all false
set_option linter.unusedSimpArgs false
set_option linter.unusedVariables false
set_option linter.unnecessarySimpa false
/- A store through an element of a slice of one's own. No condition. -/
namespace Go.Proofs.YtdbcnnehfbcldaaDoor.Pv
open Go
section
variable {P : Program} {ar : Nat → Nat} {N : Nat} {E : Entry} {G G' : Gh} {s : St} {a : Act} {w w' : World} {m m' m2 : Mem} {F : List Nat} {as cs : List AV} {ρ : Operand → Value} {o : Oper} {d : Nat} {ok : Bool → Nat → Prop} {t' : Nat → AV}
theorem put_put {q : PV} : ∀ (path : List (Nat × Nat)) (p p1 : PV), p.sub path = some p1 → (∀ ds, p1 ≠ .agg ds) → (∀ ds, q ≠ .agg ds) → Shape p1 q → Shape p (p.put q path)
  | [], p, p1, h, _, _, hs => by
    simp only [PV.sub, Option.some.injEq] at h
    subst h
    simpa [PV.put] using hs
  | (i, f) :: rest, p, p1, h, h1, h2, hs => by
    unfold PV.put
    split
    · rename_i fl e xs
      split
      · split
        · exact .inr ⟨fl, fl, e, xs, _, rfl, rfl, List.length_set⟩
        · exact .inl rfl
      · exact .inl rfl
    · exact .inl rfl
theorem setRoot_at {root r : Root} {p : PV} {p0 : PV} (hp : m.at root = some p0) : (m.setRoot root p).at r = if r = root then some p else m.at r := by
  cases root with
  | v t =>
    cases r with
    | v t' =>
      simp only [Mem.setRoot, Mem.at, Root.v.injEq]
      by_cases e : t' = t
      · subst e; simp [upd]
      · simp [upd, e]
    | c o n => simp [Mem.setRoot, Mem.at, Mem.cell]
  | c o n =>
    simp only [Mem.at, Mem.cell] at hp
    split at hp
    · rename_i p' hp'
      obtain ⟨cs0, hcs0, hn0⟩ := Option.bind_eq_some_iff.1 hp'
      have hlt : n < cs0.length := (List.getElem?_eq_some_iff.1 hn0).1
      cases r with
      | v t' => simp [Mem.setRoot, hcs0, Mem.at]
      | c o' n' =>
        by_cases e : o' = o
        · subst e
          by_cases e2 : n' = n
          · subst e2; simp [Mem.setRoot, hcs0, Mem.at, Mem.cell, upd, hlt]
          · simp [Mem.setRoot, hcs0, Mem.at, Mem.cell, upd, e2, List.getElem?_set_ne (fun e => e2 e.symm)]
        · simp [Mem.setRoot, hcs0, Mem.at, Mem.cell, upd, e]
    · cases hp
theorem setRoot_kr (root : Root) (p : PV) : (m.setRoot root p).kr = m.kr ∧ (m.setRoot root p).kn = m.kn ∧ (m.setRoot root p).kb = m.kb ∧ (m.setRoot root p).mp = m.mp := by
  cases root with
  | v t => exact ⟨rfl, rfl, rfl, rfl⟩
  | c o n => simp only [Mem.setRoot]; split <;> exact ⟨rfl, rfl, rfl, rfl⟩
theorem Nest.nil_inv {root : Root} {p p' : PV} {v v' : Value} (h : Nest P G root w p v [] p' v') : p = p' ∧ v = v' := by cases h; exact ⟨rfl, rfl⟩
def wgh (G : Gh) (root : Root) (H D : List Nat) : Gh := { G with γ := fun b => if b ∈ H then some (.r root) else if b ∈ D then none else G.γ b }
theorem Sim.writeRef (h : Sim P ar N E G s a w) {r : Ref} {p q : PV} {v : Value} {S D H : List Nat} {W : World} (href : RefAt P G w s.m r p v) (hsh : Shape p q) (hpna : ∀ ds, p ≠ .agg ds) (hqna : ∀ ds, q ≠ .agg ds) (hH : ∀ b ∈ H, G.γ b = some .x) (hDn : D = [])
    (hend : ∀ F, Rep P w G.ok p v F → F.Nodup → (∀ x ∈ H, ¬ x ∈ F) → (∀ x ∈ S, x ∈ F) ∧ (∀ x ∈ D, x ∈ F) ∧ ∃ F', Rep P W (wgh G r.root H D).ok q v F' ∧ F'.Nodup ∧ (∀ x ∈ F', x ∈ F ∨ x ∈ H) ∧ ∀ x ∈ F', ¬ x ∈ D)
    (hoth : ∀ b', ¬ b' ∈ S → W.heap[b']? = w.heap[b']?) (hsz : W.heap.size = w.heap.size) (henv : W.os = w.os ∧ W.tape = w.tape ∧ W.output = w.output) :
    Grow P G (wgh G r.root H D) w W s.m (s.m.setRef r q) ∧ Sim P ar N E (wgh G r.root H D) ⟨s.t, s.m.setRef r q⟩ a W := by
  obtain ⟨Fe, hrepE, hndE, hlabE⟩ := h.root href
  have hdisE : ∀ x ∈ H, ¬ x ∈ Fe := fun y hy hyF => by have := hlabE y hyF; rw [hH y hy] at this; simp at this
  obtain ⟨hS0, hD0, _⟩ := hend Fe hrepE hndE hdisE
  have hS : ∀ x ∈ S, G.γ x = some (.r r.root) := fun x hx => hlabE x (hS0 x hx)
  have hD : ∀ x ∈ D, G.γ x = some (.r r.root) := fun x hx => hlabE x (hD0 x hx)
  obtain ⟨hval, p0, v0, hat, hhd, hnest⟩ := href
  have hst : ∀ o1, o1 ≠ some .x → o1 ≠ some (.r r.root) → ∀ b, G.γ b = o1 → (wgh G r.root H D).γ b = o1 := fun o1 ho ho2 b hb => by
    show (if b ∈ H then some (Own.r r.root) else if b ∈ D then none else G.γ b) = _
    rw [if_neg (fun hm => ho (by rw [← hb, hH b hm])), if_neg (fun hm => ho2 (by rw [← hb, hD b hm]))]
    exact hb
  have hB : ∀ o1, o1 ≠ some (.r r.root) → ∀ b', G.γ b' = o1 → ¬ b' ∈ S := fun o1 ho b' hb' e => ho (by rw [← hb', hS b' e])
  generalize hG : wgh G r.root H D = G' at hend hst
  have hGE : G'.E = G.E := by rw [← hG]; rfl
  have hGb : G'.β = G.β := by rw [← hG]; rfl
  have hGh : G'.hd = G.hd := by rw [← hG]; rfl
  have hGx : ∀ b, G'.γ b = if b ∈ H then some (.r r.root) else if b ∈ D then none else G.γ b := fun b => by rw [← hG]; rfl
  have hk : ∀ i b', G.ok i b' → b' < w.heap.size → G'.ok i b' := fun i b' hb' _ => ⟨hst _ (by simp) (by simp) b' hb'.1, by rw [hGE]; exact hb'.2⟩
  have hokb : ∀ i b', G.ok i b' → ¬ b' ∈ S := fun i b' hb' => hB _ (by simp) b' hb'.1
  have hwhole := fun {F : List Nat} (hF : Rep P w G.ok p0 v0 F) (hn : F.Nodup) (hd : ∀ x ∈ H, ¬ x ∈ F) => hnest.write (q := q) (ok' := G'.ok) (W := W) (S := S) (D := D) (H := H) hqna hend hoth (Nat.le_of_eq hsz.symm) hk hokb hF hn hd
  have hshape : Shape p0 (p0.put q r.path) := put_put r.path p0 p hnest.sub hpna hqna hsh
  have hm : s.m.setRef r q = (s.m.setRoot r.root (p0.put q r.path)).bumpN r.root := by simp [Mem.setRef, hat]
  obtain ⟨kr1, kn1, kb1, mp1⟩ := setRoot_kr (m := s.m) r.root (p0.put q r.path)
  have hkr : (s.m.setRef r q).kr = s.m.kr := by rw [hm]; exact kr1
  have hkb : (s.m.setRef r q).kb = s.m.kb := by rw [hm]; exact kb1
  have hmp : (s.m.setRef r q).mp = s.m.mp := by rw [hm]; exact mp1
  have hkn : ∀ r', (s.m.setRef r q).kn r' = if r' = r.root then s.m.kn r' + 1 else s.m.kn r' := fun r' => by
    rw [hm]
    simp only [Mem.bumpN, kn1, upd]
    split
    · rename_i e; rw [e]
    · rfl
  have hatm : ∀ r', (s.m.setRef r q).at r' = if r' = r.root then some (p0.put q r.path) else s.m.at r' := fun r' => by
    rw [hm, ← setRoot_at hat]
    cases r' <;> rfl
  have hcell : ∀ {b' o' : Nat} {u : Value}, ¬ b' ∈ S → w.cell? ⟨b', o', none⟩ = some u → W.cell? ⟨b', o', none⟩ = some u := fun hne hu => (World.cell?_of_block (a := ⟨_, _, none⟩) (hoth _ hne)).trans hu
  have hHd : ∀ {r' : Root} {p' : PV} {u : Value}, s.m.at r' = some p' → Hd G w r' u → Hd G' W r' u := by
    intro r' p' u hp' hu
    cases r' with
    | v t => simp only [Hd, hGh] at hu ⊢; exact hu
    | c o' n' =>
      simp only [Hd, hGb] at hu ⊢
      refine hcell ?_ hu
      simp only [Mem.at, Mem.cell] at hp'
      split at hp'
      · rename_i p2 hp2
        obtain ⟨cs', hcs', _⟩ := Option.bind_eq_some_iff.1 hp2
        obtain ⟨_, _, _, g5, _⟩ := h.box o' cs' hcs'
        exact hB _ (by simp) _ g5
      · cases hp'
  have hgr : Grow P G G' w W s.m (s.m.setRef r q) := {
    ent := hGE
    ok := fun b' hb' _ => hst _ (by simp) (by simp) b' hb'
    size := Nat.le_of_eq hsz.symm
    same := fun b' hb' _ => hoth b' (hB _ (by simp) b' hb')
    dead := fun r' hr' => by
      unfold Dead
      rw [hkr, hatm, hkn]
      rcases hr' with h1 | ⟨h1, h2, h3⟩ | ⟨h1, h2⟩
      · exact .inl h1
      · refine .inr (.inl ⟨h1, h2, ?_⟩)
        split <;> omega
      · refine .inr (.inr ⟨?_, h2⟩)
        rw [if_neg (fun e => by rw [e, hat] at h1; cases h1)]
        exact h1
    refs := fun r' p' v' hr' => by
      obtain ⟨k1, q0, u0, k2, k3, k4⟩ := hr'
      by_cases e1 : r'.root = r.root
      · by_cases e2 : r'.path = []
        · left
          have e3 : q0 = p0 := by rw [e1, hat] at k2; exact (Option.some.inj k2).symm
          rw [e2] at k4
          obtain ⟨e4, e5⟩ := k4.nil_inv
          rw [← e4, e3]
          refine ⟨p0.put q r.path, ⟨?_, p0.put q r.path, u0, by rw [hatm, if_pos e1], hHd k2 k3, by rw [e2, ← e5]; exact .nil _ _⟩, hshape⟩
          simp only [Ref.valid, hkr, e2] at k1 ⊢
          simpa using k1
        · right; right; left
          simp only [Ref.valid, Bool.and_eq_true, Bool.or_eq_true, beq_iff_eq, List.isEmpty_iff] at k1
          refine ⟨by rw [hkr]; exact k1.1.symm, e2, ?_⟩
          rw [hkn, if_pos e1]
          rcases k1.2 with k | k
          · exact absurd k e2
          · omega
      · refine refsOf (.inl ⟨?_, q0, u0, by rw [hatm, if_neg e1]; exact k2, hHd k2 k3, k4.keep (fun b' hb' => hst _ (by simp) (by simpa using e1) b' hb') (fun b' o' u hb' hu => hcell (hB _ (by simpa using e1) b' hb') hu)⟩)
        simp only [Ref.valid, hkr, hkn, e1, if_false] at k1 ⊢
        exact k1
    kb := fun o => by rw [hkb]; exact Nat.le_refl _
    beta := fun _ _ => by rw [hGb] }
  have hstay : ∀ o1, o1 ≠ .x → o1 ≠ .r r.root → Stay G G' w W o1 := fun o1 ho hor b' hb' => ⟨hst _ (by simpa using ho) (by simpa using hor) b' hb', hoth b' (hB _ (by simpa using hor) b' hb')⟩
  have hdis : ∀ {F : List Nat}, (∀ y ∈ F, G.γ y = some (.r r.root)) → ∀ y ∈ H, ¬ y ∈ F := fun hF y hy hyF => by have := hF y hyF; rw [hH y hy] at this; simp at this
  have hlab' : ∀ {F F' : List Nat}, (∀ y ∈ F, G.γ y = some (.r r.root)) → (∀ y ∈ F', y ∈ F ∨ y ∈ H) → (∀ y ∈ F', ¬ y ∈ D) → ∀ y ∈ F', G'.γ y = some (.r r.root) := fun hF hs hnd y hy => by
    rw [hGx]
    by_cases hyH : y ∈ H
    · rw [if_pos hyH]
    · rw [if_neg hyH, if_neg (hnd y hy)]
      exact hF y ((hs y hy).resolve_right hyH)
  refine ⟨hgr, ?_⟩
  exact {
    ent := hGE.trans h.ent
    size := h.size
    defers := h.defers
    lab := fun y hy => by
      rw [hsz]
      rw [hGx] at hy
      by_cases hyH : y ∈ H
      · exact h.lab y (by rw [hH y hyH]; simp)
      · rw [if_neg hyH] at hy
        by_cases hyD : y ∈ D
        · rw [if_pos hyD] at hy; exact absurd rfl hy
        · rw [if_neg hyD] at hy; exact h.lab y hy
    tmp := fun t u hu => (h.tmp t u hu).frame hgr (hstay _ (by simp) (by simp))
    nn := h.nn
    comp := h.comp
    whole := h.whole
    box := fun o' cs' hc => by
      cases hroot : r.root with
      | v t0 =>
        have hmb : (s.m.setRef r q).b = s.m.b := by rw [hm, hroot]; rfl
        simp only [hmb] at hc
        exact (h.box o' cs' hc).frame hgr (by rw [hGb]) (hstay _ (by simp) (by simp)) (fun _ => hstay _ (by simp) (by simp [hroot]))
      | c ob n0 =>
        have hat2 := hat
        rw [hroot] at hat2
        simp only [Mem.at, Mem.cell] at hat2
        split at hat2
        · rename_i p2 hp2
          simp only [Option.some.injEq] at hat2
          subst hat2
          obtain ⟨cs0, hcs0, hn0⟩ := Option.bind_eq_some_iff.1 hp2
          have hmb : (s.m.setRef r q).b = upd s.m.b ob (some (cs0.set n0 (.pv (p2.put q r.path)))) := by rw [hm, hroot]; simp [Mem.setRoot, hcs0, Mem.bumpN]
          simp only [hmb] at hc
          by_cases eo : o' = ob
          · subst eo
            simp only [upd_same, Option.some.injEq] at hc
            subst hc
            obtain ⟨arr0, ty0, g1, g2, g3, g4⟩ := h.box o' cs0 hcs0
            refine ⟨arr0, ty0, by rw [hGb]; exact (hoth _ (hB _ (by simp) _ g2)).trans g1, by rw [hGb]; exact hst _ (by simp) (by simp) _ g2, by rw [List.length_set, hGb]; exact g3, fun j c hj => ?_⟩
            rw [hGb]
            by_cases ej : j = n0
            · subst ej
              have hlt : j < cs0.length := (List.getElem?_eq_some_iff.1 hn0).1
              rw [List.getElem?_set_self hlt] at hj
              obtain rfl := Option.some.inj hj
              obtain ⟨u, F, g5, g6, g7, g8, g9⟩ := g4 j _ hn0
              have hv0 : u = v0 := by
                rw [hroot] at hhd
                simp only [Hd, World.cell?, g1, Option.isSome_none, Bool.false_eq_true, if_false] at hhd
                rw [g5] at hhd
                exact Option.some.inj hhd
              subst hv0
              have g8' : ∀ y ∈ F, G.γ y = some (.r r.root) := fun y hy => by rw [hroot]; exact g8 y hy
              obtain ⟨_, _, F', k1, k2, k3, k4⟩ := hwhole g6.of_pv g7 (hdis g8')
              have hna2 : ∀ ds, p2 ≠ .agg ds := by
                cases g6 with
                | pv _ _ _ hna _ => exact hna
              refine ⟨u, F', g5, .pv _ _ _ (put_notAgg hna2 hqna r.path) k1, k2, fun y hy => ?_, by simp⟩
              rw [← hroot]
              exact hlab' g8' k3 k4 y hy
            · rw [List.getElem?_set_ne (fun e => ej e.symm)] at hj
              obtain ⟨u, F', g5, g6, g7, g8, g9⟩ := g4 j c hj
              have hst2 := hstay (.r (.c o' j)) (by simp) (by simp [hroot, ej])
              exact ⟨u, F', g5, g6.grow hgr (fun y hy => (hst2 y (g8 y hy)).2), g7, fun y hy => (hst2 y (g8 y hy)).1, g9⟩
          · simp only [upd_ne _ _ _ _ eo] at hc
            exact (h.box o' cs' hc).frame hgr (by rw [hGb]) (hstay _ (by simp) (by simp)) (fun _ => hstay _ (by simp) (by simp [hroot, eo]))
        · cases hat2
    map := fun o' es hc => by
      simp only [hmp] at hc
      exact (h.map o' es hc).frame hgr (by rw [hGb]) (hstay _ (by simp) (by simp))
    row := fun t u hu => by
      cases hroot : r.root with
      | v t0 =>
        have hmr : (s.m.setRef r q).r = upd s.m.r t0 (some (p0.put q r.path)) := by rw [hm, hroot]; rfl
        simp only [hmr] at hu
        by_cases et : t = t0
        · subst et
          simp only [upd_same, Option.some.injEq] at hu
          subst hu
          rw [hroot] at hat hhd
          obtain ⟨F, g6, g7, g8⟩ := h.row t p0 hat
          simp only [Hd] at hhd
          have g8' : ∀ y ∈ F, G.γ y = some (.r r.root) := fun y hy => by rw [hroot]; exact g8 y hy
          obtain ⟨_, _, F', k1, k2, k3, k4⟩ := hwhole (by rw [hhd]; exact g6) g7 (hdis g8')
          refine ⟨F', ?_, k2, fun y hy => by rw [← hroot]; exact hlab' g8' k3 k4 y hy⟩
          rw [hhd] at k1
          rw [hGh]
          exact k1
        · simp only [upd_ne _ _ _ _ et] at hu
          exact (h.row t u hu).frame hgr (by rw [hGh]) (hstay _ (by simp) (by simp [hroot, et]))
      | c ob n0 =>
        have hmr : (s.m.setRef r q).r = s.m.r := by
          rw [hm, hroot]
          simp only [Mem.setRoot, Mem.bumpN]
          split <;> rfl
        simp only [hmr] at hu
        exact (h.row t u hu).frame hgr (by rw [hGh]) (hstay _ (by simp) (by simp [hroot]))
    env := {
      mono := by rw [hGE]; exact h.env.mono
      os := by rw [hGE]; exact henv.1.trans h.env.os
      tape := by rw [hGE]; exact henv.2.1.trans h.env.tape
      output := by rw [hGE]; exact henv.2.2.trans h.env.output
      size := by rw [hsz, hGE]; exact h.env.size
      keep := fun y h1 h2 => by
        rw [hGE] at h1 h2 ⊢
        obtain ⟨k1, k2⟩ := h.env.keep y h1 h2
        exact ⟨hst _ (by simp) (by simp) y k1, (hoth y (hB _ (by simp) y k1)).trans k2⟩
      lent := fun o' L hL => by
        rw [hGE] at hL
        rw [hGb]
        obtain ⟨k1, ⟨arr0, k2, k3⟩, k4, k5⟩ := h.env.lent o' L hL
        refine ⟨hst _ (by simp) (by simp) _ k1, ⟨arr0, by rw [hoth _ (hB _ (by simp) _ k1)]; exact k2, k3⟩, fun hk0 => ?_, fun hk0 => k5 (by simpa only [hkb] using hk0)⟩
        simp only [hkb] at hk0
        obtain ⟨k6, k7⟩ := k4 hk0
        refine ⟨k6, fun cs' hcs' => ?_⟩
        rw [hm] at hcs'
        cases hroot : r.root with
        | v t0 => rw [hroot] at hcs'; exact k7 cs' hcs'
        | c ob n0 =>
          rw [hroot] at hcs'
          simp only [Mem.setRoot, Mem.bumpN] at hcs'
          split at hcs'
          · rename_i cs0 hcs0
            by_cases eo : o' = ob
            · subst eo
              simp only [upd_same, Option.some.injEq] at hcs'
              subst hcs'
              simpa using k7 cs0 hcs0
            · simp only [upd_ne _ _ _ _ eo] at hcs'
              exact k7 cs' hcs'
          · exact k7 cs' hcs'
      hd0 := fun t u hu hk0 => by
        rw [hGE] at hu; rw [hGh]
        exact h.env.hd0 t u hu (by simpa only [hkr] using hk0)
      provlt := by rw [hGE]; exact h.env.provlt
      prov := fun b i hb hk0 => by
        rw [hGE] at hb
        have hpr := h.env.prov b i hb (by simpa only [hkr] using hk0)
        rw [hGx, if_neg (fun hbH => by have := hH b hbH; rw [hpr] at this; cases this), if_neg (by subst hDn; simp)]
        exact hpr } }
theorem Sim.setRef (h : Sim P ar N E G s a w) {r : Ref} {fl : Nat} {e : TypeId} {xs ps : List PV} {us : List Value} {H : List Nat} {b off n cap i f : Nat} {x : PV} (href : RefAt P G w s.m r (.sl fl e xs) (.slice (some ⟨b, off, none⟩) n cap)) (hfl : 1 ≤ fl)
    (hx : xs[i]? = some x) (h1 : 1 ≤ ps.length) (hf : f + ps.length ≤ x.cells.length) (hr : RepL P w G.ok ps us H) (hHn : H.Nodup) (hH : ∀ b ∈ H, G.γ b = some .x) :
    ∃ G' arr ty, w.heap[b]? = some (.cells arr ty (0, 0)) ∧ off + (i * P.cellsOf e + f) + us.length ≤ arr.size ∧
      Sim P ar N E G' ⟨s.t, s.m.setRef r (.sl fl e (xs.set i (Pv.setCells x f ps)))⟩ a (w.setRow b (putCells arr (off + (i * P.cellsOf e + f)) us)) := by
  obtain ⟨Fe, hrepE, hndE, hlabE⟩ := h.root href
  obtain ⟨_, _, arr, ty, _, _, hg, hFe, _, _⟩ := hrepE.own_cells hfl (by rintro rfl; simp at hx)
  have hb : G.γ b = some (.r r.root) := hlabE b (by rw [hFe]; simp)
  have hw' := setRow_heap w b arr (putCells arr (off + (i * P.cellsOf e + f)) us) ty (0, 0) hg
  have hoth : ∀ b', b' ≠ b → (w.setRow b (putCells arr (off + (i * P.cellsOf e + f)) us)).heap[b']? = w.heap[b']? := fun b' hb' => setRow_other w _ b' _ hb'
  have hsz : (w.setRow b (putCells arr (off + (i * P.cellsOf e + f)) us)).heap.size = w.heap.size := by simp [World.setRow]
  have henv : (w.setRow b (putCells arr (off + (i * P.cellsOf e + f)) us)).os = w.os ∧ (w.setRow b (putCells arr (off + (i * P.cellsOf e + f)) us)).tape = w.tape ∧ (w.setRow b (putCells arr (off + (i * P.cellsOf e + f)) us)).output = w.output := ⟨rfl, rfl, rfl⟩
  generalize hWd : w.setRow b (putCells arr (off + (i * P.cellsOf e + f)) us) = W at hw' hoth hsz henv
  have hst : ∀ o1, o1 ≠ some .x → ∀ b, G.γ b = o1 → (wgh G r.root H []).γ b = o1 := fun o1 ho b hb => by
    show (if b ∈ H then some (Own.r r.root) else if b ∈ [] then none else G.γ b) = _
    rw [if_neg (fun hm => ho (by rw [← hb, hH b hm])), if_neg (by simp)]
    exact hb
  have hk : ∀ i b', G.ok i b' → b' < w.heap.size → (wgh G r.root H []).ok i b' := fun i b' hb' _ => ⟨hst _ (by simp) b' hb'.1, hb'.2⟩
  have hokb : ∀ i b', G.ok i b' → b' ≠ b := fun i b' hb' e => by rw [e] at hb'; rw [hb'.1] at hb; cases hb
  have hrW : RepL P W (wgh G r.root H []).ok ps us H := hr.frame hk (Nat.le_of_eq hsz.symm) (fun i b' hb' _ => hoth b' (hokb i b' hb')) (fun b' hb' => hoth b' (fun e => by have := hH b' hb'; rw [e, hb] at this; cases this))
  have hwr := fun F hF hn hd => Rep.write (ok' := (wgh G r.root H []).ok) (W := W) (F := F) (n := n) (cap := cap) hfl hF hn hx h1 hf hrW hHn hd hg hw' hoth (Nat.le_of_eq hsz.symm) hk hokb
  have hfit := (hwr Fe hrepE hndE (fun y hy hyF => by have := hlabE y hyF; rw [hH y hy] at this; simp at this)).2.1
  refine ⟨wgh G r.root H [], arr, ty, hg, hfit, ?_⟩
  rw [hWd]
  refine (h.writeRef (S := [b]) (D := []) href (.inr ⟨fl, fl, e, xs, _, rfl, rfl, List.length_set⟩) (by simp) (by simp) hH rfl (fun F hF hn hd => ?_) (fun b' hb' => hoth b' (by simpa using hb')) hsz henv).2
  obtain ⟨k1, _, F', k2, k3, k4⟩ := hwr F hF hn hd
  exact ⟨by simpa using k1, by simp, F', k2, k3, k4, by simp⟩
end
end Go.Proofs.YtdbcnnehfbcldaaDoor.Pv
