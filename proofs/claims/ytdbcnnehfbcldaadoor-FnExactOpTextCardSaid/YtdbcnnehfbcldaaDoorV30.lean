/- A plain reading of Go code and its soundness, part 30. No condition. -/
import Derived.Test.YtdbcnnehfbcldaaDoorV29
import Derived.MapKept
import Derived.WideMake
set_option linter.all false
set_option linter.unusedSimpArgs false
set_option linter.unusedVariables false
set_option linter.unnecessarySimpa false
/- Maps of keys that are numbers, strings or truth values. No condition. -/
namespace Go.Proofs.YtdbcnnehfbcldaaDoor.Pv
open Go
def keyB (P : Program) (t : TypeId) : Nat → Bool
  | 0 => match P.underlying t with
    | some (.int .i64) => true
    | _ => false
  | 1 => match P.underlying t with
    | some .string => true
    | _ => false
  | 2 => match P.underlying t with
    | some .bool => true
    | _ => false
  | _ => false
def mapB (P : Program) (t : TypeId) (k : Nat) : Bool := match P.underlying t with
  | some (.map kt _) => keyB P kt k
  | _ => false
def mapZB (P : Program) (t : TypeId) (z : PV) : Bool := match P.underlying t with
  | some (.map _ et) => (match (P.info? et).bind (·.zero) with
    | some v => repB z v
    | none => false)
  | _ => false
section
variable {P : Program} {ar : Nat → Nat} {N : Nat} {E : Entry} {G G' : Gh} {s : St} {a : Act} {w w' : World} {m m' m2 : Mem} {F : List Nat} {as cs : List AV} {ρ : Operand → Value} {o : Oper} {d : Nat} {ok : Bool → Nat → Prop} {t' : Nat → AV}
theorem keyB_desc {t : TypeId} {k : Nat} (h : keyB P t k = true) : ∃ ds, P.underlying t = some ds ∧ ∀ (p : PV) (v : Value) (b : PV) (u : Value) (r : Bool) (F F' : List Nat) (ok ok' : Bool → Nat → Prop), Rep P w ok p v F → Rep P w ok' b u F' → sameK k p b = some r → Instr.sameNow ds v u = some r ∧ MapKept.IsKey ds v ∧ (r = true → Instr.sameBits 10000 u v = true) := by
  unfold keyB at h
  split at h
  · split at h
    · rename_i hk
      refine ⟨_, hk, fun p v b u r F F' ok ok' h1 h2 hs => ?_⟩
      cases h1 <;> cases h2 <;> simp [sameK] at hs
      rename_i k1 n1 k2 n2
      cases k1 <;> cases k2 <;> simp at hs
      subst hs
      refine ⟨by simp [Instr.sameNow], by simp [MapKept.IsKey], fun hr => ?_⟩
      simp at hr
      simp [Instr.sameBits, hr]
    · cases h
  · split at h
    · rename_i hk
      refine ⟨_, hk, fun p v b u r F F' ok ok' h1 h2 hs => ?_⟩
      cases h1 <;> cases h2 <;> simp [sameK] at hs
      subst hs
      refine ⟨by simp [Instr.sameNow], by simp [MapKept.IsKey], fun hr => ?_⟩
      have e := (MapKept.bytes_beq _ _).1 hr
      simp [Instr.sameBits, e, MapKept.bytes_beq]
    · cases h
  · split at h
    · rename_i hk
      refine ⟨_, hk, fun p v b u r F F' ok ok' h1 h2 hs => ?_⟩
      cases h1 <;> cases h2 <;> simp [sameK] at hs
      subst hs
      refine ⟨by simp [Instr.sameNow], by simp [MapKept.IsKey], fun hr => ?_⟩
      simp at hr
      simp [Instr.sameBits, hr]
    · cases h
  · cases h
theorem find_rep {k : Nat} {ds : TypeDesc} {q : PV} {qv : Value} (hds : ∀ (p : PV) (v : Value) (b : PV) (u : Value) (r : Bool) (F F' : List Nat) (ok ok' : Bool → Nat → Prop), Rep P w ok p v F → Rep P w ok' b u F' → sameK k p b = some r → Instr.sameNow ds v u = some r ∧ MapKept.IsKey ds v ∧ (r = true → Instr.sameBits 10000 u v = true)) (hq : Rep P w ok q qv []) :
    ∀ {es : List (PV × PV)} {ents : List MapEntry} {r : Option PV}, RepM P w ok es ents → mfind k q es = some r → ∀ i, ∃ x : Option (Nat × Value), Instr.findNow ds qv ents i = some x ∧ match r, x with
      | none, none => True
      | some p, some (_, v) => Rep P w ok p v []
      | _, _ => False
  | [], [], r, .nil, h, i => by
    simp only [mfind, Option.some.injEq] at h
    subst h
    exact ⟨none, rfl, trivial⟩
  | (kp, xp) :: es, e :: ents, r, .cons _ _ _ _ _ h1 h2 h3, h, i => by
    simp only [mfind] at h
    split at h
    · rename_i hs
      simp only [Option.some.injEq] at h
      subst h
      obtain ⟨g1, _, _⟩ := hds _ _ _ _ _ _ _ _ _ hq h1 hs
      exact ⟨some (i, e.val), by simp [Instr.findNow, g1], h2⟩
    · rename_i hs
      obtain ⟨g1, _, _⟩ := hds _ _ _ _ _ _ _ _ _ hq h1 hs
      obtain ⟨x, k1, k2⟩ := find_rep hds hq h3 h (i + 1)
      exact ⟨x, by simp [Instr.findNow, g1, k1], k2⟩
    · cases h
theorem set_rep {k : Nat} {ds : TypeDesc} {q v : PV} {qv vv : Value} (hds : ∀ (p : PV) (v : Value) (b : PV) (u : Value) (r : Bool) (F F' : List Nat) (ok ok' : Bool → Nat → Prop), Rep P w ok p v F → Rep P w ok' b u F' → sameK k p b = some r → Instr.sameNow ds v u = some r ∧ MapKept.IsKey ds v ∧ (r = true → Instr.sameBits 10000 u v = true)) (hq : Rep P w ok q qv []) (hv : Rep P w ok v vv []) (clock : Nat) :
    ∀ {es es' : List (PV × PV)} {ents : List MapEntry}, RepM P w ok es ents → mset k q v es = some es' →
      (Instr.findNow ds qv ents 0 = some none ∧ RepM P w ok es' (ents ++ [{ key := qv, val := vv, born := clock }])) ∨
      ∃ (j : Nat) (e : MapEntry), (∀ i, Instr.findNow ds qv ents i = some (some (i + j, e.val))) ∧ ents[j]? = some e ∧ Instr.sameBits 10000 e.key qv = true ∧ RepM P w ok es' (ents.modify j fun e => { e with key := qv, val := vv })
  | [], es', [], .nil, h => by
    simp only [mset, Option.some.injEq] at h
    subst h
    exact .inl ⟨rfl, .cons _ _ _ _ _ hq hv .nil⟩
  | (kp, xp) :: es, es', e :: ents, .cons _ _ _ _ _ h1 h2 h3, h => by
    simp only [mset] at h
    split at h
    · rename_i hs
      simp only [Option.some.injEq] at h
      subst h
      obtain ⟨g1, _, g3⟩ := hds _ _ _ _ _ _ _ _ _ hq h1 hs
      exact .inr ⟨0, e, fun i => by simp [Instr.findNow, g1], rfl, g3 rfl, .cons _ _ _ _ _ hq hv h3⟩
    · rename_i hs
      obtain ⟨g1, _, _⟩ := hds _ _ _ _ _ _ _ _ _ hq h1 hs
      simp only [Option.map_eq_some_iff] at h
      obtain ⟨es2, h, rfl⟩ := h
      rcases set_rep hds hq hv clock h3 h with ⟨k1, k2⟩ | ⟨j, e', k1, k2, k3, k4⟩
      · have sh : ∀ (l : List MapEntry) (i : Nat), Instr.findNow ds qv l 0 = some none → Instr.findNow ds qv l i = some none := by
          intro l
          induction l with
          | nil => intro i _; rfl
          | cons x l ih =>
            intro i hh
            have gen : ∀ (l : List MapEntry) (i j : Nat), Instr.findNow ds qv l i = some none → Instr.findNow ds qv l j = some none := by
              intro l
              induction l with
              | nil => intro i j _; rfl
              | cons x l ih =>
                intro i j hh
                simp only [Instr.findNow] at hh ⊢
                split at hh
                · cases hh
                · exact ih _ _ hh
                · cases hh
            exact gen _ 0 i hh
        exact .inl ⟨by simp [Instr.findNow, g1, sh ents 1 k1], .cons _ _ _ _ _ h1 h2 k2⟩
      · exact .inr ⟨j + 1, e', fun i => by simp [Instr.findNow, g1, k1]; omega, by simpa using k2, k3, by simpa using RepM.cons _ _ _ _ _ h1 h2 k4⟩
    · cases h
theorem Sim.setMapW {W : World} {ob : Nat} {es : List (PV × PV)} (h : Sim P ar N E G ⟨t', m⟩ a w) (hb : m.b ob = none) (hγ : G.γ (G.β ob).1 = some (.b ob)) (hk : m.kb ob ≠ 0) (hnew : ∃ ents clock, W.heap[(G.β ob).1]? = some (.map ents clock) ∧ RepM P w G.ok es ents.toList) (hoth : ∀ b, b ≠ (G.β ob).1 → W.heap[b]? = w.heap[b]?) (hsz : W.heap.size = w.heap.size) (henv : W.os = w.os ∧ W.tape = w.tape ∧ W.output = w.output) :
    Sim P ar N E G ⟨t', { m with mp := upd m.mp ob (some es) }⟩ a W ∧ Grow P G G w W m { m with mp := upd m.mp ob (some es) } := by
  have hne : ∀ o1, o1 ≠ some (.b ob) → ∀ b, G.γ b = o1 → b ≠ (G.β ob).1 := fun o1 ho b hb e => ho (by rw [← hb, e, hγ])
  have hstay : ∀ o1, o1 ≠ .b ob → Stay G G w W o1 := fun o1 ho b hb => ⟨hb, hoth b (hne _ (by simpa using ho) b hb)⟩
  have hcell : ∀ {b off : Nat} {u : Value}, b ≠ (G.β ob).1 → w.cell? ⟨b, off, none⟩ = some u → W.cell? ⟨b, off, none⟩ = some u := fun hn hu => (World.cell?_of_block (a := ⟨_, _, none⟩) (hoth _ hn)).trans hu
  have hg : Grow P G G w W m { m with mp := upd m.mp ob (some es) } := {
    ent := rfl
    ok := fun b hb _ => hb
    size := Nat.le_of_eq hsz.symm
    same := fun b hb _ => hoth b (hne _ (by simp) b hb)
    dead := fun _ h => h
    refs := fun r p v hr => refsOf (.inl (by
      obtain ⟨h1, p0, v0, h2, h3, h4⟩ := hr
      refine ⟨h1, p0, v0, h2, ?_, h4.keep (fun b hb => hb) (fun b off u hb hu => hcell (hne _ (by simp) b hb) hu)⟩
      cases hq : r.root with
      | v t => rw [hq] at h3; exact h3
      | c o n =>
        rw [hq] at h3 h2
        simp only [Hd] at h3 ⊢
        refine hcell (fun e => ?_) h3
        simp only [Mem.at, Mem.cell] at h2
        split at h2
        · rename_i p' hp
          obtain ⟨cs', hcs', _⟩ := Option.bind_eq_some_iff.1 hp
          obtain ⟨_, _, _, g5, _⟩ := h.box o cs' hcs'
          rw [e, hγ] at g5
          have : o = ob := by simpa using g5.symm
          subst this
          have hcs2 : m.b o = some cs' := hcs'
          rw [hb] at hcs2; cases hcs2
        · cases h2))
    kb := fun _ => Nat.le_refl _
    beta := fun _ _ => rfl }
  refine ⟨?_, hg⟩
  exact {
    ent := h.ent
    size := h.size
    defers := h.defers
    lab := fun b hb => by rw [hsz]; exact h.lab b hb
    tmp := fun t u hu => (h.tmp t u hu).frame hg (hstay _ (by simp))
    nn := h.nn
    comp := h.comp
    whole := h.whole
    box := fun o cs hc => by
      have ho : o ≠ ob := fun e => by subst e; have hc2 : m.b o = some cs := hc; rw [hb] at hc2; cases hc2
      exact (h.box o cs hc).frame hg rfl (hstay _ (by simpa using ho)) (fun _ => hstay _ (by simp))
    map := fun o es' hc => by
      by_cases ho : o = ob
      · subst ho
        simp only [upd_same, Option.some.injEq] at hc
        subst hc
        obtain ⟨ents, clock, k1, k2⟩ := hnew
        exact ⟨ents, clock, k1, hγ, k2.frame hg⟩
      · simp only [upd_ne _ _ _ _ ho] at hc
        exact (h.map o es' hc).frame hg rfl (hstay _ (by simpa using ho))
    row := fun t p hp => (h.row t p hp).frame hg rfl (hstay _ (by simp))
    env := {
      mono := h.env.mono
      os := henv.1.trans h.env.os
      tape := henv.2.1.trans h.env.tape
      output := henv.2.2.trans h.env.output
      size := by rw [hsz]; exact h.env.size
      keep := fun b h1 h2 => by
        obtain ⟨k1, k2⟩ := h.env.keep b h1 h2
        exact ⟨k1, (hoth b (hne _ (by simp) b k1)).trans k2⟩
      lent := fun o L hL => by
        obtain ⟨k1, k2, k3, k4⟩ := h.env.lent o L hL
        refine ⟨k1, ?_, k3, k4⟩
        have hnb : L.b ≠ (G.β ob).1 := fun e => by
          rw [e, hγ] at k1
          have : ob = o := by simpa using k1
          subst this
          exact k4 hk e.symm
        obtain ⟨arr, g1, g2⟩ := k2
        exact ⟨arr, by rw [hoth _ hnb]; exact g1, g2⟩
      hd0 := h.env.hd0
      provlt := h.env.provlt
      prov := h.env.prov } }
theorem key_own {k : Nat} {q : PV} (h : (sameK k q q).isSome = true) : q.own = false := by
  cases q <;> first | rfl | (cases k with
    | zero => simp [sameK] at h
    | succ k => cases k with
      | zero => simp [sameK] at h
      | succ k => cases k <;> simp [sameK] at h)
theorem RepA.of_mp {o k : Nat} {v : Value} (h : RepA P G w m (.mp o k) v F) (hk : m.kb o = k) : v = .map (some (G.β o).1) ∧ F = [] := by
  cases h with
  | mp _ _ _ => exact ⟨rfl, rfl⟩
  | mpX _ _ _ _ hx => omega
theorem mapB_spec {t : TypeId} {k : Nat} (h : mapB P t k = true) : ∃ kt et, P.underlying t = some (.map kt et) ∧ keyB P kt k = true := by
  unfold mapB at h
  split at h
  · rename_i kt et hk; exact ⟨kt, et, hk, h⟩
  · cases h
theorem gives_mkm {t : TypeId} (h : Sim P ar N E G ⟨t', m⟩ a w) (ho : o.op = .makeMap t none) (hs : semL d m .mkm [] = some (as, m2)) : ∃ v w2, (execOp ρ o).run P w = .ok (.value v) w2 ∧ Gives P ar N E 0 t' a as m2 v w2 := by
  simp only [semL] at hs
  split at hs
  · rename_i hbn
    simp only [Option.some.injEq, Prod.mk.injEq] at hs
    obtain ⟨rfl, rfl⟩ := hs
    obtain ⟨hg, h1⟩ := h.alloc (.cells #[] t)
    obtain ⟨G', hb, h2⟩ := h1.setNew (d := d) (nb := w.heap.size) (vs := []) (cs := []) (F := []) (ty := t) (by simpa using heap_alloc_new w (.cells #[] t)) (relabel_in (by simp)) .nil List.nodup_nil (by simp) (by simp)
    have hγ : G'.γ (G'.β d).1 = some (.b d) := by
      obtain ⟨_, _, _, g, _⟩ := h2.box d [] (by simp [Mem.setNew, upd])
      exact g
    have h3 := h2.less (m' := { m.setNew d [] with b := upd m.b d none }) (by
      refine ⟨rfl, rfl, rfl, fun _ => .inl rfl, fun _ => .inl rfl, fun o => ?_⟩
      by_cases e : o = d
      · subst e; exact .inl (upd_same _ _ _)
      · cases hx : m.b o with
        | none => exact .inl (by simp [upd, e, hx])
        | some cs => exact .inr ⟨cs, cs, by simp [Mem.setNew, upd, e, hx], by simp [upd, e, hx], rfl, fun _ => .inl rfl⟩)
    have hsz : (w.alloc (.map #[] 0)).heap.size = (w.alloc (.cells #[] t)).heap.size := by simp
    obtain ⟨h4, _⟩ := h3.setMapW (W := w.alloc (.map #[] 0)) (ob := d) (es := []) (upd_same _ _ _) hγ (by simp [Mem.setNew, upd]) ⟨#[], 0, by rw [hb]; simpa using heap_alloc_new w (.map #[] 0), .nil⟩ (fun b hne => by
      rw [hb] at hne
      by_cases hlt : b < w.heap.size
      · rw [heap_alloc_old w _ b hlt, heap_alloc_old w _ b hlt]
      · have hgt : w.heap.size < b := by simp only at hne; omega
        rw [Array.getElem?_eq_none (by simp; omega), Array.getElem?_eq_none (by simp; omega)]) hsz ⟨rfl, rfl, rfl⟩
    refine ⟨.map (some w.heap.size), _, ?_, G', [], h4, List.nodup_nil, by simp, fun c hc => ?_⟩
    · unfold execOp; rw [ho]
      exact run_valOf (run_makeMap_plain w t)
    · simp only [List.cons.injEq, and_true] at hc
      subst hc
      have := RepA.mp (P := P) (G := G') (w := w.alloc (.map #[] 0)) (m := m.newMap d) d (m.kb d + 1) (by simp [Mem.newMap, Mem.setNew, upd])
      rw [hb] at this
      exact this
  · cases hs
theorem plain_mlk (h : Sim P ar N E G s a w) {t : TypeId} {tg ob k : Nat} {q z : PV} {x y : Operand} {x' y' : Opd} (ht : mapB P t tg = true) (hz : mapZB P t z = true) (ho : o.op = .lookup t x y false) (hr : RepO P G w s.m [.mp ob k, .pv q] [ρ x, ρ y] F)
    (hs : semL d s.m (.mlk tg z x' y') [.mp ob k, .pv q] = some (as, m2)) : Plain P G w s.m m2 F as ((execOp ρ o).run P w) := by
  obtain ⟨v1, v2, F1, F2, hv, rfl, h1, h2⟩ := hr.inv2
  simp only [List.cons.injEq, and_true] at hv
  obtain ⟨e1, e2⟩ := hv
  simp only [semL] at hs
  split at hs
  · rename_i hc
    split at hs
    · rename_i es hes
      simp only [Option.map_eq_some_iff, Prod.mk.injEq] at hs
      obtain ⟨r, hf, rfl, rfl⟩ := hs
      obtain ⟨rfl, rfl⟩ := h1.of_mp hc.1
      have hq := h2.of_pv
      have hF2 : F2 = [] := hq.own_none (key_own hc.2)
      subst hF2
      obtain ⟨ents, clock, g1, g2, g3⟩ := h.map ob es hes
      obtain ⟨kt, et, hm, hk⟩ := mapB_spec ht
      obtain ⟨ds, hds, hall⟩ := keyB_desc hk
      obtain ⟨b, hb⟩ := Option.isSome_iff_exists.1 hc.2
      obtain ⟨_, hkey, _⟩ := hall _ _ _ _ _ _ _ _ _ hq hq hb
      obtain ⟨xx, hx1, hx2⟩ := find_rep hall hq g3 hf 0
      have hzz : ∃ zv, (zeroValue et).run P w = .ok zv w ∧ Rep P w G.ok z zv [] := by
        unfold mapZB at hz
        rw [hm] at hz
        simp only at hz
        split at hz
        · rename_i v hv
          obtain ⟨i, hi, hv⟩ := Option.bind_eq_some_iff.1 hv
          exact ⟨v, by simp [zeroValue, typeInfo, hi, hv], repB_sound hz⟩
        · cases hz
      obtain ⟨zv, hz1, hz2⟩ := hzz
      have hck := MapKept.run_checkKey (P := P) (w := w) hds hkey ents.isEmpty 9999
      have hfk := MapKept.run_findKey (P := P) (w := w) hds hx1
      have hrun : ∃ v, (Instr.lookup t (.map (some (G.β ob).1)) (ρ y) false).run P w = .ok v w ∧ Rep P w G.ok (r.getD z) v [] := by
        rw [e2] at *
        cases r with
        | none => cases xx with
          | none => exact ⟨zv, by simp [Instr.lookup, run_underlying hm, MapKept.run_getObj_map g1, hck, hfk, hz1], hz2⟩
          | some y => exact hx2.elim
        | some p => cases xx with
          | none => exact hx2.elim
          | some y =>
            obtain ⟨j, v⟩ := y
            exact ⟨v, by simp [Instr.lookup, run_underlying hm, MapKept.run_getObj_map g1, hck, hfk], hx2⟩
      obtain ⟨v, hv1, hv2⟩ := hrun
      refine ⟨v, _, [], ?_, rfl, rfl, .of_PV hv2, List.nodup_nil, by simp⟩
      unfold execOp; rw [ho]
      show (valOf (Instr.lookup t (ρ x) (ρ y) false)).run P w = _
      rw [e1]
      exact run_valOf hv1
    · cases hs
  · cases hs
theorem gives_mup (h : Sim P ar N E G ⟨t', m⟩ a w) {t : TypeId} {tg ob k : Nat} {q v : PV} {x y z : Operand} {x' y' z' : Opd} (ht : mapB P t tg = true) (ho : o.op = .mapUpdate t x y z) (hr : RepO P G w m [.mp ob k, .pv q, .pv v] [ρ x, ρ y, ρ z] F)
    (hs : semL d m (.mup tg x' y' z') [.mp ob k, .pv q, .pv v] = some (as, m2)) : ∃ w2, (execOp ρ o).run P w = .ok .skip w2 ∧ Gives P ar N E 0 t' a as m2 undef w2 := by
  obtain ⟨v1, v2, v3, F1, F2, F3, hv, rfl, h1, h2, h3⟩ := hr.inv3
  simp only [List.cons.injEq, and_true] at hv
  obtain ⟨e1, e2, e3⟩ := hv
  simp only [semL] at hs
  split at hs
  · rename_i hc
    obtain ⟨hkb, hk0, hvo, hqk⟩ := hc
    split at hs
    · rename_i es hes hbn
      simp only [Option.map_eq_some_iff, Prod.mk.injEq] at hs
      obtain ⟨es', hset, rfl, rfl⟩ := hs
      obtain ⟨rfl, rfl⟩ := h1.of_mp hkb
      have hq := h2.of_pv
      have hF2 : F2 = [] := hq.own_none (key_own hqk)
      subst hF2
      have hvv := h3.of_pv
      have hF3 : F3 = [] := hvv.own_none hvo
      subst hF3
      obtain ⟨ents, clock, g1, g2, g3⟩ := h.map ob es hes
      obtain ⟨kt, et, hm, hk⟩ := mapB_spec ht
      obtain ⟨ds, hds, hall⟩ := keyB_desc hk
      obtain ⟨b, hb⟩ := Option.isSome_iff_exists.1 hqk
      obtain ⟨_, hkey, _⟩ := hall _ _ _ _ _ _ _ _ _ hq hq hb
      have hck := MapKept.run_checkKey (P := P) (w := w) hds hkey false 9999
      have hlt : (G.β ob).1 < w.heap.size := (Array.getElem?_eq_some_iff.1 g1).1
      have fin : ∀ (ents' : Array MapEntry) (clock' : Nat), RepM P w G.ok es' ents'.toList → (Instr.mapUpdate t (.map (some (G.β ob).1)) (ρ y) (ρ z)).run P w = .ok () { w with heap := w.heap.setIfInBounds (G.β ob).1 (.map ents' clock') } →
          ∃ w2, (execOp ρ o).run P w = .ok .skip w2 ∧ Gives P ar N E 0 t' a [] { m with mp := upd m.mp ob (some es') } undef w2 := by
        intro ents' clock' hrep hrun
        obtain ⟨k1, _⟩ := h.setMapW (W := { w with heap := w.heap.setIfInBounds (G.β ob).1 (.map ents' clock') }) (ob := ob) (es := es') hbn g2 (by rw [hkb]; exact hk0) ⟨ents', clock', by simp [hlt], hrep⟩ (fun b hne => by simp [Ne.symm hne]) (by simp) ⟨rfl, rfl, rfl⟩
        refine ⟨_, ?_, G, [], k1, List.nodup_nil, by simp, fun c hc => by simp at hc⟩
        unfold execOp; rw [ho]
        show (do Instr.mapUpdate t (ρ x) (ρ y) (ρ z); pure Next.skip : Sem Next).run P w = _
        rw [e1, Sem.run_bind, hrun]
        rfl
      rcases set_rep hall hq hvv clock g3 hset with ⟨k1, k2⟩ | ⟨j, e, k1, k2, k3, k4⟩
      · have hfk := MapKept.run_findKey (P := P) (w := w) hds k1
        refine fin (ents.push { key := v2, val := v3, born := clock }) (clock + 1) (by simpa using k2) ?_
        rw [e2, e3]
        simp [Instr.mapUpdate, run_underlying hm, MapKept.run_getObj_map g1, hck, hfk, MapKept.run_setObj_map _ g1]
      · have hfk := MapKept.run_findKey (P := P) (w := w) hds (k1 0)
        have hej : ents[j]? = some e := by simpa using k2
        refine fin (ents.modify j fun e => { e with key := v2, val := v3 }) clock (by simpa using k4) ?_
        rw [e2, e3]
        simp [Instr.mapUpdate, run_underlying hm, MapKept.run_getObj_map g1, hck, hfk, MapKept.run_setObj_map _ g1, Instr.keyThatStays, hej, k3]
    · cases hs
  · cases hs
theorem del_rep {k : Nat} {ds : TypeDesc} {q : PV} {qv : Value} (hds : ∀ (p : PV) (v : Value) (b : PV) (u : Value) (r : Bool) (F F' : List Nat) (ok ok' : Bool → Nat → Prop), Rep P w ok p v F → Rep P w ok' b u F' → sameK k p b = some r → Instr.sameNow ds v u = some r ∧ MapKept.IsKey ds v ∧ (r = true → Instr.sameBits 10000 u v = true)) (hq : Rep P w ok q qv []) :
    ∀ {es es' : List (PV × PV)} {ents : List MapEntry}, RepM P w ok es ents → mdel k q es = some es' →
      ((∀ i, Instr.findNow ds qv ents i = some none) ∧ RepM P w ok es' ents) ∨
      ∃ (j : Nat) (e : MapEntry), (∀ i, Instr.findNow ds qv ents i = some (some (i + j, e.val))) ∧ RepM P w ok es' (ents.eraseIdx j)
  | [], es', [], .nil, h => by
    simp only [mdel, Option.some.injEq] at h
    subst h
    exact .inl ⟨fun i => rfl, .nil⟩
  | (kp, xp) :: es, es', e :: ents, .cons _ _ _ _ _ h1 h2 h3, h => by
    simp only [mdel] at h
    split at h
    · rename_i hs
      simp only [Option.some.injEq] at h
      subst h
      obtain ⟨g1, _, g3⟩ := hds _ _ _ _ _ _ _ _ _ hq h1 hs
      exact .inr ⟨0, e, fun i => by simp [Instr.findNow, g1], by simpa using h3⟩
    · rename_i hs
      obtain ⟨g1, _, _⟩ := hds _ _ _ _ _ _ _ _ _ hq h1 hs
      simp only [Option.map_eq_some_iff] at h
      obtain ⟨es2, h, rfl⟩ := h
      rcases del_rep hds hq h3 h with ⟨k1, k2⟩ | ⟨j, e', k1, k2⟩
      · exact .inl ⟨fun i => by simp [Instr.findNow, g1, k1], .cons _ _ _ _ _ h1 h2 k2⟩
      · exact .inr ⟨j + 1, e', fun i => by simp [Instr.findNow, g1, k1]; omega, by simpa using RepM.cons _ _ _ _ _ h1 h2 k2⟩
    · cases h
theorem ex_delete {x y : Operand} {t u : TypeId} (ho : o.op = .call { callee := .builtin .delete, args := #[x, y], argTypes := #[t, u] }) : execOp ρ o = valOf (Builtin.delete_ #[t, u] o.type #[ρ x, ρ y]) := by
  rw [ex_call ho]; simp [resolve, invoke, builtin, valOf]
theorem gives_mdl (h : Sim P ar N E G ⟨t', m⟩ a w) {t u : TypeId} {tg ob k : Nat} {q : PV} {x y : Operand} {x' y' : Opd} (ht : mapB P t tg = true) (ho : o.op = .call { callee := .builtin .delete, args := #[x, y], argTypes := #[t, u] }) (hr : RepO P G w m [.mp ob k, .pv q] [ρ x, ρ y] F)
    (hs : semL d m (.mdl tg x' y') [.mp ob k, .pv q] = some (as, m2)) : ∃ v w2, (execOp ρ o).run P w = .ok (.value v) w2 ∧ Gives P ar N E 0 t' a as m2 v w2 := by
  obtain ⟨v1, v2, F1, F2, hv, rfl, h1, h2⟩ := hr.inv2
  simp only [List.cons.injEq, and_true] at hv
  obtain ⟨e1, e2⟩ := hv
  simp only [semL] at hs
  split at hs
  · rename_i hc
    obtain ⟨hkb, hk0, hqk⟩ := hc
    split at hs
    · rename_i es hes hbn
      simp only [Option.map_eq_some_iff, Prod.mk.injEq] at hs
      obtain ⟨es', hset, rfl, rfl⟩ := hs
      obtain ⟨rfl, rfl⟩ := h1.of_mp hkb
      have hq := h2.of_pv
      have hF2 : F2 = [] := hq.own_none (key_own hqk)
      subst hF2
      obtain ⟨ents, clock, g1, g2, g3⟩ := h.map ob es hes
      obtain ⟨kt, et, hm, hk⟩ := mapB_spec ht
      obtain ⟨ds, hds, hall⟩ := keyB_desc hk
      obtain ⟨b, hb⟩ := Option.isSome_iff_exists.1 hqk
      obtain ⟨_, hkey, _⟩ := hall _ _ _ _ _ _ _ _ _ hq hq hb
      have hck := MapKept.run_checkKey (P := P) (w := w) hds hkey ents.isEmpty 9999
      have hlt : (G.β ob).1 < w.heap.size := (Array.getElem?_eq_some_iff.1 g1).1
      have fin : ∀ (ents' : Array MapEntry) (clock' : Nat), RepM P w G.ok es' ents'.toList → (Builtin.delete_ #[t, u] o.type #[.map (some (G.β ob).1), ρ y]).run P w = .ok (.tuple #[]) { w with heap := w.heap.setIfInBounds (G.β ob).1 (.map ents' clock') } →
          ∃ v w2, (execOp ρ o).run P w = .ok (.value v) w2 ∧ Gives P ar N E 0 t' a [] { m with mp := upd m.mp ob (some es') } v w2 := by
        intro ents' clock' hrep hrun
        obtain ⟨k1, _⟩ := h.setMapW (W := { w with heap := w.heap.setIfInBounds (G.β ob).1 (.map ents' clock') }) (ob := ob) (es := es') hbn g2 (by rw [hkb]; exact hk0) ⟨ents', clock', by simp [hlt], hrep⟩ (fun b hne => by simp [Ne.symm hne]) (by simp) ⟨rfl, rfl, rfl⟩
        refine ⟨.tuple #[], { w with heap := w.heap.setIfInBounds (G.β ob).1 (.map ents' clock') }, ?_, G, [], k1, List.nodup_nil, by simp, fun c hc => by simp at hc⟩
        rw [ex_delete ho, e1]
        exact run_valOf hrun
      rcases del_rep hall hq g3 hset with ⟨k1, k2⟩ | ⟨j, e, k1, k2⟩
      · have hfk := MapKept.run_findKey (P := P) (w := w) hds (k1 0)
        refine fin ents clock k2 ?_
        rw [e2]
        simp [Builtin.delete_, run_underlying hm, MapKept.run_getObj_map g1, hck, hfk, MapKept.run_setObj_map _ g1]
      · have hfk := MapKept.run_findKey (P := P) (w := w) hds (k1 0)
        refine fin (ents.eraseIdxIfInBounds j) clock (by simpa using k2) ?_
        rw [e2]
        simp [Builtin.delete_, run_underlying hm, MapKept.run_getObj_map g1, hck, hfk, MapKept.run_setObj_map _ g1]
    · cases hs
  · cases hs
theorem RepM.length {es : List (PV × PV)} {ents : List MapEntry} (h : RepM P w ok es ents) : es.length = ents.length := by
  induction h with
  | nil => rfl
  | cons _ _ _ _ _ _ _ _ ih => simp [ih]
def mapTB (P : Program) (t : TypeId) : Bool := match P.underlying t with
  | some (.map _ _) => true
  | _ => false
theorem plain_lnm (h : Sim P ar N E G s a w) {t : TypeId} {ob k : Nat} {x : Operand} {x' : Opd} (ht : mapTB P t = true) (ho : o.op = .call { callee := .builtin .len, args := #[x], argTypes := #[t] }) (hr : RepO P G w s.m [.mp ob k] [ρ x] F) (hs : semL d s.m (.lnm x') [.mp ob k] = some (as, m2)) : Plain P G w s.m m2 F as ((execOp ρ o).run P w) := by
  obtain ⟨v1, hv, h1⟩ := hr.inv1
  simp only [List.cons.injEq, and_true] at hv
  simp only [semL] at hs
  split at hs
  · rename_i hk
    split at hs
    · rename_i es hes
      simp only [Option.some.injEq, Prod.mk.injEq] at hs
      obtain ⟨rfl, rfl⟩ := hs
      obtain ⟨rfl, rfl⟩ := h1.of_mp hk
      obtain ⟨ents, clock, g1, g2, g3⟩ := h.map ob es hes
      have hl := g3.length
      unfold mapTB at ht
      split at ht
      · rename_i kt et hm
        refine .imm (v := .int .i64 ents.size) ?_ (by rw [hl]; exact .int _ _)
        rw [ex_len ho, hv]
        refine run_valOf ?_
        simp [Builtin.len_, run_underlying hm, MapKept.run_getObj_map g1]
        rfl
      · cases ht
    · cases hs
  · cases hs
end
end Go.Proofs.YtdbcnnehfbcldaaDoor.Pv
