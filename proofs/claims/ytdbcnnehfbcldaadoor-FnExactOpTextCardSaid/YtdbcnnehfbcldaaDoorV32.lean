/- A plain reading of Go code and its soundness, part 32. No condition. -/
import Derived.Test.YtdbcnnehfbcldaaDoorV31
import Derived.Laws.StructEq
set_option linter.all false
set_option linter.unusedSimpArgs false
set_option linter.unusedVariables false
set_option linter.unnecessarySimpa false
/- Structs of scalars, compared; any operation; a region in its order. No condition. -/
namespace Go.Proofs.YtdbcnnehfbcldaaDoor.Pv
open Go
section
variable {P : Program} {ar : Nat → Nat} {N : Nat} {E : Entry} {G G' : Gh} {s s' : St} {a : Act} {w w' : World} {m m' m2 : Mem} {t' : Nat → AV} {V : List Nat} {as cs : List AV} {F : List Nat} {ρ : Operand → Value} {o : Oper} {d : Nat}
theorem run_part {t : TypeId} {dd : TypeDesc} {X : Array Value} {i : Nat} {v : Value} (ht : P.underlying t = some dd) (hag : aggB P t = false) (hv : X[i]? = some v) : (part t X i).run P w = .ok v w := by
  unfold part isAgg
  unfold aggB at hag
  rw [ht] at hag
  cases dd <;> simp_all [run_underlying ht]
theorem run_part_agg {t : TypeId} {X : Array Value} {i : Nat} (hk : knownB P t = true) (ha : aggB P t = true) : (part t X i).run P w = .ok (.agg (X.extract i (i + P.cellsOf t))) w := by
  unfold part
  simp [run_isAgg' hk, ha, run_sizeOf' hk]
theorem eqK_cons {k : Nat} {ks : List Nat} {cx cy : List AV} {b : Bool} (h : eqK (k :: ks) cx cy = some b) : ∃ c cx' c2 cy' p b0, cx = c :: cx' ∧ cy = c2 :: cy' ∧ eqK ks cx' cy' = some b0 ∧ b = (p && b0) ∧ ∀ ks' x' y' b', eqK ks' x' y' = some b' → eqK (k :: ks') (c :: x') (c2 :: y') = some (p && b') := by
  unfold eqK at h
  split at h
  · exact absurd ‹k :: ks = []› (by simp)
  · rename_i ks' kk x cx' kk2 y cy' h1
    simp only [List.cons.injEq] at h1
    obtain ⟨rfl, rfl⟩ := h1
    split at h
    · rename_i hkk
      subst hkk
      simp only [Option.map_eq_some_iff] at h
      obtain ⟨b0, hb0, rfl⟩ := h
      exact ⟨_, _, _, _, x == y, b0, rfl, rfl, hb0, rfl, fun ks' x' y' b' h' => by simp [eqK, h']⟩
    · cases h
  · rename_i ks' x cx' y cy' h1
    simp only [List.cons.injEq] at h1
    obtain ⟨rfl, rfl⟩ := h1
    simp only [Option.map_eq_some_iff] at h
    obtain ⟨b0, hb0, rfl⟩ := h
    exact ⟨_, _, _, _, x == y, b0, rfl, rfl, hb0, rfl, fun ks' x' y' b' h' => by simp [eqK, h']⟩
  · rename_i ks' x cx' y cy' h1
    simp only [List.cons.injEq] at h1
    obtain ⟨rfl, rfl⟩ := h1
    simp only [Option.map_eq_some_iff] at h
    obtain ⟨b0, hb0, rfl⟩ := h
    exact ⟨_, _, _, _, x.toList == y.toList, b0, rfl, rfl, hb0, rfl, fun ks' x' y' b' h' => by simp [eqK, h']⟩
  · cases h
theorem eqK_split : ∀ (n : Nat) (ks : List Nat) (cx cy : List AV) (b : Bool), n ≤ ks.length → eqK ks cx cy = some b → ∃ b1 b2, eqK (ks.take n) (cx.take n) (cy.take n) = some b1 ∧ eqK (ks.drop n) (cx.drop n) (cy.drop n) = some b2 ∧ b = (b1 && b2)
  | 0, ks, cx, cy, b, _, h => ⟨true, b, by simp [eqK], by simpa using h, by simp⟩
  | n + 1, [], cx, cy, b, hn, h => by simp at hn
  | n + 1, k :: ks, cx, cy, b, hn, h => by
    obtain ⟨c, cx', c2, cy', p, b0, rfl, rfl, h0, rfl, hc⟩ := eqK_cons h
    obtain ⟨b1, b2, h1, h2, rfl⟩ := eqK_split n ks cx' cy' b0 (by simpa using hn) h0
    exact ⟨p && b1, b2, by simpa using hc _ _ _ _ h1, by simpa using h2, by rw [Bool.and_assoc]⟩
theorem eqK_head {k : Nat} {t : TypeId} {dd : TypeDesc} {dp : Nat} {c c2 : AV} {ks : List Nat} {cx cy : List AV} {v u : Value} {F F2 : List Nat} {b : Bool} (ht : P.underlying t = some dd) (hk : eqKind k dd = true) (hv : RepA P G w m c v F) (hu : RepA P G w m c2 u F2) (hb : eqK (k :: ks) (c :: cx) (c2 :: cy) = some b) :
    ∃ p b0, aggB P t = false ∧ (Op.equalIn (dp + 1) t v u).run P w = .ok p w ∧ eqK ks cx cy = some b0 ∧ b = (p && b0) := by
  unfold eqK at hb
  split at hb
  · rename_i h1 _ _; cases h1
  · rename_i ks' kk x cx' kk2 y cy' h1 h2 h3
    simp only [List.cons.injEq] at h1 h2 h3
    obtain ⟨rfl, rfl⟩ := h1
    obtain ⟨rfl, rfl⟩ := h2
    obtain ⟨rfl, rfl⟩ := h3
    split at hb
    · rename_i hkk
      subst hkk
      simp only [Option.map_eq_some_iff] at hb
      obtain ⟨b0, hb0, rfl⟩ := hb
      cases dd <;> simp [eqKind] at hk
      have e1 := hv.of_pv
      have e2 := hu.of_pv
      cases e1; cases e2
      exact ⟨_, b0, by simp [aggB, ht], run_equalIn_int w dp t kk _ x y ht, hb0, rfl⟩
    · cases hb
  · rename_i ks' x cx' y cy' h1 h2 h3
    simp only [List.cons.injEq] at h1 h2 h3
    obtain ⟨rfl, rfl⟩ := h1
    obtain ⟨rfl, rfl⟩ := h2
    obtain ⟨rfl, rfl⟩ := h3
    simp only [Option.map_eq_some_iff] at hb
    obtain ⟨b0, hb0, rfl⟩ := hb
    cases dd <;> simp [eqKind] at hk
    have e1 := hv.of_pv
    have e2 := hu.of_pv
    cases e1; cases e2
    exact ⟨_, b0, by simp [aggB, ht], run_equalIn_bool' w dp t x y ht, hb0, rfl⟩
  · rename_i ks' x cx' y cy' h1 h2 h3
    simp only [List.cons.injEq] at h1 h2 h3
    obtain ⟨rfl, rfl⟩ := h1
    obtain ⟨rfl, rfl⟩ := h2
    obtain ⟨rfl, rfl⟩ := h3
    simp only [Option.map_eq_some_iff] at hb
    obtain ⟨b0, hb0, rfl⟩ := hb
    cases dd <;> simp [eqKind] at hk
    have e1 := hv.of_pv
    have e2 := hu.of_pv
    cases e1; cases e2
    exact ⟨_, b0, by simp [aggB, ht], run_equalIn_string w dp t x y ht, hb0, rfl⟩
  · cases hb
theorem takeL_at {α : Type} {l : List α} {n j : Nat} {c : α} (h : (l.take n)[j]? = some c) : j < n ∧ l[j]? = some c := by
  rw [List.getElem?_take] at h
  split at h
  · exact ⟨by assumption, h⟩
  · cases h
theorem extract_at {X : Array Value} {i n j : Nat} {v : Value} (hj : j < n) (h : X[i + j]? = some v) : (X.extract i (i + n))[0 + j]? = some v := by
  have hlt : i + j < X.size := (Array.getElem?_eq_some_iff.1 h).1
  rw [Nat.zero_add, Array.getElem?_extract]
  rw [if_pos (by omega)]
  exact h
theorem run_eqFields : ∀ (n D : Nat) (fs : List Field) (ks : List Nat) (i : Nat) (X Y : Array Value) (cx cy : List AV) (b : Bool), n ≤ D → eqFlds P n i fs ks = true → (∀ (j : Nat) c, cx[j]? = some c → ∃ v F, X[i + j]? = some v ∧ RepA P G w m c v F) → (∀ (j : Nat) c, cy[j]? = some c → ∃ v F, Y[i + j]? = some v ∧ RepA P G w m c v F) → eqK ks cx cy = some b →
    (Op.eqFields D X Y fs).run P w = .ok b w
  | 0, _, _, _, _, _, _, _, _, _, _, hf, _, _, _ => by simp [eqFlds] at hf
  | n + 1, D, [], ks, i, X, Y, cx, cy, b, hD, hf, hx, hy, hb => by
    simp only [eqFlds, List.isEmpty_iff] at hf
    subst hf
    cases cx <;> cases cy <;> simp [eqK] at hb
    subst hb
    simp [Op.eqFields]
  | n + 1, 0, f :: fs, ks, i, X, Y, cx, cy, b, hD, hf, hx, hy, hb => by omega
  | n + 1, D + 1, f :: fs, ks, i, X, Y, cx, cy, b, hD, hf, hx, hy, hb => by
    simp only [eqFlds, Bool.and_eq_true, bne_iff_ne, ne_eq, beq_iff_eq] at hf
    obtain ⟨⟨hname, hoff⟩, hf⟩ := hf
    split at hf
    · rename_i gs hgs
      simp only [Bool.and_eq_true, Bool.not_eq_true', decide_eq_true_eq] at hf
      obtain ⟨⟨⟨⟨hst, hkn⟩, hle⟩, hg⟩, hrest⟩ := hf
      obtain ⟨b1, b2, h1, h2, rfl⟩ := eqK_split (P.cellsOf f.type) ks cx cy b hle hb
      have hag : aggB P f.type = true := by simp [aggB, hgs]
      have hfo : P.fieldsOf f.type = gs := by simp [Program.fieldsOf, hgs]
      have nest := run_eqFields n D gs.toList _ 0 (X.extract i (i + P.cellsOf f.type)) (Y.extract i (i + P.cellsOf f.type)) _ _ b1 (by omega) hg (fun j c h => by
        obtain ⟨hj, h⟩ := takeL_at h
        obtain ⟨v, F, k1, k2⟩ := hx j c h
        exact ⟨v, F, extract_at hj k1, k2⟩) (fun j c h => by
        obtain ⟨hj, h⟩ := takeL_at h
        obtain ⟨v, F, k1, k2⟩ := hy j c h
        exact ⟨v, F, extract_at hj k1, k2⟩) h1
      have rest := run_eqFields n (D + 1) fs _ (i + P.cellsOf f.type) X Y _ _ b2 (by omega) hrest (fun j c h => by
        rw [List.getElem?_drop] at h
        obtain ⟨v, F, k1, k2⟩ := hx _ c h
        exact ⟨v, F, by rw [Nat.add_assoc]; exact k1, k2⟩) (fun j c h => by
        rw [List.getElem?_drop] at h
        obtain ⟨v, F, k1, k2⟩ := hy _ c h
        exact ⟨v, F, by rw [Nat.add_assoc]; exact k1, k2⟩) h2
      subst hoff
      have heq := run_equalIn_struct w D f.type (X.extract f.offset (f.offset + P.cellsOf f.type)) (Y.extract f.offset (f.offset + P.cellsOf f.type)) (by rw [hfo]; exact hgs) hst
      rw [hfo, nest] at heq
      simp only [Op.eqFields]
      rw [if_pos hname]
      simp only [Sem.run_bind, run_part_agg hkn hag, heq, Result.andThen_ok]
      cases b1
      · simp
      · simpa using rest
    · rename_i dd hnot hdd
      split at hf
      · rename_i k ks'
        simp only [Bool.and_eq_true] at hf
        obtain ⟨hk, hrest⟩ := hf
        obtain ⟨c, cx', c2, cy', _, _, rfl, rfl, _, _, _⟩ := eqK_cons hb
        obtain ⟨v, F, hv, hvr⟩ := hx 0 c rfl
        obtain ⟨u, F2, hu, hur⟩ := hy 0 c2 rfl
        rw [Nat.add_zero] at hv hu
        obtain ⟨p, b0, h2, h3, h4, rfl⟩ := eqK_head (dp := D) hdd hk hvr hur hb
        have ih := run_eqFields n (D + 1) fs ks' (i + 1) X Y cx' cy' b0 (by omega) hrest (fun j c h => by
          obtain ⟨v', F', h1, h2⟩ := hx (j + 1) c (by simpa using h)
          exact ⟨v', F', by rw [show i + 1 + j = i + (j + 1) by omega]; exact h1, h2⟩) (fun j c h => by
          obtain ⟨v', F', h1, h2⟩ := hy (j + 1) c (by simpa using h)
          exact ⟨v', F', by rw [show i + 1 + j = i + (j + 1) by omega]; exact h1, h2⟩) h4
        simp only [Op.eqFields]
        rw [if_pos hname]
        simp only [Sem.run_bind, run_part hdd h2 (hoff ▸ hv), run_part hdd h2 (hoff ▸ hu), h3, Result.andThen_ok]
        cases p
        · simp
        · simpa using ih
      · cases hf
    · cases hf
theorem one_eqs {ng : Bool} {ks : List Nat} {u v : Opd} (h : Sim P ar N E G s a w) (hc : cEqs P o.op ng ks u v = true) (ht : takeT V s.t [u, v] = some t') (hs : semL d s.m (.eqs ng ks u v) [opd s u, opd s v] = some (as, m2)) : Gave P ar N E t' a as m2 ((execOp a.eval o).run P w) := by
  generalize hop : o.op = op at hc
  unfold cEqs at hc
  split at hc
  · rename_i op t x y t2
    simp only [Bool.and_eq_true, beq_iff_eq] at hc
    obtain ⟨⟨hop2, hty⟩, hx⟩ := hc
    obtain ⟨G1, F, h1, hr, hn, hF⟩ := h.read (xs := [x, y]) hx ht
    simp only [List.map_cons, List.map_nil] at hr
    obtain ⟨cx, hu⟩ : ∃ cx, opd s u = .agg cx := by
      cases hu : opd s u with
      | agg cx => exact ⟨cx, rfl⟩
      | _ => rw [hu] at hs; simp [semL] at hs
    obtain ⟨cy, hv⟩ : ∃ cy, opd s v = .agg cy := by
      cases hv : opd s v with
      | agg cy => exact ⟨cy, rfl⟩
      | _ => rw [hu, hv] at hs; simp [semL] at hs
    rw [hu, hv] at hs hr
    simp only [semL, single, Option.map_map, Option.map_eq_some_iff] at hs
    obtain ⟨b, hb, hs⟩ := hs
    simp only [Function.comp, Prod.mk.injEq] at hs
    obtain ⟨rfl, rfl⟩ := hs
    obtain ⟨v1, v2, F1, F2, e, rfl, r1, r2⟩ := hr.inv2
    simp only [List.cons.injEq, and_true] at e
    obtain ⟨e1, e2⟩ := e
    unfold eqTy at hty
    split at hty
    · rename_i fs hfs
      simp only [Bool.and_eq_true, Bool.not_eq_true'] at hty
      obtain ⟨⟨hst, hgd⟩, hfl⟩ := hty
      cases r1 with
      | agg _ us _ l1 =>
        cases r2 with
        | agg _ us2 _ l2 =>
          have hfo : P.fieldsOf t = fs := by simp [Program.fieldsOf, hfs]
          have hrun := run_eqFields (P := P) (G := G1) (w := w) (m := s.m) 40 9999 fs.toList ks 0 us.toArray us2.toArray cx cy b (by omega) hfl (fun j c hj => by
            obtain ⟨v', F', k1, k2, _⟩ := l1.get hj
            exact ⟨v', F', by simpa using k1, k2⟩) (fun j c hj => by
            obtain ⟨v', F', k1, k2, _⟩ := l2.get hj
            exact ⟨v', F', by simpa using k1, k2⟩) hb
          have heq : (Op.equal t (.agg us.toArray) (.agg us2.toArray)).run P w = .ok b w := by
            show (Op.equalIn (9999 + 1) t _ _).run P w = _
            rw [run_equalIn_struct w 9999 t _ _ (by rw [hfo]; exact hfs) hst, hfo]
            exact hrun
          refine .plain h1 hF (.imm (v := .bool (b != ng)) ?_ (.bool _))
          rw [ex_bin hop, e1, e2]
          refine run_valOf ?_
          cases ng
          · simp only [Bool.false_eq_true, if_false] at hop2
            subst hop2
            simp [eqGuard, hgd, binOp, heq]
          · simp only [if_true] at hop2
            subst hop2
            simp [eqGuard, hgd, binOp, heq]
    · cases hty
  · cases hc
theorem one_any {po : PO} (h : Sim P ar N E G s a w) (hc : chkOp P o.op po = true) (hn : isCallB po = false) (ht : takeT V s.t po.opds = some t') (hs : semL d s.m po (po.opds.map (opd s)) = some (as, m2)) : Gave P ar N E t' a as m2 ((execOp a.eval o).run P w) := by
  cases po with
  | mov y => exact one_mov h hc ht hs
  | pick c x y => exact one_pick h hc ht hs
  | alloc zs => exact one_alloc h hc ht hs
  | box y n => exact one_box h hc ht hs
  | build zs qs xs => exact one_build h hc ht hs
  | lit e n xs => exact one_lit h hc ht hs
  | load n g y => exact one_load h hc ht hs
  | store n x y => exact one_store h hc ht hs
  | nilck y => exact one_nil h hc ht hs
  | bin op k x y => exact one_bin h hc ht hs
  | eqs ng ks x y => exact one_eqs h hc ht hs
  | un op x => exact one_un h hc ht hs
  | conv k x => exact one_conv h hc ht hs
  | b2s x => exact one_b2s h hc ht hs
  | fld off n g x => exact one_fld h hc ht hs
  | flda off x => exact one_flda h hc ht hs
  | idxa e x y => exact one_idxa h hc ht hs
  | idxs x y => exact one_idxs h hc ht hs
  | slc e x lo hi => exact one_slc h hc ht hs
  | ext x => exact one_ext h hc ht hs
  | mkf f xs => exact one_mkf h hc ht hs
  | mks e z b x => exact one_mks h hc ht hs
  | app e b x y => exact one_app h hc ht hs
  | len sl x => exact one_len h hc ht hs
  | min2 x y => exact one_min h hc ht hs
  | max2 x y => exact one_max h hc ht hs
  | call f xs => simp [isCallB] at hn
  | callv f xs => simp [isCallB] at hn
  | newb f zs x => simp [isCallB] at hn
  | slv e x l h => simp [isCallB] at hn
  | idv e x i => simp [isCallB] at hn
  | ldt n y => exact one_ldt h hc ht hs
  | cut e y => exact one_cut h hc ht hs
  | tmv t n => simp [isCallB] at hn
  | mkm => exact one_mkm h hc ht hs
  | lnm x => exact one_lnm h hc ht hs
  | mup k x y z => exact one_mup h hc ht hs
  | mdl k x y => exact one_mdl h hc ht hs
  | mlk k z x y => exact one_mlk h hc ht hs
end
end Go.Proofs.YtdbcnnehfbcldaaDoor.Pv
