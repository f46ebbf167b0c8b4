/- A plain reading of Go code and its soundness, part 32. No condition. -/
import Derived.Test.YtjifplkdfebilaaV31
import Derived.Laws.StructEq
set_option linter.all false
set_option linter.unusedSimpArgs false
set_option linter.unusedVariables false
set_option linter.unnecessarySimpa false
/- Structs of scalars, compared; any operation; a region in its order. No condition. -/
namespace Go.Proofs.Ytjifplkdfebilaa.Pv
open Go

section
variable {P : Program} {ar : Nat → Nat} {N : Nat} {E : Entry} {G G' : Gh} {s s' : St} {a : Act} {w w' : World} {m m' m2 : Mem} {t' : Nat → AV} {V : List Nat} {as cs : List AV} {F : List Nat} {ρ : Operand → Value} {o : Oper} {d : Nat}

theorem run_part {t : TypeId} {dd : TypeDesc} {X : Array Value} {i : Nat} {v : Value} (ht : P.underlying t = some dd) (hag : aggB P t = false) (hv : X[i]? = some v) : (part t X i).run P w = .ok v w := by
  unfold part isAgg
  unfold aggB at hag
  rw [ht] at hag
  cases dd <;> simp_all [run_underlying ht]
/-- One field's comparison. -/
theorem eqK_head {k : Nat} {ks : List Nat} {t : TypeId} {dp : Nat} {c c2 : AV} {cx cy : List AV} {v u : Value} {F F2 : List Nat} {b : Bool} (hk : (match k, P.underlying t with
    | 0, some (.int _) => true
    | 1, some .bool => true
    | 2, some .string => true
    | _, _ => false) = true) (hv : RepA P G w m c v F) (hu : RepA P G w m c2 u F2) (hb : eqK (k :: ks) (c :: cx) (c2 :: cy) = some b) :
    ∃ p b0 dd, P.underlying t = some dd ∧ aggB P t = false ∧ (Op.equalIn (dp + 1) t v u).run P w = .ok p w ∧ eqK ks cx cy = some b0 ∧ b = (p && b0) := by
  unfold eqK at hb
  split at hb
  · rename_i h1 _ _; cases h1
  · rename_i ks' kk x cx' kk2 y cy' h1 h2 h3
    simp only [List.cons.injEq] at h1 h2 h3
    obtain ⟨rfl, rfl⟩ := h1
    obtain ⟨rfl, rfl⟩ := h2
    obtain ⟨rfl, rfl⟩ := h3
    split at hb
    · rename_i hkk
      subst hkk
      simp only [Option.map_eq_some_iff] at hb
      obtain ⟨b0, hb0, rfl⟩ := hb
      split at hk
      · rename_i kt _ ht
        have e1 := hv.of_pv
        have e2 := hu.of_pv
        cases e1; cases e2
        exact ⟨_, b0, _, ht, by simp [aggB, ht], run_equalIn_int w dp t kk kt x y ht, hb0, rfl⟩
      · rename_i h; omega
      · rename_i h; omega
      · cases hk
    · cases hb
  · rename_i ks' x cx' y cy' h1 h2 h3
    simp only [List.cons.injEq] at h1 h2 h3
    obtain ⟨rfl, rfl⟩ := h1
    obtain ⟨rfl, rfl⟩ := h2
    obtain ⟨rfl, rfl⟩ := h3
    simp only [Option.map_eq_some_iff] at hb
    obtain ⟨b0, hb0, rfl⟩ := hb
    split at hk
    · rename_i h; omega
    · rename_i ht
      have e1 := hv.of_pv
      have e2 := hu.of_pv
      cases e1; cases e2
      exact ⟨_, b0, _, ht, by simp [aggB, ht], run_equalIn_bool' w dp t x y ht, hb0, rfl⟩
    · rename_i h; omega
    · cases hk
  · rename_i ks' x cx' y cy' h1 h2 h3
    simp only [List.cons.injEq] at h1 h2 h3
    obtain ⟨rfl, rfl⟩ := h1
    obtain ⟨rfl, rfl⟩ := h2
    obtain ⟨rfl, rfl⟩ := h3
    simp only [Option.map_eq_some_iff] at hb
    obtain ⟨b0, hb0, rfl⟩ := hb
    split at hk
    · rename_i h; omega
    · rename_i h; omega
    · rename_i ht
      have e1 := hv.of_pv
      have e2 := hu.of_pv
      cases e1; cases e2
      exact ⟨_, b0, _, ht, by simp [aggB, ht], run_equalIn_string w dp t x y ht, hb0, rfl⟩
    · cases hk
  · cases hb
theorem run_eqFields {dp : Nat} {X Y : Array Value} : ∀ (fs : List Field) (ks : List Nat) (i : Nat) (cx cy : List AV) (b : Bool), eqFlds P i fs ks = true → (∀ (j : Nat) c, cx[j]? = some c → ∃ v F, X[i + j]? = some v ∧ RepA P G w m c v F) → (∀ (j : Nat) c, cy[j]? = some c → ∃ v F, Y[i + j]? = some v ∧ RepA P G w m c v F) → eqK ks cx cy = some b →
    (Op.eqFields (dp + 1) X Y fs).run P w = .ok b w
  | [], [], i, cx, cy, b, _, hx, hy, hb => by
    cases cx <;> cases cy <;> simp [eqK] at hb
    subst hb
    simp [Op.eqFields]
  | [], _ :: _, i, cx, cy, b, hf, hx, hy, hb => by simp [eqFlds] at hf
  | _ :: _, [], i, cx, cy, b, hf, hx, hy, hb => by simp [eqFlds] at hf
  | f :: fs, k :: ks, i, cx, cy, b, hf, hx, hy, hb => by
    simp only [eqFlds, Bool.and_eq_true, bne_iff_ne, ne_eq, beq_iff_eq] at hf
    obtain ⟨⟨⟨hname, hoff⟩, hk⟩, hrest⟩ := hf
    cases cx with
    | nil => unfold eqK at hb; split at hb <;> simp_all
    | cons c cx =>
      cases cy with
      | nil => unfold eqK at hb; split at hb <;> simp_all
      | cons c2 cy =>
        obtain ⟨v, F, hv, hvr⟩ := hx 0 c rfl
        obtain ⟨u, F2, hu, hur⟩ := hy 0 c2 rfl
        rw [Nat.add_zero] at hv hu
        obtain ⟨p, b0, dd, h1, h2, h3, h4, rfl⟩ := eqK_head (dp := dp) hk hvr hur hb
        have ih := run_eqFields (dp := dp) (X := X) (Y := Y) fs ks (i + 1) cx cy b0 hrest (fun j c h => by
          obtain ⟨v', F', h1, h2⟩ := hx (j + 1) c (by simpa using h)
          exact ⟨v', F', by rw [show i + 1 + j = i + (j + 1) by omega]; exact h1, h2⟩) (fun j c h => by
          obtain ⟨v', F', h1, h2⟩ := hy (j + 1) c (by simpa using h)
          exact ⟨v', F', by rw [show i + 1 + j = i + (j + 1) by omega]; exact h1, h2⟩) h4
        simp only [Op.eqFields]
        rw [if_pos hname]
        simp only [Sem.run_bind, run_part h1 h2 (hoff ▸ hv), run_part h1 h2 (hoff ▸ hu), h3, Result.andThen_ok]
        cases p
        · simp
        · simpa using ih
theorem one_eqs {ng : Bool} {ks : List Nat} {u v : Opd} (h : Sim P ar N E G s a w) (hc : cEqs P o.op ng ks u v = true) (ht : takeT V s.t [u, v] = some t') (hs : semL d s.m (.eqs ng ks u v) [opd s u, opd s v] = some (as, m2)) : Gave P ar N E t' a as m2 ((execOp a.eval o).run P w) := by
  generalize hop : o.op = op at hc
  unfold cEqs at hc
  split at hc
  · rename_i op t x y t2
    simp only [Bool.and_eq_true, beq_iff_eq] at hc
    obtain ⟨⟨hop2, hty⟩, hx⟩ := hc
    obtain ⟨G1, F, h1, hr, hn, hF⟩ := h.read (xs := [x, y]) hx ht
    simp only [List.map_cons, List.map_nil] at hr
    obtain ⟨cx, hu⟩ : ∃ cx, opd s u = .agg cx := by
      cases hu : opd s u with
      | agg cx => exact ⟨cx, rfl⟩
      | _ => rw [hu] at hs; simp [semL] at hs
    obtain ⟨cy, hv⟩ : ∃ cy, opd s v = .agg cy := by
      cases hv : opd s v with
      | agg cy => exact ⟨cy, rfl⟩
      | _ => rw [hu, hv] at hs; simp [semL] at hs
    rw [hu, hv] at hs hr
    simp only [semL, single, Option.map_map, Option.map_eq_some_iff] at hs
    obtain ⟨b, hb, hs⟩ := hs
    simp only [Function.comp, Prod.mk.injEq] at hs
    obtain ⟨rfl, rfl⟩ := hs
    obtain ⟨v1, v2, F1, F2, e, rfl, r1, r2⟩ := hr.inv2
    simp only [List.cons.injEq, and_true] at e
    obtain ⟨e1, e2⟩ := e
    unfold eqTy at hty
    split at hty
    · rename_i fs hfs
      simp only [Bool.and_eq_true, Bool.not_eq_true'] at hty
      obtain ⟨⟨hst, hgd⟩, hfl⟩ := hty
      cases r1 with
      | agg _ us _ l1 =>
        cases r2 with
        | agg _ us2 _ l2 =>
          have hfo : P.fieldsOf t = fs := by simp [Program.fieldsOf, hfs]
          have hrun := run_eqFields (P := P) (G := G1) (w := w) (m := s.m) (dp := 9998) (X := us.toArray) (Y := us2.toArray) fs.toList ks 0 cx cy b hfl (fun j c hj => by
            obtain ⟨v', F', k1, k2, _⟩ := l1.get hj
            exact ⟨v', F', by simpa using k1, k2⟩) (fun j c hj => by
            obtain ⟨v', F', k1, k2, _⟩ := l2.get hj
            exact ⟨v', F', by simpa using k1, k2⟩) hb
          have heq : (Op.equal t (.agg us.toArray) (.agg us2.toArray)).run P w = .ok b w := by
            show (Op.equalIn (9999 + 1) t _ _).run P w = _
            rw [run_equalIn_struct w 9999 t _ _ (by rw [hfo]; exact hfs) hst, hfo]
            exact hrun
          refine .plain h1 hF (.imm (v := .bool (b != ng)) ?_ (.bool _))
          rw [ex_bin hop, e1, e2]
          refine run_valOf ?_
          cases ng
          · simp only [Bool.false_eq_true, if_false] at hop2
            subst hop2
            simp [eqGuard, hgd, binOp, heq]
          · simp only [if_true] at hop2
            subst hop2
            simp [eqGuard, hgd, binOp, heq]
    · cases hty
  · cases hc
/-- Any operation that calls nothing. -/
theorem one_any {po : PO} (h : Sim P ar N E G s a w) (hc : chkOp P o.op po = true) (hn : isCallB po = false) (ht : takeT V s.t po.opds = some t') (hs : semL d s.m po (po.opds.map (opd s)) = some (as, m2)) : Gave P ar N E t' a as m2 ((execOp a.eval o).run P w) := by
  cases po with
  | mov y => exact one_mov h hc ht hs
  | pick c x y => exact one_pick h hc ht hs
  | alloc zs => exact one_alloc h hc ht hs
  | box y n => exact one_box h hc ht hs
  | build zs qs xs => exact one_build h hc ht hs
  | lit e n xs => exact one_lit h hc ht hs
  | load n g y => exact one_load h hc ht hs
  | store n x y => exact one_store h hc ht hs
  | nilck y => exact one_nil h hc ht hs
  | bin op k x y => exact one_bin h hc ht hs
  | eqs ng ks x y => exact one_eqs h hc ht hs
  | un op x => exact one_un h hc ht hs
  | conv k x => exact one_conv h hc ht hs
  | b2s x => exact one_b2s h hc ht hs
  | fld off n g x => exact one_fld h hc ht hs
  | flda off x => exact one_flda h hc ht hs
  | idxa e x y => exact one_idxa h hc ht hs
  | idxs x y => exact one_idxs h hc ht hs
  | slc e x lo hi => exact one_slc h hc ht hs
  | ext x => exact one_ext h hc ht hs
  | mkf f xs => exact one_mkf h hc ht hs
  | mks e z b x => exact one_mks h hc ht hs
  | app e b x y => exact one_app h hc ht hs
  | len sl x => exact one_len h hc ht hs
  | min2 x y => exact one_min h hc ht hs
  | max2 x y => exact one_max h hc ht hs
  | call f xs => simp [isCallB] at hn
  | callv f xs => simp [isCallB] at hn
  | newb f zs x => simp [isCallB] at hn
  | slv e x l h => simp [isCallB] at hn
  | ldt n y => exact one_ldt h hc ht hs
  | tmv t n => simp [isCallB] at hn
  | mkm => exact one_mkm h hc ht hs
  | lnm x => exact one_lnm h hc ht hs
  | mup k x y z => exact one_mup h hc ht hs
  | mlk k z x y => exact one_mlk h hc ht hs
end
end Go.Proofs.Ytjifplkdfebilaa.Pv
