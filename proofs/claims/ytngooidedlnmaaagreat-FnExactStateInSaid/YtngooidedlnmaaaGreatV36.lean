/- A plain reading of Go code and its soundness, part 36. No condition. -/
import Derived.Test.YtngooidedlnmaaaGreatV35
set_option linter.all false
set_option linter.unusedSimpArgs false
set_option linter.unusedVariables false
set_option linter.unnecessarySimpa false
/- Operations that don't meet may change places. No condition. -/
namespace Go.Proofs.YtngooidedlnmaaaGreat.Pv
open Go
section
variable {V : List Nat} {t t1 u : Nat → AV} {m m1 m2 : Mem} {as : List AV} {s s1 s2 s' : St} {q : Oq} {R : Oracle} {modes : FuncId → List Pm} {d : Nat} {a : AV}
theorem putT_quiet (hd : q.dst = some d) (hq : quietQ V q (putT V ⟨t, m⟩ d a) = true) : (putT V ⟨t, m⟩ d a).m = m ∧ ∀ m2, putT V ⟨t, m2⟩ d a = ⟨(putT V ⟨t, m⟩ d a).t, m2⟩ := by
  cases a with
  | pv p =>
    cases p with
    | sl fl e xs =>
      by_cases hv : (decide (1 ≤ fl) && V.contains d) = true
      · exfalso
        simp only [putT, hv, if_true] at hq
        simp only [Bool.and_eq_true] at hv
        simp only [quietQ, hd, hv.2, Bool.not_true, Bool.false_or, upd_same, beq_self_eq_true] at hq
        cases hq
      · simp only [putT, hv, if_false, Bool.false_eq_true]
        simp
    | _ => simp [putT]
  | _ => simp [putT]
theorem endStep_quiet (h : endStep V 0 t m as q.dst = some s') (hq : quietQ V q s' = true) : s'.m = m ∧ ∀ m2, endStep V 0 t m2 as q.dst = some ⟨s'.t, m2⟩ := by
  cases hd : q.dst with
  | none => rw [hd] at h; simp only [endStep, Option.some.injEq] at h; subst h; exact ⟨rfl, fun m2 => rfl⟩
  | some d =>
    rw [hd] at h
    match as, h with
    | [], h => simp only [endStep, Option.some.injEq] at h; subst h; exact ⟨rfl, fun m2 => rfl⟩
    | [a], h =>
      simp only [endStep, Option.some.injEq] at h; subst h
      obtain ⟨h1, h2⟩ := putT_quiet hd hq
      exact ⟨h1, fun m2 => congrArg some (h2 m2)⟩
    | _ :: _ :: _, h => simp [endStep] at h
theorem sem_semL {d : Nat} {po : PO} (hk : po.kind ≠ 2) : sem R modes d m po as = semL d m po as := by
  cases po <;> first | rfl | exact absurd rfl hk
theorem step_mem (ht : q.tup = 0) (hk : q.po.kind ≠ 2) (h : step R modes V q ⟨t, m⟩ = some s1) (hq : quietQ V q s1 = true) : s1.m = m ∧ ∀ m2, (q.po.kind = 1 → agree m m2 (q.po.opds.map (opd ⟨t, m⟩))) → step R modes V q ⟨t, m2⟩ = some ⟨s1.t, m2⟩ := by
  unfold step at h ⊢
  simp only at h ⊢
  split at h
  · rename_i as1 mm t1 hs htk
    rw [sem_semL hk] at hs
    have key : mm = m ∧ ∀ m2, (q.po.kind = 1 → agree m m2 (q.po.opds.map (opd ⟨t, m⟩))) → semL (q.dst.getD 0) m2 q.po (q.po.opds.map (opd ⟨t, m⟩)) = some (as1, m2) := by
      have h3 : q.po.kind = 0 ∨ q.po.kind = 1 := by
        revert hk
        cases q.po <;> simp only [PO.kind] <;> first | (intro _; simp; done) | (intro h; exact absurd rfl h) | (split <;> simp)
      rcases h3 with h3 | h3
      · obtain ⟨k1, k2⟩ := semL_pure h3 hs
        exact ⟨k1, fun m2 _ => k2 m2⟩
      · obtain ⟨k1, k2⟩ := semL_read h3 hs
        exact ⟨k1, fun m2 h => k2 m2 (h h3)⟩
    obtain ⟨rfl, key⟩ := key
    rw [ht] at h
    obtain ⟨h1, h2⟩ := endStep_quiet h hq
    refine ⟨h1, fun m2 hag => ?_⟩
    have e : q.po.opds.map (opd ⟨t, m2⟩) = q.po.opds.map (opd ⟨t, mm⟩) := opds_congr fun x _ => rfl
    rw [e, sem_semL hk, key m2 hag, htk, ht]
    exact h2 m2
  · cases h
theorem agree_refl (m : Mem) : ∀ as : List AV, agree m m as
  | [] => trivial
  | a :: as => ⟨by cases a <;> simp [agreeA], agree_refl m as⟩
theorem takes_free : ∀ {qs : List Pm} {as : List AV}, qs.all Pm.isVal = true → ∀ m m2 : Mem, takesIn m2 qs as = (takesIn m qs as).map fun x => (x.1, m2)
  | [], [], _, m, m2 => rfl
  | [], _ :: _, _, m, m2 => rfl
  | q :: qs, [], h, m, m2 => by cases q <;> rfl
  | q :: qs, a :: as, h, m, m2 => by
    simp only [List.all_cons, Bool.and_eq_true] at h
    cases q <;> simp only [Pm.isVal, Bool.false_eq_true, false_and] at h
    simp only [takesIn, takeIn]
    rw [takes_free h.2 m m2]
    cases takesIn m qs as <;> rfl
theorem lends_free : ∀ {qs : List Pm} {as : List AV}, qs.all Pm.isVal = true → ∀ m m2 : Mem, lendsIn m2 qs as = (lendsIn m qs as).map fun x => (x.1, m2)
  | [], [], _, m, m2 => rfl
  | [], _ :: _, _, m, m2 => rfl
  | q :: qs, [], h, m, m2 => by cases q <;> rfl
  | q :: qs, a :: as, h, m, m2 => by
    simp only [List.all_cons, Bool.and_eq_true] at h
    cases q <;> simp only [Pm.isVal, Bool.false_eq_true, false_and] at h
    simp only [lendsIn, lendIn]
    rw [lends_free h.2 m m2]
    cases lendsIn m qs as <;> rfl
theorem toPV_freeC {n : Nat} {a : AV} {m m2 : Mem} (h : freeC a = true) (ha : agreeA m m2 a) : toPV m2 n a = toPV m n a := by
  cases n with
  | zero => rfl
  | succ n =>
    cases a <;> first
      | rfl
      | (simp [freeC] at h; done)
      | (simp only [toPV]; rw [deref_agree ha])
theorem toPVs_free {n : Nat} {m m2 : Mem} : ∀ {cs : List AV}, cs.all freeC = true → agree m m2 cs → cs.mapM (toPV m2 n) = cs.mapM (toPV m n)
  | [], _, _ => rfl
  | c :: cs, h, ha => by
    simp only [List.all_cons, Bool.and_eq_true] at h
    rw [List.mapM_cons, List.mapM_cons, toPV_freeC h.1 ha.1, toPVs_free h.2 ha.2]
theorem toPV_free {n : Nat} {a : AV} {m m2 : Mem} (h : freeA a = true) (ha : agree m m2 (flatA a)) : toPV m2 n a = toPV m n a := by
  cases n with
  | zero => rfl
  | succ n =>
    cases a with
    | agg cs =>
      have h : cs.all freeC = true := h
      show (cs.mapM (toPV m2 n)).map PV.agg = (cs.mapM (toPV m n)).map PV.agg
      rw [toPVs_free h ha]
    | pv p => rfl
    | rw r => exact toPV_freeC rfl ha.1
    | _ => simp [freeA, freeC] at h
theorem agree_app {m m2 : Mem} : ∀ {as bs : List AV}, agree m m2 (as ++ bs) → agree m m2 as ∧ agree m m2 bs
  | [], _, h => ⟨trivial, h⟩
  | a :: as, bs, h => ⟨⟨h.1, (agree_app h.2).1⟩, (agree_app h.2).2⟩
theorem vals_free {m m2 : Mem} : ∀ {qs : List Pm} {as : List AV} {xs ys : List (Option PV)}, qs.all Pm.isVal = true → as.all freeA = true → agree m m2 (flatAs as) → valsIn m2 qs as xs ys = valsIn m qs as xs ys
  | [], as, xs, ys, _, _, _ => by cases as <;> cases xs <;> cases ys <;> rfl
  | q :: qs, as, xs, ys, h, ha, hg => by
    simp only [List.all_cons, Bool.and_eq_true] at h
    cases q <;> simp only [Pm.isVal, Bool.false_eq_true, false_and] at h
    cases as with
    | nil => cases xs <;> cases ys <;> rfl
    | cons a as =>
      simp only [List.all_cons, Bool.and_eq_true] at ha
      obtain ⟨g1, g2⟩ := agree_app (as := flatA a) hg
      cases xs with
      | nil => cases ys <;> rfl
      | cons x xs =>
        cases ys with
        | nil => cases x <;> rfl
        | cons y ys =>
          simp only [valsIn]
          rw [toPV_free ha.1 g1, vals_free h.2 ha.2 g2]
theorem io_free : ∀ {qs : List Pm} {as : List AV}, qs.all Pm.isVal = true → ioBoxes qs as = []
  | [], as, _ => by cases as <;> rfl
  | q :: qs, [], h => by cases q <;> rfl
  | q :: qs, a :: as, h => by
    simp only [List.all_cons, Bool.and_eq_true] at h
    cases q <;> simp only [Pm.isVal, Bool.false_eq_true, false_and] at h
    simp only [ioBoxes]
    exact io_free h.2
theorem tnt_freeC {n : Nat} {a : AV} (h : freeC a = true) (m m2 : Mem) : tnt m2 n a = tnt m n a := by
  cases n with
  | zero => rfl
  | succ n => cases a <;> first | rfl | (simp [freeC] at h)
theorem tnts_free {n : Nat} : ∀ {cs : List AV}, cs.all freeC = true → ∀ m m2 : Mem, cs.any (tnt m2 n) = cs.any (tnt m n)
  | [], _, m, m2 => rfl
  | c :: cs, h, m, m2 => by
    simp only [List.all_cons, Bool.and_eq_true] at h
    rw [List.any_cons, List.any_cons, tnt_freeC h.1 m m2, tnts_free h.2 m m2]
theorem tnt_free {n : Nat} {a : AV} (h : freeA a = true) (m m2 : Mem) : tnt m2 n a = tnt m n a := by
  cases n with
  | zero => rfl
  | succ n =>
    cases a with
    | agg cs =>
      have h : cs.all freeC = true := h
      exact tnts_free h m m2
    | pv p => rfl
    | rw r => rfl
    | _ => simp [freeA, freeC] at h
theorem anyTnt_free {n : Nat} : ∀ {qs : List Pm} {as : List AV}, as.all freeA = true → ∀ m m2 : Mem, (vals qs as).any (tnt m2 n) = (vals qs as).any (tnt m n)
  | [], as, _, m, m2 => by cases as <;> rfl
  | q :: qs, [], h, m, m2 => by cases q <;> rfl
  | q :: qs, a :: as, h, m, m2 => by
    simp only [List.all_cons, Bool.and_eq_true] at h
    cases q <;> simp only [vals] <;> first
      | exact anyTnt_free h.2 m m2
      | (rw [List.any_cons, List.any_cons, tnt_free h.1 m m2, anyTnt_free h.2 m m2])
theorem rowsOut_free : ∀ {qs : List Pm} {as : List AV} {outs : List PV}, qs.all Pm.isVal = true → ∀ m m2 : Mem, rowsOut m2 qs as outs = (rowsOut m qs as outs).map fun _ => m2
  | [], as, outs, _, m, m2 => by cases as <;> cases outs <;> rfl
  | q :: qs, as, outs, h, m, m2 => by
    simp only [List.all_cons, Bool.and_eq_true] at h
    cases q <;> simp only [Pm.isVal, Bool.false_eq_true, false_and] at h
    cases as with
    | nil => cases outs <;> rfl
    | cons a as =>
      simp only [rowsOut]
      exact rowsOut_free h.2 m m2
theorem rowsOut_same : ∀ {qs : List Pm} {as : List AV} {outs : List PV} {m m1 : Mem}, qs.all Pm.isVal = true → rowsOut m qs as outs = some m1 → m1 = m := by
  intro qs as outs m m1 hq h
  have := rowsOut_free (as := as) (outs := outs) hq m m
  rw [h] at this
  simpa using this
theorem iosOut_free : ∀ {qs : List Pm} {as : List AV} {outs : List PV}, qs.all Pm.isVal = true → ∀ m m2 : Mem, iosOut m2 qs as outs = (iosOut m qs as outs).map fun _ => m2
  | [], as, outs, _, m, m2 => by cases as <;> cases outs <;> rfl
  | q :: qs, as, outs, h, m, m2 => by
    simp only [List.all_cons, Bool.and_eq_true] at h
    cases q <;> simp only [Pm.isVal, Bool.false_eq_true, false_and] at h
    cases as with
    | nil => cases outs <;> rfl
    | cons a as =>
      simp only [iosOut]
      exact iosOut_free h.2 m m2
theorem hide_nil (m : Mem) : m.hideBoxes [] = m := by simp [Mem.hideBoxes]
theorem doCall_free {f : FuncId} (hq : (modes f).all Pm.isVal = true) (ha : as.all freeA = true) (m m2 : Mem) (hg : agree m m2 (flatAs as)) : doCall R modes f as m2 = (doCall R modes f as m).map fun x => (x.1, m2) := by
  unfold doCall argsIn
  rw [io_free hq]
  simp only [apartB, if_true, hide_nil]
  rw [takes_free hq m m2]
  have t1 := takes_free (as := as) hq m m
  cases ht : takesIn m (modes f) as with
  | none => rfl
  | some x =>
    rw [ht] at t1
    simp only [Option.map_some, Option.some.injEq] at t1
    obtain ⟨xs, m1⟩ := x
    obtain rfl : m1 = m := (congrArg Prod.snd t1)
    simp only [Option.map_some]
    rw [lends_free hq m1 m2]
    have l1 := lends_free (as := as) hq m1 m1
    cases hl : lendsIn m1 (modes f) as with
    | none => rfl
    | some y =>
      rw [hl] at l1
      simp only [Option.map_some, Option.some.injEq] at l1
      obtain ⟨ys, m3⟩ := y
      obtain rfl : m3 = m1 := (congrArg Prod.snd l1)
      simp only [Option.map_some]
      rw [vals_free hq ha hg]
      cases valsIn m3 (modes f) as xs ys with
      | none => rfl
      | some ps =>
        simp only
        cases R f ps with
        | none => rfl
        | some r =>
          obtain ⟨rs, outs⟩ := r
          simp only
          rw [anyTnt_free ha m3 m2]
          split
          · rfl
          · unfold argsOut
            rw [rowsOut_free hq m3 m2]
            cases ho : rowsOut m3 (modes f) as outs with
            | none => rfl
            | some m4 =>
              obtain rfl := rowsOut_same hq ho
              simp only [Option.map_some, Option.bind_some]
              rw [iosOut_free hq m4 m2]
              cases iosOut m4 (modes f) as outs <;> rfl
theorem share_free : ∀ {qs : List Pm} {as : List AV}, as.all freeA = true → (shareIn qs as).all freeA = true
  | [], as, h => by cases as <;> exact h
  | q :: qs, [], h => by cases q <;> rfl
  | q :: qs, a :: as, h => by
    simp only [List.all_cons, Bool.and_eq_true] at h
    have h1 : freeA (shareA a) = true := by
      cases a with
      | agg cs =>
        have h2 : cs.all freeC = true := h.1
        show (cs.map shareC).all freeC = true
        simp only [List.all_map, List.all_eq_true] at h2 ⊢
        intro c hc
        have := h2 c hc
        cases c <;> first | rfl | (simp [freeC] at this)
      | pv p => rfl
      | rw r => rfl
      | _ => simp [freeA, freeC] at h
    cases q <;> simp only [shareIn, List.all_cons, Bool.and_eq_true] <;> first
      | exact ⟨h1, share_free h.2⟩
      | exact ⟨h.1, share_free h.2⟩
theorem shareC_agree {m m2 : Mem} : ∀ {cs : List AV}, agree m m2 cs → agree m m2 (cs.map shareC)
  | [], _ => trivial
  | c :: cs, h => ⟨by have h1 := h.1; cases c <;> first | trivial | exact h1, shareC_agree h.2⟩
theorem agree_join {m m2 : Mem} : ∀ {as bs : List AV}, agree m m2 as → agree m m2 bs → agree m m2 (as ++ bs)
  | [], _, _, h => h
  | a :: as, bs, h1, h2 => ⟨h1.1, agree_join h1.2 h2⟩
theorem share_agree {m m2 : Mem} : ∀ {qs : List Pm} {as : List AV}, agree m m2 (flatAs as) → agree m m2 (flatAs (shareIn qs as))
  | [], as, h => by cases as <;> exact h
  | q :: qs, [], h => by cases q <;> exact h
  | q :: qs, a :: as, h => by
    obtain ⟨h1, h2⟩ := agree_app (as := flatA a) h
    have h3 : agree m m2 (flatA (shareA a)) := by
      cases a with
      | agg cs => exact shareC_agree h1
      | pv p => exact ⟨trivial, trivial⟩
      | _ => exact h1
    cases q <;> simp only [shareIn, flatAs] <;> first
      | exact agree_join h3 (share_agree h2)
      | exact agree_join h1 (share_agree h2)
theorem pcall_mem (hp : pcallB modes q ⟨t, m⟩ = true) (h : step R modes V q ⟨t, m⟩ = some s1) (hq : quietQ V q s1 = true) : s1.m = m ∧ ∀ m2, agree m m2 (flatAs (q.po.args.map (opd ⟨t, m⟩))) → step R modes V q ⟨t, m2⟩ = some ⟨s1.t, m2⟩ := by
  unfold pcallB at hp
  split at hp
  · rename_i f xs hpo
    simp only [Bool.and_eq_true, beq_iff_eq] at hp
    obtain ⟨ht, hv, hf⟩ := hp
    have hf2 := share_free (qs := modes f) hf
    unfold step at h ⊢
    simp only [hpo, sem, PO.opds, PO.args] at h ⊢
    split at h
    · rename_i as1 mm t1 hs htk
      have k := doCall_free (R := R) hv hf2 m m (agree_refl m _)
      rw [hs] at k
      simp only [Option.map_some, Option.some.injEq] at k
      obtain rfl : mm = m := congrArg Prod.snd k
      rw [ht] at h
      obtain ⟨h1, h2⟩ := endStep_quiet h hq
      refine ⟨h1, fun m2 hg => ?_⟩
      have e : xs.map (opd ⟨t, m2⟩) = xs.map (opd ⟨t, mm⟩) := List.map_congr_left fun x _ => by cases x <;> rfl
      rw [e, doCall_free (R := R) hv hf2 mm m2 (share_agree hg), hs, htk, ht]
      exact h2 m2
    · cases h
  · cases hp
def okQ (q : Oq) : Prop := (q.guard.isSome = true → q.tup = 0) ∧ (q.po.kind ≠ 2 → q.tup = 0)
theorem kind_cases (q : Oq) (s s1 : St) : (evOf V modes q s s1 = .pure ∧ wantedQ q s = false) ∨ (wantedQ q s = true ∧ pcallB modes q s = true ∧ quietQ V q s1 = true ∧ evOf V modes q s s1 = .read (flatAs (q.po.args.map (opd s)))) ∨ (wantedQ q s = true ∧ (pcallB modes q s && quietQ V q s1) = false ∧ ((evOf V modes q s s1 = .write s.m s1.m) ∨ (q.po.kind ≠ 2 ∧ quietQ V q s1 = true ∧ ((q.po.kind = 1 ∧ evOf V modes q s s1 = .read (q.po.opds.map (opd s))) ∨ (q.po.kind ≠ 1 ∧ evOf V modes q s s1 = .pure))))) := by
  unfold evOf
  cases hw : wantedQ q s with
  | false => exact .inl ⟨by simp, rfl⟩
  | true =>
    simp only [if_true]
    by_cases hp : (pcallB modes q s && quietQ V q s1) = true
    · rw [if_pos hp]
      rw [Bool.and_eq_true] at hp
      exact .inr (.inl ⟨by simp, hp.1, hp.2, rfl⟩)
    rw [if_neg hp]
    refine .inr (.inr ⟨by simp, by simpa using hp, ?_⟩)
    by_cases h2 : (q.po.kind == 2 || !quietQ V q s1) = true
    · rw [if_pos h2]; exact .inl rfl
    · rw [if_neg h2]
      simp only [Bool.or_eq_true, beq_iff_eq, Bool.not_eq_true', not_or, Bool.not_eq_false] at h2
      refine .inr ⟨h2.1, h2.2, ?_⟩
      by_cases h1 : q.po.kind = 1
      · exact .inl ⟨h1, by simp [h1]⟩
      · exact .inr ⟨h1, by simp [h1]⟩
theorem stepG_unwanted (hw : wantedQ q ⟨t, m⟩ = false) (h : stepG R modes V q ⟨t, m⟩ = some s1) : s1.m = m ∧ ∀ m2, stepG R modes V q ⟨t, m2⟩ = some ⟨s1.t, m2⟩ := by
  unfold wantedQ at hw
  unfold stepG at h ⊢
  split at hw
  · cases hw
  · rename_i g b hg
    rw [hg] at h
    simp only at h ⊢
    split at hw
    · rename_i c hc
      simp only at hc
      rw [hc] at h
      simp only [hc] at h ⊢
      have hcb : ¬ c = b := by simpa using hw
      simp only [hcb, if_false] at h ⊢
      split at h
      · simp only [Option.some.injEq] at h; subst h; exact ⟨rfl, fun m2 => rfl⟩
      · simp only [Option.some.injEq] at h; subst h; exact ⟨rfl, fun m2 => rfl⟩
    · rename_i hc
      simp only at hc
      rw [hc] at h
      simp only [hc] at h ⊢
      split at h
      · simp only [Option.some.injEq] at h; subst h; exact ⟨rfl, fun m2 => rfl⟩
      · simp only [Option.some.injEq] at h; subst h; exact ⟨rfl, fun m2 => rfl⟩
    · cases hw
theorem stepG_wanted (hw : wantedQ q ⟨t, m⟩ = true) (h : stepG R modes V q ⟨t, m⟩ = some s1) : step R modes V q ⟨t, m⟩ = some s1 ∧ ∀ m2, stepG R modes V q ⟨t, m2⟩ = step R modes V q ⟨t, m2⟩ := by
  unfold wantedQ at hw
  unfold stepG at h ⊢
  split at hw
  · rename_i hg
    rw [hg] at h
    exact ⟨h, fun m2 => rfl⟩
  · rename_i g b hg
    rw [hg] at h
    simp only at h ⊢
    split at hw
    · rename_i c hc
      simp only at hc
      rw [hc] at h
      simp only [hc] at h ⊢
      have hcb : c = b := by simpa using hw
      rw [if_pos hcb] at h
      exact ⟨h, fun m2 => by simp [hcb]⟩
    · cases hw
    · rename_i hno hno2
      split at h
      · rename_i c hc; exact absurd hc (hno c)
      · rename_i hc; exact absurd hc hno2
      · cases h
theorem stepG_quiet (hok : okQ q) (h : stepG R modes V q s = some s1) :
    (evOf V modes q s s1 = .write s.m s1.m) ∨ (s1.m = s.m ∧ ((evOf V modes q s s1 = .pure ∧ ∀ m2, stepG R modes V q ⟨s.t, m2⟩ = some ⟨s1.t, m2⟩) ∨ ∃ as, evOf V modes q s s1 = .read as ∧ ∀ m2, agree s.m m2 as → stepG R modes V q ⟨s.t, m2⟩ = some ⟨s1.t, m2⟩)) := by
  obtain ⟨t, m⟩ := s
  rcases kind_cases (V := V) (modes := modes) q ⟨t, m⟩ s1 with ⟨h1, h2⟩ | ⟨h1, h2, h3, h4⟩ | ⟨h1, _, h2⟩
  · obtain ⟨k1, k2⟩ := stepG_unwanted h2 h
    exact .inr ⟨k1, .inl ⟨h1, k2⟩⟩
  · obtain ⟨k1, k2⟩ := stepG_wanted h1 h
    obtain ⟨k3, k4⟩ := pcall_mem h2 k1 h3
    exact .inr ⟨k3, .inr ⟨_, h4, fun m2 hg => by rw [k2]; exact k4 m2 hg⟩⟩
  · rcases h2 with h2 | ⟨h2, h3, h4⟩
    · exact .inl h2
    · obtain ⟨k1, k2⟩ := stepG_wanted h1 h
      obtain ⟨k3, k4⟩ := step_mem (hok.2 h2) h2 k1 h3
      refine .inr ⟨k3, ?_⟩
      rcases h4 with ⟨h4, h5⟩ | ⟨h4, h5⟩
      · exact .inr ⟨_, h5, fun m2 hag => by rw [k2]; exact k4 m2 fun _ => hag⟩
      · exact .inl ⟨h5, fun m2 => by rw [k2]; exact k4 m2 fun h => absurd h h4⟩
theorem agree_symm : ∀ {as : List AV} {m m2 : Mem}, agree m m2 as → agree m2 m as
  | [], _, _, _ => trivial
  | a :: as, m, m2, h => by
    refine ⟨?_, agree_symm h.2⟩
    have h1 := h.1
    cases a with
    | ptr o k c => exact ⟨h1.1.symm, h1.2.1.symm, fun n => ⟨(h1.2.2 n).1.symm, (h1.2.2 n).2.symm⟩⟩
    | rw r => exact ⟨h1.1.symm, h1.2.1.symm, h1.2.2.symm⟩
    | ept r i f => exact ⟨h1.1.symm, h1.2.1.symm, h1.2.2.symm⟩
    | _ => trivial
theorem evOf_congr {s s1 u u1 : St} (hok : okQ q) (h1 : ∀ x ∈ rdQ q, u.t x = s.t x) (h2 : ∀ x ∈ wrQ q, u1.t x = s1.t x) (h3 : evOf V modes q s s1 = .write s.m s1.m → u.m = s.m ∧ u1.m = s1.m) : evOf V modes q u u1 = evOf V modes q s s1 := by
  have hw : wantedQ q u = wantedQ q s := by
    unfold wantedQ
    cases hg : q.guard with
    | none => rfl
    | some y =>
      obtain ⟨g, b⟩ := y
      simp only
      rw [h1 g (mem_rdQ.2 (.inr ⟨b, hg⟩))]
  have ho : q.po.opds.map (opd u) = q.po.opds.map (opd s) := opds_congr fun x hx => h1 x (mem_rdQ.2 (.inl hx))
  have hq : q.po.kind ≠ 2 → quietQ V q u1 = quietQ V q s1 := fun hk => by
    unfold quietQ
    cases hd : q.dst with
    | none => rfl
    | some d =>
      simp only
      rw [h2 d (by simp [wrQ, wrD, hd, hok.2 hk])]
  have hpc : pcallB modes q u = pcallB modes q s := by
    unfold pcallB
    split
    · rename_i f xs hpo
      rw [hpo] at ho
      have ho : xs.map (opd u) = xs.map (opd s) := ho
      rw [ho]
    · rfl
  have hqp : pcallB modes q s = true → quietQ V q u1 = quietQ V q s1 := fun hp => by
    have ht : q.tup = 0 := by
      unfold pcallB at hp
      split at hp
      · simp only [Bool.and_eq_true, beq_iff_eq] at hp; exact hp.1
      · cases hp
    unfold quietQ
    cases hd : q.dst with
    | none => rfl
    | some d =>
      simp only
      rw [h2 d (by simp [wrQ, wrD, hd, ht])]
  have hpq : (pcallB modes q u && quietQ V q u1) = (pcallB modes q s && quietQ V q s1) := by
    rw [hpc]
    cases hp : pcallB modes q s with
    | false => rfl
    | true => rw [hqp hp]
  rcases kind_cases (V := V) (modes := modes) q s s1 with ⟨k1, k2⟩ | ⟨k1, k2, k3, k4⟩ | ⟨k1, kp, k2⟩
  · rw [k1]; unfold evOf; rw [hw, k2]; simp
  · have ha : q.po.args.map (opd u) = q.po.args.map (opd s) := by
      unfold pcallB at k2
      split at k2
      · rename_i f xs hpo
        rw [hpo] at ho ⊢
        exact ho
      · cases k2
    rw [k4]; unfold evOf; rw [hw, k1, hpq, k2, k3, ha]; simp
  · rcases k2 with k2 | ⟨k2, k3, k4⟩
    · obtain ⟨e1, e2⟩ := h3 k2
      rw [k2]
      unfold evOf at k2 ⊢
      rw [hpq]
      rw [kp] at k2 ⊢
      simp only [Bool.false_eq_true, if_false] at k2 ⊢
      rw [hw, k1] at *
      simp only [if_true] at k2 ⊢
      rw [e1, e2]
      by_cases hk : q.po.kind = 2
      · simp [hk]
      · rw [hq hk, ho]
        exact k2
    · unfold evOf
      rw [hpq, kp]
      simp only [Bool.false_eq_true, if_false]
      rw [hw, hq k2, ho]
      have hb : ¬ (q.po.kind == 2 || !quietQ V q s1) = true := by simp [k2, k3]
      simp only [hb, if_false, Bool.false_eq_true]
structure Itm where
  i : Nat
  D : List Nat
  q : Oq
  e : Ev
def pairOK (V : List Nat) (x y : Itm) : Prop := x.i ∈ y.D ∨ (apartQ V x.q y.q = true ∧ evOK x.e y.e)
inductive RunE (R : Oracle) (modes : FuncId → List Pm) (V : List Nat) : List Itm → St → St → Prop
  | nil (s : St) : RunE R modes V [] s s
  | cons (x : Itm) (ts : List Itm) (s s1 s' : St) : okQ x.q → stepG R modes V x.q s = some s1 → x.e = evOf V modes x.q s s1 → (∀ y ∈ ts, pairOK V x y) → RunE R modes V ts s1 s' → RunE R modes V (x :: ts) s s'
theorem RunE.swap {x y : Itm} {ts : List Itm} (h : RunE R modes V (x :: y :: ts) s s') (hn : x.i ∉ y.D) : RunE R modes V (y :: x :: ts) s s' := by
  cases h with
  | cons _ _ _ s1 _ okx hx ex px h =>
    cases h with
    | cons _ _ _ s2 _ oky hy ey py h =>
      obtain ⟨hap, hev⟩ := (px y List.mem_cons_self).resolve_left hn
      obtain ⟨a1, a2, a3, a4⟩ := apartQ_spec hap
      -- temporaries that x leaves as they are
      obtain ⟨ux, lx1, lx2, lx3⟩ := stepG_local okx.1 hx (fun z _ => rfl)
      have kx : ∀ z, z ∉ wrQ x.q → z ∉ rdQ x.q → s1.t z = s.t z := fun z h1 h2 => (lx3 z h1 h2).2
      have vx := stepG_V okx.1 hx
      have ky : ∀ z, z ∉ wrQ y.q → z ∉ rdQ y.q → s2.t z = s1.t z := by
        obtain ⟨uy, l1, l2, l3⟩ := stepG_local oky.1 hy (fun z _ => rfl)
        exact fun z h1 h2 => (l3 z h1 h2).2
      have vy := stepG_V oky.1 hy
      -- memory
      have hM : ∃ mY, stepG R modes V y.q ⟨s1.t, s.m⟩ = some ⟨s2.t, mY⟩ ∧ stepG R modes V x.q ⟨s.t, mY⟩ = some ⟨s1.t, s2.m⟩ ∧ (y.e = .write s1.m s2.m → s1.m = s.m ∧ mY = s2.m) ∧ (x.e = .write s.m s1.m → mY = s.m ∧ s2.m = s1.m) := by
        rcases stepG_quiet okx hx with hxe | ⟨hxm, hxq⟩
        · -- x writes: y does not
          rcases stepG_quiet oky hy with hye | ⟨hym, hyq⟩
          · rw [ex, ey, hxe, hye] at hev; exact hev.elim
          · refine ⟨s.m, ?_, ?_, fun he => ?_, fun _ => ⟨rfl, hym⟩⟩
            · rcases hyq with ⟨_, h2⟩ | ⟨as, h1, h2⟩
              · exact h2 s.m
              · refine h2 s.m (agree_symm ?_)
                rw [ex, ey, hxe, h1] at hev; exact hev
            · rw [hym]; exact hx
            · exfalso
              rcases hyq with ⟨h1, _⟩ | ⟨as, h1, _⟩ <;> (rw [ey, h1] at he; cases he)
        · refine ⟨s2.m, by rw [← hxm]; exact hy, ?_, fun _ => ⟨hxm, rfl⟩, fun he => ?_⟩
          · rcases hxq with ⟨_, h2⟩ | ⟨as, h1, h2⟩
            · exact h2 s2.m
            · refine h2 s2.m ?_
              rcases stepG_quiet oky hy with hye | ⟨hym, _⟩
              · rw [ex, ey, h1, hye] at hev
                rw [← hxm]; exact hev
              · rw [hym, hxm]; exact agree_refl _ _
          · exfalso
            rcases hxq with ⟨h1, _⟩ | ⟨as, h1, _⟩ <;> (rw [ex, h1] at he; cases he)
      obtain ⟨mY, hy1, hx1, eY, eX⟩ := hM
      -- y first
      have hfy : ∀ z ∈ rdQ y.q, s.t z = s1.t z := fun z hz => by
        have hw : z ∉ wrQ x.q := fun h => a1 z h hz
        by_cases hr : z ∈ rdQ x.q
        · exact (vx z (a4 z hr hz) hw).symm
        · exact (kx z hw hr).symm
      obtain ⟨u1, ly1, ly2, ly3⟩ := stepG_local oky.1 hy1 hfy
      have vu := stepG_V oky.1 ly1
      -- then x
      have hfx : ∀ z ∈ rdQ x.q, u1 z = s.t z := fun z hz => by
        have hw : z ∉ wrQ y.q := fun h => a3 z h hz
        by_cases hr : z ∈ rdQ y.q
        · exact vu z (a4 z hz hr) hw
        · exact (ly3 z hw hr).1
      obtain ⟨v1, lw1, lw2, lw3⟩ := stepG_local okx.1 hx1 hfx
      have hv : v1 = s2.t := by
        funext z
        by_cases hwx : z ∈ wrQ x.q
        · rw [lw2 z (.inl hwx)]
          exact (ky z (a2 z hwx) (a1 z hwx)).symm
        · by_cases hrx : z ∈ rdQ x.q
          · rw [lw2 z (.inr hrx)]
            have hwy : z ∉ wrQ y.q := fun h => a3 z h hrx
            by_cases hry : z ∈ rdQ y.q
            · exact (vy z (a4 z hrx hry) hwy).symm
            · exact (ky z hwy hry).symm
          · rw [(lw3 z hwx hrx).1]
            by_cases hyy : z ∈ wrQ y.q ∨ z ∈ rdQ y.q
            · exact ly2 z hyy
            · simp only [not_or] at hyy
              rw [(ly3 z hyy.1 hyy.2).1, ky z hyy.1 hyy.2, kx z hwx hrx]
      have hs2 : (⟨v1, s2.m⟩ : St) = s2 := by rw [hv]
      have ey' : y.e = evOf V modes y.q s ⟨u1, mY⟩ := by
        rw [ey]
        refine (evOf_congr oky hfy (fun z hz => ly2 z (.inl hz)) fun he => ?_).symm
        obtain ⟨k1, k2⟩ := eY (by rw [ey, he])
        exact ⟨k1.symm, k2⟩
      have ex' : x.e = evOf V modes x.q ⟨u1, mY⟩ s2 := by
        rw [ex]
        refine (evOf_congr okx hfx (fun z hz => ?_) fun he => ?_).symm
        · exact ky z (a2 z hz) (a1 z hz)
        · obtain ⟨k1, k2⟩ := eX (by rw [ex, he])
          exact ⟨k1, k2⟩
      refine .cons y _ s ⟨u1, mY⟩ s' oky ly1 ey' (fun z hz => ?_) (.cons x ts ⟨u1, mY⟩ s2 s' okx (by rw [← hs2]; exact lw1) ex' (fun z hz => px z (List.mem_cons_of_mem _ hz)) h)
      rcases List.mem_cons.1 hz with rfl | hz
      · exact .inr ⟨apartQ_symm hap, evOK_symm hev⟩
      · exact py z hz
theorem RunE.first {y : Itm} {ts2 : List Itm} : ∀ {ts1 : List Itm} {s : St}, RunE R modes V (ts1 ++ y :: ts2) s s' → (∀ x ∈ ts1, x.i ∉ y.D) → RunE R modes V (y :: (ts1 ++ ts2)) s s'
  | [], s, h, _ => h
  | x :: ts1, s, h, hn => by
    cases h with
    | cons _ _ _ s1 _ ok hx ex px h =>
      have h2 := RunE.first h (fun z hz => hn z (List.mem_cons_of_mem _ hz))
      refine RunE.swap (.cons x _ s s1 s' ok hx ex (fun z hz => px z ?_) h2) (hn x List.mem_cons_self)
      rcases List.mem_cons.1 hz with rfl | hz
      · simp
      · rcases List.mem_append.1 hz with hz | hz
        · simp [hz]
        · simp [hz]
end
end Go.Proofs.YtngooidedlnmaaaGreat.Pv
