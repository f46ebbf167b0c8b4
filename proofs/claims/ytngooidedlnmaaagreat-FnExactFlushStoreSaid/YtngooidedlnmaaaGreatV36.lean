/- A plain reading of Go code and its soundness, part 36. No condition. -/
import Derived.Test.YtngooidedlnmaaaGreatV35
set_option linter.all false
set_option linter.unusedSimpArgs false
set_option linter.unusedVariables false
set_option linter.unnecessarySimpa false
/- Operations that don't meet may change places. No condition. -/
namespace Go.Proofs.YtngooidedlnmaaaGreat.Pv
open Go
section
variable {V : List Nat} {t t1 u : Nat → AV} {m m1 m2 : Mem} {as : List AV} {s s1 s2 s' : St} {q : Oq} {R : Oracle} {modes : FuncId → List Pm} {d : Nat} {a : AV}
theorem putT_quiet (hd : q.dst = some d) (hq : quietQ V q (putT V ⟨t, m⟩ d a) = true) : (putT V ⟨t, m⟩ d a).m = m ∧ ∀ m2, putT V ⟨t, m2⟩ d a = ⟨(putT V ⟨t, m⟩ d a).t, m2⟩ := by
  cases a with
  | pv p =>
    cases p with
    | sl fl e xs =>
      by_cases hv : (decide (1 ≤ fl) && V.contains d) = true
      · exfalso
        simp only [putT, hv, if_true] at hq
        simp only [Bool.and_eq_true] at hv
        simp only [quietQ, hd, hv.2, Bool.not_true, Bool.false_or, upd_same, beq_self_eq_true] at hq
        cases hq
      · simp only [putT, hv, if_false, Bool.false_eq_true]
        simp
    | _ => simp [putT]
  | _ => simp [putT]
theorem endStep_quiet (h : endStep V 0 t m as q.dst = some s') (hq : quietQ V q s' = true) : s'.m = m ∧ ∀ m2, endStep V 0 t m2 as q.dst = some ⟨s'.t, m2⟩ := by
  cases hd : q.dst with
  | none => rw [hd] at h; simp only [endStep, Option.some.injEq] at h; subst h; exact ⟨rfl, fun m2 => rfl⟩
  | some d =>
    rw [hd] at h
    match as, h with
    | [], h => simp only [endStep, Option.some.injEq] at h; subst h; exact ⟨rfl, fun m2 => rfl⟩
    | [a], h =>
      simp only [endStep, Option.some.injEq] at h; subst h
      obtain ⟨h1, h2⟩ := putT_quiet hd hq
      exact ⟨h1, fun m2 => congrArg some (h2 m2)⟩
    | _ :: _ :: _, h => simp [endStep] at h
theorem sem_semL {d : Nat} {po : PO} (hk : po.kind ≠ 2) : sem R modes d m po as = semL d m po as := by
  cases po <;> first | rfl | exact absurd rfl hk
theorem step_mem (ht : q.tup = 0) (hk : q.po.kind ≠ 2) (h : step R modes V q ⟨t, m⟩ = some s1) (hq : quietQ V q s1 = true) : s1.m = m ∧ ∀ m2, (q.po.kind = 1 → agree m m2 (q.po.opds.map (opd ⟨t, m⟩))) → step R modes V q ⟨t, m2⟩ = some ⟨s1.t, m2⟩ := by
  unfold step at h ⊢
  simp only at h ⊢
  split at h
  · rename_i as1 mm t1 hs htk
    rw [sem_semL hk] at hs
    have key : mm = m ∧ ∀ m2, (q.po.kind = 1 → agree m m2 (q.po.opds.map (opd ⟨t, m⟩))) → semL (q.dst.getD 0) m2 q.po (q.po.opds.map (opd ⟨t, m⟩)) = some (as1, m2) := by
      have h3 : q.po.kind = 0 ∨ q.po.kind = 1 := by
        revert hk
        cases q.po <;> simp only [PO.kind] <;> first | (intro _; simp; done) | (intro h; exact absurd rfl h) | (split <;> simp)
      rcases h3 with h3 | h3
      · obtain ⟨k1, k2⟩ := semL_pure h3 hs
        exact ⟨k1, fun m2 _ => k2 m2⟩
      · obtain ⟨k1, k2⟩ := semL_read h3 hs
        exact ⟨k1, fun m2 h => k2 m2 (h h3)⟩
    obtain ⟨rfl, key⟩ := key
    rw [ht] at h
    obtain ⟨h1, h2⟩ := endStep_quiet h hq
    refine ⟨h1, fun m2 hag => ?_⟩
    have e : q.po.opds.map (opd ⟨t, m2⟩) = q.po.opds.map (opd ⟨t, mm⟩) := opds_congr fun x _ => rfl
    rw [e, sem_semL hk, key m2 hag, htk, ht]
    exact h2 m2
  · cases h
def okQ (q : Oq) : Prop := (q.guard.isSome = true → q.tup = 0) ∧ (q.po.kind ≠ 2 → q.tup = 0)
theorem kind_cases (q : Oq) (s s1 : St) : (evOf V q s s1 = .pure ∧ wantedQ q s = false) ∨ (wantedQ q s = true ∧ ((evOf V q s s1 = .write s.m s1.m) ∨ (q.po.kind ≠ 2 ∧ quietQ V q s1 = true ∧ ((q.po.kind = 1 ∧ evOf V q s s1 = .read (q.po.opds.map (opd s))) ∨ (q.po.kind ≠ 1 ∧ evOf V q s s1 = .pure))))) := by
  unfold evOf
  cases hw : wantedQ q s with
  | false => exact .inl ⟨by simp, rfl⟩
  | true =>
    refine .inr ⟨rfl, ?_⟩
    simp only [if_true]
    by_cases h2 : (q.po.kind == 2 || !quietQ V q s1) = true
    · rw [if_pos h2]; exact .inl rfl
    · rw [if_neg h2]
      simp only [Bool.or_eq_true, beq_iff_eq, Bool.not_eq_true', not_or, Bool.not_eq_false] at h2
      refine .inr ⟨h2.1, h2.2, ?_⟩
      by_cases h1 : q.po.kind = 1
      · exact .inl ⟨h1, by simp [h1]⟩
      · exact .inr ⟨h1, by simp [h1]⟩
theorem stepG_unwanted (hw : wantedQ q ⟨t, m⟩ = false) (h : stepG R modes V q ⟨t, m⟩ = some s1) : s1.m = m ∧ ∀ m2, stepG R modes V q ⟨t, m2⟩ = some ⟨s1.t, m2⟩ := by
  unfold wantedQ at hw
  unfold stepG at h ⊢
  split at hw
  · cases hw
  · rename_i g b hg
    rw [hg] at h
    simp only at h ⊢
    split at hw
    · rename_i c hc
      simp only at hc
      rw [hc] at h
      simp only [hc] at h ⊢
      have hcb : ¬ c = b := by simpa using hw
      simp only [hcb, if_false] at h ⊢
      split at h
      · simp only [Option.some.injEq] at h; subst h; exact ⟨rfl, fun m2 => rfl⟩
      · simp only [Option.some.injEq] at h; subst h; exact ⟨rfl, fun m2 => rfl⟩
    · rename_i hc
      simp only at hc
      rw [hc] at h
      simp only [hc] at h ⊢
      split at h
      · simp only [Option.some.injEq] at h; subst h; exact ⟨rfl, fun m2 => rfl⟩
      · simp only [Option.some.injEq] at h; subst h; exact ⟨rfl, fun m2 => rfl⟩
    · cases hw
theorem stepG_wanted (hw : wantedQ q ⟨t, m⟩ = true) (h : stepG R modes V q ⟨t, m⟩ = some s1) : step R modes V q ⟨t, m⟩ = some s1 ∧ ∀ m2, stepG R modes V q ⟨t, m2⟩ = step R modes V q ⟨t, m2⟩ := by
  unfold wantedQ at hw
  unfold stepG at h ⊢
  split at hw
  · rename_i hg
    rw [hg] at h
    exact ⟨h, fun m2 => rfl⟩
  · rename_i g b hg
    rw [hg] at h
    simp only at h ⊢
    split at hw
    · rename_i c hc
      simp only at hc
      rw [hc] at h
      simp only [hc] at h ⊢
      have hcb : c = b := by simpa using hw
      rw [if_pos hcb] at h
      exact ⟨h, fun m2 => by simp [hcb]⟩
    · cases hw
    · rename_i hno hno2
      split at h
      · rename_i c hc; exact absurd hc (hno c)
      · rename_i hc; exact absurd hc hno2
      · cases h
theorem stepG_quiet (hok : okQ q) (h : stepG R modes V q s = some s1) :
    (evOf V q s s1 = .write s.m s1.m) ∨ (s1.m = s.m ∧ ((evOf V q s s1 = .pure ∧ ∀ m2, stepG R modes V q ⟨s.t, m2⟩ = some ⟨s1.t, m2⟩) ∨ ∃ as, evOf V q s s1 = .read as ∧ ∀ m2, agree s.m m2 as → stepG R modes V q ⟨s.t, m2⟩ = some ⟨s1.t, m2⟩)) := by
  obtain ⟨t, m⟩ := s
  rcases kind_cases (V := V) q ⟨t, m⟩ s1 with ⟨h1, h2⟩ | ⟨h1, h2⟩
  · obtain ⟨k1, k2⟩ := stepG_unwanted h2 h
    exact .inr ⟨k1, .inl ⟨h1, k2⟩⟩
  · rcases h2 with h2 | ⟨h2, h3, h4⟩
    · exact .inl h2
    · obtain ⟨k1, k2⟩ := stepG_wanted h1 h
      obtain ⟨k3, k4⟩ := step_mem (hok.2 h2) h2 k1 h3
      refine .inr ⟨k3, ?_⟩
      rcases h4 with ⟨h4, h5⟩ | ⟨h4, h5⟩
      · exact .inr ⟨_, h5, fun m2 hag => by rw [k2]; exact k4 m2 fun _ => hag⟩
      · exact .inl ⟨h5, fun m2 => by rw [k2]; exact k4 m2 fun h => absurd h h4⟩
theorem agree_symm : ∀ {as : List AV} {m m2 : Mem}, agree m m2 as → agree m2 m as
  | [], _, _, _ => trivial
  | a :: as, m, m2, h => by
    refine ⟨?_, agree_symm h.2⟩
    have h1 := h.1
    cases a with
    | ptr o k c => exact ⟨h1.1.symm, h1.2.1.symm, fun n => ⟨(h1.2.2 n).1.symm, (h1.2.2 n).2.symm⟩⟩
    | rw r => exact ⟨h1.1.symm, h1.2.1.symm, h1.2.2.symm⟩
    | ept r i f => exact ⟨h1.1.symm, h1.2.1.symm, h1.2.2.symm⟩
    | _ => trivial
theorem agree_refl (m : Mem) : ∀ as : List AV, agree m m as
  | [] => trivial
  | a :: as => ⟨by cases a <;> simp [agreeA], agree_refl m as⟩
theorem evOf_congr {s s1 u u1 : St} (hok : okQ q) (h1 : ∀ x ∈ rdQ q, u.t x = s.t x) (h2 : ∀ x ∈ wrQ q, u1.t x = s1.t x) (h3 : evOf V q s s1 = .write s.m s1.m → u.m = s.m ∧ u1.m = s1.m) : evOf V q u u1 = evOf V q s s1 := by
  have hw : wantedQ q u = wantedQ q s := by
    unfold wantedQ
    cases hg : q.guard with
    | none => rfl
    | some y =>
      obtain ⟨g, b⟩ := y
      simp only
      rw [h1 g (mem_rdQ.2 (.inr ⟨b, hg⟩))]
  have ho : q.po.opds.map (opd u) = q.po.opds.map (opd s) := opds_congr fun x hx => h1 x (mem_rdQ.2 (.inl hx))
  have hq : q.po.kind ≠ 2 → quietQ V q u1 = quietQ V q s1 := fun hk => by
    unfold quietQ
    cases hd : q.dst with
    | none => rfl
    | some d =>
      simp only
      rw [h2 d (by simp [wrQ, wrD, hd, hok.2 hk])]
  rcases kind_cases (V := V) q s s1 with ⟨k1, k2⟩ | ⟨k1, k2⟩
  · rw [k1]; unfold evOf; rw [hw, k2]; simp
  · rcases k2 with k2 | ⟨k2, k3, k4⟩
    · obtain ⟨e1, e2⟩ := h3 k2
      rw [k2]
      unfold evOf at k2 ⊢
      rw [hw, k1] at *
      simp only [if_true] at k2 ⊢
      rw [e1, e2]
      by_cases hk : q.po.kind = 2
      · simp [hk]
      · rw [hq hk, ho]
        exact k2
    · unfold evOf
      rw [hw, hq k2, ho]
      have hb : ¬ (q.po.kind == 2 || !quietQ V q s1) = true := by simp [k2, k3]
      simp only [hb, if_false, Bool.false_eq_true]
structure Itm where
  i : Nat
  D : List Nat
  q : Oq
  e : Ev
def pairOK (V : List Nat) (x y : Itm) : Prop := x.i ∈ y.D ∨ (apartQ V x.q y.q = true ∧ evOK x.e y.e)
inductive RunE (R : Oracle) (modes : FuncId → List Pm) (V : List Nat) : List Itm → St → St → Prop
  | nil (s : St) : RunE R modes V [] s s
  | cons (x : Itm) (ts : List Itm) (s s1 s' : St) : okQ x.q → stepG R modes V x.q s = some s1 → x.e = evOf V x.q s s1 → (∀ y ∈ ts, pairOK V x y) → RunE R modes V ts s1 s' → RunE R modes V (x :: ts) s s'
theorem RunE.swap {x y : Itm} {ts : List Itm} (h : RunE R modes V (x :: y :: ts) s s') (hn : x.i ∉ y.D) : RunE R modes V (y :: x :: ts) s s' := by
  cases h with
  | cons _ _ _ s1 _ okx hx ex px h =>
    cases h with
    | cons _ _ _ s2 _ oky hy ey py h =>
      obtain ⟨hap, hev⟩ := (px y List.mem_cons_self).resolve_left hn
      obtain ⟨a1, a2, a3, a4⟩ := apartQ_spec hap
      -- temporaries that x leaves as they are
      obtain ⟨ux, lx1, lx2, lx3⟩ := stepG_local okx.1 hx (fun z _ => rfl)
      have kx : ∀ z, z ∉ wrQ x.q → z ∉ rdQ x.q → s1.t z = s.t z := fun z h1 h2 => (lx3 z h1 h2).2
      have vx := stepG_V okx.1 hx
      have ky : ∀ z, z ∉ wrQ y.q → z ∉ rdQ y.q → s2.t z = s1.t z := by
        obtain ⟨uy, l1, l2, l3⟩ := stepG_local oky.1 hy (fun z _ => rfl)
        exact fun z h1 h2 => (l3 z h1 h2).2
      have vy := stepG_V oky.1 hy
      -- memory
      have hM : ∃ mY, stepG R modes V y.q ⟨s1.t, s.m⟩ = some ⟨s2.t, mY⟩ ∧ stepG R modes V x.q ⟨s.t, mY⟩ = some ⟨s1.t, s2.m⟩ ∧ (y.e = .write s1.m s2.m → s1.m = s.m ∧ mY = s2.m) ∧ (x.e = .write s.m s1.m → mY = s.m ∧ s2.m = s1.m) := by
        rcases stepG_quiet okx hx with hxe | ⟨hxm, hxq⟩
        · -- x writes: y does not
          rcases stepG_quiet oky hy with hye | ⟨hym, hyq⟩
          · rw [ex, ey, hxe, hye] at hev; exact hev.elim
          · refine ⟨s.m, ?_, ?_, fun he => ?_, fun _ => ⟨rfl, hym⟩⟩
            · rcases hyq with ⟨_, h2⟩ | ⟨as, h1, h2⟩
              · exact h2 s.m
              · refine h2 s.m (agree_symm ?_)
                rw [ex, ey, hxe, h1] at hev; exact hev
            · rw [hym]; exact hx
            · exfalso
              rcases hyq with ⟨h1, _⟩ | ⟨as, h1, _⟩ <;> (rw [ey, h1] at he; cases he)
        · refine ⟨s2.m, by rw [← hxm]; exact hy, ?_, fun _ => ⟨hxm, rfl⟩, fun he => ?_⟩
          · rcases hxq with ⟨_, h2⟩ | ⟨as, h1, h2⟩
            · exact h2 s2.m
            · refine h2 s2.m ?_
              rcases stepG_quiet oky hy with hye | ⟨hym, _⟩
              · rw [ex, ey, h1, hye] at hev
                rw [← hxm]; exact hev
              · rw [hym, hxm]; exact agree_refl _ _
          · exfalso
            rcases hxq with ⟨h1, _⟩ | ⟨as, h1, _⟩ <;> (rw [ex, h1] at he; cases he)
      obtain ⟨mY, hy1, hx1, eY, eX⟩ := hM
      -- y first
      have hfy : ∀ z ∈ rdQ y.q, s.t z = s1.t z := fun z hz => by
        have hw : z ∉ wrQ x.q := fun h => a1 z h hz
        by_cases hr : z ∈ rdQ x.q
        · exact (vx z (a4 z hr hz) hw).symm
        · exact (kx z hw hr).symm
      obtain ⟨u1, ly1, ly2, ly3⟩ := stepG_local oky.1 hy1 hfy
      have vu := stepG_V oky.1 ly1
      -- then x
      have hfx : ∀ z ∈ rdQ x.q, u1 z = s.t z := fun z hz => by
        have hw : z ∉ wrQ y.q := fun h => a3 z h hz
        by_cases hr : z ∈ rdQ y.q
        · exact vu z (a4 z hz hr) hw
        · exact (ly3 z hw hr).1
      obtain ⟨v1, lw1, lw2, lw3⟩ := stepG_local okx.1 hx1 hfx
      have hv : v1 = s2.t := by
        funext z
        by_cases hwx : z ∈ wrQ x.q
        · rw [lw2 z (.inl hwx)]
          exact (ky z (a2 z hwx) (a1 z hwx)).symm
        · by_cases hrx : z ∈ rdQ x.q
          · rw [lw2 z (.inr hrx)]
            have hwy : z ∉ wrQ y.q := fun h => a3 z h hrx
            by_cases hry : z ∈ rdQ y.q
            · exact (vy z (a4 z hrx hry) hwy).symm
            · exact (ky z hwy hry).symm
          · rw [(lw3 z hwx hrx).1]
            by_cases hyy : z ∈ wrQ y.q ∨ z ∈ rdQ y.q
            · exact ly2 z hyy
            · simp only [not_or] at hyy
              rw [(ly3 z hyy.1 hyy.2).1, ky z hyy.1 hyy.2, kx z hwx hrx]
      have hs2 : (⟨v1, s2.m⟩ : St) = s2 := by rw [hv]
      have ey' : y.e = evOf V y.q s ⟨u1, mY⟩ := by
        rw [ey]
        refine (evOf_congr oky hfy (fun z hz => ly2 z (.inl hz)) fun he => ?_).symm
        obtain ⟨k1, k2⟩ := eY (by rw [ey, he])
        exact ⟨k1.symm, k2⟩
      have ex' : x.e = evOf V x.q ⟨u1, mY⟩ s2 := by
        rw [ex]
        refine (evOf_congr okx hfx (fun z hz => ?_) fun he => ?_).symm
        · exact ky z (a2 z hz) (a1 z hz)
        · obtain ⟨k1, k2⟩ := eX (by rw [ex, he])
          exact ⟨k1, k2⟩
      refine .cons y _ s ⟨u1, mY⟩ s' oky ly1 ey' (fun z hz => ?_) (.cons x ts ⟨u1, mY⟩ s2 s' okx (by rw [← hs2]; exact lw1) ex' (fun z hz => px z (List.mem_cons_of_mem _ hz)) h)
      rcases List.mem_cons.1 hz with rfl | hz
      · exact .inr ⟨apartQ_symm hap, evOK_symm hev⟩
      · exact py z hz
theorem RunE.first {y : Itm} {ts2 : List Itm} : ∀ {ts1 : List Itm} {s : St}, RunE R modes V (ts1 ++ y :: ts2) s s' → (∀ x ∈ ts1, x.i ∉ y.D) → RunE R modes V (y :: (ts1 ++ ts2)) s s'
  | [], s, h, _ => h
  | x :: ts1, s, h, hn => by
    cases h with
    | cons _ _ _ s1 _ ok hx ex px h =>
      have h2 := RunE.first h (fun z hz => hn z (List.mem_cons_of_mem _ hz))
      refine RunE.swap (.cons x _ s s1 s' ok hx ex (fun z hz => px z ?_) h2) (hn x List.mem_cons_self)
      rcases List.mem_cons.1 hz with rfl | hz
      · simp
      · rcases List.mem_append.1 hz with hz | hz
        · simp [hz]
        · simp [hz]
end
end Go.Proofs.YtngooidedlnmaaaGreat.Pv
