/- A plain reading of Go code and its soundness, part 35. No condition. -/
import Derived.Test.YtngooidedlnmaaaGreatV34
set_option linter.all false
set_option linter.unusedSimpArgs false
set_option linter.unusedVariables false
set_option linter.unnecessarySimpa false
/- Operations of a region without an order: what each looks at, what each leaves alone. No condition. -/
namespace Go.Proofs.YtngooidedlnmaaaGreat.Pv
open Go
def opdTmps (os : List Opd) : List Nat := os.filterMap fun | .t n => some n | _ => none
def rdQ (q : Oq) : List Nat := opdTmps q.po.opds ++ (match q.guard with | some (g, _) => [g] | none => [])
def wrD (tup : Nat) : Option Nat → List Nat
  | none => []
  | some d => if tup = 0 then [d] else (List.range tup).map fun i => d + 1000000 + 1000000 * i
def wrQ (q : Oq) : List Nat := wrD q.tup q.dst
def apartQ (V : List Nat) (x y : Oq) : Bool :=
  (wrQ x).all (fun d => !(rdQ y).contains d && !(wrQ y).contains d) && (wrQ y).all (fun d => !(rdQ x).contains d) && (rdQ x).all fun d => !(rdQ y).contains d || V.contains d
section
variable {V : List Nat} {t t1 u : Nat → AV} {m m1 m2 : Mem} {as : List AV} {s s1 : St} {q : Oq} {R : Oracle} {modes : FuncId → List Pm} {n tup : Nat} {os : List Opd}
theorem mem_opdTmps {x : Nat} : x ∈ opdTmps os ↔ Opd.t x ∈ os := by
  unfold opdTmps
  rw [List.mem_filterMap]
  constructor
  · rintro ⟨o, ho, h⟩
    cases o <;> simp at h
    subst h; exact ho
  · intro h; exact ⟨_, h, rfl⟩
theorem apartQ_spec {x y : Oq} (h : apartQ V x y = true) : (∀ d ∈ wrQ x, d ∉ rdQ y) ∧ (∀ d ∈ wrQ x, d ∉ wrQ y) ∧ (∀ d ∈ wrQ y, d ∉ rdQ x) ∧ ∀ d ∈ rdQ x, d ∈ rdQ y → d ∈ V := by
  simp only [apartQ, Bool.and_eq_true, List.all_eq_true, Bool.not_eq_true', Bool.or_eq_true, List.contains_eq_mem, decide_eq_false_iff_not, decide_eq_true_eq] at h
  obtain ⟨⟨h1, h2⟩, h3⟩ := h
  exact ⟨fun d hd => (h1 d hd).1, fun d hd => (h1 d hd).2, fun d hd => h2 d hd, fun d hd hy => (h3 d hd).resolve_left fun hn => hn hy⟩
theorem apartQ_symm {x y : Oq} (h : apartQ V x y = true) : apartQ V y x = true := by
  obtain ⟨h1, h2, h3, h4⟩ := apartQ_spec h
  simp only [apartQ, Bool.and_eq_true, List.all_eq_true, Bool.not_eq_true', Bool.or_eq_true, List.contains_eq_mem, decide_eq_false_iff_not, decide_eq_true_eq]
  exact ⟨⟨fun d hd => ⟨h3 d hd, fun hx => h2 d hx hd⟩, fun d hd => h1 d hd⟩, fun d hd => (Classical.em (d ∈ rdQ x)).elim (fun hx => .inr (h4 d hx hd)) .inl⟩
theorem evOK_symm {x y : Ev} (h : evOK x y) : evOK y x := by
  cases x <;> cases y <;> exact h
theorem takeT_local : ∀ {os : List Opd} {t t1 u : Nat → AV}, takeT V t os = some t1 → (∀ x ∈ opdTmps os, u x = t x) → ∃ u1, takeT V u os = some u1 ∧ (∀ x ∈ opdTmps os, u1 x = t1 x) ∧ ∀ x, x ∉ opdTmps os → u1 x = u x ∧ t1 x = t x
  | [], t, t1, u, h, _ => by
    simp only [takeT, Option.some.injEq] at h
    subst h
    exact ⟨u, rfl, fun x hx => by simp [opdTmps] at hx, fun x _ => ⟨rfl, rfl⟩⟩
  | .k p :: os, t, t1, u, h, hu => by
    simp only [takeT] at h ⊢
    exact takeT_local h hu
  | .t n :: os, t, t1, u, h, hu => by
    have hn : u n = t n := hu n (mem_opdTmps.2 List.mem_cons_self)
    have hcons : ∀ x, x ∈ opdTmps (.t n :: os) ↔ x = n ∨ x ∈ opdTmps os := fun x => by simp [mem_opdTmps]
    simp only [takeT] at h ⊢
    rw [hn]
    split at h
    · rename_i ho
      rw [if_pos ho]
      split at h
      · cases h
      · rename_i hv
        rw [if_neg hv]
        obtain ⟨u1, h1, h2, h3⟩ := takeT_local (u := upd u n .undef) h (fun x hx => by
          by_cases hxn : x = n
          · subst hxn; rw [upd_same, upd_same]
          · rw [upd_ne _ _ _ _ hxn, upd_ne _ _ _ _ hxn]; exact hu x ((hcons x).2 (.inr hx)))
        refine ⟨u1, h1, fun x hx => ?_, fun x hx => ?_⟩
        · by_cases hxo : x ∈ opdTmps os
          · exact h2 x hxo
          · obtain rfl := ((hcons x).1 hx).resolve_right hxo
            obtain ⟨k1, k2⟩ := h3 x hxo
            rw [k1, k2, upd_same, upd_same]
        · have hxn : x ≠ n := fun e => hx ((hcons x).2 (.inl e))
          obtain ⟨k1, k2⟩ := h3 x (fun h => hx ((hcons x).2 (.inr h)))
          rw [upd_ne _ _ _ _ hxn] at k1 k2
          exact ⟨k1, k2⟩
    · rename_i ho
      rw [if_neg ho]
      obtain ⟨u1, h1, h2, h3⟩ := takeT_local h (fun x hx => hu x ((hcons x).2 (.inr hx)))
      refine ⟨u1, h1, fun x hx => ?_, fun x hx => ?_⟩
      · by_cases hxo : x ∈ opdTmps os
        · exact h2 x hxo
        · obtain rfl := ((hcons x).1 hx).resolve_right hxo
          obtain ⟨k1, k2⟩ := h3 x hxo
          rw [k1, k2]; exact hn
      · exact h3 x (fun h => hx ((hcons x).2 (.inr h)))
theorem takeT_V : ∀ {os : List Opd} {t t1 : Nat → AV}, takeT V t os = some t1 → ∀ x ∈ V, t1 x = t x
  | [], t, t1, h, x, _ => by simp only [takeT, Option.some.injEq] at h; subst h; rfl
  | .k p :: os, t, t1, h, x, hx => by simp only [takeT] at h; exact takeT_V h x hx
  | .t n :: os, t, t1, h, x, hx => by
    simp only [takeT] at h
    split at h
    · split at h
      · cases h
      · rename_i hv
        have hxn : x ≠ n := fun e => hv (by subst e; simp [hx])
        rw [takeT_V h x hx, upd_ne _ _ _ _ hxn]
    · exact takeT_V h x hx
theorem putT_t (d : Nat) (a : AV) : ∃ c mm, putT V ⟨t, m⟩ d a = ⟨upd t d c, mm⟩ ∧ ∀ u, putT V ⟨u, m⟩ d a = ⟨upd u d c, mm⟩ := by
  unfold putT
  split
  · split
    · exact ⟨_, _, rfl, fun u => rfl⟩
    · exact ⟨_, _, rfl, fun u => rfl⟩
  · exact ⟨_, _, rfl, fun u => rfl⟩
theorem range_steps (K d n : Nat) : (List.range (n + 1)).map (fun i => d + K * i) = d :: (List.range n).map (fun i => d + K + K * i) := by
  rw [List.range_succ_eq_map, List.map_cons, Nat.mul_zero, Nat.add_zero, List.map_map]
  congr 1
  apply List.map_congr_left
  intro i _
  show d + K * (i + 1) = d + K + K * i
  rw [Nat.mul_add, Nat.mul_one]
  omega
theorem putTs_t : ∀ (as : List AV) (d : Nat) (m : Mem), ∃ (c : Nat → AV) (mm : Mem), ∀ u, putTs V ⟨u, m⟩ d as = ⟨fun x => if x ∈ (List.range as.length).map (fun i => d + 1000000 * i) then c x else u x, mm⟩
  | [], d, m => ⟨fun _ => .undef, m, fun u => by simp [putTs]⟩
  | a :: as, d, m => by
    obtain ⟨c, mm, _, h⟩ := putT_t (V := V) (t := fun _ => .undef) (m := m) d a
    obtain ⟨c2, mm2, h2⟩ := putTs_t as (d + 1000000) mm
    refine ⟨fun x => if x ∈ (List.range as.length).map (fun i => d + 1000000 + 1000000 * i) then c2 x else c, mm2, fun u => ?_⟩
    simp only [putTs, h, h2]
    congr 1
    funext x
    rw [List.length_cons, range_steps 1000000]
    by_cases h1 : x ∈ (List.range as.length).map (fun i => d + 1000000 + 1000000 * i)
    · simp [h1]
    · simp only [h1, if_false, List.mem_cons, or_false]
      by_cases hx : x = d
      · subst hx; simp [upd_same]
      · simp [hx, upd_ne]
theorem endStep_t {dst : Option Nat} {s' : St} (h : endStep V tup t m as dst = some s') : ∃ c : Nat → AV, ∀ u : Nat → AV, endStep V tup u m as dst = some ⟨fun x => if x ∈ wrD tup dst then c x else u x, s'.m⟩ := by
  match dst, tup, as, h with
  | none, tup, as, h =>
    simp only [endStep, Option.some.injEq] at h; subst h
    exact ⟨fun _ => .undef, fun u => by simp [endStep, wrD]⟩
  | some d, 0, [], h =>
    simp only [endStep, Option.some.injEq] at h; subst h
    refine ⟨fun _ => .undef, fun u => ?_⟩
    simp only [endStep, wrD, if_true, List.mem_singleton]
    congr 2
  | some d, 0, [a], h =>
    simp only [endStep, Option.some.injEq] at h; subst h
    obtain ⟨c, mm, h1, h2⟩ := putT_t (V := V) (t := t) (m := m) d a
    refine ⟨fun _ => c, fun u => ?_⟩
    simp only [endStep, wrD, if_true, List.mem_singleton, h1, h2]
    congr 2
  | some d, 0, _ :: _ :: _, h => simp [endStep] at h
  | some d, n + 1, as, h =>
    simp only [endStep] at h
    split at h
    · rename_i hl
      simp only [Option.some.injEq] at h; subst h
      obtain ⟨c, mm, h2⟩ := putTs_t (V := V) as (d + 1000000) m
      refine ⟨c, fun u => ?_⟩
      simp only [endStep, hl, if_true, h2, wrD, Nat.add_eq_zero_iff, Nat.one_ne_zero, and_false, if_false]
    · cases h
theorem opds_congr (h : ∀ x ∈ opdTmps os, u x = t x) : os.map (opd ⟨u, m1⟩) = os.map (opd ⟨t, m2⟩) := by
  apply List.map_congr_left
  intro o ho
  cases o with
  | t n => exact h n (mem_opdTmps.2 ho)
  | k p => rfl
theorem step_local (h : step R modes V q ⟨t, m⟩ = some s1) (hu : ∀ x ∈ opdTmps q.po.opds, u x = t x) :
    ∃ u1, step R modes V q ⟨u, m⟩ = some ⟨u1, s1.m⟩ ∧ (∀ x, (x ∈ wrQ q ∨ x ∈ opdTmps q.po.opds) → u1 x = s1.t x) ∧ ∀ x, x ∉ wrQ q → x ∉ opdTmps q.po.opds → u1 x = u x ∧ s1.t x = t x := by
  unfold step at h ⊢
  rw [opds_congr (m1 := m) (m2 := m) hu]
  simp only at h ⊢
  split at h
  · rename_i as2 m2 t2 hs ht
    obtain ⟨u2, h1, h2, h3⟩ := takeT_local ht hu
    obtain ⟨c, hc⟩ := endStep_t h
    have ht1 := hc t2
    rw [h] at ht1
    simp only [Option.some.injEq] at ht1
    have e1 : ∀ x, s1.t x = if x ∈ wrD q.tup q.dst then c x else t2 x := fun x => by rw [ht1]
    rw [hs, h1]
    refine ⟨_, hc u2, fun x hx => ?_, fun x hx hx2 => ?_⟩
    · rw [e1]
      by_cases hw : x ∈ wrD q.tup q.dst
      · simp only [hw, if_true]
      · simp only [hw, if_false]
        exact h2 x (hx.resolve_left hw)
    · rw [e1]
      have hw : x ∉ wrD q.tup q.dst := hx
      simp only [hw, if_false]
      exact h3 x hx2
  · cases h
theorem step_V (h : step R modes V q ⟨t, m⟩ = some s1) : ∀ x ∈ V, x ∉ wrQ q → s1.t x = t x := by
  intro x hx hw
  unfold step at h
  split at h
  · rename_i as2 m2 t2 hs ht
    obtain ⟨c, hc⟩ := endStep_t h
    have ht1 := hc t2
    rw [h] at ht1
    simp only [Option.some.injEq] at ht1
    rw [ht1]
    have hw : x ∉ wrD q.tup q.dst := hw
    simp only [hw, if_false]
    exact takeT_V ht x hx
  · cases h
theorem mem_rdQ {x : Nat} : x ∈ rdQ q ↔ x ∈ opdTmps q.po.opds ∨ ∃ b, q.guard = some (x, b) := by
  unfold rdQ
  cases hg : q.guard with
  | none => simp
  | some y =>
    obtain ⟨g, b⟩ := y
    simp only [List.mem_append, List.mem_singleton, Option.some.injEq, Prod.mk.injEq, exists_and_left, exists_eq', and_true]
    exact or_congr_right ⟨fun h => h.symm, fun h => h.symm⟩
theorem stepG_local (hgt : q.guard.isSome = true → q.tup = 0) (h : stepG R modes V q ⟨t, m⟩ = some s1) (hu : ∀ x ∈ rdQ q, u x = t x) :
    ∃ u1, stepG R modes V q ⟨u, m⟩ = some ⟨u1, s1.m⟩ ∧ (∀ x, (x ∈ wrQ q ∨ x ∈ rdQ q) → u1 x = s1.t x) ∧ ∀ x, x ∉ wrQ q → x ∉ rdQ q → u1 x = u x ∧ s1.t x = t x := by
  have hop : ∀ x ∈ opdTmps q.po.opds, u x = t x := fun x hx => hu x (mem_rdQ.2 (.inl hx))
  have key : step R modes V q ⟨t, m⟩ = some s1 → ∃ u1, step R modes V q ⟨u, m⟩ = some ⟨u1, s1.m⟩ ∧ (∀ x, (x ∈ wrQ q ∨ x ∈ rdQ q) → u1 x = s1.t x) ∧ ∀ x, x ∉ wrQ q → x ∉ rdQ q → u1 x = u x ∧ s1.t x = t x := fun h => by
    obtain ⟨u1, h1, h2, h3⟩ := step_local h hop
    refine ⟨u1, h1, fun x hx => ?_, fun x hx hx2 => h3 x hx (fun h => hx2 (mem_rdQ.2 (.inl h)))⟩
    by_cases hw : x ∈ wrQ q ∨ x ∈ opdTmps q.po.opds
    · exact h2 x hw
    · simp only [not_or] at hw
      obtain ⟨k1, k2⟩ := h3 x hw.1 hw.2
      rw [k1, k2]
      exact hu x (hx.resolve_left hw.1)
  unfold stepG at h ⊢
  split at h
  · rename_i hg; exact key h
  · rename_i g want hg
    have hgu : u g = t g := hu g (mem_rdQ.2 (.inr ⟨want, hg⟩))
    simp only at h ⊢
    rw [hgu]
    split at h
    · rename_i b hb
      split at h
      · rename_i hbw
        simp only [hbw, if_true]
        exact key h
      · rename_i hbw
        simp only [hbw, if_false]
        have ht0 := hgt (by rw [hg]; rfl)
        split at h
        · rename_i d hd
          simp only [Option.some.injEq] at h; subst h
          refine ⟨upd u d .void, rfl, fun x hx => ?_, fun x hx hx2 => ?_⟩
          · by_cases hxd : x = d
            · subst hxd; simp [upd_same]
            · simp only [upd_ne _ _ _ _ hxd]
              refine hu x (hx.resolve_left fun hw => hxd ?_)
              simpa [wrQ, wrD, hd, ht0] using hw
          · have hxd : x ≠ d := fun e => hx (by simp [wrQ, wrD, hd, ht0, e])
            simp only [upd_ne _ _ _ _ hxd, and_self]
        · rename_i hd
          simp only [Option.some.injEq] at h; subst h
          refine ⟨u, rfl, fun x hx => ?_, fun x hx hx2 => ⟨rfl, rfl⟩⟩
          refine hu x (hx.resolve_left fun hw => ?_)
          simp [wrQ, wrD, hd] at hw
    · have ht0 := hgt (by rw [hg]; rfl)
      split at h
      · rename_i d hd
        simp only [Option.some.injEq] at h; subst h
        refine ⟨upd u d .void, rfl, fun x hx => ?_, fun x hx hx2 => ?_⟩
        · by_cases hxd : x = d
          · subst hxd; simp [upd_same]
          · simp only [upd_ne _ _ _ _ hxd]
            refine hu x (hx.resolve_left fun hw => hxd ?_)
            simpa [wrQ, wrD, hd, ht0] using hw
        · have hxd : x ≠ d := fun e => hx (by simp [wrQ, wrD, hd, ht0, e])
          simp only [upd_ne _ _ _ _ hxd, and_self]
      · rename_i hd
        simp only [Option.some.injEq] at h; subst h
        refine ⟨u, rfl, fun x hx => ?_, fun x hx hx2 => ⟨rfl, rfl⟩⟩
        refine hu x (hx.resolve_left fun hw => ?_)
        simp [wrQ, wrD, hd] at hw
    · cases h
theorem stepG_V (hgt : q.guard.isSome = true → q.tup = 0) (h : stepG R modes V q ⟨t, m⟩ = some s1) : ∀ x ∈ V, x ∉ wrQ q → s1.t x = t x := by
  intro x hx hw
  unfold stepG at h
  split at h
  · exact step_V h x hx hw
  · rename_i g want hg
    simp only at h
    split at h
    · split at h
      · exact step_V h x hx hw
      · have ht0 := hgt (by rw [hg]; rfl)
        split at h
        · rename_i d hd
          simp only [Option.some.injEq] at h; subst h
          have hxd : x ≠ d := fun e => hw (by simp [wrQ, wrD, hd, ht0, e])
          simp only [upd_ne _ _ _ _ hxd]
        · simp only [Option.some.injEq] at h; subst h; rfl
    · have ht0 := hgt (by rw [hg]; rfl)
      split at h
      · rename_i d hd
        simp only [Option.some.injEq] at h; subst h
        have hxd : x ≠ d := fun e => hw (by simp [wrQ, wrD, hd, ht0, e])
        simp only [upd_ne _ _ _ _ hxd]
      · simp only [Option.some.injEq] at h; subst h; rfl
    · cases h
theorem semL_pure {d : Nat} {po : PO} {as' : List AV} (hk : po.kind = 0) (h : semL d m po as = some (as', m1)) : m1 = m ∧ ∀ m2, semL d m2 po as = some (as', m2) := by
  unfold semL at h
  split at h <;> first | (exfalso; revert hk; simp [PO.kind]; done) | skip
  all_goals first
    | (simp only [Option.some.injEq, Prod.mk.injEq] at h; obtain ⟨rfl, rfl⟩ := h; exact ⟨rfl, fun m2 => by simp only [semL]⟩; done)
    | (simp only [single, Option.map_map, Option.map_eq_some_iff, Function.comp, Prod.mk.injEq] at h; obtain ⟨c, hc, rfl, rfl⟩ := h; exact ⟨rfl, fun m2 => by simp only [semL, single, hc, Option.map_some]⟩; done)
    | ((repeat' (split at h)) <;> first | (cases h; done) | (simp only [Option.some.injEq, Prod.mk.injEq] at h; obtain ⟨rfl, rfl⟩ := h; exact ⟨rfl, fun m2 => by first | (simp_all [semL]; done) | (simp_all [semL]; omega)⟩; done) | (simp only [single, Option.map_eq_some_iff, Prod.mk.injEq] at h; obtain ⟨c, hc, rfl, rfl⟩ := h; exact ⟨rfl, fun m2 => by simp_all [semL, single]⟩; done))
theorem deref_agree {r : Ref} (h : m.at r.root = m2.at r.root ∧ m.kr r.root = m2.kr r.root ∧ m.kn r.root = m2.kn r.root) : m2.deref r = m.deref r := by
  unfold Mem.deref Ref.valid
  rw [h.1, h.2.1, h.2.2]
theorem readCells_agree {o : Nat} (h : ∀ n, m.kr (.c o n) = m2.kr (.c o n) ∧ m.kn (.c o n) = m2.kn (.c o n)) : ∀ (cs : List AV) (c : Nat), readCells m2 o c cs = readCells m o c cs := by
  intro cs
  induction cs with
  | nil => intro c; rfl
  | cons x cs ih => intro c; unfold readCells; rw [ih]; congr 1; unfold readCell; simp only [(h _).1, (h _).2]
theorem rowOf_agree {a : AV} (h : agreeA m m2 a) : rowOf m2 a = rowOf m a := by
  cases a with
  | rw r => exact deref_agree h
  | _ => rfl
theorem semL_read {d : Nat} {po : PO} {as' : List AV} (hk : po.kind = 1) (h : semL d m po as = some (as', m1)) : m1 = m ∧ ∀ m2, agree m m2 as → semL d m2 po as = some (as', m2) := by
  unfold semL at h
  split at h <;> first | (exfalso; revert hk; simp [PO.kind]; done) | skip
  all_goals (repeat' (split at h)) <;> first
    | (cases h; done)
    | (simp only [single, Option.map_eq_some_iff, Option.some.injEq, Prod.mk.injEq] at h
       first
        | (obtain ⟨rfl, rfl⟩ := h; refine ⟨rfl, fun m2 hag => ?_⟩)
        | (obtain ⟨c, hc, rfl, rfl⟩ := h; refine ⟨rfl, fun m2 hag => ?_⟩)
       simp only [agree, agreeA, and_true, true_and] at hag
       first
        | (have e1 := deref_agree hag; simp_all [semL, single]; done)
        | (have e1 := deref_agree hag.1; simp_all [semL, single]; done)
        | (have e1 := rowOf_agree hag; simp_all [semL, single]; done)
        | (have e1 := readCells_agree hag.2.2; simp_all [semL, single]; done)
        | (simp_all [semL, single]; done)
        | trace_state)
end
end Go.Proofs.YtngooidedlnmaaaGreat.Pv
