/- A plain reading of Go code and its soundness, part 38. No condition. -/
import Derived.Test.YtdbcnnehfbcldaaDoorV37
set_option linter.all false
set_option linter.unusedSimpArgs false
set_option linter.unusedVariables false
set_option linter.unnecessarySimpa false
/- Drawn regions by places: what an operation writes and reads is told by a short list. No condition. -/
namespace Go.Proofs.YtdbcnnehfbcldaaDoor.Pv
open Go
def Same (m m' : Mem) : Loc → Prop
  | .box o => m.b o = m'.b o ∧ m.kb o = m'.kb o ∧ m.mp o = m'.mp o ∧ ∀ n, m.kr (.c o n) = m'.kr (.c o n) ∧ m.kn (.c o n) = m'.kn (.c o n)
  | .var t => m.r t = m'.r t ∧ m.kr (.v t) = m'.kr (.v t) ∧ m.kn (.v t) = m'.kn (.v t)
def Off (W : List Loc) (m m' : Mem) : Prop := ∀ l, l ∉ W → Same m m' l
section
variable {m m1 m2 m3 : Mem} {W W' : List Loc}
theorem Same.refl (m : Mem) (l : Loc) : Same m m l := by cases l <;> simp [Same]
theorem Same.trans {l : Loc} (h : Same m m1 l) (k : Same m1 m2 l) : Same m m2 l := by
  cases l with
  | box o => exact ⟨h.1.trans k.1, h.2.1.trans k.2.1, h.2.2.1.trans k.2.2.1, fun n => ⟨(h.2.2.2 n).1.trans (k.2.2.2 n).1, (h.2.2.2 n).2.trans (k.2.2.2 n).2⟩⟩
  | var t => exact ⟨h.1.trans k.1, h.2.1.trans k.2.1, h.2.2.trans k.2.2⟩
theorem Off.refl (W : List Loc) (m : Mem) : Off W m m := fun l _ => Same.refl m l
theorem Off.trans (h : Off W m m1) (k : Off W m1 m2) : Off W m m2 := fun l hl => (h l hl).trans (k l hl)
theorem Off.mono (h : Off W m m1) (hs : ∀ l ∈ W, l ∈ W') : Off W' m m1 := fun l hl => h l fun hx => hl (hs l hx)
theorem off_setNew (d : Nat) (cs : List AV) : Off [.box d] m (m.setNew d cs) := by
  intro l hl
  cases l with
  | box o =>
    have : o ≠ d := fun e => hl (by simp [e])
    simp [Same, Mem.setNew, upd, this]
  | var t => simp [Same, Mem.setNew]
theorem off_newMap (d : Nat) : Off [.box d] m (m.newMap d) := by
  intro l hl
  cases l with
  | box o =>
    have : o ≠ d := fun e => hl (by simp [e])
    simp [Same, Mem.newMap, Mem.setNew, upd, this]
  | var t => simp [Same, Mem.newMap, Mem.setNew]
theorem off_mp (o : Nat) (x : Option (List (PV × PV))) : Off [.box o] m { m with mp := upd m.mp o x } := by
  intro l hl
  cases l with
  | box o' =>
    have : o' ≠ o := fun e => hl (by simp [e])
    simp [Same, upd, this]
  | var t => simp [Same]
theorem off_setCells (o c : Nat) (as : List AV) : Off [.box o] m (m.setCells o c as) := by
  intro l hl
  unfold Mem.setCells
  split
  · cases l with
    | box o' =>
      have : o' ≠ o := fun e => hl (by simp [e])
      simp [Same, upd, bumpFrom, this]
    | var t => simp [Same, bumpFrom]
  · exact Same.refl _ _
theorem off_undefCells (o c n : Nat) : Off [.box o] m (m.undefCells o c n) := by
  intro l hl
  unfold Mem.undefCells
  split
  · cases l with
    | box o' =>
      have : o' ≠ o := fun e => hl (by simp [e])
      simp [Same, upd, this]
    | var t => simp [Same]
  · exact Same.refl _ _
theorem off_take (r : Root) : Off [locOf r] m (m.take r) := by
  intro l hl
  cases r with
  | v t =>
    simp only [locOf, List.mem_singleton] at hl
    cases l with
    | box o => simp [Same, Mem.take, Mem.bumpR, upd]
    | var t' =>
      have : t' ≠ t := fun e => hl (by rw [e])
      simp [Same, Mem.take, Mem.bumpR, upd, this]
  | c o n =>
    simp only [locOf, List.mem_singleton] at hl
    unfold Mem.take Mem.bumpR
    simp only
    split
    · cases l with
      | box o' =>
        have : o' ≠ o := fun e => hl (by rw [e])
        simp [Same, upd, this]
      | var t' => simp [Same, upd]
    · cases l with
      | box o' =>
        have : o' ≠ o := fun e => hl (by rw [e])
        simp [Same, upd, this]
      | var t' => simp [Same, upd]
theorem off_setRef (r : Ref) (q : PV) : Off [locOf r.root] m (m.setRef r q) := by
  intro l hl
  unfold Mem.setRef
  split
  · obtain ⟨root, k, kn, path⟩ := r
    cases root with
    | v t =>
      simp only [locOf, List.mem_singleton] at hl
      cases l with
      | box o => simp [Same, Mem.setRoot, Mem.bumpN, upd]
      | var t' =>
        have : t' ≠ t := fun e => hl (by rw [e])
        simp [Same, Mem.setRoot, Mem.bumpN, upd, this]
    | c o n =>
      simp only [locOf, List.mem_singleton] at hl
      simp only [Mem.setRoot, Mem.bumpN]
      split
      · cases l with
        | box o' =>
          have : o' ≠ o := fun e => hl (by rw [e])
          simp [Same, upd, this]
        | var t' => simp [Same, upd]
      · cases l with
        | box o' =>
          have : o' ≠ o := fun e => hl (by rw [e])
          simp [Same, upd, this]
        | var t' => simp [Same, upd]
  · exact Same.refl _ _
theorem off_freeze (t : Nat) (p : PV) : Off [.var t] m (m.freeze t p) := by
  intro l hl
  cases l with
  | box o => simp [Same, Mem.freeze, upd]
  | var t' =>
    have : t' ≠ t := fun e => hl (by simp [e])
    simp [Same, Mem.freeze, upd, this]
theorem off_takeIn {q : Pm} {a : AV} {x : Option PV} (h : takeIn m q a = some (x, m1)) : Off (if q = .val then [] else footA a) m m1 := by
  unfold takeIn at h
  split at h <;> try (cases h; done)
  · split at h
    · split at h
      · split at h
        · simp only [Option.some.injEq, Prod.mk.injEq] at h; obtain ⟨_, rfl⟩ := h
          exact (off_take _).mono (by simp [footA])
        · cases h
      · cases h
    · cases h
  · split at h
    · simp only [Option.some.injEq, Prod.mk.injEq] at h; obtain ⟨_, rfl⟩ := h; exact Off.refl _ _
    · cases h
  · split at h
    · split at h
      · split at h
        · split at h
          · simp only [Option.some.injEq, Prod.mk.injEq] at h; obtain ⟨_, rfl⟩ := h
            exact (off_undefCells _ _ _).mono (by simp [footA])
          · cases h
        · cases h
      · cases h
    · cases h
  · simp only [Option.some.injEq, Prod.mk.injEq] at h; obtain ⟨_, rfl⟩ := h; exact Off.refl _ _
theorem callF_cons (q : Pm) (qs : List Pm) (a : AV) (as : List AV) : (∀ l ∈ callF qs as, l ∈ callF (q :: qs) (a :: as)) ∧ ((¬ ∃ ks, q = .rows ks) → ∀ l ∈ (if q = .val then [] else footA a), l ∈ callF (q :: qs) (a :: as)) := by
  constructor
  · intro l hl
    cases q <;> first | exact hl | exact List.mem_append_right _ hl | (cases a <;> first | exact List.mem_append_right _ hl)
  · intro hq l hl
    cases q with
    | val => simp at hl
    | rows ks => exact absurd ⟨ks, rfl⟩ hq
    | _ => exact List.mem_append_left _ (by simpa using hl)
theorem off_takesIn : ∀ {qs : List Pm} {as : List AV} {m m1 : Mem} {xs : List (Option PV)}, takesIn m qs as = some (xs, m1) → Off (callF qs as) m m1
  | [], [], m, m1, xs, h => by
    simp only [takesIn, Option.some.injEq, Prod.mk.injEq] at h; obtain ⟨_, rfl⟩ := h; exact Off.refl _ _
  | [], _ :: _, _, _, _, h => by simp [takesIn] at h
  | _ :: _, [], _, _, _, h => by simp [takesIn] at h
  | q :: qs, a :: as, m, m1, xs, h => by
    simp only [takesIn] at h
    split at h
    · rename_i p m' ht
      split at h
      · rename_i ps m2 hts
        simp only [Option.some.injEq, Prod.mk.injEq] at h
        obtain ⟨_, rfl⟩ := h
        have h2 := (off_takesIn hts).mono (callF_cons q qs a as).1
        have h1 : Off (callF (q :: qs) (a :: as)) m m' := by
          by_cases hq : ∃ ks, q = .rows ks
          · obtain ⟨ks, rfl⟩ := hq
            have : m' = m := by
              unfold takeIn at ht
              split at ht <;> try (cases ht; done)
              all_goals simp_all
            rw [this]; exact Off.refl _ _
          · exact (off_takeIn ht).mono ((callF_cons q qs a as).2 hq)
        exact h1.trans h2
      · cases h
    · cases h
theorem off_rowOut {r : Ref} {p : PV} (h : rowOut m r p = some m1) : Off [locOf r.root] m m1 := by
  unfold rowOut at h
  split at h
  · split at h
    · simp only [Option.some.injEq] at h; subst h; exact off_setRef _ _
    · cases h
  · cases h
theorem off_cellsOut : ∀ {cs : List AV} {ps : List PV} {m m1 : Mem}, cellsOut m cs ps = some m1 → Off (footL cs) m m1
  | [], [], m, m1, h => by simp only [cellsOut, Option.some.injEq] at h; subst h; exact Off.refl _ _
  | [], _ :: _, _, _, h => by simp [cellsOut] at h
  | c :: cs, [], _, _, h => by cases c <;> simp [cellsOut] at h
  | c :: cs, p :: ps, m, m1, h => by
    have sub : ∀ l ∈ footL cs, l ∈ footL (c :: cs) := fun l hl => List.mem_append_right _ hl
    cases c with
    | rw r =>
      simp only [cellsOut] at h
      split at h
      · rename_i m2 h2
        exact ((off_rowOut h2).mono (by simp [footL, footA])).trans ((off_cellsOut h).mono sub)
      · cases h
    | _ => simp only [cellsOut] at h; exact (off_cellsOut h).mono sub
theorem off_rowsOut : ∀ {qs : List Pm} {as : List AV} {os : List PV} {m m1 : Mem}, rowsOut m qs as os = some m1 → Off (callF qs as) m m1 := by
  intro qs
  induction qs with
  | nil =>
    intro as os m m1 h
    cases as <;> cases os <;> simp [rowsOut] at h
    subst h; exact Off.refl _ _
  | cons q qs ih =>
    intro as os m m1 h
    cases as with
    | nil => cases q <;> simp [rowsOut] at h
    | cons a as =>
      cases q with
      | val => simp only [rowsOut] at h; exact (ih h).mono (callF_cons _ _ _ _).1
      | own => simp only [rowsOut] at h; exact (ih h).mono (callF_cons _ _ _ _).1
      | io n =>
        cases os with
        | nil => simp [rowsOut] at h
        | cons p os => simp only [rowsOut] at h; exact (ih h).mono (callF_cons _ _ _ _).1
      | row =>
        cases os with
        | nil => cases a <;> simp [rowsOut] at h
        | cons p os =>
          cases a with
          | rw r =>
            simp only [rowsOut] at h
            split at h
            · rename_i m2 h2
              exact ((off_rowOut h2).mono (by simp [callF, footA])).trans ((ih h).mono (callF_cons _ _ _ _).1)
            · cases h
          | _ => simp [rowsOut] at h
      | rows ks =>
        cases os with
        | nil => cases a <;> simp [rowsOut] at h
        | cons p os =>
          cases a with
          | agg cs =>
            cases p with
            | agg ps =>
              simp only [rowsOut] at h
              split at h
              · rename_i m2 h2
                exact ((off_cellsOut h2).mono (by intro l hl; simp only [callF]; exact List.mem_append_left _ hl)).trans ((ih h).mono (callF_cons _ _ _ _).1)
              · cases h
            | _ => simp [rowsOut] at h
          | _ => simp [rowsOut] at h
theorem off_iosOut : ∀ {qs : List Pm} {as : List AV} {os : List PV} {m m1 : Mem}, iosOut m qs as os = some m1 → Off (callF qs as) m m1 := by
  intro qs
  induction qs with
  | nil =>
    intro as os m m1 h
    cases as <;> cases os <;> simp [iosOut] at h
    subst h; exact Off.refl _ _
  | cons q qs ih =>
    intro as os m m1 h
    cases as with
    | nil => cases q <;> simp [iosOut] at h
    | cons a as =>
      cases q with
      | val => simp only [iosOut] at h; exact (ih h).mono (callF_cons _ _ _ _).1
      | own => simp only [iosOut] at h; exact (ih h).mono (callF_cons _ _ _ _).1
      | row =>
        cases os with
        | nil => simp [iosOut] at h
        | cons p os => simp only [iosOut] at h; exact (ih h).mono (callF_cons _ _ _ _).1
      | rows ks =>
        cases os with
        | nil => simp [iosOut] at h
        | cons p os => simp only [iosOut] at h; exact (ih h).mono (callF_cons _ _ _ _).1
      | io n =>
        cases os with
        | nil => cases a <;> simp [iosOut] at h
        | cons p os =>
          cases a with
          | ptr o k c =>
            cases p with
            | ref ps =>
              simp only [iosOut] at h
              split at h
              · exact ((off_setCells _ _ _).mono (by simp [callF, footA])).trans ((ih h).mono (callF_cons _ _ _ _).1)
              · cases h
            | _ => simp [iosOut] at h
          | _ => simp [iosOut] at h
theorem off_argsOut {qs : List Pm} {as : List AV} {os : List PV} (h : argsOut m qs as os = some m1) : Off (callF qs as) m m1 := by
  unfold argsOut at h
  obtain ⟨m2, h1, h2⟩ := Option.bind_eq_some_iff.1 h
  exact (off_rowsOut h1).trans (off_iosOut h2)
theorem off_doCall {R : Oracle} {modes : FuncId → List Pm} {f : FuncId} {as as' : List AV} (h : doCall R modes f as m = some (as', m1)) : Off (callF (modes f) as) m m1 := by
  unfold doCall at h
  split at h
  · rename_i ps m2 m3 ha
    split at h
    · split at h
      · cases h
      · split at h
        · rename_i m4 ho
          simp only [Option.some.injEq, Prod.mk.injEq] at h
          obtain ⟨_, rfl⟩ := h
          have ht : ∃ xs, takesIn m (modes f) as = some (xs, m2) := by
            unfold argsIn at ha
            split at ha
            · split at ha
              · rename_i xs m5 hx
                split at ha
                · split at ha
                  · simp only [Option.some.injEq, Prod.mk.injEq] at ha
                    obtain ⟨_, rfl, _⟩ := ha
                    exact ⟨xs, hx⟩
                  · cases ha
                · cases ha
              · cases ha
            · cases ha
          obtain ⟨xs, hx⟩ := ht
          exact (off_takesIn hx).trans (off_argsOut ho)
        · cases h
    · cases h
  · cases h
theorem off_tkCells {o : Nat} : ∀ (n j : Nat) {m m1 : Mem} {xs : List AV}, tkCells o j n m = some (xs, m1) → Off [.box o] m m1
  | 0, j, m, m1, xs, h => by
    simp only [tkCells, Option.some.injEq, Prod.mk.injEq] at h
    obtain ⟨_, rfl⟩ := h
    exact Off.refl _ _
  | n + 1, j, m, m1, xs, h => by
    simp only [tkCells] at h
    split at h
    · split at h
      · rename_i p _ ys m3 hrec
        simp only [Option.some.injEq, Prod.mk.injEq] at h
        obtain ⟨_, rfl⟩ := h
        refine Off.trans ?_ (off_tkCells n (j + 1) hrec)
        split
        · exact off_take (.c o j)
        · exact Off.refl _ _
      · cases h
    · cases h
theorem off_sem {R : Oracle} {modes : FuncId → List Pm} {d : Nat} {po : PO} {as as' : List AV} (h : sem R modes d m po as = some (as', m1)) : Off (wrF modes d po as) m m1 := by
  have pure : po.kind ≠ 2 → Off (wrF modes d po as) m m1 := fun hk => by
    rw [sem_semL hk] at h
    by_cases h0 : po.kind = 0
    · rw [(semL_pure h0 h).1]; exact Off.refl _ _
    · have h1 : po.kind = 1 := by
        have : po.kind = 0 ∨ po.kind = 1 ∨ po.kind = 2 := by cases po <;> simp [PO.kind] <;> (rename_i b _; cases b <;> simp [PO.kind])
        rcases this with h | h | h
        · exact absurd h h0
        · exact h
        · exact absurd h hk
      rw [(semL_read h1 h).1]; exact Off.refl _ _
  cases po with
  | call f xs => exact off_doCall h
  | callv f xs =>
    simp only [sem] at h
    simp only [wrF]
    split at h
    · exact off_doCall h
    · cases h
  | alloc zs =>
    simp only [sem, semL] at h
    cases as with
    | nil =>
      simp only at h
      split at h
      · simp only [Option.some.injEq, Prod.mk.injEq] at h; obtain ⟨_, rfl⟩ := h; exact off_setNew _ _
      · cases h
    | cons a as => simp at h
  | box x n =>
    simp only [wrF]
    simp only [sem] at h
    unfold semL at h
    split at h <;> first | (cases h; done) | skip
    all_goals (repeat' (split at h)) <;> first
      | (cases h; done)
      | (simp_all; done)
      | (simp only [Option.some.injEq, Prod.mk.injEq] at h; obtain ⟨_, rfl⟩ := h; exact off_setNew _ _)
  | newb f zs x =>
    simp only [wrF]
    simp only [sem] at h
    unfold semL at h
    split at h <;> first | (cases h; done) | skip
    all_goals (repeat' (split at h)) <;> first
      | (cases h; done)
      | (simp_all; done)
      | (simp only [Option.some.injEq, Prod.mk.injEq] at h; obtain ⟨_, rfl⟩ := h; exact off_setNew _ _)
  | store n x y =>
    simp only [sem] at h
    unfold semL at h
    split at h <;> first | (cases h; done) | skip
    all_goals (repeat' (split at h)) <;> first
      | (cases h; done)
      | (simp_all; done)
      | (simp only [Option.some.injEq, Prod.mk.injEq] at h; obtain ⟨_, rfl⟩ := h; simp only [wrF, footA]; first | exact off_setCells _ _ _ | exact off_setRef _ _)
  | app e n x y =>
    simp only [sem] at h
    unfold semL at h
    split at h <;> first | (cases h; done) | skip
    all_goals (repeat' (split at h)) <;> first
      | (cases h; done)
      | (simp_all; done)
      | (simp only [Option.some.injEq, Prod.mk.injEq] at h; obtain ⟨_, rfl⟩ := h; simp only [wrF, footA]; first | exact off_take _ | exact Off.refl _ _)
  | mkm =>
    simp only [sem] at h
    unfold semL at h
    split at h <;> first | (cases h; done) | skip
    all_goals (repeat' (split at h)) <;> first
      | (cases h; done)
      | (simp_all; done)
      | (simp only [Option.some.injEq, Prod.mk.injEq] at h; obtain ⟨_, rfl⟩ := h; exact off_newMap _)
  | lnm x =>
    simp only [sem] at h
    unfold semL at h
    split at h <;> first | (cases h; done) | skip
    all_goals (repeat' (split at h)) <;> first
      | (cases h; done)
      | (simp_all; done)
      | (simp only [Option.some.injEq, Prod.mk.injEq] at h; obtain ⟨_, rfl⟩ := h; exact Off.refl _ _)
  | mlk t z x y =>
    simp only [sem] at h
    unfold semL at h
    split at h <;> first | (cases h; done) | skip
    all_goals (repeat' (split at h)) <;> first
      | (cases h; done)
      | (simp_all; done)
      | (simp only [Option.map_eq_some_iff, Prod.mk.injEq] at h; obtain ⟨_, _, _, rfl⟩ := h; exact Off.refl _ _)
  | mup t x y z =>
    simp only [sem] at h
    unfold semL at h
    split at h <;> first | (cases h; done) | skip
    all_goals (repeat' (split at h)) <;> first
      | (cases h; done)
      | (simp_all; done)
      | (simp only [Option.map_eq_some_iff, Prod.mk.injEq] at h; obtain ⟨_, _, _, rfl⟩ := h; simp only [wrF, footA]; exact off_mp _ _)
  | mdl t x y =>
    simp only [sem] at h
    unfold semL at h
    split at h <;> first | (cases h; done) | skip
    all_goals (repeat' (split at h)) <;> first
      | (cases h; done)
      | (simp_all; done)
      | (simp only [Option.map_eq_some_iff, Prod.mk.injEq] at h; obtain ⟨_, _, _, rfl⟩ := h; simp only [wrF, footA]; exact off_mp _ _)
  | tmv t n =>
    simp only [sem, semL] at h
    split at h
    · simp only [Option.some.injEq, Prod.mk.injEq] at h; obtain ⟨_, rfl⟩ := h; exact Off.refl _ _
    · cases h
  | ldt n x =>
    simp only [sem] at h
    unfold semL at h
    split at h <;> first | (cases h; done) | skip
    all_goals (repeat' (split at h)) <;> first
      | (cases h; done)
      | (simp_all; done)
      | (simp only [Option.map_eq_some_iff, Prod.mk.injEq] at h; obtain ⟨y, hy, _, rfl⟩ := h; simp only [wrF, footA]; exact off_tkCells _ _ hy)
  | idv e x i =>
    simp only [sem] at h
    split at h
    · rename_i a b
      split at h
      · rename_i p m2 hin
        have h2 : m1 = m2 := by
          have hk : (PO.idxa e x i).kind = 1 := rfl
          exact (semL_read hk h).1
        rw [h2]
        simp only [wrF]
        cases a with
        | rw r =>
          simp only [slvIn] at hin
          split at hin
          · rename_i t fl e2 xs hroot hder
            split at hin
            · simp only [Option.some.injEq, Prod.mk.injEq] at hin
              obtain ⟨_, rfl⟩ := hin
              simp only [footA, hroot, locOf]
              exact off_freeze _ _
            · cases hin
          · cases hin
        | pv q => simp only [slvIn, Option.some.injEq, Prod.mk.injEq] at hin; obtain ⟨_, rfl⟩ := hin; exact Off.refl _ _
        | _ => simp [slvIn] at hin
      · cases h
    · cases h
  | slv e x lo hi =>
    simp only [sem] at h
    split at h
    · rename_i a b c
      split at h
      · rename_i p m2 hin
        have h2 : m1 = m2 := by
          have hk : (PO.slc (some e) x lo hi).kind = 0 := rfl
          exact (semL_pure hk h).1
        rw [h2]
        simp only [wrF]
        cases a with
        | rw r =>
          simp only [slvIn] at hin
          split at hin
          · rename_i t fl e2 xs hroot hder
            split at hin
            · simp only [Option.some.injEq, Prod.mk.injEq] at hin
              obtain ⟨_, rfl⟩ := hin
              simp only [footA, hroot, locOf]
              exact off_freeze _ _
            · cases hin
          · cases hin
        | pv q => simp only [slvIn, Option.some.injEq, Prod.mk.injEq] at hin; obtain ⟨_, rfl⟩ := hin; exact Off.refl _ _
        | _ => simp [slvIn] at hin
      · cases h
    · cases h
  | len sl x => exact pure (by cases sl <;> simp [PO.kind])
  | _ => exact pure (by simp [PO.kind])
section
variable {R : Oracle} {modes : FuncId → List Pm} {V : List Nat} {s s' : St} {q : Oq}
theorem off_putT (V : List Nat) (s : St) (d : Nat) (a : AV) : Off [.var d] s.m (putT V s d a).m := by
  unfold putT
  split
  · split
    · intro l hl
      cases l with
      | box o => simp [Same, upd]
      | var t =>
        have : t ≠ d := fun e => hl (by simp [e])
        simp [Same, upd, this]
    · exact Off.refl _ _
  · exact Off.refl _ _
theorem off_putTs (V : List Nat) : ∀ (as : List AV) (d : Nat) (s : St), Off ((List.range as.length).map fun j => .var (d + 1000000 * j)) s.m (putTs V s d as).m
  | [], d, s => Off.refl _ _
  | a :: as, d, s => by
    simp only [putTs]
    refine ((off_putT V s d a).mono ?_).trans ((off_putTs V as (d + 1000000) _).mono ?_)
    · intro l hl
      simp only [List.mem_singleton] at hl
      subst hl
      exact List.mem_map.2 ⟨0, by simp, by simp⟩
    · intro l hl
      obtain ⟨j, hj, rfl⟩ := List.mem_map.1 hl
      exact List.mem_map.2 ⟨j + 1, by simp at hj ⊢; omega, by congr 1; omega⟩
theorem off_endStep {tup : Nat} {t : Nat → AV} {as : List AV} {d : Option Nat} (h : endStep V tup t m as d = some s') : Off (putL d tup) m s'.m := by
  cases d with
  | none => simp only [endStep, Option.some.injEq] at h; subst h; exact Off.refl _ _
  | some d =>
    cases tup with
    | zero =>
      simp only [endStep] at h
      split at h <;> first | (cases h; done) | skip
      · simp only [Option.some.injEq] at h; subst h; exact Off.refl _ _
      · simp only [Option.some.injEq] at h; subst h; exact off_putT V ⟨t, m⟩ d _
      all_goals simp_all
    | succ n =>
      simp only [endStep] at h
      split at h
      · rename_i hl
        simp only [Option.some.injEq] at h; subst h
        refine (off_putTs V as (d + 1000000) ⟨t, m⟩).mono ?_
        intro l hl2
        obtain ⟨j, hj, rfl⟩ := List.mem_map.1 hl2
        simp only [putL, Nat.add_eq_zero_iff, Nat.one_ne_zero, and_false, if_false]
        exact List.mem_map.2 ⟨j, by simpa [hl] using hj, by congr 1; omega⟩
      · cases h
theorem off_step (h : step R modes V q s = some s') : Off (wrF modes (q.dst.getD 0) q.po (q.po.opds.map (opd s)) ++ putL q.dst q.tup) s.m s'.m := by
  unfold step at h
  split at h
  · rename_i as m1 t1 hsem htk
    exact ((off_sem hsem).mono fun l hl => List.mem_append_left _ hl).trans ((off_endStep h).mono fun l hl => List.mem_append_right _ hl)
  · cases h
inductive EvFt : Ev → Ft → Prop
  | pure : EvFt .pure .pure
  | read (as : List AV) : EvFt (.read as) (.read (footL as))
  | write (m m' : Mem) (W : List Loc) : Off W m m' → EvFt (.write m m') (.write W)
theorem evFt (h : stepG R modes V q s = some s') : EvFt (evOf V modes q s s') (ftOf modes V q s s') := by
  unfold evOf ftOf
  cases hw : wantedQ q s with
  | false => exact .pure
  | true =>
    simp only [if_true]
    split
    · exact .read _
    split
    · exact .write _ _ _ (off_step (stepG_wanted (t := s.t) (m := s.m) hw h).1)
    · split
      · exact .read _
      · exact .pure
theorem agree_off {W : List Loc} {m m' : Mem} (h : Off W m m') : ∀ {as : List AV}, meetB (footL as) W = false → agree m m' as
  | [], _ => trivial
  | a :: as, hm => by
    simp only [footL, meetB, List.any_append, Bool.or_eq_false_iff] at hm
    refine ⟨?_, agree_off h hm.2⟩
    have h1 : ∀ l ∈ footA a, l ∉ W := fun l hl => by
      have := List.any_eq_false.1 hm.1 l hl
      simpa using this
    have root : ∀ r : Root, locOf r ∈ footA a → m.at r = m'.at r ∧ m.kr r = m'.kr r ∧ m.kn r = m'.kn r := fun r hr => by
      have h2 := h _ (h1 _ hr)
      cases r with
      | v t => exact h2
      | c o n => exact ⟨by simp only [Mem.at, Mem.cell]; rw [h2.1], h2.2.2.2 n⟩
    cases a with
    | ptr o k c =>
      have h2 := h (.box o) (h1 _ (by simp [footA]))
      exact ⟨h2.1, h2.2.1, h2.2.2.2⟩
    | rw r => exact root _ (by simp [footA])
    | ept r i f => exact root _ (by simp [footA])
    | _ => trivial
theorem evOK_ft {x e : Ev} {y f : Ft} (hx : EvFt x y) (he : EvFt e f) (h : ftOK y f = true) : evOK x e := by
  cases hx <;> cases he <;> first | trivial | skip
  · rename_i as m1 m2 W ho; exact agree_off ho (by simpa [ftOK] using h)
  · rename_i m1 m2 W ho as; exact agree_off ho (by simpa [ftOK] using h)
inductive EvsFt : List (Nat × Ev) → List (Nat × Ft) → Prop
  | nil : EvsFt [] []
  | cons (j : Nat) (x : Ev) (y : Ft) (l : List (Nat × Ev)) (l' : List (Nat × Ft)) : EvFt x y → EvsFt l l' → EvsFt ((j, x) :: l) ((j, y) :: l')
theorem evsOK_ft {d : List Nat} {e : Ev} {f : Ft} (he : EvFt e f) {l : List (Nat × Ev)} {l' : List (Nat × Ft)} (hl : EvsFt l l') (h : ftsOK d f l' = true) : evsOK d e l := by
  induction hl with
  | nil => trivial
  | cons j x y l l' hx _ ih =>
    simp only [ftsOK, Bool.and_eq_true, Bool.or_eq_true, Bool.not_eq_true'] at h
    exact ⟨fun hd => evOK_ft hx he (h.1.resolve_left (by rw [hd]; simp)), ih h.2⟩
theorem stepsF_D : ∀ {os : List Oq} {D : List (Nat × List Nat)} {evs : List (Nat × Ev)} {fts : List (Nat × Ft)} {s s' : St}, EvsFt evs fts → stepsF R modes V D fts os s = some s' → stepsD R modes V D evs os s = some s'
  | [], D, evs, fts, s, s', _, h => by cases D <;> simpa [stepsF, stepsD] using h
  | o :: os, [], evs, fts, s, s', _, h => by simp [stepsF] at h
  | o :: os, x :: D, evs, fts, s, s', hl, h => by
    simp only [stepsF] at h
    simp only [stepsD]
    cases hg : stepG R modes V o s with
    | none => rw [hg] at h; simp [stepsFK] at h
    | some s1 =>
      rw [hg] at h
      simp only [stepsFK] at h
      split at h
      · rename_i hok
        have he := evFt (V := V) hg
        simp only [stepsDK, evsOK_ft he hl hok, if_true]
        refine stepsF_D ?_ h
        revert he
        generalize evOf V modes o s s1 = e
        generalize ftOf modes V o s s1 = f
        intro he
        cases he with
        | pure => exact hl
        | read as => exact .cons _ _ _ _ _ (.read as) hl
        | write m m' W ho => exact .cons _ _ _ _ _ (.write m m' W ho) hl
      · cases h
end
end
end Go.Proofs.YtdbcnnehfbcldaaDoor.Pv
