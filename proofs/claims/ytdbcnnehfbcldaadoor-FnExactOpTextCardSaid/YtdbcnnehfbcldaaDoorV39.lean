/- A plain reading of Go code and its soundness, part 39. No condition. -/
import Derived.Test.YtdbcnnehfbcldaaDoorV38
set_option linter.all false
set_option linter.unusedSimpArgs false
set_option linter.unusedVariables false
set_option linter.unnecessarySimpa false
/- A whole program: its functions checked, its contracts kept. No condition. -/
namespace Go.Proofs.YtdbcnnehfbcldaaDoor.Pv
open Go
def tupsR : List Oq → List (Nat × Nat)
  | [] => []
  | q :: qs => match q.dst, q.tup with
    | some d, n + 1 => (d, n + 1) :: tupsR qs
    | _, _ => tupsR qs
def tups : PC → List (Nat × Nat)
  | .reg qs => tupsR qs
  | .any _ qs => tupsR qs
  | .seq a b => tups a ++ tups b
  | .cond _ a b => tups a ++ tups b
  | .block _ a => tups a
  | .loop _ a => tups a
  | _ => []
def arOf : List (Nat × Nat) → Nat → Nat
  | [], _ => 0
  | x :: l, d => if x.1 == d then x.2 else arOf l d
def resB (P : Program) : List ResultVar → List (Nat × Option (Nat × Bool)) → Bool
  | [], [] => true
  | .tmp t :: rs, (u, none) :: us => t == u && decide (u < 1000000) && resB P rs us
  | .cell t ty :: rs, (u, some (n, g)) :: us => t == u && decide (u < 1000000) && varB P ty n g && (g || n == 1) && resB P rs us
  | _, _ => false
def nodupB : List Nat → Bool
  | [] => true
  | x :: xs => !xs.contains x && nodupB xs
def rowsB : List Pm → Bool
  | [] => true
  | .rows ks :: qs => decide (ks.length ≤ 1000) && rowsB qs
  | _ :: qs => rowsB qs
def chkFn (P : Program) (fn : Func) (pf : PF) : Bool := match fn.body with
  | none => false
  | some c => chkC (fun ops draw qs => !draw && chkOps P (arOf (tups pf.body)) fn.ntmps ops ops.toList qs) (fun ops D qs => chkAny P (arOf (tups pf.body)) fn.ntmps pf.V ops D qs) c pf.body &&
    resB P fn.results.toList pf.res && nodupB (pf.res.map (·.1)) && pf.V.all (fun t => decide (t < 1000000)) && decide (pf.params.length ≤ fn.ntmps) && decide (fn.ntmps ≤ 1000000) &&
    (List.range pf.params.length).all (fun i => arOf (tups pf.body) i == 0) && rowsB pf.params && fn.name != "runtime.NumGoroutine"
theorem resB_spec {P : Program} : ∀ {rs : List ResultVar} {us : List (Nat × Option (Nat × Bool))}, resB P rs us = true → rs.length = us.length ∧ ∀ (i : Nat) rv r, rs[i]? = some rv → us[i]? = some r → resOK P rv r
  | [], [], _ => ⟨rfl, fun i rv r h => by simp at h⟩
  | .tmp t :: rs, (u, none) :: us, h => by
    simp only [resB, Bool.and_eq_true, beq_iff_eq, decide_eq_true_eq] at h
    obtain ⟨h1, h2⟩ := resB_spec h.2
    refine ⟨by simp [h1], fun i rv r k1 k2 => ?_⟩
    cases i with
    | zero => simp at k1 k2; subst k1; subst k2; exact h.1
    | succ i => exact h2 i rv r (by simpa using k1) (by simpa using k2)
  | .cell t ty :: rs, (u, some (n, g)) :: us, h => by
    simp only [resB, Bool.and_eq_true, beq_iff_eq, decide_eq_true_eq, Bool.or_eq_true] at h
    obtain ⟨h1, h2⟩ := resB_spec h.2
    refine ⟨by simp [h1], fun i rv r k1 k2 => ?_⟩
    cases i with
    | zero =>
      simp at k1 k2; subst k1; subst k2
      exact ⟨h.1.1.1.1, h.1.1.1.2, h.1.1.2, fun hg => h.1.2.resolve_left (by simp [hg])⟩
    | succ i => exact h2 i rv r (by simpa using k1) (by simpa using k2)
theorem nodupB_spec : ∀ {l : List Nat}, nodupB l = true → l.Nodup
  | [], _ => List.nodup_nil
  | x :: xs, h => by
    simp only [nodupB, Bool.and_eq_true, Bool.not_eq_true', List.contains_eq_mem, decide_eq_false_iff_not] at h
    exact List.nodup_cons.2 ⟨h.1, nodupB_spec h.2⟩
theorem rowsB_spec : ∀ {qs : List Pm}, rowsB qs = true → ∀ (k : Nat) (ks : List Bool), qs[k]? = some (Pm.rows ks) → ks.length ≤ 1000
  | [], _, k, ks, h => by simp at h
  | q :: qs, h, 0, ks, hk => by
    simp only [List.getElem?_cons_zero, Option.some.injEq] at hk
    subst hk
    simp only [rowsB, Bool.and_eq_true, decide_eq_true_eq] at h
    exact h.1
  | q :: qs, h, k + 1, ks, hk => by
    have h2 : rowsB qs = true := by
      cases q <;> first | exact h | (simp only [rowsB, Bool.and_eq_true] at h; exact h.2)
    exact rowsB_spec h2 k ks (by simpa using hk)
structure Fits (P : Program) (C : Code) : Prop where
  mixed : P.follows .mixedOrders = true
  fns : ∀ f pf, C.prog f = some pf → C.modes f = pf.params ∧ ∃ fn, P.funcs[f]? = some fn ∧ chkFn P fn pf = true
  prims : ∀ f ps rs os, C.prog f = none → C.prim f ps = some (rs, os) → Holds P (C.modes f) f ps rs os ∧ ∃ fn, P.funcs[f]? = some fn ∧ fn.body.isSome = true ∧ fn.name ≠ "runtime.NumGoroutine"
theorem Fits.enters {P : Program} {C : Code} (h : Fits P C) (n : Nat) : Enters P (run C n) := by
  intro f ps r hr
  cases n with
  | zero => simp [run] at hr
  | succ n =>
    cases hp : C.prog f with
    | none =>
      simp only [run, hp] at hr
      exact (h.prims f ps r.1 r.2 hp hr).2
    | some pf =>
      obtain ⟨_, fn, h1, h2⟩ := h.fns f pf hp
      refine ⟨fn, h1, ?_⟩
      unfold chkFn at h2
      split at h2
      · cases h2
      · rename_i c hc
        simp only [Bool.and_eq_true, bne_iff_ne] at h2
        exact ⟨by rw [hc]; rfl, h2.2⟩
theorem Fits.sound {P : Program} {C : Code} (h : Fits P C) : ∀ n, Sound P C.modes (run C n) := by
  intro n
  induction n with
  | zero => intro f ps rs os hr; simp [run] at hr
  | succ n ih =>
    intro f ps rs os hr
    cases hp : C.prog f with
    | none =>
      simp only [run, hp] at hr
      exact (h.prims f ps rs os hp hr).1
    | some pf =>
      simp only [run, hp] at hr
      obtain ⟨hmd, fn, h1, h2⟩ := h.fns f pf hp
      rw [hmd]
      split at hr
      · rename_i s he
        unfold chkFn at h2
        split at h2
        · cases h2
        · rename_i c hc
          simp only [Bool.and_eq_true, List.all_eq_true, decide_eq_true_eq, List.mem_range, beq_iff_eq] at h2
          obtain ⟨⟨⟨⟨⟨⟨⟨⟨c1, c2⟩, c3⟩, c5⟩, c6⟩, c7⟩, c8⟩, c9⟩, _⟩ := h2
          refine holds_of (ar := arOf (tups pf.body)) h1 hc (resB_spec c2).1 (resB_spec c2).2 (nodupB_spec c3) c6 c7 c8 (rowsB_spec c9) (fun E r hx G a w hsim => ?_) he hr
          refine exec_sound (fun id ops draw qs s s' G a w hreg hs hsim => ?_) (fun id ops D qs s s' G a w hany hs hsim => ?_) n c pf.body s r c1 hx G a w hsim
          · simp only [Bool.and_eq_true, Bool.not_eq_true'] at hreg
            obtain ⟨rfl, hreg⟩ := hreg
            exact region_sound ih (h.enters n) c5 hreg hs hsim
          · exact any_sound h.mixed ih (h.enters n) c5 hany (stepsF_D .nil hs) hsim
      · cases hr
theorem Fits.holds {P : Program} {C : Code} (h : Fits P C) {f : FuncId} {ps rs os : List PV} (hr : RUN C f ps = some (rs, os)) : Holds P (C.modes f) f ps rs os := by
  obtain ⟨n, hn⟩ := of_lim hr
  exact h.sound n f ps rs os hn
end Go.Proofs.YtdbcnnehfbcldaaDoor.Pv
