/- A plain reading of Go code and its soundness, part 16. No condition. -/
import Derived.Test.YtdbcnnehfbcldaaDoorV15
set_option linter.all false
set_option linter.unusedSimpArgs false
set_option linter.unusedVariables false
set_option linter.unnecessarySimpa false
/- Control: what code comes to in the plain reading, the machine comes to. No condition. -/
namespace Go.Proofs.YtdbcnnehfbcldaaDoor.Pv
open Go
def Post (P : Program) (ar : Nat → Nat) (N : Nat) (E : Entry) (r : Ex × St) : Exit → Act → World → Prop
  | .normal, a, w => r.1 = .normal ∧ ∃ G, Sim P ar N E G r.2 a w
  | .exit id, a, w => r.1 = .exit id ∧ ∃ G, Sim P ar N E G r.2 a w
  | .ret, a, w => r.1 = .ret ∧ ∃ G, Sim P ar N E G r.2 a w
  | _, _, _ => False
def chkC (reg : Array Oper → Bool → List Oq → Bool) (any : Array Oper → List (Nat × List Nat) → List Oq → Bool) : Go.Code → PC → Bool
  | .skip, .skip => true
  | .region _ ops draw, .reg qs => reg ops draw qs
  | .region _ ops true, .any D qs => any ops D qs
  | .seq a b, .seq x y => chkC reg any a x && chkC reg any b y
  | .cond c a b, .cond o x y => chkOpd c o && chkC reg any a x && chkC reg any b y
  | .block i a, .block j x => i == j && chkC reg any a x
  | .loop a, .loop _ x => chkC reg any a x
  | .exit i, .exit j => i == j
  | .ret, .ret => true
  | _, _ => false
theorem least {p : Nat → Prop} (h : ∃ k, p k) : ∃ k, p k ∧ ∀ j, p j → k ≤ j := by
  obtain ⟨k, hk⟩ := h
  induction k using Nat.strongRecOn with
  | _ k ih =>
    by_cases hx : ∃ j, j < k ∧ p j
    · obtain ⟨j, hj, hp⟩ := hx
      exact ih j hj hp
    · exact ⟨k, hk, fun j hj => Nat.le_of_not_lt fun hl => hx ⟨j, hl, hj⟩⟩
open Classical in
noncomputable def leastOf (p : Nat → Prop) : Nat := if h : ∃ k, p k then Classical.choose (least h) else 0
theorem leastOf_spec {p : Nat → Prop} (h : ∃ k, p k) : p (leastOf p) := by
  unfold leastOf; rw [dif_pos h]; exact (Classical.choose_spec (least h)).1
theorem leastOf_le {p : Nat → Prop} {k : Nat} (h : p k) : leastOf p ≤ k := by
  unfold leastOf; rw [dif_pos ⟨k, h⟩]; exact (Classical.choose_spec (least ⟨k, h⟩)).2 k h
section
variable {P : Program} {ar : Nat → Nat} {N : Nat} {E : Entry} {R : Oracle} {modes : FuncId → List Pm} {V : List Nat} {reg : Array Oper → Bool → List Oq → Bool} {any : Array Oper → List (Nat × List Nat) → List Oq → Bool}
theorem Post.normal {r : Ex × St} {s : St} {e : Exit} {a : Act} {w : World} (h : Post P ar N E (.normal, s) e a w) : e = .normal ∧ ∃ G, Sim P ar N E G s a w := by
  cases e <;> simp only [Post, reduceCtorEq, false_and, true_and] at h
  exact ⟨rfl, h⟩
theorem eval_opd {G : Gh} {s : St} {a : Act} {w : World} {c : Operand} {o : Opd} {b : Bool} (h : Sim P ar N E G s a w) (hc : chkOpd c o = true) (hb : opd s o = .pv (.bool b)) : a.eval c = .bool b := by
  have hx : chkOpds [c] [o] = true := by simp [chkOpds, hc]
  have hg := chkOpds_get (a := a) hx 0 o (a.eval c) rfl rfl
  cases o with
  | t n =>
    obtain ⟨F, k1, _⟩ := h.tmp n _ hg
    simp only [opd] at hb
    rw [hb] at k1
    have h2 := k1.of_pv
    revert h2
    generalize a.eval c = v
    intro h2
    cases h2; rfl
  | k p =>
    simp only [opd] at hb
    have hp : p = .bool b := by cases p <;> simp [ofPV] at hb; exact congrArg _ hb
    subst hp
    have hg : repB (.bool b) (a.eval c) = true := hg
    cases hv : a.eval c <;> rw [hv] at hg <;> simp [repB] at hg
    rw [hg]
theorem exec_sound (hreg : ∀ (id : Nat) (ops : Array Oper) (draw : Bool) (qs : List Oq) (s s' : St) (G : Gh) (a : Act) (w : World), reg ops draw qs = true → steps R modes V qs s = some s' → Sim P ar N E G s a w → (Go.Code.region id ops draw).wp P (Post P ar N E (.normal, s')) a w)
    (hany : ∀ (id : Nat) (ops : Array Oper) (D : List (Nat × List Nat)) (qs : List Oq) (s s' : St) (G : Gh) (a : Act) (w : World), any ops D qs = true → stepsF R modes V D [] qs s = some s' → Sim P ar N E G s a w → (Go.Code.region id ops true).wp P (Post P ar N E (.normal, s')) a w) :
    ∀ (n : Nat) (c : Go.Code) (pc : PC) (s : St) (r : Ex × St), chkC reg any c pc = true → exec R modes V n pc s = some r → ∀ (G : Gh) (a : Act) (w : World), Sim P ar N E G s a w → c.wp P (Post P ar N E r) a w := by
  intro n
  induction n using Nat.strongRecOn with
  | _ n ih =>
    intro c pc s r hc hx G a w h
    cases n with
    | zero => simp [exec] at hx
    | succ n =>
      match c, pc, hc, hx with
      | .skip, .skip, hc, hx =>
        simp only [exec, Option.some.injEq] at hx; subst hx
        exact wp_skip ⟨rfl, G, h⟩
      | .exit i, .exit j, hc, hx =>
        simp only [exec, Option.some.injEq] at hx; subst hx
        simp only [chkC, beq_iff_eq] at hc; subst hc
        exact wp_exit ⟨rfl, G, h⟩
      | .ret, .ret, hc, hx =>
        simp only [exec, Option.some.injEq] at hx; subst hx
        exact wp_ret ⟨rfl, G, h⟩
      | .region id ops draw, .reg qs, hc, hx =>
        simp only [exec, Option.map_eq_some_iff] at hx
        obtain ⟨s', hs, rfl⟩ := hx
        simp only [chkC] at hc
        exact hreg id ops draw qs s s' G a w hc hs h
      | .region id ops true, .any D qs, hc, hx =>
        simp only [exec, Option.map_eq_some_iff] at hx
        obtain ⟨s', hs, rfl⟩ := hx
        simp only [chkC] at hc
        exact hany id ops D qs s s' G a w hc hs h
      | .seq x y, .seq p q, hc, hx =>
        simp only [chkC, Bool.and_eq_true] at hc
        simp only [exec] at hx
        rcases execK_some hx with ⟨s1, h1, h2⟩ | ⟨h1, h2⟩
        · refine wp_seq (wp_mono (ih n (Nat.lt_succ_self n) x p s _ hc.1 h1 G a w h) fun e a' w' hp => ?_)
          obtain ⟨rfl, G', h'⟩ := Post.normal (r := r) hp
          exact ih n (Nat.lt_succ_self n) y q s1 r hc.2 h2 G' a' w' h'
        · refine wp_seq (wp_mono (ih n (Nat.lt_succ_self n) x p s _ hc.1 h1 G a w h) fun e a' w' hp => ?_)
          cases e with
          | normal => exact absurd hp.1 h2
          | _ => exact hp
      | .cond c x y, .cond o p q, hc, hx =>
        simp only [chkC, Bool.and_eq_true] at hc
        simp only [exec] at hx
        split at hx
        · rename_i b hb
          refine wp_cond (eval_opd h hc.1.1 hb) ?_
          cases b
          · simp only [Bool.false_eq_true, if_false] at hx ⊢
            exact ih n (Nat.lt_succ_self n) y q s r hc.2 hx G a w h
          · simp only [if_true] at hx ⊢
            exact ih n (Nat.lt_succ_self n) x p s r hc.1.2 hx G a w h
        · cases hx
      | .block i x, .block j p, hc, hx =>
        simp only [chkC, Bool.and_eq_true, beq_iff_eq] at hc
        obtain ⟨rfl, hc⟩ := hc
        simp only [exec] at hx
        cases hb : exec R modes V n p s with
        | none => rw [hb] at hx; simp [blockK] at hx
        | some r1 =>
          rw [hb] at hx
          refine wp_block (wp_mono (ih n (Nat.lt_succ_self n) x p s r1 hc hb G a w h) fun e a' w' hp => ?_)
          obtain ⟨e1, s1⟩ := r1
          cases e with
          | exit id =>
            obtain ⟨rfl, G', h'⟩ := hp
            simp only [blockK] at hx
            simp only [Exit.inBlock]
            split
            · rename_i hid
              simp only [hid, if_true, Option.some.injEq] at hx; subst hx
              exact ⟨rfl, G', h'⟩
            · rename_i hid
              simp only [hid, if_false, Option.some.injEq] at hx; subst hx
              exact ⟨rfl, G', h'⟩
          | normal => obtain ⟨rfl, G', h'⟩ := hp; simp only [blockK, Option.some.injEq] at hx; subst hx; exact ⟨rfl, G', h'⟩
          | ret => obtain ⟨rfl, G', h'⟩ := hp; simp only [blockK, Option.some.injEq] at hx; subst hx; exact ⟨rfl, G', h'⟩
          | _ => exact hp.elim
      | .loop x, .loop L p, hc, hx =>
        simp only [chkC] at hc
        let J : Nat → Act → World → Prop := fun k a w => k ≤ n + 1 ∧ ∃ s G, exec R modes V k (.loop L p) s = some r ∧ Sim P ar N E G s a w
        let μ : Act → World → Nat := fun a w => leastOf fun k => J k a w
        refine wp_loop (fun a w => ∃ k, J k a w) μ ⟨n + 1, Nat.le_refl _, s, G, hx, h⟩ (fun a w hI => ?_)
        have hmu : μ a w = leastOf fun k => J k a w := rfl
        obtain ⟨hle, s, G, hx, h⟩ := leastOf_spec hI
        generalize hk : (leastOf fun k => J k a w) = k at hle hx hmu
        cases k with
        | zero => simp [exec] at hx
        | succ k =>
          simp only [exec] at hx
          rcases execK_some hx with ⟨s1, h1, h2⟩ | ⟨h1, h2⟩
          · refine wp_mono (ih k (by omega) x p _ _ hc h1 G a w (h.forget L)) fun e a' w' hp => ?_
            obtain ⟨rfl, G', h'⟩ := Post.normal (r := r) hp
            have hJ : J k a' w' := ⟨by omega, s1, G', h2, h'⟩
            refine ⟨⟨k, hJ⟩, ?_⟩
            rw [hmu]
            exact Nat.lt_succ_of_le (leastOf_le hJ)
          · refine wp_mono (ih k (by omega) x p _ _ hc h1 G a w (h.forget L)) fun e a' w' hp => ?_
            cases e with
            | normal => exact absurd hp.1 h2
            | _ => exact hp
end
end Go.Proofs.YtdbcnnehfbcldaaDoor.Pv
