/- A plain reading of Go code and its soundness, part 34. No condition. -/
import Derived.Test.YtdbcnnehfbcldaaDoorV33
set_option linter.all false
set_option linter.unusedSimpArgs false
set_option linter.unusedVariables false
set_option linter.unnecessarySimpa false
/- A region in an order. No condition. -/
namespace Go.Proofs.YtdbcnnehfbcldaaDoor.Pv
open Go
def chkGuard (ops : Array Oper) (o : Oper) (q : Oq) : Bool := match o.guard, q.guard with
  | none, none => true
  | some (j, b), some (g, b') => b == b' && (ops[j]?).bind (·.dst) == some g && decide (g < 1000000) && q.tup == 0
  | _, _ => false
def chkOps (P : Program) (ar : Nat → Nat) (N : Nat) (ops : Array Oper) : List Oper → List Oq → Bool
  | [], [] => true
  | o :: os, q :: qs => chkOq P ar N o q && chkGuard ops o q && chkOps P ar N ops os qs
  | _, _ => false
section
variable {P : Program} {ar : Nat → Nat} {N : Nat} {E : Entry} {G G' : Gh} {s s' : St} {a : Act} {w w' : World} {V : List Nat} {o : Oper} {q : Oq} {R : Oracle} {modes : FuncId → List Pm} {next : Act → World → Prop} {Q : Exit → Act → World → Prop} {ops : Array Oper} {qs : List Oq}
theorem chkOps_get : ∀ {os : List Oper} {qs : List Oq}, chkOps P ar N ops os qs = true → os.length = qs.length ∧ ∀ (i : Nat) o q, os[i]? = some o → qs[i]? = some q → chkOq P ar N o q = true ∧ chkGuard ops o q = true
  | [], [], _ => ⟨rfl, fun i o q h => by simp at h⟩
  | o :: os, q :: qs, h => by
    simp only [chkOps, Bool.and_eq_true] at h
    obtain ⟨h1, h2⟩ := chkOps_get h.2
    refine ⟨by simp [h1], fun i o' q' ho hq => ?_⟩
    cases i with
    | zero => simp at ho hq; subst ho; subst hq; exact h.1
    | succ i => exact h2 i o' q' (by simpa using ho) (by simpa using hq)
theorem stepG_sound (hS : Sound P modes R) (hE : Enters P R) (hV : ∀ x ∈ V, x < 1000000) (h : Sim P ar N E G s a w) (hc : chkOq P ar N o q = true) (hg : chkGuard ops o q = true) (hs : stepG R modes V q s = some s') (hn : ∀ G' a' w', Sim P ar N E G' s' a' w' → next a' w') :
    if Region.wanted o (yielded ops a.tmps) then o.wp P a w next Q ∨ (o.asks P a w ∧ LetsOut Q) else next (a.put o.dst undef) w := by
  unfold stepG at hs
  unfold chkGuard at hg
  split at hg
  · rename_i hog hqg
    rw [hqg] at hs
    simp only at hs
    have hw : Region.wanted o (yielded ops a.tmps) = true := by simp [Region.wanted, hog]
    rw [if_pos hw]
    exact .inl (step_sound hS hE hV h hc hs hn)
  · rename_i j b g b' hog hqg
    simp only [Bool.and_eq_true, beq_iff_eq, decide_eq_true_eq] at hg
    obtain ⟨⟨⟨rfl, hj⟩, hg1⟩, htup⟩ := hg
    rw [hqg] at hs
    simp only at hs
    split at hs
    · rename_i c hc0
      have hval : a.tmps[g]? = some (.bool c) := by
        have h1 : conc a g = some (a.tmps.getD g undef) := by simp [conc, hg1]
        obtain ⟨F, h2, _⟩ := h.tmp g _ h1
        rw [hc0] at h2
        have h3 := h2.of_pv
        generalize hv : a.tmps.getD g undef = v at h3
        cases h3
        simp only [Array.getD_eq_getD_getElem?] at hv
        cases hx : a.tmps[g]? with
        | none => rw [hx] at hv; simp [undef] at hv
        | some x => rw [hx] at hv; simpa using hv
      have hy : yielded ops a.tmps j = some c := by simp [yielded, hj, hval]
      split at hs
      · rename_i hcb
        subst hcb
        have hw : Region.wanted o (yielded ops a.tmps) = true := by simp [Region.wanted, hog, hy]
        rw [if_pos hw]
        exact .inl (step_sound hS hE hV h hc hs hn)
      · rename_i hcb
        have hw : ¬ Region.wanted o (yielded ops a.tmps) = true := by simp [Region.wanted, hog, hy, hcb]
        rw [if_neg hw]
        simp only [chkOq, Bool.and_eq_true, beq_iff_eq] at hc
        obtain ⟨⟨⟨hdst, hd⟩, _⟩, _⟩ := hc
        rw [← hdst] at hs
        split at hs
        · rename_i d hdd
          rw [hdd] at hd ⊢
          simp only [Option.some.injEq] at hs
          subst hs
          simp only [dstB, Bool.and_eq_true, decide_eq_true_eq, beq_iff_eq] at hd
          exact hn _ _ _ (h.putOne (c := .void) (v := Go.undef) (F := []) hd.1.1 hd.1.2 (by rw [hd.2, htup]) .void List.nodup_nil (by simp))
        · rename_i hdd
          rw [hdd]
          simp only [Option.some.injEq] at hs
          subst hs
          exact hn _ _ _ h
    · rename_i hc0
      have hval : a.tmps[g]? = some Go.undef ∨ a.tmps[g]? = none := by
        have h1 : conc a g = some (a.tmps.getD g undef) := by simp [conc, hg1]
        obtain ⟨F, h2, _⟩ := h.tmp g _ h1
        rw [hc0] at h2
        generalize hv : a.tmps.getD g undef = v at h2
        cases h2
        simp only [Array.getD_eq_getD_getElem?] at hv
        cases hx : a.tmps[g]? with
        | none => exact .inr rfl
        | some x => rw [hx] at hv; exact .inl (by simpa using hv)
      have hy : yielded ops a.tmps j = none := by
        rcases hval with hval | hval <;> simp [yielded, hj, hval, Go.undef]
      have hw : ¬ Region.wanted o (yielded ops a.tmps) = true := by simp [Region.wanted, hog, hy]
      rw [if_neg hw]
      simp only [chkOq, Bool.and_eq_true, beq_iff_eq] at hc
      obtain ⟨⟨⟨hdst, hd⟩, _⟩, _⟩ := hc
      rw [← hdst] at hs
      split at hs
      · rename_i d hdd
        rw [hdd] at hd ⊢
        simp only [Option.some.injEq] at hs
        subst hs
        simp only [dstB, Bool.and_eq_true, decide_eq_true_eq, beq_iff_eq] at hd
        exact hn _ _ _ (h.putOne (c := .void) (v := Go.undef) (F := []) hd.1.1 hd.1.2 (by rw [hd.2, htup]) .void List.nodup_nil (by simp))
      · rename_i hdd
        rw [hdd]
        simp only [Option.some.injEq] at hs
        subst hs
        exact hn _ _ _ h
    · cases hs
  · cases hg
theorem ops_sound (hS : Sound P modes R) (hE : Enters P R) (hV : ∀ x ∈ V, x < 1000000) (hc : chkOps P ar N ops ops.toList qs = true) :
    ∀ (L : List Nat) (s : St) (G : Gh) (a : Act) (w : World), (∀ i ∈ L, i < qs.length) → steps R modes V (L.filterMap (qs[·]?)) s = some s' → Sim P ar N E G s a w → wpOps P ops (Post P ar N E (.normal, s')) L a w := by
  obtain ⟨hlen, hget⟩ := chkOps_get hc
  intro L
  induction L with
  | nil =>
    intro s G a w _ hs h
    simp only [List.filterMap_nil, steps, Option.some.injEq] at hs
    subst hs
    exact ⟨rfl, G, h⟩
  | cons i L ih =>
    intro s G a w hL hs h
    have hi := hL i List.mem_cons_self
    have hq : qs[i]? = some qs[i] := List.getElem?_eq_getElem hi
    have hio : i < ops.toList.length := by rw [hlen]; exact hi
    have ho : ops.toList[i]? = some ops.toList[i] := List.getElem?_eq_getElem hio
    obtain ⟨h1, h2⟩ := hget i _ _ ho hq
    have ho' : ops[i]? = some ops.toList[i] := by rw [← ho]; simp
    simp only [List.filterMap_cons, hq, steps] at hs
    unfold wpOps
    rw [ho']
    cases hst : stepG R modes V qs[i] s with
    | none => rw [hst] at hs; simp [stepsK] at hs
    | some s1 =>
      rw [hst] at hs
      simp only [stepsK] at hs
      exact stepG_sound hS hE hV h h1 h2 hst (fun G' a' w' h' => ih s1 G' a' w' (fun j hj => hL j (List.mem_cons_of_mem _ hj)) hs h')
theorem range_filterMap {α : Type} (l : List α) : (List.range l.length).filterMap (l[·]?) = l := by
  induction l with
  | nil => rfl
  | cons x l ih =>
    rw [List.length_cons, List.range_succ_eq_map, List.filterMap_cons]
    simp only [List.getElem?_cons_zero, List.filterMap_map, List.cons.injEq, true_and]
    simpa [Function.comp_def] using ih
theorem region_sound {id : Nat} (hS : Sound P modes R) (hE : Enters P R) (hV : ∀ x ∈ V, x < 1000000) (hc : chkOps P ar N ops ops.toList qs = true) (hs : steps R modes V qs s = some s') (h : Sim P ar N E G s a w) : (Go.Code.region id ops false).wp P (Post P ar N E (.normal, s')) a w := by
  have hlen := (chkOps_get hc).1
  refine wp_region (ops_sound hS hE hV hc _ s G a w (fun i hi => by simpa [← hlen] using hi) ?_ h)
  have : ops.size = qs.length := by rw [← hlen]; simp
  rw [this, range_filterMap]
  exact hs
end
end Go.Proofs.YtdbcnnehfbcldaaDoor.Pv
