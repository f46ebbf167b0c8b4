/- A plain reading of Go code and its soundness, part 40. No condition. -/
import Derived.Test.YtdbcnnehfbcldaaDoorV39
import Derived.DataReads
import Derived.Below
import GoSem.ClaimChange
set_option linter.all false
set_option linter.unusedSimpArgs false
set_option linter.unusedVariables false
set_option linter.unnecessarySimpa false
/- Arguments as the statements' rows read them, opened: plain values of their types. No condition. -/
namespace Go.Proofs.YtdbcnnehfbcldaaDoor.Pv
open Go
inductive Ty where
  | int (k : IntKind)
  | bool
  | str
  | sl (e : TypeId) (t : Ty)
  | st (fs : List Ty)
  deriving Inhabited
mutual
def Ty.w : Ty → Nat
  | .st fs => Ty.ws fs
  | _ => 1
def Ty.ws : List Ty → Nat
  | [] => 0
  | t :: ts => t.w + Ty.ws ts
end
mutual
def tyB (P : Program) (t : TypeId) : Ty → Bool
  | .int k => match P.underlying t with
    | some (.int k') => k == k'
    | _ => false
  | .bool => match P.underlying t with
    | some .bool => true
    | _ => false
  | .str => match P.underlying t with
    | some .string => true
    | _ => false
  | .sl e u => match P.underlying t with
    | some (.slice e') => e == e' && P.cellsOf e == u.w && u.w != 0 && tyB P e u
    | _ => false
  | .st fs => match P.underlying t with
    | some (.struct gs) => P.cellsOf t == Ty.ws fs && tyBs P 0 gs.toList fs
    | _ => false
def tyBs (P : Program) : Nat → List Field → List Ty → Bool
  | _, [], [] => true
  | off, g :: gs, f :: fs => g.offset == off && P.cellsOf g.type == f.w && tyB P g.type f && tyBs P (off + f.w) gs fs
  | _, _, _ => false
end
mutual
def Ty.has : Ty → PV → Prop
  | .int k, .int k' n => k' = k ∧ k.min ≤ n ∧ n ≤ k.max
  | .bool, .bool _ => True
  | .str, .str s => s.size ≤ maxLen
  | .sl e t, .sl fl e' xs => fl = 0 ∧ e' = e ∧ xs.length ≤ maxLen ∧ ∀ x ∈ xs, t.has x
  | .st fs, .agg cs => hasL fs cs
  | _, _ => False
def hasL : List Ty → List PV → Prop
  | [], cs => cs = []
  | t :: ts, cs => ∃ p rest, cs = p.cells ++ rest ∧ t.has p ∧ hasL ts rest
end
def hasAll : List Ty → List PV → Prop
  | [], ps => ps = []
  | t :: ts, ps => ∃ p rest, ps = p :: rest ∧ t.has p ∧ hasAll ts rest
section
variable {P : Program} {H : Type} {enc : TypeId × Value → H} {w : World}
abbrev oldOK (w : World) : Bool → Nat → Prop := fun _ b => b < w.heap.size
def Opened (P : Program) (w : World) (ty : Ty) (cs : List Value) : Prop := ∃ p : PV, ty.has p ∧ RepL P w (oldOK w) p.cells cs [] ∧ cs.length = ty.w ∧ (∀ v : Value, cs = [v] → (∀ fs, ty ≠ .st fs) → Rep P w (oldOK w) p v []) ∧ (∀ fs, ty = .st fs → Rep P w (oldOK w) p (.agg cs.toArray) [])
theorem cell_lt {ad : Addr} {v : Value} (h : w.cell? ad = some v) : ad.block < w.heap.size := World.block_lt_of_cell? w ad h
theorem add_spot {a : Addr} (h : a.spot = none) (k : Nat) : a.add k = ⟨a.block, a.off + k, none⟩ := by
  obtain ⟨b, off, sp⟩ := a
  simp only at h
  subst h
  exact addr_add b off k
theorem opened_elems {u : Ty} {a : Addr} {n : Nat} (hn : u.w = n) (hsp : a.spot = none) (len : Nat)
    (h : ∀ i, i < len → ∃ cs, w.cells? 0 (a.add (i * n)) n = some cs ∧ Opened P w u cs) :
    ∃ (xs : List PV) (vs : List Value), xs.length = len ∧ vs.length = len * n ∧ (∀ x ∈ xs, u.has x ∧ x.cells.length = n) ∧ RepL P w (oldOK w) (flatC xs) vs [] ∧ ∀ j v, vs[j]? = some v → w.cell? ⟨a.block, a.off + j, none⟩ = some v := by
  induction len with
  | zero => exact ⟨[], [], rfl, by simp, by simp, .nil, by simp⟩
  | succ len ih =>
    obtain ⟨xs, vs, h1, h2, h3, h4, h5⟩ := ih (fun i hi => h i (by omega))
    obtain ⟨cs, hc, p, k1, k2, k3, _⟩ := h len (by omega)
    obtain ⟨_, hl, hcell⟩ := World.cells?_some hc
    refine ⟨xs ++ [p], vs ++ cs, by simp [h1], by simp [h2, hl, Nat.add_mul], ?_, ?_, fun j v hj => ?_⟩
    · intro x hx
      rcases List.mem_append.1 hx with hx | hx
      · exact h3 x hx
      · simp at hx; subst hx; exact ⟨k1, by rw [k2.length, hl]⟩
    · have := RepL.append h4 k2
      simpa [flatC] using this
    · rw [List.getElem?_append] at hj
      split at hj
      · exact h5 j v hj
      · rename_i hjv
        have hlt : j - vs.length < n := by
          have := (List.getElem?_eq_some_iff.1 hj).1
          omega
        have := hcell (j - vs.length) hlt
        rw [hj, add_spot hsp] at this
        have e : (⟨a.block, a.off + len * n, none⟩ : Addr).add (j - vs.length) = ⟨a.block, a.off + j, none⟩ := by
          rw [addr_add]
          congr 1
          omega
        rw [e] at this
        exact this
theorem opened_one {ty : Ty} {p : PV} {c : Value} (h1 : ty.has p) (hna : ∀ ds, p ≠ .agg ds) (h : Rep P w (oldOK w) p c []) (hty : ∀ fs, ty ≠ .st fs) (hw : ty.w = 1) : Opened P w ty [c] := by
  have hc : p.cells = [p] := by cases p <;> first | rfl | exact absurd rfl (hna _)
  refine ⟨p, h1, by rw [hc]; exact RepL.one hna h, by simp [hw], fun v hv _ => ?_, fun fs hx => absurd hx (hty fs)⟩
  simp only [List.cons.injEq, and_true] at hv
  rw [← hv]; exact h
mutual
theorem opened (ty : Ty) (t : TypeId) (hty : tyB P t ty = true) (fuel : Nat) (cs : List Value) (d : DataW H) (ps : List MemPlace) (h : DataW.trod enc P w 0 (fun _ => true) true fuel t cs = some (d, ps)) : Opened P w ty cs := by
  cases fuel with
  | zero => simp [DataW.trod] at h
  | succ fuel =>
    unfold DataW.trod at h
    cases ty with
    | int k =>
      unfold tyB at hty
      split at hty
      · rename_i k' hk
        simp only [beq_iff_eq] at hty
        subst hty
        rw [hk] at h
        split at h <;> try (first | (simp at h; done) | (rename_i hx _; simp at hx; done) | (rename_i hx; simp at hx; done))
        all_goals first
          | (rename_i k1 k2 n heq
             simp only [Option.some.injEq, TypeDesc.int.injEq] at heq
             subst heq
             split at h
             · rename_i hh
               obtain ⟨rfl, hwf⟩ := hh
               simp only [Lit.wf, Bool.and_eq_true, decide_eq_true_eq] at hwf
               exact opened_one (p := .int _ n) (by unfold Ty.has; exact ⟨rfl, hwf⟩) (by simp) (.int _ n) (by simp) rfl
             · cases h)
          | (simp_all; done)
      · cases hty
    | bool =>
      unfold tyB at hty
      split at hty
      · rename_i hk
        rw [hk] at h
        split at h <;> first
          | (rename_i b _; exact opened_one (p := .bool b) (by unfold Ty.has; trivial) (by simp) (.bool b) (by simp) rfl)
          | (rename_i b; exact opened_one (p := .bool b) (by unfold Ty.has; trivial) (by simp) (.bool b) (by simp) rfl)
          | (simp_all; done)
      · cases hty
    | str =>
      unfold tyB at hty
      split at hty
      · rename_i hk
        rw [hk] at h
        split at h <;> first
          | (rename_i s _
             split at h
             · exact opened_one (p := .str s) (by unfold Ty.has; assumption) (by simp) (.str s) (by simp) rfl
             · cases h)
          | (rename_i s
             split at h
             · exact opened_one (p := .str s) (by unfold Ty.has; assumption) (by simp) (.str s) (by simp) rfl
             · cases h)
          | (simp_all; done)
      · cases hty
    | sl e u =>
      unfold tyB at hty
      split at hty
      · rename_i e' hk
        simp only [Bool.and_eq_true, beq_iff_eq, bne_iff_ne, ne_eq] at hty
        obtain ⟨⟨⟨rfl, hn⟩, hn0⟩, hu⟩ := hty
        rw [hk] at h
        split at h <;> try (first | (simp at h; done) | (simp_all; done))
        · exact opened_one (p := .sl 0 e []) (by unfold Ty.has; exact ⟨rfl, rfl, by simp [maxLen], by simp⟩) (by simp) (.slN 0 e) (by simp) rfl
        · rename_i e2 a len cap heq
          simp only [Option.some.injEq, TypeDesc.slice.injEq] at heq
          subst heq
          simp only at h
          split at h
          · rename_i hh
            obtain ⟨_, hlc, hcm⟩ := hh
            obtain ⟨elems, hel, hre⟩ := Option.bind_eq_some_iff.1 h
            simp only [if_true, Option.map_eq_some_iff] at hre
            obtain ⟨rest, hrest, _⟩ := hre
            have hat : ∀ i, i < len → ∃ cs, w.cells? 0 (a.add (i * u.w)) u.w = some cs ∧ Opened P w u cs := by
              intro i hi
              have := mapM_some_get hel i i (by simp [hi])
              rw [List.getElem?_eq_getElem (by rw [mapM_some_length hel]; simpa using hi)] at this
              obtain ⟨cs, h1, h2⟩ := Option.bind_eq_some_iff.1 this
              rw [hn] at h1
              exact ⟨cs, h1, opened u e hu fuel cs _ _ h2⟩
            by_cases hcap : cap = 0
            · obtain rfl : len = 0 := by omega
              subst hcap
              exact opened_one (p := .sl 0 e []) (by unfold Ty.has; exact ⟨rfl, rfl, by simp [maxLen], by simp⟩) (by simp) (.slE 0 e a) (by simp) rfl
            · have hsp : a.spot = none := by
                have first : ∃ cs, w.cells? 0 (a.add (0 * P.cellsOf e)) (P.cellsOf e) = some cs := by
                  by_cases hl0 : len = 0
                  · subst hl0
                    have := mapM_some_get hrest 0 0 (by rw [List.getElem?_range (by omega)])
                    rw [List.getElem?_eq_getElem (by rw [mapM_some_length hrest]; simp; omega)] at this
                    obtain ⟨cs, h1, _⟩ := Option.bind_eq_some_iff.1 this
                    exact ⟨cs, by simpa using h1⟩
                  · obtain ⟨cs, h1, _⟩ := hat 0 (by omega)
                    exact ⟨cs, by rw [hn]; exact h1⟩
                obtain ⟨cs, h1⟩ := first
                obtain ⟨_, hl, hc⟩ := World.cells?_some h1
                have := hc 0 (by omega)
                rw [List.getElem?_eq_getElem (by omega)] at this
                exact World.cell?_spot (by simpa [Addr.add] using this)
              obtain ⟨xs, vs, k1, k2, k3, k4, k5⟩ := opened_elems rfl hsp len hat
              refine opened_one (p := .sl 0 e xs) (by unfold Ty.has; exact ⟨rfl, rfl, by rw [k1]; omega, fun x hx => (k3 x hx).1⟩) (by simp) ?_ (by simp) rfl
              obtain ⟨b, off, sp⟩ := a
              simp only at hsp
              subst hsp
              have := Rep.slI (P := P) (w := w) (ok := oldOK w) e xs vs b off cap k4 (fun x hx => by rw [hn]; exact (k3 x hx).2) (fun hx => by
                have hl0 : 0 < len := by rw [← k1]; exact List.length_pos_iff.2 hx
                obtain ⟨cs, h1, _⟩ := hat 0 hl0
                obtain ⟨_, hl, hc⟩ := World.cells?_some h1
                have := hc 0 (by omega)
                rw [List.getElem?_eq_getElem (by omega)] at this
                have := cell_lt this
                have : b < w.heap.size := by simpa [Addr.add] using this
                exact ⟨this, this⟩) k5 (by omega) hcm
              rw [k1] at this
              exact this
          · cases h
      · cases hty
    | st fs =>
      unfold tyB at hty
      split at hty
      · rename_i gs hk
        simp only [Bool.and_eq_true, beq_iff_eq] at hty
        obtain ⟨hw, hfs⟩ := hty
        rw [hk] at h
        have h2 : ∃ xs, gs.toList.mapM (fun g => DataW.trod enc P w 0 (fun _ => true) true fuel g.type ((cs.drop g.offset).take (P.cellsOf g.type))) = some xs ∧ cs.length = P.cellsOf t := by
          split at h <;> try (first | (simp at h; done) | (simp_all; done))
          rename_i heq
          simp only [Option.some.injEq, TypeDesc.struct.injEq] at heq
          subst heq
          split at h
          · rename_i hl
            simp only [Option.map_eq_some_iff] at h
            obtain ⟨xs, h1, _⟩ := h
            exact ⟨xs, h1, hl⟩
          · cases h
        obtain ⟨xs, hxs, hl⟩ := h2
        obtain ⟨qs, q1, q2⟩ := opened_fields fs gs.toList 0 hfs fuel cs (by omega) (fun g hg => by
          obtain ⟨i, hi⟩ := List.getElem?_of_mem hg
          have := mapM_some_get hxs i g hi
          rw [List.getElem?_eq_getElem (by rw [mapM_some_length hxs]; exact (List.getElem?_eq_some_iff.1 hi).1)] at this
          exact ⟨_, this⟩)
        have e1 : (cs.drop 0).take (Ty.ws fs) = cs := by rw [List.drop_zero, List.take_of_length_le (by omega)]
        rw [e1] at q2
        refine ⟨.agg qs, by unfold Ty.has; exact q1, q2, by rw [hl, hw]; rfl, fun v _ hx => absurd rfl (hx fs), fun _ _ => ?_⟩
        exact .agg qs cs [] q2
      · cases hty
theorem opened_fields (fs : List Ty) (gs : List Field) (off : Nat) (hty : tyBs P off gs fs = true) (fuel : Nat) (cs : List Value) (hl : off + Ty.ws fs ≤ cs.length)
    (h : ∀ g ∈ gs, ∃ x, DataW.trod enc P w 0 (fun _ => true) true fuel g.type ((cs.drop g.offset).take (P.cellsOf g.type)) = some x) : ∃ qs, hasL fs qs ∧ RepL P w (oldOK w) qs ((cs.drop off).take (Ty.ws fs)) [] := by
  cases fs with
  | nil => exact ⟨[], by unfold hasL; rfl, by simpa [Ty.ws] using RepL.nil⟩
  | cons f fs =>
    cases gs with
    | nil => simp [tyBs] at hty
    | cons g gs =>
      unfold tyBs at hty
      simp only [Bool.and_eq_true, beq_iff_eq] at hty
      obtain ⟨⟨⟨rfl, hw⟩, hf⟩, hrest⟩ := hty
      simp only [Ty.ws] at hl ⊢
      obtain ⟨x, hx⟩ := h g (by simp)
      obtain ⟨p, p1, p2, p3, _⟩ := opened f g.type hf fuel _ _ _ hx
      obtain ⟨qs, q1, q2⟩ := opened_fields fs gs (g.offset + f.w) hrest fuel cs (by omega) (fun g' hg' => h g' (by simp [hg']))
      refine ⟨p.cells ++ qs, by unfold hasL; exact ⟨p, qs, rfl, p1, q1⟩, ?_⟩
      have := RepL.append p2 q2
      rw [hw] at this
      rw [List.take_add, List.drop_drop]
      exact this
end
theorem okWide_cells {t : TypeId} {ty : Ty} {v : Value} {base : Nat} (hty : tyB P t ty = true) (h : Value.okWide P w .any base t v) : (∀ fs, ty = .st fs → ∃ cs : Array Value, v = .agg cs) ∧ ((∀ fs, ty ≠ .st fs) → v.cells.toList = [v]) := by
  unfold Value.okWide at h
  cases ty with
  | st fs =>
    unfold tyB at hty
    split at hty
    · rename_i gs hk
      rw [hk] at h
      obtain ⟨cs, rfl, _⟩ := h
      exact ⟨fun _ _ => ⟨cs, rfl⟩, fun hx => absurd rfl (hx fs)⟩
    · cases hty
  | _ =>
    refine ⟨fun _ hx => by simp at hx, fun _ => ?_⟩
    unfold tyB at hty
    split at hty
    · rename_i hk
      rw [hk] at h
      simp only [Cell.okWide, Cell.ok, hk] at h
      cases v <;> first | rfl | (simp at h)
    · cases hty
def tysB (P : Program) : List TypeId → List Ty → Bool
  | [], [] => true
  | t :: ts, u :: us => tyB P t u && tysB P ts us
  | _, _ => false
theorem opened_args {base : Nat} : ∀ {ts : List TypeId} {us : List Ty} {vs : List Value} {ds : List (DataW H)} {ps : List MemPlace}, tysB P ts us = true → (∀ (j : Nat) (t : TypeId) v, ts[j]? = some t → vs[j]? = some v → Value.okWide P w .any base t v) →
    DataW.TrodAll enc P w 0 (fun _ => true) true ts vs ds ps → ∃ qs, hasAll us qs ∧ ArgsRep P w (oldOK w) (us.map fun _ => Pm.val) qs vs (us.map fun _ => []) (us.map fun _ => [])
  | [], [], [], _, _, _, _, h => ⟨[], rfl, .nil⟩
  | t :: ts, u :: us, v :: vs, d :: ds, ps, hty, hok, h => by
    simp only [tysB, Bool.and_eq_true] at hty
    obtain ⟨p, q, ⟨fuel, h1⟩, h2, _⟩ := h
    obtain ⟨qs, k1, k2⟩ := opened_args hty.2 (fun j t v h1 h2 => hok (j + 1) t v (by simpa using h1) (by simpa using h2)) h2
    obtain ⟨x, x1, x2, x3, x4, x5⟩ := opened u t hty.1 fuel _ _ _ h1
    have hc := okWide_cells hty.1 (hok 0 t v rfl rfl)
    have hr : Rep P w (oldOK w) x v [] := by
      by_cases hs : ∃ fs, u = .st fs
      · obtain ⟨fs, rfl⟩ := hs
        obtain ⟨cs, rfl⟩ := hc.1 fs rfl
        have := x5 fs rfl
        simpa [Value.cells] using this
      · have hs' : ∀ fs, u ≠ .st fs := fun fs e => hs ⟨fs, e⟩
        exact x4 v (hc.2 hs') hs'
    exact ⟨x :: qs, ⟨x, qs, rfl, x1, k1⟩, .cons _ _ _ [] [] _ _ _ _ _ (.val x v hr) k2⟩
  | [], [], _ :: _, _, _, _, _, h => by simp [DataW.TrodAll] at h
  | [], _ :: _, _, _, _, h, _, _ => by simp [tysB] at h
  | _ :: _, [], _, _, _, h, _, _ => by simp [tysB] at h
  | _ :: _, _ :: _, [], _, _, _, _, h => by simp [DataW.TrodAll] at h
  | _ :: _, _ :: _, _ :: _, [], _, _, _, h => by simp [DataW.TrodAll] at h
theorem handed_nil : ∀ us : List Ty, handed (us.map fun _ => []) (us.map fun _ => []) = []
  | [] => rfl
  | u :: us => by simp [handed, handed_nil us]
theorem law_walk {C : Code} (hC : Fits P C) {f : FuncId} {ts : List TypeId} {us : List Ty} (hty : tysB P ts us = true) (hm : C.modes f = us.map fun _ => Pm.val) (hrun : ∀ ps, hasAll us ps → RUN C f ps = some ([.bool true], []))
    {base : Nat} {args : Array Value} {ds : List (DataW H)} {p : List MemPlace} (hok : ∀ (j : Nat) (t : TypeId) v, ts[j]? = some t → args[j]? = some v → Value.okWide P w .any base t v) (h : DataW.TrodAll enc P w 0 (fun _ => true) true ts args.toList ds p) :
    Calls P f args w fun e w' => e = .returned (.bool true) ∧ Go.RowKit.Below w.heap.size w w' := by
  obtain ⟨qs, h1, h2⟩ := opened_args hty (fun j t v a b => hok j t v a (by simpa using b)) h
  have h3 := hC.holds (hrun qs h1)
  rw [hm] at h3
  have h4 := h3 w (oldOK w) args.toList _ _ (fun _ h => h) h2 (by rw [handed_nil]; exact List.nodup_nil) (by rw [handed_nil]; simp)
  refine (Array.toArray_toList (xs := args) ▸ h4).mono ?_
  rintro e w' ⟨v, rfl, ok1, vs, Fr, Cs, Ds, hE⟩
  have hv : v = .bool true := by
    have := hE.res
    cases this with
    | cons _ u F _ us G k1 k2 =>
      cases k2
      cases k1
      rw [hE.val]
      rfl
  subst hv
  exact ⟨rfl, hE.os, hE.tape, hE.output, hE.size, fun k hk => hE.same k hk (by rw [handed_nil]; simp)⟩
end
end Go.Proofs.YtdbcnnehfbcldaaDoor.Pv
