/- A plain reading of Go code and its soundness, part 37. No condition. -/
import Derived.Test.YtngooidedlnmaaaGreatV36
import Derived.Orders
set_option linter.all false
set_option linter.unusedSimpArgs false
set_option linter.unusedVariables false
set_option linter.unnecessarySimpa false
/- A region in any order. No condition. -/
namespace Go.Proofs.YtngooidedlnmaaaGreat.Pv
open Go
section
variable {P : Program} {ar : Nat → Nat} {N : Nat} {E : Entry} {G G' : Gh} {s s' : St} {a : Act} {w w' : World} {V : List Nat} {o : Oper} {q : Oq} {R : Oracle} {modes : FuncId → List Pm} {ops : Array Oper}
theorem Sim.drawn (h : Sim P ar N E G s a w) : Sim P ar N E G s a { w with drawn := w.drawn + 1 } := by
  have hst : ∀ o1, Stay G G w { w with drawn := w.drawn + 1 } o1 := fun o1 b hb => ⟨hb, rfl⟩
  have hg : Grow P G G w { w with drawn := w.drawn + 1 } s.m s.m := {
    ent := rfl
    ok := fun b hb hl => hb
    size := Nat.le_refl _
    same := fun b _ hl => rfl
    dead := fun _ h => h
    refs := fun r p v hr => refsOf (.inl (RefAt.heap (G := G) (G' := G) (w := w) (w' := { w with drawn := w.drawn + 1 }) (fun _ _ => rfl) rfl rfl (fun b r hb => hb) hr))
    kb := fun _ => Nat.le_refl _
    beta := fun _ _ => rfl }
  exact {
    ent := h.ent
    size := h.size
    defers := h.defers
    lab := h.lab
    tmp := fun t v hv => (h.tmp t v hv).frame hg (hst _)
    nn := h.nn
    comp := h.comp
    whole := h.whole
    box := fun o cs hc => (h.box o cs hc).frame hg rfl (hst _) (fun _ => hst _)
    map := fun o es hc => (h.map o es hc).frame hg rfl (hst _)
    row := fun t p hp => (h.row t p hp).frame hg rfl (hst _)
    env := { mono := h.env.mono, os := h.env.os, tape := h.env.tape, output := h.env.output, size := h.env.size, keep := h.env.keep, lent := h.env.lent, hd0 := h.env.hd0, provlt := h.env.provlt, prov := h.env.prov } }
def afters (ops : Array Oper) (i : Nat) : List Nat := match ops[i]? with
  | some o => (o.after.toList.filter (Region.binds .any)).map (·.on)
  | none => []
def depOf (D : List (Nat × List Nat)) (i : Nat) : List Nat := match D.find? (·.1 == i) with
  | some x => x.2
  | none => []
def oneB (P : Program) (ar : Nat → Nat) (N : Nat) (ops : Array Oper) (D : List (Nat × List Nat)) (x : Nat × List Nat) (q : Oq) : Bool := match ops[x.1]? with
  | some o => chkOq P ar N o q && chkGuard ops o q && (q.guard.isNone || q.tup == 0) && (q.po.kind == 2 || q.tup == 0) && (afters ops x.1).all (fun j => decide (j < ops.size) && j != x.1) &&
    depOf D x.1 == x.2 && x.2.all fun j => (afters ops x.1).any fun k => k == j || (depOf D k).contains j
  | none => false
def onesB (P : Program) (ar : Nat → Nat) (N : Nat) (ops : Array Oper) (D : List (Nat × List Nat)) : List (Nat × List Nat) → List Oq → Bool
  | [], [] => true
  | x :: xs, q :: qs => oneB P ar N ops D x q && onesB P ar N ops D xs qs
  | _, _ => false
def pairB (V : List Nat) (ops : Array Oper) (x : Nat × List Nat) (q : Oq) (y : Nat × List Nat) (q' : Oq) : Bool :=
  (y.2.contains x.1 || apartQ V q q') && !(afters ops x.1).contains y.1 && x.1 != y.1
def pairsB (V : List Nat) (ops : Array Oper) : List (Nat × List Nat) → List Oq → Bool
  | [], [] => true
  | x :: xs, q :: qs => (xs.zip qs).all (fun y => pairB V ops x q y.1 y.2) && pairsB V ops xs qs
  | _, _ => false
def expand : List Nat → List (Nat × List Nat) → List (Nat × List Nat)
  | _, [] => []
  | E, x :: D => (x.1, E.filter fun j => !x.2.contains j) :: expand (x.1 :: E) D
def chkAnyE (P : Program) (ar : Nat → Nat) (N : Nat) (V : List Nat) (ops : Array Oper) (D : List (Nat × List Nat)) (qs : List Oq) : Bool :=
  D.length == ops.size && onesB P ar N ops D D qs && pairsB V ops D qs && (List.range ops.size).all fun i => D.any fun x => x.1 == i
def chkAny (P : Program) (ar : Nat → Nat) (N : Nat) (V : List Nat) (ops : Array Oper) (D : List (Nat × List Nat)) (qs : List Oq) : Bool := chkAnyE P ar N V ops (expand [] D) qs
structure Stat (P : Program) (ar : Nat → Nat) (N : Nat) (ops : Array Oper) (dep : Nat → List Nat) (x : Itm) : Prop where
  op : ∃ o, ops[x.i]? = some o ∧ chkOq P ar N o x.q = true ∧ chkGuard ops o x.q = true
  aft : ∀ j ∈ afters ops x.i, j < ops.size ∧ j ≠ x.i
  dp : dep x.i = x.D
  via : ∀ j ∈ x.D, ∃ k ∈ afters ops x.i, k = j ∨ j ∈ dep k
structure Inv (P : Program) (ar : Nat → Nat) (N : Nat) (ops : Array Oper) (dep : Nat → List Nat) (listed : Array Bool) (L : List Itm) : Prop where
  size : listed.size = ops.size
  all : ∀ i, i < ops.size → (listed.getD i false = false ↔ ∃ x ∈ L, x.i = i)
  stat : ∀ x ∈ L, Stat P ar N ops dep x
  pair : L.Pairwise fun x y => y.i ∉ afters ops x.i ∧ x.i ≠ y.i
  closed : ∀ i, listed.getD i false = true → ∀ j ∈ dep i, listed.getD j false = true
theorem ready_aft {listed : Array Bool} {i : Nat} : i ∈ Region.ready .any ops listed ↔ (i < ops.size ∧ listed.getD i true = false ∧ ∀ j ∈ afters ops i, listed.getD j false = true) := by
  rw [mem_ready]
  constructor
  · rintro ⟨h1, o, ho, h2⟩
    refine ⟨(Array.getElem?_eq_some_iff.1 ho).1, h1, fun j hj => ?_⟩
    simp only [afters, ho, List.mem_map, List.mem_filter] at hj
    obtain ⟨e, ⟨he, hb⟩, rfl⟩ := hj
    exact h2 e (by simpa using he) hb
  · rintro ⟨h0, h1, h2⟩
    refine ⟨h1, ops[i], by simp [h0], fun e he hb => h2 _ ?_⟩
    simp only [afters, Array.getElem?_eq_getElem h0, List.mem_map, List.mem_filter]
    exact ⟨e, ⟨by simpa using he, hb⟩, rfl⟩
theorem getD_tf {l : Array Bool} {i : Nat} (h : i < l.size) : l.getD i true = l.getD i false := by simp [h]
theorem any_of_run (hS : Sound P modes R) (hE : Enters P R) (hV : ∀ x ∈ V, x < 1000000) {dep : Nat → List Nat} : ∀ (n : Nat) (L : List Itm) (listed : Array Bool) (s : St) (G : Gh) (a : Act) (w : World), L.length = n → RunE R modes V L s s' → Inv P ar N ops dep listed L → Sim P ar N E G s a w →
    wpAny P .any ops (Post P ar N E (.normal, s')) n listed a w := by
  intro n
  induction n with
  | zero =>
    intro L listed s G a w hL hr hi h
    obtain rfl := List.length_eq_zero_iff.1 hL
    cases hr
    refine ⟨?_, rfl, G, h⟩
    refine List.eq_nil_iff_forall_not_mem.2 fun i hm => ?_
    obtain ⟨k1, k2, _⟩ := ready_aft.1 hm
    rw [getD_tf (by rw [hi.size]; exact k1)] at k2
    obtain ⟨x, hx, _⟩ := (hi.all i k1).1 k2
    exact absurd hx List.not_mem_nil
  | succ n ih =>
    intro L listed s G a w hL hr hi h
    have hlt : ∀ x ∈ L, x.i < ops.size := fun x hx => by
      obtain ⟨o, ho, _⟩ := (hi.stat x hx).op
      exact (Array.getElem?_eq_some_iff.1 ho).1
    refine ⟨fun h0 => ?_, fun i hm => ?_⟩
    · exfalso
      match L, hL with
      | x :: L', hL =>
        have hr2 : x.i ∈ Region.ready .any ops listed := by
          have hx := hlt x List.mem_cons_self
          have h2 := (hi.all x.i hx).2 ⟨x, List.mem_cons_self, rfl⟩
          refine ready_aft.2 ⟨hx, by rw [getD_tf (by rw [hi.size]; exact hx)]; exact h2, fun j hj => ?_⟩
          obtain ⟨j1, j2⟩ := (hi.stat x List.mem_cons_self).aft j hj
          cases hl : listed.getD j false with
          | true => rfl
          | false =>
            obtain ⟨y, hy, rfl⟩ := (hi.all j j1).1 hl
            rcases List.mem_cons.1 hy with rfl | hy
            · exact absurd rfl j2
            · exact absurd hj ((List.pairwise_cons.1 hi.pair).1 y hy).1
        rw [h0] at hr2; cases hr2
    · obtain ⟨k1, k2, k3⟩ := ready_aft.1 hm
      rw [getD_tf (by rw [hi.size]; exact k1)] at k2
      obtain ⟨y, hy, rfl⟩ := (hi.all i k1).1 k2
      have hst := hi.stat y hy
      obtain ⟨L1, L2, rfl⟩ := List.append_of_mem hy
      have hdl : ∀ j ∈ y.D, listed.getD j false = true := fun j hj => by
        obtain ⟨k, hk, hkj⟩ := hst.via j hj
        rcases hkj with rfl | hkj
        · exact k3 k hk
        · exact hi.closed k (k3 k hk) j hkj
      have hfirst := RunE.first hr (fun x hx hxD => by
        have h1 := hdl _ hxD
        have h2 := (hi.all x.i (hlt x (by simp [hx]))).2 ⟨x, by simp [hx], rfl⟩
        rw [h1] at h2; cases h2)
      cases hfirst with
      | cons _ _ _ s1 _ _ hx _ _ hrest =>
        obtain ⟨o, ho, hc, hg⟩ := hst.op
        unfold wpOp
        rw [ho]
        refine stepG_sound hS hE hV h hc hg hx (fun G' a' w' h' => ih (L1 ++ L2) _ s1 G' a' w' ?_ hrest ?_ h')
        · simp only [List.length_append, List.length_cons] at hL ⊢; omega
        · have hp := hi.pair
          rw [List.pairwise_append] at hp
          obtain ⟨p1, p2, p3⟩ := hp
          rw [List.pairwise_cons] at p2
          have hne : ∀ x ∈ L1 ++ L2, x.i ≠ y.i := fun x hx => by
            rcases List.mem_append.1 hx with hx | hx
            · exact (p3 x hx y List.mem_cons_self).2
            · exact fun e => (p2.1 x hx).2 e.symm
          exact {
            size := by simp [hi.size]
            all := fun i hi' => by
              by_cases hiy : i = y.i
              · subst hiy
                constructor
                · intro h; simp [hi.size, hi'] at h
                · rintro ⟨x, hx, e⟩; exact absurd e (hne x hx)
              · rw [getD_set_ne false (fun e => hiy e.symm), hi.all i hi']
                constructor
                · rintro ⟨x, hx, rfl⟩
                  refine ⟨x, ?_, rfl⟩
                  rcases List.mem_append.1 hx with hx | hx
                  · simp [hx]
                  · rcases List.mem_cons.1 hx with rfl | hx
                    · exact absurd rfl hiy
                    · simp [hx]
                · rintro ⟨x, hx, rfl⟩
                  refine ⟨x, ?_, rfl⟩
                  rcases List.mem_append.1 hx with hx | hx <;> simp [hx]
            stat := fun x hx => hi.stat x (by rcases List.mem_append.1 hx with hx | hx <;> simp [hx])
            pair := by
              rw [List.pairwise_append]
              exact ⟨p1, p2.2, fun x hx z hz => p3 x hx z (List.mem_cons_of_mem _ hz)⟩
            closed := fun i hl j hj => by
              have key : ∀ j, listed.getD j false = true → (listed.setIfInBounds y.i true).getD j false = true := fun j hj => by
                by_cases hjy : j = y.i
                · subst hjy; rw [hj] at k2; cases k2
                · rw [getD_set_ne false (fun e => hjy e.symm)]; exact hj
              by_cases hiy : i = y.i
              · subst hiy
                rw [hst.dp] at hj
                exact key j (hdl j hj)
              · rw [getD_set_ne false (fun e => hiy e.symm)] at hl
                exact key j (hi.closed i hl j hj) }
def itms : List (Nat × List Nat) → List Oq → List Ev → List Itm
  | x :: D, q :: qs, e :: es => ⟨x.1, x.2, q, e⟩ :: itms D qs es
  | _, _, _ => []
theorem evsOK_mem {d : List Nat} {e : Ev} : ∀ {l : List (Nat × Ev)}, evsOK d e l → ∀ j x, (j, x) ∈ l → j ∈ d → evOK x e
  | [], _, j, x, hm => by cases hm
  | (j', x') :: l, h, j, x, hm => by
    rcases List.mem_cons.1 hm with hm | hm
    · cases hm
      exact fun hj => h.1 (by simpa using hj)
    · exact evsOK_mem h.2 j x hm
theorem mem_addEv {i j : Nat} {e x : Ev} {l : List (Nat × Ev)} (h : (j, x) ∈ l) : (j, x) ∈ addEv i e l := by
  cases e <;> simp [addEv, h]
theorem pairsB_cons {x : Nat × List Nat} {q : Oq} {xs : List (Nat × List Nat)} {qs : List Oq} (h : pairsB V ops (x :: xs) (q :: qs) = true) : pairsB V ops xs qs = true ∧ ∀ y q', (y, q') ∈ xs.zip qs → pairB V ops x q y q' = true := by
  simp only [pairsB, Bool.and_eq_true, List.all_eq_true] at h
  exact ⟨h.2, fun y q' hm => h.1 (y, q') hm⟩
theorem itms_mem : ∀ {D : List (Nat × List Nat)} {qs : List Oq} {es : List Ev} {x : Itm}, x ∈ itms D qs es → ((x.i, x.D), x.q) ∈ D.zip qs
  | y :: D, q :: qs, e :: es, x, h => by
    simp only [itms] at h
    rcases List.mem_cons.1 h with rfl | h
    · simp
    · rw [List.zip_cons_cons]; exact List.mem_cons_of_mem _ (itms_mem h)
  | [], _, _, x, h => by simp [itms] at h
  | _ :: _, [], _, x, h => by simp [itms] at h
  | _ :: _, _ :: _, [], x, h => by simp [itms] at h
theorem stepsD_run {D0 : List (Nat × List Nat)} : ∀ {D : List (Nat × List Nat)} {qs : List Oq} {evs : List (Nat × Ev)} {s : St} {L : List Nat}, stepsD R modes V D evs qs s = some s' → onesB P ar N ops D0 (expand L D) qs = true → pairsB V ops (expand L D) qs = true → (∀ j x, (j, x) ∈ evs → j ∈ L) →
    ∃ es, es.length = qs.length ∧ RunE R modes V (itms (expand L D) qs es) s s' ∧ ∀ j x, (j, x) ∈ evs → ∀ z ∈ itms (expand L D) qs es, j ∈ z.D ∨ evOK x z.e
  | [], [], evs, s, L, h, _, _, _ => by
    simp only [stepsD, Option.some.injEq] at h; subst h
    exact ⟨[], rfl, .nil s, fun j x _ z hz => by simp [itms, expand] at hz⟩
  | _ :: _, [], evs, s, L, h, ho, _, _ => by simp [onesB, expand] at ho
  | [], _ :: _, evs, s, L, h, ho, _, _ => by simp [onesB, expand] at ho
  | x :: D, q :: qs, evs, s, L, h, ho, hp, hL => by
    simp only [expand] at ho hp ⊢
    simp only [onesB, Bool.and_eq_true] at ho
    obtain ⟨hp1, hp2⟩ := pairsB_cons hp
    simp only [stepsD] at h
    cases hg : stepG R modes V q s with
    | none => rw [hg] at h; simp [stepsDK] at h
    | some s1 =>
      rw [hg] at h
      simp only [stepsDK] at h
      split at h
      · rename_i hev
        have hL2 : ∀ j y, (j, y) ∈ addEv x.1 (evOf V modes q s s1) evs → j ∈ x.1 :: L := fun j y hm => by
          have : (j, y) = (x.1, evOf V modes q s s1) ∨ (j, y) ∈ evs := by
            revert hm
            generalize evOf V modes q s s1 = e
            cases e <;> simp [addEv]
            all_goals first | (intro h; exact .inr h) | (rintro (⟨rfl, rfl⟩ | h); first | exact .inl ⟨rfl, rfl⟩ | exact .inr h) | skip
          rcases this with h | h
          · cases h; exact List.mem_cons_self
          · exact List.mem_cons_of_mem _ (hL j y h)
        obtain ⟨es, hl, hr, hz⟩ := stepsD_run h ho.2 hp1 hL2
        refine ⟨evOf V modes q s s1 :: es, by simp [hl], ?_, fun j y hm z hz' => ?_⟩
        · have hok : okQ q := by
            have h1 := ho.1
            unfold oneB at h1
            split at h1
            · simp only [Bool.and_eq_true, Bool.or_eq_true, beq_iff_eq, Option.isNone_iff_eq_none] at h1
              obtain ⟨⟨⟨⟨⟨_, h2⟩, h3⟩, _⟩, _⟩, _⟩ := h1
              exact ⟨fun hg => by
                rcases h2 with h2 | h2
                · rw [h2] at hg; cases hg
                · exact h2, fun hk => h3.resolve_left hk⟩
            · cases h1
          refine .cons _ _ s s1 s' hok hg rfl (fun z hm => ?_) hr
          have hzip := itms_mem hm
          have hpb := hp2 _ _ hzip
          simp only [pairB, Bool.and_eq_true, Bool.or_eq_true, List.contains_eq_mem, decide_eq_true_eq] at hpb
          rcases hpb.1.1 with h1 | h1
          · exact .inl h1
          · by_cases hin : x.1 ∈ z.D
            · exact .inl hin
            · refine .inr ⟨h1, ?_⟩
              cases he : evOf V modes q s s1 with
              | pure => trivial
              | _ => exact (hz x.1 _ (by rw [he]; simp [addEv]) z hm).resolve_left hin
        · simp only [itms] at hz'
          rcases List.mem_cons.1 hz' with rfl | hz'
          · by_cases hj : j ∈ x.2
            · exact .inr (evsOK_mem hev j y hm hj)
            · exact .inl (by simp only [List.mem_filter]; exact ⟨hL j y hm, by simpa using hj⟩)
          · exact hz j y (mem_addEv hm) z hz'
      · cases h
theorem onesB_get {D0 : List (Nat × List Nat)} : ∀ {D : List (Nat × List Nat)} {qs : List Oq}, onesB P ar N ops D0 D qs = true → D.length = qs.length ∧ ∀ x q, (x, q) ∈ D.zip qs → oneB P ar N ops D0 x q = true
  | [], [], _ => ⟨rfl, fun x q h => by simp at h⟩
  | [], _ :: _, h => by simp [onesB] at h
  | _ :: _, [], h => by simp [onesB] at h
  | x :: D, q :: qs, h => by
    simp only [onesB, Bool.and_eq_true] at h
    obtain ⟨h1, h2⟩ := onesB_get h.2
    refine ⟨by simp [h1], fun y q' hm => ?_⟩
    rw [List.zip_cons_cons] at hm
    rcases List.mem_cons.1 hm with hm | hm
    · cases hm; exact h.1
    · exact h2 y q' hm
theorem itms_length : ∀ {D : List (Nat × List Nat)} {qs : List Oq} {es : List Ev}, D.length = qs.length → es.length = qs.length → (itms D qs es).length = D.length
  | [], [], [], _, _ => rfl
  | x :: D, q :: qs, e :: es, h1, h2 => by simp only [itms, List.length_cons] at *; rw [itms_length (by omega) (by omega)]
theorem itms_any : ∀ {D : List (Nat × List Nat)} {qs : List Oq} {es : List Ev}, D.length = qs.length → es.length = qs.length → ∀ y ∈ D, ∃ x ∈ itms D qs es, x.i = y.1
  | [], _, _, _, _, y, hy => by cases hy
  | x :: D, q :: qs, e :: es, h1, h2, y, hy => by
    rcases List.mem_cons.1 hy with rfl | hy
    · exact ⟨_, List.mem_cons_self, rfl⟩
    · obtain ⟨z, hz, e⟩ := itms_any (D := D) (qs := qs) (es := es) (by simpa using h1) (by simpa using h2) y hy
      exact ⟨z, List.mem_cons_of_mem _ hz, e⟩
  | _ :: _, [], _, h1, _, _, _ => by simp at h1
  | _ :: _, _ :: _, [], _, h2, _, _ => by simp at h2
theorem itms_pair : ∀ {D : List (Nat × List Nat)} {qs : List Oq} {es : List Ev}, pairsB V ops D qs = true → (itms D qs es).Pairwise fun x y => y.i ∉ afters ops x.i ∧ x.i ≠ y.i
  | [], _, _, _ => by simp [itms]
  | _ :: _, [], _, _ => by simp [itms]
  | _ :: _, _ :: _, [], _ => by simp [itms]
  | x :: D, q :: qs, e :: es, h => by
    obtain ⟨h1, h2⟩ := pairsB_cons h
    simp only [itms, List.pairwise_cons]
    refine ⟨fun z hz => ?_, itms_pair h1⟩
    have h3 := h2 _ _ (itms_mem hz)
    simp only [pairB, Bool.and_eq_true, Bool.not_eq_true', List.contains_eq_mem, decide_eq_false_iff_not, bne_iff_ne] at h3
    exact ⟨h3.1.2, h3.2⟩
theorem any_sound {id : Nat} {D : List (Nat × List Nat)} {qs : List Oq} (hm : P.follows .mixedOrders = true) (hS : Sound P modes R) (hE : Enters P R) (hV : ∀ x ∈ V, x < 1000000) (hc : chkAny P ar N V ops D qs = true) (hs : stepsD R modes V D [] qs s = some s') (h : Sim P ar N E G s a w) :
    (Go.Code.region id ops true).wp P (Post P ar N E (.normal, s')) a w := by
  simp only [chkAny, chkAnyE, Bool.and_eq_true, beq_iff_eq, List.all_eq_true, List.any_eq_true, List.mem_range] at hc
  obtain ⟨⟨⟨hlen, ho⟩, hp⟩, hall⟩ := hc
  obtain ⟨es, hl, hr, _⟩ := stepsD_run hs ho hp (fun j x h => by cases h)
  obtain ⟨hlen2, hone⟩ := onesB_get ho
  have hrep : ∀ i, i < ops.size → (Array.replicate ops.size false).getD i false = false := fun i hi => by simp [hi]
  refine wp_region_any hm (any_of_run hS hE hV (dep := depOf (expand [] D)) ops.size (itms (expand [] D) qs es) _ s G a _ (by rw [itms_length hlen2 hl, hlen]) hr ?_ h.drawn)
  exact {
    size := by simp
    all := fun i hi => by
      refine ⟨fun _ => ?_, fun _ => hrep i hi⟩
      obtain ⟨y, hy, e⟩ := hall i hi
      obtain ⟨x, hx, e2⟩ := itms_any hlen2 hl y hy
      exact ⟨x, hx, e2.trans e⟩
    stat := fun x hx => by
      have h1 := hone _ _ (itms_mem hx)
      unfold oneB at h1
      split at h1
      · rename_i o ho'
        simp only [Bool.and_eq_true, beq_iff_eq, List.all_eq_true, decide_eq_true_eq, bne_iff_ne, ne_eq, List.any_eq_true, Bool.or_eq_true, List.contains_eq_mem] at h1
        obtain ⟨⟨⟨⟨⟨⟨h2, h3⟩, _⟩, _⟩, h4⟩, h5⟩, h6⟩ := h1
        exact ⟨⟨o, ho', h2, h3⟩, h4, h5, h6⟩
      · cases h1
    pair := itms_pair hp
    closed := fun i hl j hj => by
      exfalso
      by_cases hi : i < ops.size
      · rw [hrep i hi] at hl; cases hl
      · simp [hi] at hl }
end
end Go.Proofs.YtngooidedlnmaaaGreat.Pv
