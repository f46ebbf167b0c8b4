/- A plain reading of Go code and its soundness, part 17. No condition. -/
import Derived.Test.YtdbcnnehfbcldaaDoorV16
set_option linter.all false
set_option linter.unusedSimpArgs false
set_option linter.unusedVariables false
set_option linter.unnecessarySimpa false
/- What a call is told to do, and the state in which it begins. No condition. -/
namespace Go.Proofs.YtdbcnnehfbcldaaDoor.Pv
open Go
inductive RowCells (P : Program) (w : World) (ok : Bool → Nat → Prop) : List PV → List Value → List (List Nat) → Prop
  | nil : RowCells P w ok [] [] []
  | cons (c : PV) (v : Value) (F : List Nat) (cs : List PV) (vs : List Value) (Fs : List (List Nat)) : (∀ ds, c ≠ .agg ds) → Rep P w ok c v F → RowCells P w ok cs vs Fs → RowCells P w ok (c :: cs) (v :: vs) (F :: Fs)
inductive ArgRep (P : Program) (w : World) (ok : Bool → Nat → Prop) : Pm → PV → Value → List (List Nat) → List (List Nat) → Prop
  | val (p : PV) (v : Value) : Rep P w ok p v [] → ArgRep P w ok .val p v [] []
  | own (p : PV) (v : Value) (F : List Nat) : ownP p = true → Rep P w ok p v F → ArgRep P w ok .own p v [F] []
  | row (p : PV) (v : Value) (F : List Nat) : ownP p = true → Rep P w ok p v F → ArgRep P w ok .row p v [] [F]
  | rows (n : List Bool) (cs : List PV) (vs : List Value) (Fs : List (List Nat)) : cs.map ownP = n → RowCells P w ok cs vs Fs → ArgRep P w ok (.rows n) (.agg cs) (.agg vs.toArray) [] Fs
  | io (n : Nat) (cs : List PV) (vs : List Value) (Fs : List (List Nat)) (b off : Nat) (arr : Array Value) (ty : TypeId) : cs.length = n → RowCells P w ok cs vs Fs → w.heap[b]? = some (.cells arr ty (0, 0)) → off + n ≤ arr.size →
      (∀ j v, vs[j]? = some v → arr[off + j]? = some v) → ArgRep P w ok (.io n) (.ref cs) (.pointer (some ⟨b, off, none⟩)) ([b] :: Fs) []
inductive ArgsRep (P : Program) (w : World) (ok : Bool → Nat → Prop) : List Pm → List PV → List Value → List (List (List Nat)) → List (List (List Nat)) → Prop
  | nil : ArgsRep P w ok [] [] [] [] []
  | cons (q : Pm) (p : PV) (v : Value) (A B : List (List Nat)) (qs : List Pm) (ps : List PV) (vs : List Value) (As Bs : List (List (List Nat))) : ArgRep P w ok q p v A B → ArgsRep P w ok qs ps vs As Bs → ArgsRep P w ok (q :: qs) (p :: ps) (v :: vs) (A :: As) (B :: Bs)
def handed : List (List (List Nat)) → List (List (List Nat)) → List Nat
  | A :: As, B :: Bs => A.flatten ++ (B.flatten ++ handed As Bs)
  | _, _ => []
def pool (As : List (List (List Nat))) : List Nat := As.flatten.flatten
section
variable {P : Program} {w w' : World} {ok ok' : Bool → Nat → Prop}
theorem RowCells.length {cs : List PV} {vs : List Value} {Fs : List (List Nat)} (h : RowCells P w ok cs vs Fs) : cs.length = vs.length ∧ Fs.length = cs.length := by
  induction h with
  | nil => exact ⟨rfl, rfl⟩
  | cons _ _ _ _ _ _ _ _ _ ih => simp [ih.1, ih.2]
theorem RowCells.get {cs : List PV} {vs : List Value} {Fs : List (List Nat)} (h : RowCells P w ok cs vs Fs) : ∀ {j : Nat} {c : PV}, cs[j]? = some c → ∃ v F, vs[j]? = some v ∧ Fs[j]? = some F ∧ Rep P w ok c v F ∧ ∀ ds, c ≠ .agg ds := by
  induction h with
  | nil => intro j c h; simp at h
  | cons c v F cs vs Fs h0 h1 _ ih =>
    intro j c' hj
    cases j with
    | zero => simp at hj; subst hj; exact ⟨v, F, rfl, rfl, h1, h0⟩
    | succ j => simpa using ih (by simpa using hj)
theorem RowCells.toL {cs : List PV} {vs : List Value} {Fs : List (List Nat)} (h : RowCells P w ok cs vs Fs) : RepL P w ok cs vs Fs.flatten := by
  induction h with
  | nil => exact .nil
  | cons c v F cs vs Fs h0 h1 _ ih => exact .cons _ _ _ _ _ _ h0 h1 ih
theorem RepL.rowCells {cs : List PV} : ∀ {vs : List Value} {F : List Nat}, RepL P w ok cs vs F → ∃ Fs, F = Fs.flatten ∧ RowCells P w ok cs vs Fs := by
  induction cs with
  | nil => intro vs F h; cases h; exact ⟨[], rfl, .nil⟩
  | cons c cs ih =>
    intro vs F h
    cases h with
    | cons c v F cs vs G h0 h1 h2 =>
      obtain ⟨Fs, rfl, h3⟩ := ih h2
      exact ⟨F :: Fs, rfl, .cons _ _ _ _ _ _ h0 h1 h3⟩
theorem RowCells.frame (hk : ∀ i b, ok i b → b < w.heap.size → ok' i b) (hs : w.heap.size ≤ w'.heap.size) (ho : ∀ i b, ok i b → b < w.heap.size → w'.heap[b]? = w.heap[b]?) {cs : List PV} {vs : List Value} {Fs : List (List Nat)} (h : RowCells P w ok cs vs Fs) (hF : ∀ b ∈ Fs.flatten, w'.heap[b]? = w.heap[b]?) : RowCells P w' ok' cs vs Fs := by
  induction h with
  | nil => exact .nil
  | cons c v F cs vs Fs h0 h1 _ ih => exact .cons _ _ _ _ _ _ h0 (h1.frame hk hs ho (fun b hb => hF b (by simp [hb]))) (ih (fun b hb => hF b (by rw [List.flatten_cons]; exact List.mem_append_right _ hb)))
theorem ArgsRep.get {qs : List Pm} {ps : List PV} {vs : List Value} {As Bs : List (List (List Nat))} (h : ArgsRep P w ok qs ps vs As Bs) : ∀ {i : Nat} {q : Pm}, qs[i]? = some q → ∃ p v A B, ps[i]? = some p ∧ vs[i]? = some v ∧ As[i]? = some A ∧ Bs[i]? = some B ∧ ArgRep P w ok q p v A B := by
  induction h with
  | nil => intro i q h; simp at h
  | cons q p v A B qs ps vs As Bs h1 _ ih =>
    intro i q' hi
    cases i with
    | zero => simp at hi; subst hi; exact ⟨p, v, A, B, rfl, rfl, rfl, rfl, h1⟩
    | succ i => simpa using ih (by simpa using hi)
theorem ArgsRep.length {qs : List Pm} {ps : List PV} {vs : List Value} {As Bs : List (List (List Nat))} (h : ArgsRep P w ok qs ps vs As Bs) : ps.length = qs.length ∧ vs.length = qs.length ∧ As.length = qs.length ∧ Bs.length = qs.length := by
  induction h with
  | nil => exact ⟨rfl, rfl, rfl, rfl⟩
  | cons _ _ _ _ _ _ _ _ _ _ _ _ ih => simp [ih]
end
/-! ### Labels at the beginning -/
def cellTags (f : Nat → Own) : Nat → List (List Nat) → List (Own × List Nat)
  | _, [] => []
  | j, F :: Fs => (f j, F) :: cellTags f (j + 1) Fs
def tagsOf (i : Nat) : Pm → List (List Nat) → List (List Nat) → List (Own × List Nat)
  | .io _, a :: Fs, _ => (.b i, a) :: cellTags (fun j => .r (.c i j)) 0 Fs
  | .own, Fs, _ => Fs.map fun F => (.r (.v i), F)
  | .row, _, Fs => Fs.map fun F => (.r (.v i), F)
  | .rows _, _, Fs => cellTags (fun j => .r (.v (rowVar i j))) 0 Fs
  | _, _, _ => []
def tagsAll : Nat → List Pm → List (List (List Nat)) → List (List (List Nat)) → List (Own × List Nat)
  | i, q :: qs, A :: As, B :: Bs => tagsOf i q A B ++ tagsAll (i + 1) qs As Bs
  | _, _, _, _ => []
def blocksOf (T : List (Own × List Nat)) : List Nat := (T.map (·.2)).flatten
def gamma0 (T : List (Own × List Nat)) (b : Nat) : Option Own := (T.find? fun x => x.2.contains b).map (·.1)
theorem gamma0_in {T : List (Own × List Nat)} (hn : (blocksOf T).Nodup) {o : Own} {F : List Nat} {b : Nat} (h : (o, F) ∈ T) (hb : b ∈ F) : gamma0 T b = some o := by
  induction T with
  | nil => simp at h
  | cons x T ih =>
    simp only [blocksOf, List.map_cons, List.flatten_cons] at hn
    obtain ⟨_, n2, n3⟩ := List.nodup_append.1 hn
    unfold gamma0
    rw [List.find?_cons]
    rcases List.mem_cons.1 h with h | h
    · subst h
      simp [hb]
    · have : (x.2.contains b) = false := by
        rw [Bool.eq_false_iff]
        intro hc
        exact n3 b (by simpa using hc) b (List.mem_flatten.2 ⟨F, List.mem_map.2 ⟨_, h, rfl⟩, hb⟩) rfl
      simp only [this]
      exact ih n2 h
theorem gamma0_some {T : List (Own × List Nat)} {o : Own} {b : Nat} (h : gamma0 T b = some o) : ∃ F, (o, F) ∈ T ∧ b ∈ F := by
  unfold gamma0 at h
  obtain ⟨x, h1, h2⟩ := Option.map_eq_some_iff.1 h
  have h3 := List.find?_some h1
  subst h2
  exact ⟨x.2, List.mem_of_find?_eq_some h1, by simpa using h3⟩
theorem cellTags_blocks {f : Nat → Own} : ∀ {Fs : List (List Nat)} {j : Nat}, blocksOf (cellTags f j Fs) = Fs.flatten
  | [], _ => rfl
  | F :: Fs, j => by simp only [cellTags, blocksOf, List.map_cons, List.flatten_cons]; congr 1; exact cellTags_blocks
theorem cellTags_get {f : Nat → Own} : ∀ {Fs : List (List Nat)} {j k : Nat} {F : List Nat}, Fs[k]? = some F → (f (j + k), F) ∈ cellTags f j Fs
  | F :: Fs, j, 0, F', h => by simp at h; subst h; simp [cellTags]
  | F :: Fs, j, k + 1, F', h => by
    have := cellTags_get (f := f) (j := j + 1) (by simpa using h : Fs[k]? = some F')
    rw [show j + 1 + k = j + (k + 1) by omega] at this
    exact List.mem_cons_of_mem _ this
theorem tagsAll_get {q : Pm} {A B : List (List Nat)} : ∀ {qs : List Pm} {As Bs : List (List (List Nat))} {i k : Nat}, qs[k]? = some q → As[k]? = some A → Bs[k]? = some B → ∀ x ∈ tagsOf (i + k) q A B, x ∈ tagsAll i qs As Bs
  | q' :: qs, A' :: As, B' :: Bs, i, 0, h1, h2, h3, x, hx => by
    simp at h1 h2 h3; subst h1; subst h2; subst h3
    exact List.mem_append_left _ hx
  | q' :: qs, A' :: As, B' :: Bs, i, k + 1, h1, h2, h3, x, hx => by
    refine List.mem_append_right _ (tagsAll_get (i := i + 1) (k := k) (by simpa using h1) (by simpa using h2) (by simpa using h3) x ?_)
    rw [show i + 1 + k = i + (k + 1) by omega]; exact hx
  | [], _, _, _, _, h1, _, _, _, _ => by simp at h1
  | _ :: _, [], _, _, _, _, h2, _, _, _ => by simp at h2
  | _ :: _, _ :: _, [], _, _, _, _, h3, _, _ => by simp at h3
section
variable {P : Program} {w w' : World} {ok ok' : Bool → Nat → Prop}
theorem tags_blocks {qs : List Pm} {ps : List PV} {vs : List Value} {As Bs : List (List (List Nat))} (h : ArgsRep P w ok qs ps vs As Bs) : ∀ i, blocksOf (tagsAll i qs As Bs) = handed As Bs := by
  induction h with
  | nil => intro i; rfl
  | cons q p v A B qs ps vs As Bs h1 _ ih =>
    intro i
    have e : blocksOf (tagsOf i q A B) = A.flatten ++ B.flatten := by
      cases h1 with
      | val _ _ _ => rfl
      | own _ _ F _ _ => simp [tagsOf, blocksOf]
      | row _ _ F _ _ => simp [tagsOf, blocksOf]
      | rows n cs vs Fs _ _ => simp only [tagsOf]; rw [cellTags_blocks]; simp
      | io n cs vs Fs b off arr ty _ _ _ _ _ =>
        have := cellTags_blocks (f := fun j => .r (.c i j)) (Fs := Fs) (j := 0)
        unfold blocksOf at this
        simp only [tagsOf, blocksOf, List.map_cons, List.flatten_cons, List.flatten_nil, List.append_nil]
        rw [this]
    simp only [tagsAll, handed]
    have : blocksOf (tagsOf i q A B ++ tagsAll (i + 1) qs As Bs) = blocksOf (tagsOf i q A B) ++ blocksOf (tagsAll (i + 1) qs As Bs) := by simp [blocksOf]
    rw [this, e, ih (i + 1), List.append_assoc]
end
/-! ### The state at the beginning -/
def tAt (i : Nat) : Pm → PV → AV
  | .val, p => ofPV p
  | .io _, _ => .ptr i 0 0
  | .row, _ => .rw ⟨.v i, 0, 0, []⟩
  | .own, _ => .rw ⟨.v i, 0, 0, []⟩
  | .rows _, .agg cs => .agg (rowCells i 0 cs)
  | .rows _, _ => .undef
def bAt : Pm → PV → Option (List AV)
  | .io _, .ref cs => some (cs.map .pv)
  | _, _ => none
def rAt (i : Nat) : Pm → PV → Nat → Option PV
  | .row, p, t => if t = i then some p else none
  | .own, p, t => if t = i then some p else none
  | .rows _, .agg cs, t => if rowVar i 0 ≤ t then (match cs[t - rowVar i 0]? with
    | some c => if ownP c then some c else none
    | none => none) else none
  | _, _, _ => none
def rFind : Nat → List Pm → List PV → Nat → Option PV
  | i, q :: qs, p :: ps, t => match rFind (i + 1) qs ps t with
    | some x => some x
    | none => rAt i q p t
  | _, _, _, _ => none
theorem rowMem_at {i : Nat} : ∀ {cs : List PV} {j : Nat} {r : Nat → Option PV} {t : Nat}, rowMem i j cs r t = if rowVar i j ≤ t then (match cs[t - rowVar i j]? with
    | some c => if ownP c then some c else r t
    | none => r t) else r t
  | [], j, r, t => by simp [rowMem]
  | c :: cs, j, r, t => by
    rw [rowMem, rowMem_at]
    by_cases h1 : rowVar i j ≤ t
    · rw [if_pos h1]
      by_cases h2 : rowVar i (j + 1) ≤ t
      · rw [if_pos h2]
        have e : t - rowVar i j = (t - rowVar i (j + 1)) + 1 := by simp only [rowVar] at h1 h2 ⊢; omega
        rw [e, List.getElem?_cons_succ]
        have hr : (if ownP c then upd r (rowVar i j) (some c) else r) t = r t := by
          split
          · exact upd_ne _ _ _ _ (by simp only [rowVar] at h2 ⊢; omega)
          · rfl
        rw [hr]
      · rw [if_neg h2]
        have e : t = rowVar i j := by simp only [rowVar] at h1 h2 ⊢; omega
        subst e
        simp only [Nat.sub_self, List.getElem?_cons_zero]
        split
        · rw [upd_same]
        · rfl
    · rw [if_neg h1, if_neg (by simp only [rowVar] at h1 ⊢; omega)]
      split
      · exact upd_ne _ _ _ _ (by omega)
      · rfl
theorem enter_spec : ∀ {qs : List Pm} {ps : List PV} {i : Nat} {s s' : St}, enter i qs ps s = some s' →
    (∀ t, s'.t t = if i ≤ t then (match qs[t - i]?, ps[t - i]? with | some q, some p => tAt t q p | _, _ => s.t t) else s.t t) ∧
    (∀ o, s'.m.b o = if i ≤ o then (match qs[o - i]?, ps[o - i]? with | some q, some p => (match bAt q p with | some x => some x | none => s.m.b o) | _, _ => s.m.b o) else s.m.b o) ∧
    (∀ t, s'.m.r t = match rFind i qs ps t with | some p => some p | none => s.m.r t) ∧
    (s'.m.kb = s.m.kb ∧ s'.m.kr = s.m.kr ∧ s'.m.kn = s.m.kn ∧ s'.m.mp = s.m.mp)
  | [], [], i, s, s', h => by
    simp only [enter, Option.some.injEq] at h
    subst h
    refine ⟨fun t => ?_, fun o => ?_, fun t => ?_, rfl, rfl, rfl, rfl⟩
    · simp
    · simp
    · simp [rFind]
  | q :: qs, p :: ps, i, s, s', h => by
    have hs1 : ∃ s1, enter (i + 1) qs ps s1 = some s' ∧ s1.t = upd s.t i (tAt i q p) ∧ (∀ o, s1.m.b o = if o = i then (match bAt q p with | some x => some x | none => s.m.b o) else s.m.b o) ∧ (∀ t, s1.m.r t = match rAt i q p t with | some p => some p | none => s.m.r t) ∧ (s1.m.kb = s.m.kb ∧ s1.m.kr = s.m.kr ∧ s1.m.kn = s.m.kn ∧ s1.m.mp = s.m.mp) := by
      cases q with
      | val =>
        simp only [enter] at h
        exact ⟨_, h, rfl, fun o => by simp [bAt], fun t => by simp [rAt], rfl, rfl, rfl, rfl⟩
      | io n =>
        cases p <;> simp only [enter, reduceCtorEq] at h
        split at h
        · refine ⟨_, h, rfl, fun o => ?_, fun t => by simp [rAt], rfl, rfl, rfl, rfl⟩
          simp only [upd, bAt]
        · cases h
      | row =>
        simp only [enter] at h
        split at h
        · refine ⟨_, h, rfl, fun o => by simp [bAt], fun t => ?_, rfl, rfl, rfl, rfl⟩
          simp only [upd, rAt]
          split <;> rfl
        · cases h
      | own =>
        simp only [enter] at h
        split at h
        · refine ⟨_, h, rfl, fun o => by simp [bAt], fun t => ?_, rfl, rfl, rfl, rfl⟩
          simp only [upd, rAt]
          split <;> rfl
        · cases h
      | rows n =>
        cases p <;> simp only [enter, reduceCtorEq] at h
        split at h
        · refine ⟨_, h, rfl, fun o => by simp [bAt], fun t => ?_, rfl, rfl, rfl, rfl⟩
          simp only [rowMem_at, rAt]
          split
          · split
            · split <;> rfl
            · rfl
          · rfl
        · cases h
    obtain ⟨s1, h1, h2, h3, h4, h5, h6, h7, h8⟩ := hs1
    obtain ⟨k1, k2, k3, k4, k5, k6, k7⟩ := enter_spec h1
    have idx : ∀ {α : Type} (l : List α) (x : α) (t : Nat), i + 1 ≤ t → (x :: l)[t - i]? = l[t - (i + 1)]? := fun l x t ht => by
      rw [show t - i = (t - (i + 1)) + 1 by omega, List.getElem?_cons_succ]
    refine ⟨fun t => ?_, fun o => ?_, fun t => ?_, k4.trans h5, k5.trans h6, k6.trans h7, k7.trans h8⟩
    · rw [k1 t, h2]
      by_cases a : i + 1 ≤ t
      · rw [if_pos a, if_pos (by omega), idx _ _ _ a, idx _ _ _ a, upd_ne _ _ _ _ (by omega)]
      · rw [if_neg a]
        by_cases b : t = i
        · subst b; simp [upd]
        · rw [if_neg (by omega), upd_ne _ _ _ _ b]
    · rw [k2 o]
      by_cases a : i + 1 ≤ o
      · rw [if_pos a, if_pos (by omega), idx _ _ _ a, idx _ _ _ a, h3, if_neg (by omega)]
      · rw [if_neg a, h3]
        by_cases b : o = i
        · subst b; simp
        · rw [if_neg b, if_neg (by omega)]
    · rw [k3 t, h4]
      simp only [rFind]
      cases rFind (i + 1) qs ps t <;> rfl
  | [], _ :: _, i, s, s', h => by simp [enter] at h
  | q :: qs, [], i, s, s', h => by cases q <;> simp [enter] at h
theorem rFind_some : ∀ {qs : List Pm} {ps : List PV} {i t : Nat} {p : PV}, rFind i qs ps t = some p → ∃ k q p0, qs[k]? = some q ∧ ps[k]? = some p0 ∧ rAt (i + k) q p0 t = some p
  | q :: qs, p0 :: ps, i, t, p, h => by
    simp only [rFind] at h
    split at h
    · rename_i x hx
      simp only [Option.some.injEq] at h
      subst h
      obtain ⟨k, q', p', h1, h2, h3⟩ := rFind_some hx
      exact ⟨k + 1, q', p', by simpa using h1, by simpa using h2, by rw [show i + (k + 1) = i + 1 + k by omega]; exact h3⟩
    · exact ⟨0, q, p0, rfl, rfl, h⟩
  | [], _, _, _, _, h => by simp [rFind] at h
  | _ :: _, [], _, _, _, h => by simp [rFind] at h
theorem rAt_at {i t : Nat} {q : Pm} {p x : PV} (h : rAt i q p t = some x) : ((q = .row ∨ q = .own) ∧ t = i ∧ x = p) ∨ ∃ (n : List Bool) (cs : List PV) (j : Nat), q = .rows n ∧ p = .agg cs ∧ t = rowVar i j ∧ cs[j]? = some x ∧ ownP x = true := by
  cases q with
  | row => simp only [rAt] at h; split at h; · simp only [Option.some.injEq] at h; exact .inl ⟨.inl rfl, ‹_›, h.symm⟩
           · cases h
  | own => simp only [rAt] at h; split at h; · simp only [Option.some.injEq] at h; exact .inl ⟨.inr rfl, ‹_›, h.symm⟩
           · cases h
  | rows n =>
    cases p <;> simp only [rAt, reduceCtorEq] at h
    rename_i cs
    split at h
    · split at h
      · rename_i hle c hc
        split at h
        · rename_i ho
          simp only [Option.some.injEq] at h
          subst h
          exact .inr ⟨n, cs, t - rowVar i 0, rfl, rfl, by have hle := ‹rowVar i 0 ≤ t›; simp only [rowVar] at hle ⊢; omega, hc, ho⟩
        · cases h
      · cases h
    · cases h
  | val => simp [rAt] at h
  | io n => simp [rAt] at h
end Go.Proofs.YtdbcnnehfbcldaaDoor.Pv
