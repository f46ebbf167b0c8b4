/- A plain reading of Go code and its soundness, part 26. No condition. -/
import Derived.Test.YtdbcnnehfbcldaaDoorV25
set_option linter.all false
set_option linter.unusedSimpArgs false
set_option linter.unusedVariables false
set_option linter.unnecessarySimpa false
/- What comes back behind pointers; a call, whole. No condition. -/
namespace Go.Proofs.YtdbcnnehfbcldaaDoor.Pv
open Go
section
variable {P : Program} {ar : Nat → Nat} {N : Nat} {E : Entry} {G G' : Gh} {s : St} {a : Act} {w w' : World} {m m' m2 : Mem} {t' : Nat → AV} {Q : Nat → Prop}
structure Jt where
  o : Nat
  c : Nat
  n : Nat
  ps : List PV
  us : List Value
  F : List Nat
  arr : Array Value
  arr' : Array Value
  ty : TypeId
def wrJts (m : Mem) : List Jt → Mem
  | [] => m
  | j :: js => wrJts (m.setCells j.o j.c (j.ps.map .pv)) js
structure JtOk (P : Program) (w w' : World) (G1 : Gh) (m1 : Mem) (ok : Bool → Nat → Prop) (j : Jt) : Prop where
  len : j.ps.length = j.n
  rep : RepL P w' ok j.ps j.us j.F
  old : w.heap[(G1.β j.o).1]? = some (.cells j.arr j.ty (0, 0))
  new : w'.heap[(G1.β j.o).1]? = some (.cells j.arr' j.ty (0, 0))
  size : j.arr'.size = j.arr.size
  fit : (G1.β j.o).2 + j.c + j.n ≤ j.arr.size
  out : ∀ k, (k < (G1.β j.o).2 + j.c ∨ (G1.β j.o).2 + j.c + j.n ≤ k) → j.arr'[k]? = j.arr[k]?
  inn : ∀ k u, j.us[k]? = some u → j.arr'[(G1.β j.o).2 + j.c + k]? = some u
  lab : G1.γ (G1.β j.o).1 = some (.b j.o)
  box : ∃ cs0, m1.b j.o = some cs0 ∧ j.c + j.n ≤ cs0.length
def jtB (G1 : Gh) (js : List Jt) : List Nat := js.map fun j => (G1.β j.o).1
def jtF (js : List Jt) : List Nat := js.flatMap Jt.F
def jtC (G1 : Gh) (js : List Jt) : List Nat := js.flatMap fun j => (G1.β j.o).1 :: j.F
theorem ios_items {w0 : World} {G1 : Gh} {m1 : Mem} {ok : Bool → Nat → Prop} {qs : List Pm} {as : List AV} {ps : List PV} {vs : List Value} {As Bs : List (List (List Nat))} {I Os : List Nat} {Rs : List Root} (h : CallArgs P G1 w0 m1 qs as ps vs As Bs I Os Rs) :
    ∀ {outs : List PV} {Cs : List (List Nat)} {Ds : List (List (List Nat))} {mk mr : Mem}, OutsRep P w0 w' ok Q qs vs Bs outs Cs Ds → iosOut mk qs as outs = some mr →
    ∃ js, mr = wrJts mk js ∧ (∀ j ∈ js, JtOk P w0 w' G1 m1 ok j) ∧ js.map (·.o) = Os ∧ Cs.flatten = jtC G1 js := by
  induction h with
  | nil =>
    intro outs Cs Ds mk mr ho hc
    cases ho
    simp only [iosOut, Option.some.injEq] at hc
    subst hc
    exact ⟨[], rfl, by simp, rfl, rfl⟩
  | val a p v qs as ps vs As Bs I Os Rs _ ih =>
    intro outs Cs Ds mk mr ho hc
    cases ho with
    | skip _ _ _ _ _ _ _ _ _ _ ho =>
      simp only [iosOut] at hc
      obtain ⟨js, i1, i2, i3, i4⟩ := ih ho hc
      exact ⟨js, i1, i2, i3, by simpa using i4⟩
    | out _ _ _ _ _ _ _ _ _ _ _ _ hx _ => cases hx
  | own a p v F qs as ps vs As Bs I Os Rs hp _ ih =>
    intro outs Cs Ds mk mr ho hc
    cases ho with
    | skip _ _ _ _ _ _ _ _ _ _ ho =>
      simp only [iosOut] at hc
      obtain ⟨js, i1, i2, i3, i4⟩ := ih ho hc
      exact ⟨js, i1, i2, i3, by simpa using i4⟩
    | out _ _ _ _ _ _ _ _ _ _ _ _ hx _ => cases hx
  | io n o k c cs us Fs arr ty qs as ps vs As Bs I Os Rs hk hcl hrc hw hs hcl2 hb hlab _ ih =>
    intro outs Cs Ds mk mr ho hc
    cases ho with
    | skip _ _ _ _ _ _ _ _ _ hq _ => rcases hq with hq | hq <;> cases hq
    | out _ _ _ _ _ _ _ _ _ outs2 _ _ hx ho =>
      cases hx with
      | io _ cs2 us2 F b0 off arr2 arr' ty2 g1 g2 g3 g4 g5 g6 g7 g8 =>
        have hc' : iosOut (mk.setCells o c (cs2.map .pv)) qs as outs2 = some mr := by simpa [iosOut, g1] using hc
        obtain ⟨js, i1, i2, i3, i4⟩ := ih ho hc'
        refine ⟨⟨o, c, n, cs2, us2, F, arr2, arr', ty2⟩ :: js, i1, fun j hj => ?_, by simp [i3], by simp [jtC, i4]⟩
        rcases List.mem_cons.1 hj with rfl | hj
        · exact ⟨g1, g2, g3, g4, g5, g6, g7, g8, hlab, hb⟩
        · exact i2 j hj
  | row a p v F R qs as ps vs As Bs I Os Rs hcell _ ih =>
    intro outs Cs Ds mk mr ho hc
    cases ho with
    | skip _ _ _ _ _ _ _ _ _ hq _ => rcases hq with hq | hq <;> cases hq
    | out _ _ _ _ _ _ _ _ _ _ _ _ hx ho =>
      cases hx with
      | row q _ _ F' _ g1 g2 =>
        simp only [iosOut] at hc
        obtain ⟨js, i1, i2, i3, i4⟩ := ih ho hc
        exact ⟨js, i1, i2, i3, by simpa using i4⟩
  | rows ks cs qs0 us Fs R0 qs as ps vs As Bs I Os Rs hmask hcell _ ih =>
    intro outs Cs Ds mk mr ho hc
    generalize hv : Value.agg us.toArray = vv at ho
    cases ho with
    | skip _ _ _ _ _ _ _ _ _ hq _ => rcases hq with hq | hq <;> cases hq
    | out _ _ _ _ _ _ _ _ _ _ _ _ hx ho =>
      cases hx with
      | rows _ qs2 us2 _ Fs' hro =>
        simp only [iosOut] at hc
        obtain ⟨js, i1, i2, i3, i4⟩ := ih ho hc
        exact ⟨js, i1, i2, i3, by simpa using i4⟩
theorem putCells_eq {arr arr' : Array Value} {k n : Nat} {us : List Value} (hl : us.length = n) (hs : arr'.size = arr.size) (hf : k + n ≤ arr.size) (ho : ∀ j, (j < k ∨ k + n ≤ j) → arr'[j]? = arr[j]?) (hi : ∀ j u, us[j]? = some u → arr'[k + j]? = some u) : arr' = putCells arr k us := by
  apply Array.ext'
  apply List.ext_getElem?
  intro j
  have e1 : ∀ (x : Array Value), x.toList[j]? = x[j]? := fun x => by simp
  rw [e1, e1]
  by_cases h1 : j < k ∨ k + n ≤ j
  · rw [ho j h1, putCells_out (by omega) (by omega)]
  · have h2 : j - k < us.length := by omega
    have := putCells_in (arr := arr) (k := k) (j := j - k) (vs := us) (by omega) h2
    rw [show k + (j - k) = j by omega] at this
    rw [this, List.getElem?_eq_getElem h2]
    have := hi (j - k) _ (List.getElem?_eq_getElem h2)
    rwa [show k + (j - k) = j by omega] at this
theorem setCells_kb (ob c : Nat) (as : List AV) : (m.setCells ob c as).kb = m.kb := by
  unfold Mem.setCells; split <;> rfl
theorem setCells_boxes (ob c : Nat) (as : List AV) (o : Nat) (cs : List AV) (hf : ∀ cs0, m.b ob = some cs0 → c + as.length ≤ cs0.length) (h : m.b o = some cs) : ∃ cs', (m.setCells ob c as).b o = some cs' ∧ cs'.length = cs.length := by
  unfold Mem.setCells
  split
  · rename_i cs0 hcs0
    by_cases e : o = ob
    · subst e
      rw [h] at hcs0
      obtain rfl := Option.some.inj hcs0
      refine ⟨_, upd_same _ _ _, ?_⟩
      have := hf cs h
      simp only [List.length_append, List.length_take, List.length_drop]; omega
    · exact ⟨cs, by simp only [upd_ne _ _ _ _ e]; exact h, rfl⟩
  · exact ⟨cs, h, rfl⟩
theorem ios_back {G1 G2 : Gh} {m1 : Mem} (hsz : w.heap.size ≤ w'.heap.size) : ∀ {js : List Jt} {Gk : Gh} {mk : Mem}, Sim P ar N E Gk ⟨t', mk⟩ a (revert w w' (jtB G1 js)) → (∀ i b, G2.ok i b → Gk.ok i b) → (∀ j ∈ js, JtOk P w w' G1 m1 G2.ok j) → (∀ j ∈ js, Gk.β j.o = G1.β j.o ∧ ∃ cs0, mk.b j.o = some cs0 ∧ j.c + j.n ≤ cs0.length) →
    (jtB G1 js).Nodup → (∀ b ∈ jtB G1 js, Gk.γ b ≠ none ∧ Gk.γ b ≠ some .x ∧ b < w.heap.size) → (jtF js).Nodup → (∀ b ∈ jtF js, Gk.γ b = some .x) →
    ∃ G', Sim P ar N E G' ⟨t', wrJts mk js⟩ a w' ∧ (∀ b, ¬ b ∈ jtF js → G'.γ b = Gk.γ b) ∧ ∀ i b, G2.ok i b → G'.ok i b := by
  intro js
  induction js with
  | nil =>
    intro Gk mk h hok hj hb hB hBl hF hFx
    have e : jtB G1 [] = [] := rfl
    rw [e, revert_nil] at h
    exact ⟨Gk, h, fun _ _ => rfl, hok⟩
  | cons j js ih =>
    intro Gk mk h hok hj hb hB hBl hF hFx
    have k := hj j List.mem_cons_self
    obtain ⟨hbeta, cs0, hcs0, hfit⟩ := hb j List.mem_cons_self
    have e1 : jtB G1 (j :: js) = (G1.β j.o).1 :: jtB G1 js := rfl
    rw [e1] at h hB hBl
    have hB' := List.nodup_cons.1 hB
    have hF1 : (j.F ++ jtF js).Nodup := by simpa [jtF] using hF
    obtain ⟨n1, n2, n3⟩ := List.nodup_append.1 hF1
    have hFx' : ∀ b, b ∈ j.F ∨ b ∈ jtF js → Gk.γ b = some .x := fun b hb => hFx b (by simpa [jtF] using hb)
    have hlu : j.us.length = j.n := by rw [← k.rep.length]; exact k.len
    have hrL : RepL P (revert w w' ((G1.β j.o).1 :: jtB G1 js)) Gk.ok j.ps j.us j.F := k.rep.frame (fun i b hb _ => hok i b hb) (by rw [revert_size]; exact Nat.le_refl _)
      (fun i b hb _ => revert_out fun hm => (hBl b hm).1 (hok i b hb).1) (fun b hb => revert_out fun hm => (hBl b hm).2.1 (hFx' b (.inl hb)))
    obtain ⟨G', g1, g2, g3⟩ := h.setCellsW (ob := j.o) (c := j.c) (as := j.ps.map .pv) (vs := j.us) (F := j.F) (arr := j.arr) (ty := j.ty) (W := revert w w' (jtB G1 js)) hcs0 (by rw [List.length_map, k.len]; exact hfit) (by
        rw [hbeta, revert_in (by simp) (hBl _ (by simp)).2.2 hsz]; exact k.old) hrL.toA n1 (fun b hb => hFx' b (.inl hb)) (by
        rw [hbeta, revert_out hB'.1, k.new]
        congr 2
        exact putCells_eq hlu k.size k.fit k.out k.inn) (fun b hb => by
        rw [hbeta] at hb
        by_cases hm : b ∈ jtB G1 js
        · rw [revert_in hm (hBl b (by simp [hm])).2.2 hsz, revert_in (by simp [hm]) (hBl b (by simp [hm])).2.2 hsz]
        · rw [revert_out hm, revert_out (by simp only [List.mem_cons, not_or]; exact ⟨hb, hm⟩)]) (by rw [revert_size, revert_size]) ⟨rfl, rfl, rfl⟩
    have hkeep : ∀ b, ¬ b ∈ j.F → G'.γ b = Gk.γ b := g3
    have hnF : ∀ b ∈ jtB G1 js, ¬ b ∈ j.F := fun b hb hm => (hBl b (by simp [hb])).2.1 (hFx' b (.inl hm))
    have hok' : ∀ i b, G2.ok i b → G'.ok i b := fun i b hb => by
      have h1 := hok i b hb
      refine ⟨?_, (by rw [g1.ent]; exact h1.2)⟩
      rw [hkeep b (fun hm => (by have := hFx' b (.inl hm); rw [h1.1] at this; cases this))]
      exact h1.1
    obtain ⟨G'', c1, c2, c3⟩ := ih g2 hok' (fun j2 h2 => hj j2 (List.mem_cons_of_mem _ h2)) (fun j2 h2 => by
        obtain ⟨b1, cs1, b2, b3⟩ := hb j2 (List.mem_cons_of_mem _ h2)
        obtain ⟨cs2, b4, b5⟩ := setCells_boxes j.o j.c (j.ps.map .pv) j2.o cs1 (fun cs hcs => by rw [hcs0] at hcs; obtain rfl := Option.some.inj hcs; rw [List.length_map, k.len]; exact hfit) b2
        exact ⟨(g1.beta _ (by rw [setCells_kb])).trans b1, cs2, b4, by omega⟩) hB'.2 (fun b hb => by
        rw [hkeep b (hnF b hb)]
        exact hBl b (by simp [hb])) n2 (fun b hb => by
        rw [hkeep b (fun hm => n3 b hm b hb rfl)]
        exact hFx' b (.inr hb))
    refine ⟨G'', c1, fun b hb => ?_, c3⟩
    have hb' : ¬ b ∈ j.F ∧ ¬ b ∈ jtF js := by simpa [jtF] using hb
    rw [c2 b hb'.2, hkeep b hb'.1]
/-! ### What is shared behind a call -/
def Keeps (ta tp : Bool) (p : PV) : Prop := (ta = true → p.allOwn = true) ∧ (tp = true → p.noRef = true)
theorem Rep.keeps {ta tp : Bool} {ok1 ok2 : Bool → Nat → Prop} (h0 : ta = false → ∀ b, b < w.heap.size → ok1 false b → ok2 false b) (h1 : ta = false → tp = false → ∀ i b, b < w.heap.size → ok1 i b → ok2 i b) {p : PV} {v : Value} {F : List Nat} (hk : Keeps ta tp p) (h : Rep P w ok1 p v F) : Rep P w ok2 p v F := by
  cases ta with
  | true => exact h.reown (hk.1 rfl)
  | false =>
    cases tp with
    | true => exact h.reflat (h0 rfl) (hk.2 rfl)
    | false => exact h.frame (fun i b hb hl => h1 rfl rfl i b hl hb) (Nat.le_refl _) (fun _ _ _ _ => rfl) (fun _ _ => rfl)
theorem RepL.keeps {ta tp : Bool} {ok1 ok2 : Bool → Nat → Prop} (h0 : ta = false → ∀ b, b < w.heap.size → ok1 false b → ok2 false b) (h1 : ta = false → tp = false → ∀ i b, b < w.heap.size → ok1 i b → ok2 i b) {ps : List PV} {vs : List Value} {F : List Nat} (hk1 : ta = true → allOwnL ps = true) (hk2 : tp = true → noRefL ps = true) (h : RepL P w ok1 ps vs F) : RepL P w ok2 ps vs F := by
  cases ta with
  | true => exact RepL.reown h (hk1 rfl)
  | false =>
    cases tp with
    | true => exact RepL.reflat (h0 rfl) h (hk2 rfl)
    | false => exact h.frame (fun i b hb hl => h1 rfl rfl i b hl hb) (Nat.le_refl _) (fun _ _ _ _ => rfl) (fun _ _ => rfl)
theorem RepRs.keeps {ta tp : Bool} {ok1 ok2 : Bool → Nat → Prop} (h0 : ta = false → ∀ b, b < w.heap.size → ok1 false b → ok2 false b) (h1 : ta = false → tp = false → ∀ i b, b < w.heap.size → ok1 i b → ok2 i b) {ps : List PV} {vs : List Value} {F : List Nat} (h : RepRs P w ok1 ps vs F) (hk1 : ta = true → allOwnL ps = true) (hk2 : tp = true → noRefL ps = true) : RepRs P w ok2 ps vs F := by
  induction h with
  | nil => exact .nil
  | cons r v F rs vs G hr _ ih =>
    simp only [allOwnL, noRefL, Bool.and_eq_true] at hk1 hk2
    exact .cons _ _ _ _ _ _ (hr.keeps h0 h1 ⟨fun h => (hk1 h).1, fun h => (hk2 h).1⟩) (ih (fun h => (hk1 h).2) (fun h => (hk2 h).2))
theorem RowOuts.keeps {ta tp : Bool} {ok1 ok2 : Bool → Nat → Prop} (h0 : ta = false → ∀ b, b < w.heap.size → ok1 false b → ok2 false b) (h1 : ta = false → tp = false → ∀ i b, b < w.heap.size → ok1 i b → ok2 i b) {ks : List Bool} {cs : List PV} {vs : List Value} {Fs Ds : List (List Nat)} (h : RowOuts P w ok1 Q ks cs vs Fs Ds)
    (hk1 : ta = true → ∀ c ∈ cs, c.allOwn = true ∨ ownP c = false) (hk2 : tp = true → noRefL cs = true) : RowOuts P w ok2 Q ks cs vs Fs Ds := by
  induction h with
  | nil => exact .nil
  | told c v F F' ks cs vs Fs Fs' ho hr hs _ ih =>
    simp only [noRefL, Bool.and_eq_true] at hk2
    refine .told _ _ _ _ _ _ _ _ _ ho (hr.keeps h0 h1 ⟨fun hta => (hk1 hta c List.mem_cons_self).resolve_right (by rw [ho]; simp), fun h => (hk2 h).1⟩) hs (ih (fun h c hc => hk1 h c (List.mem_cons_of_mem _ hc)) (fun h => (hk2 h).2))
  | untold c v F ks cs vs Fs Fs' _ ih =>
    simp only [noRefL, Bool.and_eq_true] at hk2
    exact .untold _ _ _ _ _ _ _ _ (ih (fun h c hc => hk1 h c (List.mem_cons_of_mem _ hc)) (fun h => (hk2 h).2))
theorem OutsRep.keeps {w0 : World} {ta tp : Bool} {ok1 ok2 : Bool → Nat → Prop} (h0 : ta = false → ∀ b, b < w.heap.size → ok1 false b → ok2 false b) (h1 : ta = false → tp = false → ∀ i b, b < w.heap.size → ok1 i b → ok2 i b) {qs : List Pm} {vs : List Value} {Bs : List (List (List Nat))} {outs : List PV} {Cs : List (List Nat)} {Ds : List (List (List Nat))} (h : OutsRep P w0 w ok1 Q qs vs Bs outs Cs Ds)
    (hk1 : ta = true → outOwn outs = true) (hk2 : tp = true → outNoRef outs = true) : OutsRep P w0 w ok2 Q qs vs Bs outs Cs Ds := by
  induction h with
  | nil => exact .nil
  | skip q v B qs vs Bs outs Cs Ds hq _ ih => exact .skip _ _ _ _ _ _ _ _ _ hq (ih hk1 hk2)
  | out q v B p C D qs vs Bs outs Cs Ds ho _ ih =>
    simp only [outOwn, outNoRef, Bool.and_eq_true] at hk1 hk2
    refine .out _ _ _ _ _ _ _ _ _ _ _ _ ?_ (ih (fun h => (hk1 h).2) (fun h => (hk2 h).2))
    cases ho with
    | row p v F F' hown hr hs =>
      refine .row _ _ _ _ hown (hr.keeps h0 h1 ⟨fun h => ?_, fun h => ?_⟩) hs
      · have := (hk1 h).1
        cases p <;> first | exact this | simp [ownP] at hown
      · have := (hk2 h).1
        cases p <;> first | exact this | simp [ownP] at hown
    | rows ks cs vs Fs Fs' hr =>
      refine .rows _ _ _ _ _ (hr.keeps h0 h1 (fun h c hc => ?_) (fun h => by have := (hk2 h).1; simpa [PV.noRef] using this))
      have := List.all_eq_true.1 (hk1 h).1 c hc
      simp only [Bool.or_eq_true, Bool.not_eq_true'] at this
      exact this.symm
    | io n cs vs F b off arr arr' ty g1 g2 g3 g4 g5 g6 g7 g8 => exact .io n cs vs F b off arr arr' ty g1 (RepL.keeps h0 h1 (fun h => (hk1 h).1) (fun h => (hk2 h).1) g2) g3 g4 g5 g6 g7 g8
end
end Go.Proofs.YtdbcnnehfbcldaaDoor.Pv
