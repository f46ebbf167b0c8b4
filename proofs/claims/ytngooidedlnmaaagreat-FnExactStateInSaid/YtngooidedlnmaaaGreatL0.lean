/- Generic shapes of loops. No condition. -/
import Derived.Test.YtngooidedlnmaaaGreatV44
import Derived.IntWalk
import Derived.Lib.Bytealg
set_option linter.all false
set_option linter.unusedSimpArgs false
set_option linter.unusedVariables false
set_option linter.unnecessarySimpa false
/- Loops, and the shapes of the helpers that a law's arguments and results go through. No condition. -/
namespace Go.Proofs.YtngooidedlnmaaaGreat.Pv
open Go
set_option maxRecDepth 10000
set_option linter.unusedSimpArgs false
theorem EX_for {C : Code} {V : List Nat} {L : List Nat} {b : PC} {n : Nat} (I : Nat → St → Prop) (P : Ex → St → Prop)
    (last : ∀ s, I n s → ∃ e s', EX C V b (forget L s) = some (e, s') ∧ e ≠ .normal ∧ P e s')
    (more : ∀ i s, i < n → I i s → (∃ s', EX C V b (forget L s) = some (.normal, s') ∧ I (i + 1) s') ∨ ∃ e s', EX C V b (forget L s) = some (e, s') ∧ e ≠ .normal ∧ P e s') :
    ∀ d i s, n - i = d → i ≤ n → I i s → ∃ e s', EX C V (.loop L b) s = some (e, s') ∧ P e s' := by
  have stop : ∀ s e s', EX C V b (forget L s) = some (e, s') → e ≠ .normal → EX C V (.loop L b) s = some (e, s') := by
    intro s e s' h hn
    rw [EX_loop, h]
    cases e <;> first | rfl | exact absurd rfl hn
  intro d
  induction d with
  | zero =>
    intro i s hd hi h
    obtain rfl : i = n := by omega
    obtain ⟨e, s', h1, h2, h3⟩ := last s h
    exact ⟨e, s', stop s e s' h1 h2, h3⟩
  | succ d ih =>
    intro i s hd hi h
    rcases more i s (by omega) h with ⟨s', h1, h2⟩ | ⟨e, s', h1, h2, h3⟩
    · rw [EX_loop, h1]
      exact ih (i + 1) s' (by omega) (by omega) h2
    · exact ⟨e, s', stop s e s' h1 h2, h3⟩
theorem EX_for0 {C : Code} {V : List Nat} {L : List Nat} {b : PC} {s : St} (n : Nat) (I : Nat → St → Prop) (P : Ex → St → Prop) (h0 : I 0 s)
    (last : ∀ s, I n s → ∃ e s', EX C V b (forget L s) = some (e, s') ∧ e ≠ .normal ∧ P e s')
    (more : ∀ i s, i < n → I i s → (∃ s', EX C V b (forget L s) = some (.normal, s') ∧ I (i + 1) s') ∨ ∃ e s', EX C V b (forget L s) = some (e, s') ∧ e ≠ .normal ∧ P e s') :
    ∃ e s', EX C V (.loop L b) s = some (e, s') ∧ P e s' := EX_for I P last more n 0 s rfl (Nat.zero_le _) h0
def calmL (cs : List PV) : Prop := ∀ c ∈ cs, c.own = false
theorem shareC_calm {cs : List PV} (h : calmL cs) : (cs.map AV.pv).map shareC = cs.map AV.pv := by
  rw [List.map_map]
  refine List.map_congr_left fun c hc => ?_
  simp [shareC, shareP, h c hc]
theorem toPVs_calm {cs : List PV} (h : calmL cs) (m : Mem) (n : Nat) : (cs.map AV.pv).mapM (toPV m (n + 1)) = some cs := by
  induction cs with
  | nil => rfl
  | cons c cs ih =>
    have e := h c (by simp)
    rw [List.map_cons, List.mapM_cons, ih fun d hd => h d (by simp [hd])]
    simp [e]
theorem tnt_calm {cs : List PV} (h : calmL cs) (m : Mem) (n : Nat) : (cs.map AV.pv).any (tnt m (n + 1)) = false := by
  simp only [List.any_map, List.any_eq_false]
  intro c hc
  simp [h c hc]
theorem tntP_calm {cs : List PV} (h : calmL cs) (n : Nat) : (cs.map AV.pv).any (tntP (n + 1)) = false := by
  simp only [List.any_map, List.any_eq_false]
  intro c hc
  simp [h c hc]
theorem pvs_map (cs : List PV) : pvs (cs.map AV.pv) = some cs := by
  induction cs with
  | nil => rfl
  | cons c cs ih => simp [ih]
theorem idxN {i n : Nat} (h : i < n) : idx (i : Int) n = some i := by simp [idx, h]
theorem put_get {α β : Type} {f : α → β} {ys : List α} {i : Nat} (hi : i < ys.length) {z : β} {r : Nat} (hr : 0 < r) : ((ys.take i).map f ++ List.replicate r z)[i]? = some z := by
  have h : ((ys.take i).map f).length = i := by simp; omega
  rw [List.getElem?_append_right (by omega), h, Nat.sub_self]
  cases r with
  | zero => omega
  | succ r => simp
theorem put_set {α β : Type} {f : α → β} {ys : List α} {i : Nat} (hi : i < ys.length) {z : β} {r : Nat} (hr : 0 < r) : ((ys.take i).map f ++ List.replicate r z).set i (f ys[i]) = (ys.take (i + 1)).map f ++ List.replicate (r - 1) z := by
  have h : ((ys.take i).map f).length = i := by simp; omega
  rw [List.set_append_right _ _ (by omega), h, Nat.sub_self]
  cases r with
  | zero => omega
  | succ r => rw [List.take_succ_eq_append_getElem hi, List.map_append]; simp [List.replicate_succ]
def toSB (e1 e2 : TypeId) (n : Nat) (g : FuncId) : PC := (.seq (.seq (.reg [⟨some 8, .mov (.t 4), none, 0⟩,
  ⟨some 9, .mov (.t 0), none, 0⟩,
  ⟨some 10, .len true (.t 9), none, 0⟩,
  ⟨some 11, .bin .lss 0 (.t 8) (.t 10), none, 0⟩]) (.cond (.t 11) .skip (.exit 0))) (.seq (.block 1 (.reg [⟨some 14, .mov (.t 3), none, 0⟩,
  ⟨some 15, .mov (.t 4), none, 0⟩,
  ⟨some 16, .mov (.t 0), none, 0⟩,
  ⟨some 17, .mov (.t 4), none, 0⟩,
  ⟨some 18, .idxa e1 (.t 16) (.t 17), none, 0⟩,
  ⟨some 19, .load n true (.t 18), none, 0⟩,
  ⟨some 20, .call g [.t 19], none, 0⟩,
  ⟨some 21, .idxa e2 (.t 14) (.t 15), none, 0⟩,
  ⟨none, .store n (.t 21) (.t 20), none, 0⟩])) (.reg [⟨some 12, .mov (.t 4), none, 0⟩,
  ⟨some 13, .bin .add 0 (.t 12) (.k (.int .i64 1)), none, 0⟩,
  ⟨some 4, .mov (.t 13), none, 0⟩])))
def toSL (e1 e2 : TypeId) (n : Nat) (g : FuncId) : PC := .loop [] (toSB e1 e2 n g)
def toSF (e1 e2 : TypeId) (n : Nat) (g : FuncId) (zs : List PV) (by_ : Nat) : PF := ⟨[.val], [0, 3, 4, 6], (.seq (.reg [⟨some 2, .mov (.k (.sl 2 e2 [])), none, 0⟩]) (.seq (.reg [⟨some 5, .mov (.t 0), none, 0⟩,
  ⟨some 6, .len true (.t 5), none, 0⟩,
  ⟨some 7, .mks e2 (.agg zs) by_ (.t 6), none, 0⟩,
  ⟨some 3, .mov (.t 7), none, 0⟩]) (.seq (.seq (.reg [⟨some 4, .mov (.k (.int .i64 0)), none, 0⟩]) (.block 0 (toSL e1 e2 n g))) (.seq (.reg [⟨some 22, .mov (.t 3), none, 0⟩,
  ⟨some 2, .mov (.t 22), none, 0⟩]) .ret)))),
  [(2, none)]⟩
theorem run_toS {C : Code} {fn g : FuncId} {e1 e2 : TypeId} {n by_ : Nat} {zs : List PV} (hp : C.prog fn = some (toSF e1 e2 n g zs by_)) (hm : C.modes g = [.val]) (hz : zs.length = n) {xs ys : List (List PV)} (hl : ys.length = xs.length) (hlen : xs.length * by_ ≤ 140737488355328) (hlen2 : xs.length ≤ 4611686018427387904)
    (hx : ∀ i (h : i < xs.length), (xs[i]).length = n ∧ calmL xs[i] ∧ (ys[i]'(hl ▸ h)).length = n ∧ RUN C g [.agg xs[i]] = some ([.agg (ys[i]'(hl ▸ h))], [])) :
    RUN C fn [.sl 0 e1 (xs.map PV.agg)] = some ([.sl 2 e2 (ys.map PV.agg)], []) := by
  rw [RUN_eq, hp]
  have hb2 : (xs.length : Int) * (by_ : Int) ≤ 140737488355328 := by rw [← Int.natCast_mul]; omega
  have hb3 : (xs.length : Int) ≤ 9223372036854775807 := by omega
  simp (disch := omega) [toSF, hb2, hb3]
  generalize hE : EX C _ (toSL e1 e2 n g) _ = E
  obtain ⟨e, s', rfl, k, kn, f1, f2, f3, f4⟩ : ∃ e s', E = some (e, s') ∧ ∃ k kn, e = .exit 0 ∧ s'.t 3 = .rw ⟨.v 3, k, kn, []⟩ ∧ s'.m.kr (.v 3) = k ∧ s'.m.r 3 = some (.sl 2 e2 (ys.map PV.agg)) := by
    rw [← hE]
    refine EX_for0 xs.length (fun i s => s.t 0 = .pv (.sl 0 e1 (xs.map PV.agg)) ∧ s.t 4 = .pv (.int .i64 i) ∧ ∃ k kn, s.t 3 = .rw ⟨.v 3, k, kn, []⟩ ∧ s.m.kr (.v 3) = k ∧ s.m.r 3 = some (.sl 2 e2 ((ys.take i).map PV.agg ++ List.replicate (xs.length - i) (.agg zs)))) (fun e s => ∃ k kn, e = .exit 0 ∧ s.t 3 = .rw ⟨.v 3, k, kn, []⟩ ∧ s.m.kr (.v 3) = k ∧ s.m.r 3 = some (.sl 2 e2 (ys.map PV.agg))) ?_ ?_ ?_
    · simp
    · rintro s ⟨h0, h4, k, kn, h3, hk, hr⟩
      rw [List.take_of_length_le (by omega), Nat.sub_self, List.replicate_zero, List.append_nil] at hr
      simp [toSB, h0, h4]
      exact ⟨_, _, ⟨rfl, rfl⟩, by simp, rfl, k, ⟨kn, by simpa using h3⟩, hk, hr⟩
    · rintro i s hi ⟨h0, h4, k, kn, h3, hk, hr⟩
      obtain ⟨a1, a2, a3, a4⟩ := hx i hi
      have a5 := shareC_calm a2
      left
      have hj : i < ys.length := by omega
      have e3 : ((ys.take i).map PV.agg ++ List.replicate (xs.length - i) (PV.agg zs)).length = xs.length := by simp; omega
      have e4 := put_get (f := PV.agg) hj (z := .agg zs) (r := xs.length - i) (by omega)
      have e5 := put_set (f := PV.agg) hj (z := .agg zs) (r := xs.length - i) (by omega)
      rw [show xs.length - i - 1 = xs.length - (i + 1) by omega] at e5
      generalize ((ys.take i).map PV.agg ++ List.replicate (xs.length - i) (PV.agg zs)) = old at hr e3 e4 e5
      have e6 : i < old.length := by omega
      have e7 : old[i] = .agg zs := by simpa [e6] using e4
      have a6 : (xs[i].map AV.pv).length = n := by simpa using a1
      have a7 : (ys[i].map AV.pv).length = n := by simpa using a3
      have a8 : List.take n xs[i] = xs[i] := List.take_of_length_le (by omega)
      have a9 := tnt_calm a2
      have a10 := tntP_calm a2
      have a11 := toPVs_calm a2
      have a12 : ¬ ∃ x, x ∈ xs[i] ∧ x.own = true := fun ⟨x, h1, h2⟩ => by simp [a2 x h1] at h2
      by_cases a13 : ∃ x, x ∈ ys[i] ∧ x.own = true
      all_goals
        simp (disch := omega) [toSB, h0, h4, h3, hk, hr, hi, idxN, e3, e6, e7, a1, a3, a4, a5, a6, a7, a8, a9, a10, a11, a12, a13, hm, pvs_map, hz, setCells, e5, IntWalk.i64_in]
        rw [List.drop_eq_nil_of_le (by omega), List.append_nil, ← List.map_take]
        exact e5
  subst f1
  simp [f2, f3, f4]
def toS0B (e1 e2 : TypeId) : PC := (.seq (.seq (.reg [⟨some 8, .mov (.t 4), none, 0⟩,
  ⟨some 9, .mov (.t 0), none, 0⟩,
  ⟨some 10, .len true (.t 9), none, 0⟩,
  ⟨some 11, .bin .lss 0 (.t 8) (.t 10), none, 0⟩]) (.cond (.t 11) .skip (.exit 0))) (.seq (.block 1 (.reg [⟨some 14, .mov (.t 3), none, 0⟩,
  ⟨some 15, .mov (.t 4), none, 0⟩,
  ⟨some 16, .mov (.t 0), none, 0⟩,
  ⟨some 17, .mov (.t 4), none, 0⟩,
  ⟨some 18, .idxa e1 (.t 16) (.t 17), none, 0⟩,
  ⟨some 19, .load 1 false (.t 18), none, 0⟩,
  ⟨some 20, .idxa e2 (.t 14) (.t 15), none, 0⟩,
  ⟨none, .store 1 (.t 20) (.t 19), none, 0⟩])) (.reg [⟨some 12, .mov (.t 4), none, 0⟩,
  ⟨some 13, .bin .add 0 (.t 12) (.k (.int .i64 1)), none, 0⟩,
  ⟨some 4, .mov (.t 13), none, 0⟩])))
def toS0L (e1 e2 : TypeId) : PC := .loop [] (toS0B e1 e2)
def toS0F (e1 e2 : TypeId) (z : PV) (by_ : Nat) : PF := ⟨[.val], [0, 3, 4, 6], (.seq (.reg [⟨some 2, .mov (.k (.sl 2 e2 [])), none, 0⟩]) (.seq (.reg [⟨some 5, .mov (.t 0), none, 0⟩,
  ⟨some 6, .len true (.t 5), none, 0⟩,
  ⟨some 7, .mks e2 z by_ (.t 6), none, 0⟩,
  ⟨some 3, .mov (.t 7), none, 0⟩]) (.seq (.seq (.reg [⟨some 4, .mov (.k (.int .i64 0)), none, 0⟩]) (.block 0 (toS0L e1 e2))) (.seq (.reg [⟨some 21, .mov (.t 3), none, 0⟩,
  ⟨some 2, .mov (.t 21), none, 0⟩]) .ret)))),
  [(2, none)]⟩
def scal : PV → Bool
  | .int _ _ => true
  | .bool _ => true
  | .str _ => true
  | _ => false
theorem scal_cells {p : PV} (h : scal p = true) : p.cells = [p] := by cases p <;> simp_all [scal]
theorem scal_own {p : PV} (h : scal p = true) : p.own = false := by cases p <;> simp_all [scal]
theorem scal_set {p q : PV} (h : scal p = true) : setCells p 0 [q] = q := by cases p <;> simp_all [scal, setCells]
theorem scal_elem {p : PV} (h : scal p = true) (kn : Nat) (r : Ref) (i j : Nat) : elemCell kn r i j p = .pv p := by cases p <;> simp_all [scal]
theorem scal_ofPV {p : PV} (h : scal p = true) : ofPV p = .pv p := by cases p <;> simp_all [scal]
theorem scal_dem {p : PV} (h : scal p = true) : shareP p = p := by simp [shareP, scal_own h]
theorem scal_put {p : PV} (h : scal p = true) (V : List Nat) (s : St) (d : Nat) : putT V s d (.pv p) = { s with t := upd s.t d (.pv p) } := by cases p <;> simp_all [scal]
theorem scal_end {p : PV} (h : scal p = true) (V : List Nat) (t : Nat → AV) (m : Mem) (d : Nat) : endStep V 0 t m [.pv p] (some d) = some { t := upd t d (.pv p), m := m } := by
  simp only [endStep]; rw [scal_put h]
theorem run_toS0 {C : Code} {fn : FuncId} {e1 e2 : TypeId} {by_ : Nat} {z : PV} (hp : C.prog fn = some (toS0F e1 e2 z by_)) (hz : scal z = true) {xs : List PV} (hlen : xs.length * by_ ≤ 140737488355328) (hlen2 : xs.length ≤ 4611686018427387904)
    (hx : ∀ x ∈ xs, scal x = true) :
    RUN C fn [.sl 0 e1 xs] = some ([.sl 2 e2 xs], []) := by
  rw [RUN_eq, hp]
  have hb2 : (xs.length : Int) * (by_ : Int) ≤ 140737488355328 := by rw [← Int.natCast_mul]; omega
  have hb3 : (xs.length : Int) ≤ 9223372036854775807 := by omega
  simp (disch := omega) [toS0F, hb2, hb3]
  generalize hE : EX C _ (toS0L e1 e2) _ = E
  obtain ⟨e, s', rfl, k, kn, f1, f2, f3, f4⟩ : ∃ e s', E = some (e, s') ∧ ∃ k kn, e = .exit 0 ∧ s'.t 3 = .rw ⟨.v 3, k, kn, []⟩ ∧ s'.m.kr (.v 3) = k ∧ s'.m.r 3 = some (.sl 2 e2 xs) := by
    rw [← hE]
    refine EX_for0 xs.length (fun i s => s.t 0 = .pv (.sl 0 e1 xs) ∧ s.t 4 = .pv (.int .i64 i) ∧ ∃ k kn, s.t 3 = .rw ⟨.v 3, k, kn, []⟩ ∧ s.m.kr (.v 3) = k ∧ s.m.r 3 = some (.sl 2 e2 ((xs.take i).map id ++ List.replicate (xs.length - i) z))) (fun e s => ∃ k kn, e = .exit 0 ∧ s.t 3 = .rw ⟨.v 3, k, kn, []⟩ ∧ s.m.kr (.v 3) = k ∧ s.m.r 3 = some (.sl 2 e2 xs)) ?_ ?_ ?_
    · simp
    · rintro s ⟨h0, h4, k, kn, h3, hk, hr⟩
      rw [List.take_of_length_le (by omega), Nat.sub_self, List.replicate_zero, List.append_nil, List.map_id] at hr
      simp [toS0B, h0, h4]
      exact ⟨_, _, ⟨rfl, rfl⟩, by simp, rfl, k, ⟨kn, by simpa using h3⟩, hk, hr⟩
    · rintro i s hi ⟨h0, h4, k, kn, h3, hk, hr⟩
      have b1 := hx xs[i] (List.getElem_mem hi)
      left
      have e3 : ((xs.take i).map id ++ List.replicate (xs.length - i) z).length = xs.length := by simp; omega
      have e4 := put_get (f := id) hi (z := z) (r := xs.length - i) (by omega)
      have e5 := put_set (f := id) hi (z := z) (r := xs.length - i) (by omega)
      rw [show xs.length - i - 1 = xs.length - (i + 1) by omega] at e5
      generalize ((xs.take i).map id ++ List.replicate (xs.length - i) z) = old at hr e3 e4 e5
      have e6 : i < old.length := by omega
      have e7 : old[i] = z := by simpa [e6] using e4
      generalize hq : xs[i] = q at b1 e5
      cases q <;> first
        | (exfalso; simp [scal] at b1; done)
        | (cases z <;> first
          | (exfalso; simp [scal] at hz; done)
          | (simp (disch := omega) [toS0B, h0, h4, h3, hk, hr, hi, hq, idxN, e3, e6, e7, setCells, IntWalk.i64_in]
             simpa using e5))
  subst f1
  simp [f2, f3, f4]
def eqSB (e : TypeId) (n : Nat) (g : FuncId) : PC := (.seq (.seq (.reg [⟨some 11, .mov (.t 5), none, 0⟩,
  ⟨some 12, .mov (.t 0), none, 0⟩,
  ⟨some 13, .len true (.t 12), none, 0⟩,
  ⟨some 14, .bin .lss 0 (.t 11) (.t 13), none, 0⟩]) (.cond (.t 14) .skip (.exit 0))) (.seq (.block 1 (.seq (.any [(0, []), (1, [0]), (2, []), (3, []), (4, [0, 1, 2, 3]), (5, [0, 1, 2, 3, 4]), (6, [0, 1, 2, 3]), (7, [0, 1, 2, 3]), (8, []), (9, [])] [⟨some 17, .mov (.t 0), none, 0⟩,
  ⟨some 18, .mov (.t 5), none, 0⟩,
  ⟨some 19, .idxa e (.t 17) (.t 18), none, 0⟩,
  ⟨some 20, .load n true (.t 19), none, 0⟩,
  ⟨some 21, .mov (.t 1), none, 0⟩,
  ⟨some 22, .mov (.t 5), none, 0⟩,
  ⟨some 23, .idxa e (.t 21) (.t 22), none, 0⟩,
  ⟨some 24, .load n true (.t 23), none, 0⟩,
  ⟨some 25, .call g [.t 20, .t 24], none, 0⟩,
  ⟨some 26, .un .not (.t 25), none, 0⟩]) (.cond (.t 26) (.seq (.reg [⟨some 4, .mov (.k (.bool false)), none, 0⟩]) .ret) .skip))) (.reg [⟨some 15, .mov (.t 5), none, 0⟩,
  ⟨some 16, .bin .add 0 (.t 15) (.k (.int .i64 1)), none, 0⟩,
  ⟨some 5, .mov (.t 16), none, 0⟩])))
def eqSL (e : TypeId) (n : Nat) (g : FuncId) : PC := .loop [] (eqSB e n g)
def eqSH (l : PC) : PF := ⟨[.val, .val], [0, 1, 5], (.seq (.reg [⟨some 4, .mov (.k (.bool false)), none, 0⟩]) (.seq (.seq (.reg [⟨some 6, .mov (.t 0), none, 0⟩,
  ⟨some 7, .len true (.t 6), none, 0⟩,
  ⟨some 8, .mov (.t 1), none, 0⟩,
  ⟨some 9, .len true (.t 8), none, 0⟩,
  ⟨some 10, .bin .neq 0 (.t 7) (.t 9), none, 0⟩]) (.cond (.t 10) (.seq (.reg [⟨some 4, .mov (.k (.bool false)), none, 0⟩]) .ret) .skip)) (.seq (.seq (.reg [⟨some 5, .mov (.k (.int .i64 0)), none, 0⟩]) (.block 0 l)) (.seq (.reg [⟨some 4, .mov (.k (.bool true)), none, 0⟩]) .ret)))),
  [(4, none)]⟩
theorem run_eqS {C : Code} {fn g : FuncId} {e : TypeId} {n : Nat} (hp : C.prog fn = some (eqSH (eqSL e n g))) (hm : C.modes g = [.val, .val]) {xs : List (List PV)} (hlen2 : xs.length ≤ 4611686018427387904)
    (hx : ∀ x ∈ xs, x.length = n ∧ calmL x ∧ RUN C g [.agg x, .agg x] = some ([.bool true], [])) :
    RUN C fn [.sl 0 e (xs.map PV.agg), .sl 0 e (xs.map PV.agg)] = some ([.bool true], []) := by
  rw [RUN_eq, hp]
  simp (disch := omega) [eqSH]
  generalize hE : EX C _ (eqSL e n g) _ = E
  obtain ⟨e', s', rfl, rfl⟩ : ∃ e' s', E = some (e', s') ∧ e' = .exit 0 := by
    rw [← hE]
    refine EX_for0 xs.length (fun i s => s.t 0 = .pv (.sl 0 e (xs.map PV.agg)) ∧ s.t 1 = .pv (.sl 0 e (xs.map PV.agg)) ∧ s.t 5 = .pv (.int .i64 i)) (fun e' s => e' = .exit 0) ?_ ?_ ?_
    · simp
    · rintro s ⟨h0, h1, h5⟩
      simp [eqSB, h0, h1, h5]
    · rintro i s hi ⟨h0, h1, h5⟩
      obtain ⟨a1, a2, a4⟩ := hx xs[i] (List.getElem_mem hi)
      have a5 := shareC_calm a2
      left
      have a6 : (xs[i].map AV.pv).length = n := by simpa using a1
      have a8 : List.take n xs[i] = xs[i] := List.take_of_length_le (by omega)
      have a9 := tnt_calm a2
      have a10 := tntP_calm a2
      have a11 := toPVs_calm a2
      have a12 : ¬ ∃ x, x ∈ xs[i] ∧ x.own = true := fun ⟨x, h1, h2⟩ => by simp [a2 x h1] at h2
      simp (disch := omega) [eqSB, h0, h1, h5, hi, idxN, a1, a4, a5, a6, a8, a9, a10, a11, a12, hm, IntWalk.i64_in]
  simp
def eqS0B (e : TypeId) (t : Nat) : PC := (.seq (.seq (.reg [⟨some 11, .mov (.t 5), none, 0⟩,
  ⟨some 12, .mov (.t 0), none, 0⟩,
  ⟨some 13, .len true (.t 12), none, 0⟩,
  ⟨some 14, .bin .lss 0 (.t 11) (.t 13), none, 0⟩]) (.cond (.t 14) .skip (.exit 0))) (.seq (.block 1 (.seq (.any [(0, []), (1, [0]), (2, []), (3, []), (4, [0, 1, 2, 3]), (5, [0, 1, 2, 3, 4]), (6, [0, 1, 2, 3]), (7, [0, 1, 2, 3]), (8, [])] [⟨some 17, .mov (.t 0), none, 0⟩,
  ⟨some 18, .mov (.t 5), none, 0⟩,
  ⟨some 19, .idxa e (.t 17) (.t 18), none, 0⟩,
  ⟨some 20, .load 1 false (.t 19), none, 0⟩,
  ⟨some 21, .mov (.t 1), none, 0⟩,
  ⟨some 22, .mov (.t 5), none, 0⟩,
  ⟨some 23, .idxa e (.t 21) (.t 22), none, 0⟩,
  ⟨some 24, .load 1 false (.t 23), none, 0⟩,
  ⟨some 25, .bin .neq t (.t 20) (.t 24), none, 0⟩]) (.cond (.t 25) (.seq (.reg [⟨some 4, .mov (.k (.bool false)), none, 0⟩]) .ret) .skip))) (.reg [⟨some 15, .mov (.t 5), none, 0⟩,
  ⟨some 16, .bin .add 0 (.t 15) (.k (.int .i64 1)), none, 0⟩,
  ⟨some 5, .mov (.t 16), none, 0⟩])))
def eqS0L (e : TypeId) (t : Nat) : PC := .loop [] (eqS0B e t)
theorem run_eqS0 {C : Code} {fn : FuncId} {e : TypeId} {t : Nat} (hp : C.prog fn = some (eqSH (eqS0L e t))) {xs : List PV} (hlen2 : xs.length ≤ 4611686018427387904)
    (hx : ∀ x ∈ xs, scal x = true ∧ binS .neq t x x = some (.bool false)) :
    RUN C fn [.sl 0 e xs, .sl 0 e xs] = some ([.bool true], []) := by
  rw [RUN_eq, hp]
  simp (disch := omega) [eqSH]
  generalize hE : EX C _ (eqS0L e t) _ = E
  obtain ⟨e', s', rfl, rfl⟩ : ∃ e' s', E = some (e', s') ∧ e' = .exit 0 := by
    rw [← hE]
    refine EX_for0 xs.length (fun i s => s.t 0 = .pv (.sl 0 e xs) ∧ s.t 1 = .pv (.sl 0 e xs) ∧ s.t 5 = .pv (.int .i64 i)) (fun e' s => e' = .exit 0) ?_ ?_ ?_
    · simp
    · rintro s ⟨h0, h1, h5⟩
      simp [eqS0B, h0, h1, h5]
    · rintro i s hi ⟨h0, h1, h5⟩
      obtain ⟨b1, b2⟩ := hx xs[i] (List.getElem_mem hi)
      left
      generalize hq : xs[i] = q at b1 b2
      cases q <;> first
        | (exfalso; simp [scal] at b1; done)
        | (have b3 := b2
           simp at b3
           simp (disch := omega) [eqS0B, h0, h1, h5, hi, hq, idxN, b3, IntWalk.i64_in])
  simp
def szR (left : Int) (n : Nat) : Int := if left < n then -1 else left - n
theorem szR_lt {left : Int} {n : Nat} (h : left < n) : szR left n = -1 := by simp [szR, h]
theorem szR_ge {left : Int} {n : Nat} (h : ¬ left < n) : szR left n = left - n := by simp [szR, h]
def szS0F : PF := ⟨[.val, .val], [0, 1], (.seq (.reg [⟨some 4, .mov (.k (.int .i64 0)), none, 0⟩]) (.seq (.reg [⟨some 5, .mov (.t 1), none, 0⟩,
  ⟨some 6, .mov (.t 0), none, 0⟩,
  ⟨some 7, .len true (.t 6), none, 0⟩,
  ⟨some 8, .bin .sub 0 (.t 5) (.t 7), none, 0⟩,
  ⟨some 1, .mov (.t 8), none, 0⟩]) (.seq (.seq (.reg [⟨some 9, .mov (.t 1), none, 0⟩,
  ⟨some 10, .bin .lss 0 (.t 9) (.k (.int .i64 0)), none, 0⟩]) (.cond (.t 10) (.seq (.reg [⟨some 4, .mov (.k (.int .i64 (-1))), none, 0⟩]) .ret) .skip)) (.seq (.reg [⟨some 11, .mov (.t 1), none, 0⟩,
  ⟨some 4, .mov (.t 11), none, 0⟩]) .ret)))),
  [(4, none)]⟩
theorem run_szS0 {C : Code} {fn : FuncId} {e : TypeId} (hp : C.prog fn = some szS0F) {xs : List PV} (hlen : xs.length ≤ 9223372036854775807) {left : Int} (h0 : 0 ≤ left) (h1 : left ≤ 4611686018427387904) :
    RUN C fn [.sl 0 e xs, .int .i64 left] = some ([.int .i64 (szR left xs.length)], []) := by
  rw [RUN_eq, hp]
  by_cases h : left < xs.length
  · have h' : left - xs.length < 0 := by omega
    simp (disch := omega) [szS0F, szR, h, h', IntWalk.i64_in]
  · have h' : ¬ left - xs.length < 0 := by omega
    simp (disch := omega) [szS0F, szR, h, h', IntWalk.i64_in]
def szSB (e : TypeId) (n : Nat) (g : FuncId) : PC := (.seq (.seq (.reg [⟨some 12, .mov (.t 5), none, 0⟩,
  ⟨some 13, .mov (.t 0), none, 0⟩,
  ⟨some 14, .len true (.t 13), none, 0⟩,
  ⟨some 15, .bin .lss 0 (.t 12) (.t 14), none, 0⟩]) (.cond (.t 15) .skip (.exit 0))) (.seq (.block 1 (.seq (.reg [⟨some 18, .mov (.t 0), none, 0⟩,
  ⟨some 19, .mov (.t 5), none, 0⟩,
  ⟨some 20, .idxa e (.t 18) (.t 19), none, 0⟩,
  ⟨some 21, .load n true (.t 20), none, 0⟩,
  ⟨some 22, .mov (.t 1), none, 0⟩,
  ⟨some 23, .call g [.t 21, .t 22], none, 0⟩,
  ⟨some 1, .mov (.t 23), none, 0⟩]) (.seq (.reg [⟨some 24, .mov (.t 1), none, 0⟩,
  ⟨some 25, .bin .lss 0 (.t 24) (.k (.int .i64 0)), none, 0⟩]) (.cond (.t 25) (.seq (.reg [⟨some 4, .mov (.k (.int .i64 (-1))), none, 0⟩]) .ret) .skip)))) (.reg [⟨some 16, .mov (.t 5), none, 0⟩,
  ⟨some 17, .bin .add 0 (.t 16) (.k (.int .i64 1)), none, 0⟩,
  ⟨some 5, .mov (.t 17), none, 0⟩])))
def szSL (e : TypeId) (n : Nat) (g : FuncId) : PC := .loop [] (szSB e n g)
def szSF (e : TypeId) (n : Nat) (g : FuncId) : PF := ⟨[.val, .val], [0, 1, 5], (.seq (.reg [⟨some 4, .mov (.k (.int .i64 0)), none, 0⟩]) (.seq (.reg [⟨some 6, .mov (.t 1), none, 0⟩,
  ⟨some 7, .mov (.t 0), none, 0⟩,
  ⟨some 8, .len true (.t 7), none, 0⟩,
  ⟨some 9, .bin .sub 0 (.t 6) (.t 8), none, 0⟩,
  ⟨some 1, .mov (.t 9), none, 0⟩]) (.seq (.seq (.reg [⟨some 10, .mov (.t 1), none, 0⟩,
  ⟨some 11, .bin .lss 0 (.t 10) (.k (.int .i64 0)), none, 0⟩]) (.cond (.t 11) (.seq (.reg [⟨some 4, .mov (.k (.int .i64 (-1))), none, 0⟩]) .ret) .skip)) (.seq (.seq (.reg [⟨some 5, .mov (.k (.int .i64 0)), none, 0⟩]) (.block 0 (szSL e n g))) (.seq (.reg [⟨some 26, .mov (.t 1), none, 0⟩,
  ⟨some 4, .mov (.t 26), none, 0⟩]) .ret))))),
  [(4, none)]⟩
def sumN {α : Type} (f : α → Nat) : List α → Nat
  | [] => 0
  | x :: xs => f x + sumN f xs
theorem run_szS {C : Code} {fn g : FuncId} {e : TypeId} {n : Nat} (hp : C.prog fn = some (szSF e n g)) (hm : C.modes g = [.val, .val]) {α : Type} (f : α → List PV) (need : α → Nat) {xs : List α} (hlen : xs.length ≤ 9223372036854775807) {left : Int} (h0 : 0 ≤ left) (h1 : left ≤ 4611686018427387904)
    (hx : ∀ x ∈ xs, (f x).length = n ∧ calmL (f x) ∧ ∀ left : Int, 0 ≤ left → left ≤ 4611686018427387904 → RUN C g [.agg (f x), .int .i64 left] = some ([.int .i64 (szR left (need x))], [])) :
    RUN C fn [.sl 0 e (xs.map fun a => PV.agg (f a)), .int .i64 left] = some ([.int .i64 (szR left (xs.length + sumN need xs))], []) := by
  rw [RUN_eq, hp]
  by_cases h : left < xs.length
  · have h' : left - xs.length < 0 := by omega
    have h2 : left < (xs.length : Int) + (sumN need xs : Nat) := by omega
    simp (disch := omega) [szSF, szR, h, h', h2, IntWalk.i64_in]
  · have h' : ¬ left - xs.length < 0 := by omega
    simp (disch := omega) [szSF, h', IntWalk.i64_in]
    generalize hE : EX C _ (szSL e n g) _ = E
    obtain ⟨e', s', rfl, hQ⟩ : ∃ e' s', E = some (e', s') ∧ (((e' = .exit 0 ∧ s'.t 1 = .pv (.int .i64 (left - xs.length - (sumN need xs : Nat)))) ∧ ¬ left < (xs.length : Int) + (sumN need xs : Nat)) ∨ (e' = .ret ∧ s'.t 4 = .pv (.int .i64 (-1)) ∧ left < (xs.length : Int) + (sumN need xs : Nat))) := by
      rw [← hE]
      refine EX_for0 xs.length (fun i s => s.t 0 = .pv (.sl 0 e (xs.map fun a => PV.agg (f a))) ∧ s.t 5 = .pv (.int .i64 i) ∧ ∃ l : Int, s.t 1 = .pv (.int .i64 l) ∧ 0 ≤ l ∧ l ≤ left ∧ l - (sumN need (xs.drop i) : Nat) = left - xs.length - (sumN need xs : Nat)) (fun e' s' => (((e' = .exit 0 ∧ s'.t 1 = .pv (.int .i64 (left - xs.length - (sumN need xs : Nat)))) ∧ ¬ left < (xs.length : Int) + (sumN need xs : Nat)) ∨ (e' = .ret ∧ s'.t 4 = .pv (.int .i64 (-1)) ∧ left < (xs.length : Int) + (sumN need xs : Nat)))) ?_ ?_ ?_
      · exact ⟨by simp, by simp, left - xs.length, by simp, by omega, by omega, by simp⟩
      · rintro s ⟨h0, h5, l, h1, k1, k2, k3⟩
        simp [sumN] at k3
        simp [szSB, h0, h5, h1]
        exact ⟨_, _, ⟨rfl, rfl⟩, by simp, .inl ⟨⟨rfl, by simp [h1]; omega⟩, by omega⟩⟩
      · rintro i s hi ⟨h0, h5, l, h1, k1, k2, k3⟩
        obtain ⟨a1, a2, a4⟩ := hx xs[i] (List.getElem_mem hi)
        have a4 := a4 l k1 (by omega)
        have a5 := shareC_calm a2
        have a6 : ((f xs[i]).map AV.pv).length = n := by simpa using a1
        have a8 : List.take n (f xs[i]) = f xs[i] := List.take_of_length_le (by omega)
        have a9 := tnt_calm a2
        have a10 := tntP_calm a2
        have a11 := toPVs_calm a2
        have a12 : ¬ ∃ x, x ∈ f xs[i] ∧ x.own = true := fun ⟨x, h1, h2⟩ => by simp [a2 x h1] at h2
        rw [List.drop_eq_getElem_cons hi] at k3
        simp only [sumN] at k3
        by_cases hn : l < need xs[i]
        · right
          have a13 : szR l (need xs[i]) = -1 := by simp [szR, hn]
          simp (disch := omega) [szSB, h0, h1, h5, hi, idxN, a1, a4, a5, a6, a8, a9, a10, a11, a12, a13, hm, IntWalk.i64_in]
          exact ⟨_, _, ⟨rfl, rfl⟩, by simp, .inr ⟨rfl, by simp, by omega⟩⟩
        · left
          have a13 : szR l (need xs[i]) = l - need xs[i] := by simp [szR, hn]
          have a14 : ¬ l - need xs[i] < 0 := by omega
          simp (disch := omega) [szSB, h0, h1, h5, hi, idxN, a1, a4, a5, a6, a8, a9, a10, a11, a12, a13, a14, hm, IntWalk.i64_in]
          omega
    rcases hQ with ⟨⟨rfl, f1⟩, f2⟩ | ⟨rfl, f1, f2⟩
    · simp [f1, szR, f2]
      omega
    · simp [f1, szR, f2]
theorem sumN_le {α : Type} (f : α → Nat) {a : α} : ∀ {xs : List α}, a ∈ xs → f a ≤ sumN f xs
  | x :: xs, h => by
    rcases List.mem_cons.1 h with rfl | h
    · simp only [sumN]; omega
    · have := sumN_le f h
      simp only [sumN]; omega
@[simp] theorem demL_ints (k : IntKind) : ∀ ns : List Int, demL (ns.map (PV.int k)) = ns.map (PV.int k)
  | [] => rfl
  | n :: ns => by simp [demL_ints k ns]
@[simp] theorem allOwn_ints (k : IntKind) : ∀ ns : List Int, allOwnL (ns.map (PV.int k)) = true
  | [] => rfl
  | n :: ns => by simp [allOwn_ints k ns]
@[simp] theorem noRef_ints (k : IntKind) : ∀ ns : List Int, noRefL (ns.map (PV.int k)) = true
  | [] => rfl
  | n :: ns => by simp [noRef_ints k ns]
@[simp] theorem flat_ints (k : IntKind) : ∀ ns : List Int, flatL (ns.map (PV.int k)) = true
  | [] => rfl
  | n :: ns => by simp [flat_ints k ns, PV.flat]
@[simp] theorem demL_strs : ∀ ns : List ByteArray, demL (ns.map PV.str) = ns.map PV.str
  | [] => rfl
  | n :: ns => by simp [demL_strs ns]
@[simp] theorem allOwn_strs : ∀ ns : List ByteArray, allOwnL (ns.map PV.str) = true
  | [] => rfl
  | n :: ns => by simp [allOwn_strs ns]
@[simp] theorem noRef_strs : ∀ ns : List ByteArray, noRefL (ns.map PV.str) = true
  | [] => rfl
  | n :: ns => by simp [noRef_strs ns]
def In64 (n : Int) : Prop := -9223372036854775808 ≤ n ∧ n ≤ 9223372036854775807
def mrkL {α : Type} (f : Int → α → α) (n : α → Nat) : Int → List α → List α
  | _, [] => []
  | k, x :: xs => f k x :: mrkL f n (k + n x) xs
@[simp] theorem mrkL_length {α : Type} (f : Int → α → α) (n : α → Nat) : ∀ (xs : List α) (k : Int), (mrkL f n k xs).length = xs.length
  | [], _ => rfl
  | x :: xs, k => by simp [mrkL, mrkL_length f n xs]
theorem sumN_app {α : Type} (n : α → Nat) : ∀ xs ys : List α, sumN n (xs ++ ys) = sumN n xs + sumN n ys
  | [], ys => by simp [sumN]
  | x :: xs, ys => by simp [sumN, sumN_app n xs ys]; omega
theorem mrkL_app {α : Type} (f : Int → α → α) (n : α → Nat) : ∀ (xs ys : List α) (k : Int), mrkL f n k (xs ++ ys) = mrkL f n k xs ++ mrkL f n (k + (sumN n xs : Nat)) ys
  | [], ys, k => by simp [mrkL, sumN]
  | x :: xs, ys, k => by
    simp only [List.cons_append, mrkL, mrkL_app f n xs ys, sumN]
    rw [show k + (n x : Int) + (sumN n xs : Nat) = k + ((n x + sumN n xs : Nat) : Int) by omega]
theorem sumN_take {α : Type} (n : α → Nat) (xs : List α) {i : Nat} (h : i < xs.length) : sumN n (xs.take (i + 1)) = sumN n (xs.take i) + n xs[i] := by
  rw [List.take_succ_eq_append_getElem h, sumN_app]; simp [sumN]
theorem sumN_take_le {α : Type} (n : α → Nat) (xs : List α) (i : Nat) : sumN n (xs.take i) ≤ sumN n xs := by
  have := sumN_app n (xs.take i) (xs.drop i)
  rw [List.take_append_drop] at this
  omega
def M.mrkInt64 (k _ : Int) : Int := k
def M.mkInt64 (_ : Int) : Nat := 1
theorem mark_loop {C : Code} {V : List Nat} {b : PC} {ty : TypeId} {α : Type} {F : α → PV} {f : Int → α → α} {n : α → Nat} {xs : List α} {k : Int} (h0 : 0 ≤ k) (hk : k + (sumN n xs : Nat) ≤ 4611686018427387904) (hlen : xs.length ≤ 4611686018427387904)
    (last : ∀ (s : St) (l : List PV), l.length = xs.length → s.t 0 = .rw ⟨.v 0, 0, 0, []⟩ → s.m.kr (.v 0) = 0 → s.m.r 0 = some (.sl 2 ty l) → s.t 5 = .pv (.int .i64 l.length) → ∃ s', EX C V b s = some (.exit 0, s') ∧ s'.t 1 = s.t 1 ∧ s'.m.r 0 = s.m.r 0 ∧ s'.m.kr (.v 0) = 0)
    (round : ∀ (s : St) (l : List PV) (i : Nat) (a : α) (k : Int) (hi : i < l.length), a ∈ xs → l.length = xs.length → l[i] = F a → 0 ≤ k → k + n a ≤ 4611686018427387904 → s.t 0 = .rw ⟨.v 0, 0, 0, []⟩ → s.m.kr (.v 0) = 0 → s.m.r 0 = some (.sl 2 ty l) → s.t 1 = .pv (.int .i64 k) → s.t 5 = .pv (.int .i64 i) →
      ∃ s', EX C V b s = some (.normal, s') ∧ s'.t 0 = s.t 0 ∧ s'.m.kr (.v 0) = 0 ∧ s'.m.r 0 = some (.sl 2 ty (l.set i (F (f k a)))) ∧ s'.t 1 = .pv (.int .i64 (k + n a)) ∧ s'.t 5 = .pv (.int .i64 (i + 1))) (s : St) (hs0 : s.t 0 = .rw ⟨.v 0, 0, 0, []⟩) (hs1 : s.m.kr (.v 0) = 0) (hs2 : s.m.r 0 = some (.sl 2 ty (xs.map F))) (hs3 : s.t 1 = .pv (.int .i64 k)) (hs4 : s.t 5 = .pv (.int .i64 0)) :
    ∃ s', EX C V (.loop [] b) s = some (.exit 0, s') ∧ s'.t 1 = .pv (.int .i64 (k + (sumN n xs : Nat))) ∧ s'.m.r 0 = some (.sl 2 ty ((mrkL f n k xs).map F)) ∧ s'.m.kr (.v 0) = 0 := by
  obtain ⟨e, s', h1, h2, h3, h4, h5⟩ := EX_for0 (C := C) (V := V) (L := []) (b := b) (s := s) xs.length (fun i s => s.t 0 = .rw ⟨.v 0, 0, 0, []⟩ ∧ s.m.kr (.v 0) = 0 ∧ s.m.r 0 = some (.sl 2 ty ((mrkL f n k (xs.take i) ++ xs.drop i).map F)) ∧ s.t 1 = .pv (.int .i64 (k + (sumN n (xs.take i) : Nat))) ∧ s.t 5 = .pv (.int .i64 i)) (fun e s' => e = .exit 0 ∧ s'.t 1 = .pv (.int .i64 (k + (sumN n xs : Nat))) ∧ s'.m.r 0 = some (.sl 2 ty ((mrkL f n k xs).map F)) ∧ s'.m.kr (.v 0) = 0)
    ⟨hs0, hs1, by simpa [mrkL] using hs2, by simpa [sumN] using hs3, by simpa using hs4⟩
    (by
      rintro s ⟨h0, h1, h2, h3, h4⟩
      rw [List.take_of_length_le (Nat.le_refl _), List.drop_eq_nil_of_le (Nat.le_refl _), List.append_nil] at h2
      rw [List.take_of_length_le (Nat.le_refl _)] at h3
      obtain ⟨s', g1, g2, g3, g4⟩ := last s _ (by simp) h0 h1 h2 (by simpa using h4)
      exact ⟨_, s', by rw [forget_nil]; exact g1, by simp, rfl, g2.trans h3, g3.trans h2, g4⟩)
    (by
      rintro i s hi ⟨h0', h1, h2, h3, h4⟩
      left
      have hl : (mrkL f n k (xs.take i)).length = i := by simp; omega
      have hle := sumN_take_le n xs (i + 1)
      have hst := sumN_take n xs hi
      obtain ⟨s', g1, g2, g3, g4, g5, g6⟩ := round s _ i xs[i] (k + (sumN n (xs.take i) : Nat)) (by simp; omega) (List.getElem_mem hi) (by simp; omega) (by
        simp only [List.getElem_map]
        congr 1
        rw [List.getElem_append_right (by omega)]
        simp [hl]) (by omega) (by omega) h0' h1 h2 h3 h4
      refine ⟨s', by rw [forget_nil]; exact g1, g2.trans h0', g3, ?_, ?_, by simpa using g6⟩
      · rw [g4]
        congr 2
        rw [← List.map_set]
        congr 1
        rw [List.set_append_right _ _ (by omega), hl, Nat.sub_self, List.drop_eq_getElem_cons hi, List.set_cons_zero, List.take_succ_eq_append_getElem hi, mrkL_app]
        simp [mrkL]
      · rw [g5, hst]
        congr 2
        omega)
  subst h2
  exact ⟨s', h1, h3, h4, h5⟩
theorem mrkL_get {α : Type} (f : Int → α → α) (n : α → Nat) (xs : List α) (k : Int) {i : Nat} (hi : i < xs.length) : (mrkL f n k xs)[i]'(by simpa using hi) = f (k + (sumN n (xs.take i) : Nat)) xs[i] := by
  induction xs generalizing k i with
  | nil => simp at hi
  | cons x xs ih =>
    cases i with
    | zero => simp [mrkL, sumN]
    | succ i =>
      simp only [mrkL, List.getElem_cons_succ, List.take_succ_cons, sumN]
      rw [ih (k + n x) (by simpa using hi)]
      congr 1
      omega
theorem held_loop {C : Code} {V : List Nat} {b : PC} {ty : TypeId} {α : Type} {F : α → PV} {f : Int → α → α} {n : α → Nat} {xs : List α} {k : Int} (h0 : 0 ≤ k) (hk : k + (sumN n xs : Nat) ≤ 4611686018427387904) (hlen : xs.length ≤ 4611686018427387904)
    (last : ∀ (s : St) (l : List PV), l.length = xs.length → s.t 0 = .pv (.sl 0 ty l) → s.t 5 = .pv (.int .i64 l.length) → ∃ s', EX C V b s = some (.exit 0, s') ∧ s'.t 1 = s.t 1)
    (round : ∀ (s : St) (l : List PV) (i : Nat) (a : α) (k : Int) (hi : i < l.length), a ∈ xs → l.length = xs.length → l[i] = F (f k a) → 0 ≤ k → k + n a ≤ 4611686018427387904 → s.t 0 = .pv (.sl 0 ty l) → s.t 1 = .pv (.int .i64 k) → s.t 5 = .pv (.int .i64 i) →
      ∃ s', EX C V b s = some (.normal, s') ∧ s'.t 0 = s.t 0 ∧ s'.t 1 = .pv (.int .i64 (k + n a)) ∧ s'.t 5 = .pv (.int .i64 (i + 1))) (s : St) (hs0 : s.t 0 = .pv (.sl 0 ty ((mrkL f n k xs).map F))) (hs3 : s.t 1 = .pv (.int .i64 k)) (hs4 : s.t 5 = .pv (.int .i64 0)) :
    ∃ s', EX C V (.loop [] b) s = some (.exit 0, s') ∧ s'.t 1 = .pv (.int .i64 (k + (sumN n xs : Nat))) := by
  obtain ⟨e, s', h1, h2, h3⟩ := EX_for0 (C := C) (V := V) (L := []) (b := b) (s := s) xs.length (fun i s => s.t 0 = .pv (.sl 0 ty ((mrkL f n k xs).map F)) ∧ s.t 1 = .pv (.int .i64 (k + (sumN n (xs.take i) : Nat))) ∧ s.t 5 = .pv (.int .i64 i)) (fun e s' => e = .exit 0 ∧ s'.t 1 = .pv (.int .i64 (k + (sumN n xs : Nat))))
    ⟨hs0, by simpa [sumN] using hs3, by simpa using hs4⟩
    (by
      rintro s ⟨h0, h3, h4⟩
      rw [List.take_of_length_le (Nat.le_refl _)] at h3
      obtain ⟨s', g1, g2⟩ := last s _ (by simp) h0 (by simpa using h4)
      exact ⟨_, s', by rw [forget_nil]; exact g1, by simp, rfl, g2.trans h3⟩)
    (by
      rintro i s hi ⟨h0', h3, h4⟩
      left
      have hle := sumN_take_le n xs (i + 1)
      have hst := sumN_take n xs hi
      obtain ⟨s', g1, g2, g5, g6⟩ := round s _ i xs[i] (k + (sumN n (xs.take i) : Nat)) (by simpa using hi) (List.getElem_mem hi) (by simp) (by
        simp only [List.getElem_map]
        rw [mrkL_get f n xs k hi]) (by omega) (by omega) h0' h3 h4
      refine ⟨s', by rw [forget_nil]; exact g1, g2.trans h0', ?_, by simpa using g6⟩
      rw [g5, hst]
      congr 2
      omega)
  subst h2
  exact ⟨s', h1, h3⟩
theorem list_loop {C : Code} {V : List Nat} {L : List Nat} {b : PC} {s : St} {α : Type} {E : Option (Ex × St)} (hE : EX C V (.loop L b) s = E) (l : List α) (p : Nat → α → Bool) (K : Nat → St → Prop) (x : Ex) (hx : x ≠ .normal) (R : Nat → Ex → St → Prop) (hK : K 0 s)
    (last : ∀ s, K l.length s → ∃ s', EX C V b (forget L s) = some (x, s') ∧ K l.length s')
    (round : ∀ s i (hi : i < l.length), K i s → ∃ r, EX C V b (forget L s) = some r ∧ if p i l[i] = true then r.1 = .normal ∧ K (i + 1) r.2 else r.1 ≠ .normal ∧ R i r.1 r.2) :
    ∃ e s', E = some (e, s') ∧ ((e = x ∧ K l.length s' ∧ ∀ i (h : i < l.length), p i l[i] = true) ∨ ∃ i, ∃ h : i < l.length, p i l[i] = false ∧ (∀ j (h : j < i), p j l[j] = true) ∧ e ≠ .normal ∧ R i e s') := by
  rw [← hE]
  refine EX_for0 l.length (fun i s => K i s ∧ ∀ j (h : j < i) (h2 : j < l.length), p j l[j] = true) _ ⟨hK, by simp⟩ ?_ ?_
  · rintro s ⟨h1, h3⟩
    obtain ⟨s', g1, g2⟩ := last s h1
    exact ⟨x, s', g1, hx, .inl ⟨rfl, g2, fun i h => h3 i h h⟩⟩
  · rintro i s hi ⟨h1, h3⟩
    obtain ⟨⟨e, s'⟩, g1, g2⟩ := round s i hi h1
    simp only at g2
    cases hp : p i l[i] with
    | true =>
      rw [if_pos hp] at g2
      obtain ⟨rfl, g2⟩ := g2
      refine .inl ⟨s', g1, g2, fun j h k => ?_⟩
      rcases Nat.lt_or_ge j i with h' | h'
      · exact h3 j h' k
      · obtain rfl : j = i := by omega
        exact hp
    | false =>
      rw [if_neg (by simp [hp])] at g2
      exact .inr ⟨e, s', g1, g2.1, .inr ⟨i, hi, hp, fun j h => h3 j h (by omega), g2⟩⟩
def allB {α : Type} (p : Nat → α → Bool) (l : List α) : Bool := decide (∀ i (h : i < l.length), p i l[i] = true)
theorem allB_iff {α : Type} {p : Nat → α → Bool} {l : List α} : allB p l = true ↔ ∀ i (h : i < l.length), p i l[i] = true := by simp [allB]
theorem allB_true {α : Type} {p : Nat → α → Bool} {l : List α} (h : ∀ i (h : i < l.length), p i l[i] = true) : allB p l = true := allB_iff.2 h
theorem allB_false {α : Type} {p : Nat → α → Bool} {l : List α} {i : Nat} (hi : i < l.length) (h : p i l[i] = false) : allB p l = false := by
  cases h2 : allB p l with
  | false => rfl
  | true => rw [allB_iff.1 h2 i hi] at h; cases h
theorem all_loop {C : Code} {V : List Nat} {L : List Nat} {b : PC} {s : St} {α : Type} {E : Option (Ex × St)} (hE : EX C V (.loop L b) s = E) (l : List α) (p : Nat → α → Bool) (K : Nat → St → Prop) (x : Ex) (hx : x ≠ .normal) (R : Nat → Ex → St → Prop) (hK : K 0 s)
    (last : ∀ s, K l.length s → ∃ s', EX C V b (forget L s) = some (x, s') ∧ K l.length s')
    (round : ∀ s i (hi : i < l.length), K i s → ∃ r, EX C V b (forget L s) = some r ∧ if p i l[i] = true then r.1 = .normal ∧ K (i + 1) r.2 else r.1 ≠ .normal ∧ R i r.1 r.2) :
    ∃ e s', E = some (e, s') ∧ ((e = x ∧ allB p l = true ∧ K l.length s') ∨ ∃ i, allB p l = false ∧ e ≠ .normal ∧ R i e s') := by
  obtain ⟨e, s', h1, h2⟩ := list_loop hE l p K x hx R hK last round
  refine ⟨e, s', h1, ?_⟩
  rcases h2 with ⟨k1, k2, k3⟩ | ⟨i, k1, k2, k3, k4⟩
  · exact .inl ⟨k1, allB_true k3, k2⟩
  · exact .inr ⟨i, allB_false k1 k2, k4⟩
theorem lt_cases (a b : Int) : (a < b ∧ ¬ b ≤ a) ∨ (¬ a < b ∧ b ≤ a) := by omega
def findI {α : Type} (q : α → Bool) (l : List α) : Int := if l.findIdx q < l.length then (l.findIdx q : Int) else -1
theorem findI_no {α : Type} {q : α → Bool} {l : List α} (h : ∀ i (h : i < l.length), q l[i] = false) : findI q l = -1 := by
  have : l.findIdx q = l.length := List.findIdx_eq_length_of_false (fun x hx => by
    obtain ⟨i, hi, rfl⟩ := List.getElem_of_mem hx
    exact h i hi)
  simp [findI, this]
theorem findI_at {α : Type} {q : α → Bool} {l : List α} {i : Nat} (hi : i < l.length) (h : q l[i] = true) (h2 : ∀ j (h : j < i), q l[j] = false) : findI q l = i := by
  have : l.findIdx q = i := (List.findIdx_eq hi).2 ⟨h, h2⟩
  simp [findI, this, hi]
theorem findI_cases {α : Type} (q : α → Bool) (l : List α) : (findI q l = -1 ∧ ∀ x ∈ l, q x = false) ∨ ∃ i, ∃ h : i < l.length, findI q l = i ∧ q l[i] = true ∧ ∀ j (h : j < i), q l[j] = false := by
  by_cases h : l.findIdx q < l.length
  · exact .inr ⟨_, h, by simp [findI, h], List.findIdx_getElem, fun j hj => by simpa using List.not_of_lt_findIdx hj⟩
  · left
    refine ⟨by simp [findI, h], fun x hx => ?_⟩
    have : ¬ ∃ x ∈ l, q x = true := fun hx => h (List.findIdx_lt_length.2 hx)
    cases hq : q x
    · rfl
    · exact absurd ⟨x, hx, hq⟩ this
theorem search_loop {C : Code} {V : List Nat} {L : List Nat} {b : PC} {s : St} {α : Type} {E : Option (Ex × St)} (hE : EX C V (.loop L b) s = E) (l : List α) (q : α → Bool) (K : Nat → St → Prop) (x : Ex) (hx : x ≠ .normal) (R : Nat → Ex → St → Prop) (hK : K 0 s)
    (last : ∀ s, K l.length s → ∃ s', EX C V b (forget L s) = some (x, s') ∧ K l.length s')
    (round : ∀ s i (hi : i < l.length), K i s → ∃ r, EX C V b (forget L s) = some r ∧ if q l[i] = true then r.1 ≠ .normal ∧ R i r.1 r.2 else r.1 = .normal ∧ K (i + 1) r.2) :
    ∃ e s', E = some (e, s') ∧ ((e = x ∧ K l.length s' ∧ findI q l = -1 ∧ ∀ x ∈ l, q x = false) ∨ ∃ i, ∃ h : i < l.length, findI q l = i ∧ q l[i] = true ∧ R i e s') := by
  obtain ⟨e, s', h1, h2⟩ := list_loop hE l (fun _ a => !q a) K x hx R hK last (fun s i hi h1 => by
    obtain ⟨r, g1, g2⟩ := round s i hi h1
    refine ⟨r, g1, ?_⟩
    cases hq : q l[i] <;> simpa [hq] using g2)
  refine ⟨e, s', h1, ?_⟩
  rcases h2 with ⟨k1, k2, k3⟩ | ⟨i, k1, k2, k3, _, k4⟩
  · left
    refine ⟨k1, k2, findI_no fun i h => by simpa using k3 i h, fun x hx => ?_⟩
    obtain ⟨i, hi, rfl⟩ := List.getElem_of_mem hx
    simpa using k3 i hi
  · exact .inr ⟨i, k1, findI_at k1 (by simpa using k2) (fun j h => by simpa using k3 j h), by simpa using k2, k4⟩
end Go.Proofs.YtngooidedlnmaaaGreat.Pv
/- Names in their order, and lists of names kept in order. Plain lists; no condition. -/
namespace Go.Proofs.YtngooidedlnmaaaGreat.Pv
open Go Go.Lib
set_option linter.unusedSimpArgs false
theorem ba_eq {a b : ByteArray} (h : a.data.toList = b.data.toList) : a = b := by
  cases a; cases b; simpa [Array.toList_inj] using h
theorem ba_beq (a b : ByteArray) : (a == b) = decide (a = b) := by
  show (a.data == b.data) = decide (a = b)
  by_cases h : a = b
  · simp [h]
  · have : ¬ a.data = b.data := fun e => h (by cases a; cases b; simpa using e)
    simp [h, this]
instance : LawfulBEq ByteArray where
  eq_of_beq h := by rw [ba_beq] at h; simpa using h
  rfl := by intro a; rw [ba_beq]; simp
theorem bl_irrefl : ∀ x : List UInt8, Op.bytesLess x x = false
  | [] => rfl
  | a :: x => by simp [Op.bytesLess, bl_irrefl x]
theorem bl_trans : ∀ {x y z : List UInt8}, Op.bytesLess x y = true → Op.bytesLess y z = true → Op.bytesLess x z = true
  | _, _, [], _, h => by simp [Op.bytesLess] at h
  | _, [], _ :: _, h, _ => by simp [Op.bytesLess] at h
  | [], _ :: _, _ :: _, _, _ => by simp [Op.bytesLess]
  | a :: x, b :: y, c :: z, h1, h2 => by
    simp only [Op.bytesLess, Bool.or_eq_true, Bool.and_eq_true, decide_eq_true_eq, beq_iff_eq] at h1 h2 ⊢
    rcases h1 with h1 | ⟨rfl, h1⟩
    · rcases h2 with h2 | ⟨rfl, h2⟩
      · exact .inl (UInt8.lt_trans h1 h2)
      · exact .inl h1
    · rcases h2 with h2 | ⟨rfl, h2⟩
      · exact .inl h2
      · exact .inr ⟨rfl, bl_trans h1 h2⟩
theorem bl_tri : ∀ x y : List UInt8, Op.bytesLess x y = true ∨ x = y ∨ Op.bytesLess y x = true
  | [], [] => .inr (.inl rfl)
  | [], _ :: _ => .inl (by simp [Op.bytesLess])
  | _ :: _, [] => .inr (.inr (by simp [Op.bytesLess]))
  | a :: x, b :: y => by
    simp only [Op.bytesLess, Bool.or_eq_true, Bool.and_eq_true, decide_eq_true_eq, beq_iff_eq, List.cons.injEq]
    by_cases h1 : a < b
    · exact .inl (.inl h1)
    · by_cases h2 : b < a
      · exact .inr (.inr (.inl h2))
      · obtain rfl : a = b := UInt8.le_antisymm (UInt8.not_lt.1 h2) (UInt8.not_lt.1 h1)
        rcases bl_tri x y with h | h | h
        · exact .inl (.inr ⟨rfl, h⟩)
        · exact .inr (.inl ⟨rfl, h⟩)
        · exact .inr (.inr (.inr ⟨rfl, h⟩))
theorem cmpB_cases : ∀ x y : List UInt8, (compareBytes x y = -1 ∧ Op.bytesLess x y = true ∧ x ≠ y) ∨ (compareBytes x y = 0 ∧ Op.bytesLess x y = false ∧ x = y) ∨ (compareBytes x y = 1 ∧ Op.bytesLess x y = false ∧ x ≠ y)
  | [], [] => by simp [compareBytes, Op.bytesLess]
  | [], _ :: _ => by simp [compareBytes, Op.bytesLess]
  | _ :: _, [] => by simp [compareBytes, Op.bytesLess]
  | a :: x, b :: y => by
    by_cases h1 : a < b
    · left
      refine ⟨by simp [compareBytes, h1], by simp [Op.bytesLess, h1], ?_⟩
      rintro h
      cases h
      exact UInt8.lt_irrefl _ h1
    · by_cases h2 : b < a
      · right; right
        have h3 : ¬ a = b := by rintro rfl; exact UInt8.lt_irrefl _ h2
        exact ⟨by simp [compareBytes, h1, h2], by simp [Op.bytesLess, h1, h3], by simp [h3]⟩
      · obtain rfl : a = b := UInt8.le_antisymm (UInt8.not_lt.1 h2) (UInt8.not_lt.1 h1)
        simpa [compareBytes, Op.bytesLess, h1] using cmpB_cases x y
def nlt (a b : ByteArray) : Bool := Op.bytesLess a.data.toList b.data.toList
theorem nlt_irrefl (a : ByteArray) : nlt a a = false := bl_irrefl _
theorem nlt_trans {a b c : ByteArray} (h1 : nlt a b = true) (h2 : nlt b c = true) : nlt a c = true := bl_trans h1 h2
theorem nlt_of {a b : ByteArray} (h1 : nlt a b = false) (h2 : a ≠ b) : nlt b a = true := by
  rcases bl_tri a.data.toList b.data.toList with h | h | h
  · simp [nlt, h] at h1
  · exact absurd (ba_eq h) h2
  · exact h
theorem nlt_ne {a b : ByteArray} (h : nlt a b = true) : a ≠ b := by rintro rfl; simp [nlt_irrefl] at h
theorem nlt_asymm {a b : ByteArray} (h : nlt a b = true) : nlt b a = false := by
  cases h2 : nlt b a with
  | false => rfl
  | true => have := nlt_trans h h2; simp [nlt_irrefl] at this
def upN : List ByteArray → Prop
  | [] => True
  | x :: l => (∀ y ∈ l, nlt x y = true) ∧ upN l
theorem upN_of : ∀ {l : List ByteArray}, (∀ i (h : i + 1 < l.length), nlt l[i] l[i + 1] = true) → upN l
  | [], _ => trivial
  | [x], _ => ⟨by simp, trivial⟩
  | x :: y :: l, h => by
    have h1 : upN (y :: l) := upN_of fun i hi => by
      have := h (i + 1) (by simp at hi ⊢; omega)
      simpa only [List.getElem_cons_succ] using this
    have h0 : nlt x y = true := h 0 (by simp)
    refine ⟨fun z hz => ?_, h1⟩
    rcases List.mem_cons.1 hz with rfl | hz
    · exact h0
    · exact nlt_trans h0 (h1.1 z hz)
def putN (nm : ByteArray) (gone : Bool) : List ByteArray → List ByteArray
  | [] => if gone then [] else [nm]
  | x :: l => if nlt x nm then x :: putN nm gone l else (if gone then [] else [nm]) ++ (if x = nm then l else x :: l)
theorem mem_putN {nm : ByteArray} {gone : Bool} : ∀ {l : List ByteArray} {y : ByteArray}, y ∈ putN nm gone l → y ∈ l ∨ y = nm
  | [], y, h => by cases gone <;> simp [putN] at h; exact .inr h
  | x :: l, y, h => by
    simp only [putN] at h
    split at h
    · rcases List.mem_cons.1 h with rfl | h
      · exact .inl (by simp)
      · rcases mem_putN h with h | h
        · exact .inl (by simp [h])
        · exact .inr h
    · rcases List.mem_append.1 h with h | h
      · cases gone <;> simp at h; exact .inr h
      · left
        split at h
        · simp [h]
        · exact h
theorem up_putN {nm : ByteArray} {gone : Bool} : ∀ {l : List ByteArray}, upN l → upN (putN nm gone l)
  | [], _ => by cases gone <;> simp [putN, upN]
  | x :: l, h => by
    simp only [putN]
    split
    · rename_i h1
      refine ⟨fun y hy => ?_, up_putN h.2⟩
      rcases mem_putN hy with hy | rfl
      · exact h.1 y hy
      · exact h1
    · rename_i h1
      have h1 : nlt x nm = false := by simpa using h1
      split <;> split
      · exact h.2
      · exact h
      · rename_i h2
        subst h2
        exact ⟨h.1, h.2⟩
      · rename_i h2
        have h3 := nlt_of h1 h2
        refine ⟨fun y hy => ?_, h⟩
        rcases List.mem_cons.1 hy with rfl | hy
        · exact h3
        · exact nlt_trans h3 (h.1 y hy)
theorem not_mem_up {x nm : ByteArray} {l : List ByteArray} (h : ∀ y ∈ l, nlt x y = true) (h1 : nlt x nm = false) : nm ∉ l := fun hm => by simp [h nm hm] at h1
theorem putN_mem {nm : ByteArray} : ∀ {l : List ByteArray}, upN l → nm ∈ l → putN nm false l = l
  | x :: l, h, hm => by
    simp only [putN]
    split
    · rename_i h1
      have : nm ∈ l := by
        rcases List.mem_cons.1 hm with rfl | hm
        · simp [nlt_irrefl] at h1
        · exact hm
      rw [putN_mem h.2 this]
    · rename_i h1
      have h1 : nlt x nm = false := by simpa using h1
      rcases List.mem_cons.1 hm with rfl | hm
      · simp
      · exact absurd hm (not_mem_up h.1 h1)
theorem putN_new {nm : ByteArray} : ∀ {l : List ByteArray}, upN l → nm ∉ l → (putN nm false l).Perm (nm :: l)
  | [], _, _ => by simp [putN]
  | x :: l, h, hm => by
    simp only [putN]
    split
    · exact ((putN_new h.2 fun hl => hm (by simp [hl])).cons x).trans (List.Perm.swap nm x l)
    · have : x ≠ nm := fun e => hm (by simp [e])
      simp [this]
def rmN (nm : ByteArray) : List ByteArray → List ByteArray
  | [] => []
  | x :: l => if x = nm then l else x :: rmN nm l
theorem rmN_eq (nm : ByteArray) : ∀ l : List ByteArray, rmN nm l = l.erase nm
  | [] => rfl
  | x :: l => by
    rw [rmN, List.erase_cons, rmN_eq nm l]
    by_cases h : x = nm <;> simp [h]
theorem rmN_not {nm : ByteArray} : ∀ {l : List ByteArray}, nm ∉ l → rmN nm l = l
  | [], _ => rfl
  | x :: l, h => by
    rw [rmN, if_neg (fun e => h (by simp [e])), rmN_not fun hl => h (by simp [hl])]
theorem rmN_perm {nm : ByteArray} {a b : List ByteArray} (h : a.Perm b) : (rmN nm a).Perm (rmN nm b) := by
  rw [rmN_eq, rmN_eq]
  exact h.erase nm
theorem putN_gone {nm : ByteArray} : ∀ {l : List ByteArray}, upN l → putN nm true l = rmN nm l
  | [], _ => by simp [putN, rmN]
  | x :: l, h => by
    simp only [putN]
    split
    · rename_i h1
      rw [putN_gone h.2, rmN, if_neg (nlt_ne h1)]
    · rename_i h1
      have h1 : nlt x nm = false := by simpa using h1
      by_cases h2 : x = nm
      · simp [h2, rmN]
      · simp [h2, rmN, rmN_not (not_mem_up h.1 h1)]
def setN (nm : ByteArray) (gone : Bool) (ns : List ByteArray) : List ByteArray := if gone then rmN nm ns else if nm ∈ ns then ns else ns ++ [nm]
theorem setN_perm {nm : ByteArray} {gone : Bool} {ns l : List ByteArray} (hu : upN l) (h : ns.Perm l) : (setN nm gone ns).Perm (putN nm gone l) := by
  unfold setN
  cases gone with
  | true => simpa [putN_gone hu] using rmN_perm h
  | false =>
    by_cases hm : nm ∈ ns
    · simpa [hm, putN_mem hu (h.mem_iff.1 hm)] using h
    · simp only [hm, if_false]
      have := putN_new hu fun hl => hm (h.mem_iff.2 hl)
      exact ((List.perm_append_comm (l₁ := ns) (l₂ := [nm])).trans (h.cons nm)).trans this.symm
def entN (nm : ByteArray) : PV × PV := (.str nm, .bool true)
theorem sameK_str (a b : ByteArray) : sameK 1 (.str a) (.str b) = some (decide (a = b)) := by
  simp [sameK, ba_beq]
theorem mset_names (nm : ByteArray) : ∀ ns : List ByteArray, mset 1 (.str nm) (.bool true) (ns.map entN) = some ((setN nm false ns).map entN)
  | [] => by simp [mset, setN, entN]
  | x :: ns => by
    have ih := mset_names nm ns
    by_cases h : nm = x
    · subst h
      simp [mset, setN, entN, sameK_str]
    · by_cases h2 : nm ∈ ns <;> simp [setN, h2] at ih <;> simp [mset, setN, entN, sameK_str, h, h2, ih]
theorem mdel_names (nm : ByteArray) : ∀ ns : List ByteArray, mdel 1 (.str nm) (ns.map entN) = some ((setN nm true ns).map entN)
  | [] => by simp [mdel, setN, rmN]
  | x :: ns => by
    have ih := mdel_names nm ns
    simp only [setN, if_true] at ih ⊢
    by_cases h : x = nm
    · subst h
      simp [mdel, rmN, entN, sameK_str]
    · simp [mdel, rmN, entN, sameK_str, h, Ne.symm h, ih]
end Go.Proofs.YtngooidedlnmaaaGreat.Pv
