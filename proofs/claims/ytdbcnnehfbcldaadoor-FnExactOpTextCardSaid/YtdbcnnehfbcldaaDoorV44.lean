/- A plain reading of Go code and its soundness, part 44. No condition. -/
import Derived.Test.YtdbcnnehfbcldaaDoorV43
import Derived.Lib.Join
import Derived.Lib.ItoaNum
import Derived.Below
set_option linter.all false
set_option linter.unusedSimpArgs false
set_option linter.unusedVariables false
set_option linter.unnecessarySimpa false
/- Texts that the library makes: words joined, numbers written. No condition. -/
namespace Go.Proofs.YtdbcnnehfbcldaaDoor.Pv
open Go Go.RowKit
def strsOf : List PV → Option (List ByteArray)
  | [] => some []
  | .str s :: xs => (strsOf xs).map (s :: ·)
  | _ :: _ => none
theorem strsOf_map : ∀ l : List ByteArray, strsOf (l.map PV.str) = some l
  | [] => rfl
  | s :: l => by simp [strsOf, strsOf_map l]
theorem strsOf_eq : ∀ {xs : List PV} {l : List ByteArray}, strsOf xs = some l → xs = l.map PV.str
  | [], l, h => by simp [strsOf] at h; subst h; rfl
  | x :: xs, l, h => by
    cases x <;> simp [strsOf] at h
    obtain ⟨l', h1, rfl⟩ := h
    rw [strsOf_eq h1]
    rfl
section
variable {P : Program} {w w' : World} {ok : Bool → Nat → Prop}
theorem flatC_strs : ∀ l : List ByteArray, flatC (l.map PV.str) = l.map PV.str
  | [] => rfl
  | s :: l => by
    show [PV.str s] ++ flatC (l.map PV.str) = _
    rw [flatC_strs l]
    rfl
theorem repL_strs : ∀ {l : List ByteArray} {vs : List Value} {F : List Nat}, RepL P w ok (l.map PV.str) vs F → vs = l.map Value.string
  | [], _, _, h => by cases h; rfl
  | s :: l, _, _, h => by
    cases h with
    | cons c v F cs vs G h0 h1 h2 =>
      cases h1
      rw [repL_strs h2]
      rfl
theorem ends_two {ok0 : Bool → Nat → Prop} {v1 v2 v : Value} {r : PV} (mono : ∀ b, ok0 false b → ok0 true b) (hB : Below w.heap.size w w') (hr : Rep P w' ok0 r v []) : Ends P w w' ok0 [.val, .val] [v1, v2] [[], []] [[], []] [r] [] v :=
  ⟨ok0, [v], [], [[], []], [[], []], {
    mono := mono
    os := hB.os
    tape := hB.tape
    output := hB.output
    size := hB.size
    same := fun b hb _ => hB.block b hb
    res := .cons _ _ [] _ _ [] hr .nil
    val := rfl
    outs := .skip _ _ _ _ _ _ _ _ _ (.inl rfl) (.skip _ _ _ _ _ _ _ _ _ (.inl rfl) .nil)
    nodup := by simp
    pool := by simp
    ok := fun i b hb => ⟨by simp, by simp, fun _ => .inr hb⟩ }⟩
def joinT (l : List ByteArray) (sep : ByteArray) : ByteArray := ⟨(Lib.join (l.map (·.data.toList)) sep.data.toList).toArray⟩
def joinPrim (f : FuncId) : Prim := ⟨f, [.val, .val], fun
  | [.sl 0 _ xs, .str sep] => match strsOf xs with
    | some l => if l.length ≤ 140737488355328 ∧ (joinT l sep).size ≤ 140737488355328 then some ([.str (joinT l sep)], []) else none
    | none => none
  | _ => none⟩
theorem joinPrim_sem {f : FuncId} {e : TypeId} {l : List ByteArray} {sep : ByteArray} (h : l.length ≤ 140737488355328 ∧ (joinT l sep).size ≤ 140737488355328) : (joinPrim f).sem [.sl 0 e (l.map PV.str), .str sep] = some ([.str (joinT l sep)], []) := by simp [joinPrim, strsOf_map, h]
theorem joinPrim_ok {f : FuncId} (hf : ∃ fn, P.funcs[f]? = some fn ∧ fn.body.isSome = true ∧ fn.name ≠ "runtime.NumGoroutine")
    (h0 : ∀ (a : Option Addr) (c : Nat) (sep : ByteArray) (w : World), Calls P f #[.slice a 0 c, .string sep] w fun e w' => e = .returned (.string ⟨#[]⟩) ∧ w' = w)
    (h1 : ∀ (bk o c : Nat) (xs : List ByteArray) (sep : ByteArray) (w : World), (∀ (j : Nat) x, xs[j]? = some x → w.cell? ⟨bk, o + j, none⟩ = some (.string x)) → bk < w.heap.size → xs.length ≤ 140737488355328 → xs.length ≤ c →
      (Lib.join (xs.map (·.data.toList)) sep.data.toList).length ≤ 140737488355328 → Calls P f #[.slice (some ⟨bk, o, none⟩) xs.length c, .string sep] w fun e w' => e = .returned (.string ⟨(Lib.join (xs.map (·.data.toList)) sep.data.toList).toArray⟩) ∧ Below w.heap.size w w') : PrimOk P (joinPrim f) := by
  refine ⟨hf, fun ps rs os h => ?_⟩
  simp only [joinPrim] at h
  split at h
  · rename_i e xs sep
    split at h
    · rename_i l hl
      split at h
      · rename_i hb
        simp only [Option.some.injEq, Prod.mk.injEq] at h
        obtain ⟨rfl, rfl⟩ := h
        obtain rfl := strsOf_eq hl
        intro w ok0 vs As Bs mono hA nod hok
        cases hA with
        | cons _ _ v1 A1 B1 _ _ vs1 As1 Bs1 a1 a2 =>
          cases a1 with
          | val _ _ r1 =>
            cases a2 with
            | cons _ _ v2 A2 B2 _ _ vs2 As2 Bs2 a3 a4 =>
              cases a3 with
              | val _ _ r2 =>
                cases a4
                cases r2
                have none : ∀ (ad : Option Addr) (c : Nat), l = [] → v1 = .slice ad 0 c → Calls P f #[v1, .string sep] w fun e w' => ∃ v, e = .returned v ∧ Ends P w w' ok0 [.val, .val] [v1, .string sep] [[], []] [[], []] [.str (joinT l sep)] [] v := by
                  rintro ad c rfl rfl
                  refine (h0 ad c sep w).mono ?_
                  rintro e w' ⟨rfl, rfl⟩
                  exact ⟨_, rfl, ends_two mono (Below.refl _ _) (.str _)⟩
                generalize hp : PV.sl 0 e (l.map PV.str) = p at r1
                cases r1 <;> first | (cases hp; done) | skip
                case slN fl e' =>
                  simp only [PV.sl.injEq] at hp
                  exact none _ _ (by simpa using hp.2.2) rfl
                case slE fl e' ad =>
                  simp only [PV.sl.injEq] at hp
                  exact none _ _ (by simpa using hp.2.2) rfl
                case slI e' xs' vs' b off cap k1 k2 k3 k4 k5 k6 =>
                  simp only [PV.sl.injEq, true_and] at hp
                  obtain ⟨rfl, rfl⟩ := hp
                  rw [flatC_strs] at k1
                  have hv := repL_strs k1
                  subst hv
                  cases l with
                  | nil => exact none (some ⟨b, off, Option.none⟩) cap rfl rfl
                  | cons s l =>
                    have hsz := (k3 (by simp)).2
                    have hc := h1 b off cap (s :: l) sep w (fun j x hj => k4 j _ (by rw [List.getElem?_map, hj]; rfl)) hsz hb.1 (by simpa using k5) (by simpa [joinT, ByteArray.size] using hb.2)
                    rw [List.length_map]
                    refine hc.mono ?_
                    rintro e w' ⟨rfl, hB⟩
                    exact ⟨_, rfl, ends_two mono hB (.str _)⟩
      · cases h
    · cases h
  · cases h
def numPrim (f : FuncId) : Prim := ⟨f, [.val, .val], fun
  | [.int .i64 n, .int .i64 10] => if 0 ≤ n ∧ n < 100 then some ([.str ⟨(Lib.decDigits n.toNat).toArray⟩], []) else none
  | _ => none⟩
theorem numPrim_sem {f : FuncId} {n : Int} (h : 0 ≤ n ∧ n < 100) : (numPrim f).sem [.int .i64 n, .int .i64 10] = some ([.str ⟨(Lib.decDigits n.toNat).toArray⟩], []) := by simp [numPrim, h]
theorem numPrim_ok {f : FuncId} (hf : ∃ fn, P.funcs[f]? = some fn ∧ fn.body.isSome = true ∧ fn.name ≠ "runtime.NumGoroutine")
    (h1 : ∀ (i : Nat), i < 100 → ∀ (w : World), Calls P f #[.int .i64 i, .int .i64 10] w fun e w' => e = .returned (.string ⟨(Lib.decDigits i).toArray⟩) ∧ w' = w) : PrimOk P (numPrim f) := by
  refine ⟨hf, fun ps rs os h => ?_⟩
  simp only [numPrim] at h
  split at h
  · rename_i n
    split at h
    · rename_i hb
      simp only [Option.some.injEq, Prod.mk.injEq] at h
      obtain ⟨rfl, rfl⟩ := h
      intro w ok0 vs As Bs mono hA nod hok
      cases hA with
      | cons _ _ v1 A1 B1 _ _ vs1 As1 Bs1 a1 a2 =>
        cases a1 with
        | val _ _ r1 =>
          cases a2 with
          | cons _ _ v2 A2 B2 _ _ vs2 As2 Bs2 a3 a4 =>
            cases a3 with
            | val _ _ r2 =>
              cases a4
              cases r1
              cases r2
              have hn : ((n.toNat : Nat) : Int) = n := Int.toNat_of_nonneg hb.1
              have hc := h1 n.toNat (by omega) w
              rw [hn] at hc
              refine hc.mono ?_
              rintro e w' ⟨rfl, rfl⟩
              exact ⟨_, rfl, ends_two mono (Below.refl _ _) (.str _)⟩
    · cases h
  · cases h
end
end Go.Proofs.YtdbcnnehfbcldaaDoor.Pv
