/- A plain reading of Go code and its soundness, part 10. No condition. -/
import Derived.Test.YtngooidedlnmaaaGreatV9
set_option linter.all false
set_option linter.unusedSimpArgs false
set_option linter.unusedVariables false
set_option linter.unnecessarySimpa false
/- Filling a row of cells, part by part. No condition. -/
namespace Go.Proofs.YtngooidedlnmaaaGreat.Pv
open Go
theorem set_put {cells : Array Value} {k : Nat} {v : Value} {l : List Value} (h : k + 1 + l.length ≤ cells.size) : putCells (cells.setIfInBounds k v) (k + 1) l = putCells cells k (v :: l) := by
  apply Array.ext'
  apply List.ext_getElem?
  intro j
  have h1 : k + (v :: l).length ≤ cells.size := by simp only [List.length_cons]; omega
  have h2 : k + 1 + l.length ≤ (cells.setIfInBounds k v).size := by simpa using h
  have e1 : ∀ (arr : Array Value), arr.toList[j]? = arr[j]? := fun arr => by simp
  rw [e1, e1]
  by_cases a : j < k
  · rw [putCells_out h2 (by omega), putCells_out h1 (by omega), Array.getElem?_setIfInBounds_ne (by omega)]
  · by_cases b : j = k
    · subst b
      have := putCells_in (arr := cells) (k := j) (j := 0) h1 (by simp)
      rw [Nat.add_zero] at this
      rw [putCells_out h2 (by omega), this]
      simp [Array.getElem?_setIfInBounds]
      omega
    · by_cases c : j < k + 1 + l.length
      · have k1 := putCells_in (arr := cells.setIfInBounds k v) (k := k + 1) (j := j - (k + 1)) h2 (by omega)
        have k2 := putCells_in (arr := cells) (k := k) (j := j - k) h1 (by simp only [List.length_cons]; omega)
        rw [show k + 1 + (j - (k + 1)) = j by omega] at k1
        rw [show k + (j - k) = j by omega, show j - k = (j - (k + 1)) + 1 by omega, List.getElem?_cons_succ] at k2
        rw [k1, k2]
      · rw [putCells_out h2 (by omega), putCells_out h1 (by simp only [List.length_cons]; omega), Array.getElem?_setIfInBounds_ne (by omega)]
theorem fold_put : ∀ (l : List Value) (cells : Array Value) (off j0 : Nat), off + j0 + l.length ≤ cells.size → (l.zipIdx j0).foldl (fun cs (x : Value × Nat) => cs.setIfInBounds (off + x.2) x.1) cells = putCells cells (off + j0) l
  | [], cells, off, j0, h => by
    apply Array.ext'
    simp [putCells]
  | v :: l, cells, off, j0, h => by
    simp only [List.zipIdx_cons, List.foldl_cons]
    simp only [List.length_cons] at h
    rw [fold_put l _ off (j0 + 1) (by simp; omega), ← set_put (by omega)]
    rfl
theorem put_put_next {cells : Array Value} {k : Nat} {l r : List Value} (h : k + l.length + r.length ≤ cells.size) : putCells (putCells cells k l) (k + l.length) r = putCells cells k (l ++ r) := by
  apply Array.ext'
  apply List.ext_getElem?
  intro j
  have h1 : k + l.length ≤ cells.size := by omega
  have h2 : k + l.length + r.length ≤ (putCells cells k l).size := by rw [putCells_size h1]; exact h
  have h3 : k + (l ++ r).length ≤ cells.size := by rw [List.length_append]; omega
  have e1 : ∀ (arr : Array Value), arr.toList[j]? = arr[j]? := fun arr => by simp
  rw [e1, e1]
  by_cases a : j < k
  · rw [putCells_out h2 (by omega), putCells_out h1 (by omega), putCells_out h3 (by omega)]
  · by_cases b : j < k + l.length
    · have k1 := putCells_in (arr := cells) (k := k) (j := j - k) h1 (by omega)
      have k2 := putCells_in (arr := cells) (k := k) (j := j - k) h3 (by rw [List.length_append]; omega)
      rw [show k + (j - k) = j by omega] at k1 k2
      rw [putCells_out h2 (by omega), k1, k2, List.getElem?_append_left (by omega)]
    · by_cases c : j < k + l.length + r.length
      · have k1 := putCells_in (arr := putCells cells k l) (k := k + l.length) (j := j - (k + l.length)) h2 (by omega)
        have k2 := putCells_in (arr := cells) (k := k) (j := j - k) h3 (by rw [List.length_append]; omega)
        rw [show k + l.length + (j - (k + l.length)) = j by omega] at k1
        rw [show k + (j - k) = j by omega] at k2
        rw [k1, k2, List.getElem?_append_right (by omega)]
        congr 1; omega
      · rw [putCells_out h2 (by omega), putCells_out h1 (by omega), putCells_out h3 (by rw [List.length_append]; omega)]
theorem fill_row {sz : Nat} : ∀ (vs : List Value) (k : Nat) (cells : Array Value), (∀ v ∈ vs, v.cells.size = sz) → (k + vs.length) * sz ≤ cells.size →
    Instr.fill (fun i => some (i * sz, sz)) cells ((vs.zipIdx k).map fun x => (x.2, x.1)) = some (putCells cells (k * sz) (vs.flatMap fun v => v.cells.toList))
  | [], k, cells, _, _ => by
    simp [Instr.fill, putCells]
  | v :: vs, k, cells, hs, h => by
    have hv := hs v List.mem_cons_self
    have hle : (k + 1 + vs.length) * sz ≤ cells.size := by simpa [Nat.add_assoc, Nat.add_comm 1] using h
    have hk1 : (k + 1) * sz ≤ (k + 1 + vs.length) * sz := Nat.mul_le_mul_right _ (by omega)
    have hk : k * sz + sz ≤ cells.size := by rw [Nat.add_mul, Nat.one_mul] at hk1; omega
    simp only [List.zipIdx_cons, List.map_cons, Instr.fill]
    rw [if_neg (by simp only [hv, ne_eq, not_true_eq_false, decide_false, Bool.false_or, decide_eq_true_eq]; simp; omega)]
    have hf : (v.cells.zipIdx.foldl (fun cs (x : Value × Nat) => cs.setIfInBounds (k * sz + x.2) x.1) cells) = putCells cells (k * sz) v.cells.toList := by
      rw [← Array.foldl_toList, Array.toList_zipIdx]
      exact fold_put v.cells.toList cells (k * sz) 0 (by simp [hv]; exact hk)
    rw [hf, fill_row vs (k + 1) _ (fun u hu => hs u (List.mem_cons_of_mem _ hu)) (by rw [putCells_size (by simp [hv]; exact hk)]; exact hle)]
    have e : (k + 1) * sz = k * sz + v.cells.toList.length := by simp [hv, Nat.add_mul]
    rw [e, put_put_next]
    · simp
    · have : (vs.flatMap fun v => v.cells.toList).length = vs.length * sz := by
        clear hf hle h hk1
        induction vs with
        | nil => simp
        | cons u us ih =>
          simp only [List.flatMap_cons, List.length_append, List.length_cons, Nat.add_mul, Nat.one_mul]
          rw [ih (fun y hy => hs y (by simp only [List.mem_cons] at hy ⊢; rcases hy with h | h <;> simp [h]))]
          simp [hs u (by simp), Nat.add_comm]
      rw [this]
      simp only [Array.length_toList, hv]
      rw [Nat.add_mul, Nat.add_mul, Nat.one_mul] at hle
      omega
end Go.Proofs.YtngooidedlnmaaaGreat.Pv
