/- A plain reading of Go code and its soundness, part 6. No condition. -/
import Derived.Test.YtngooidedlnmaaaGreatV5
set_option linter.all false
set_option linter.unusedSimpArgs false
set_option linter.unusedVariables false
set_option linter.unnecessarySimpa false
/- A part of a slice of one's own is written: what the slice is then. No condition. -/
namespace Go.Proofs.YtngooidedlnmaaaGreat.Pv
open Go
section
variable {P : Program} {G G' : Gh} {w w' : World} {F : List Nat} {ok ok' : Bool → Nat → Prop}
theorem nodup_splice {A B C D H : List Nat} (hn : (A ++ (B ++ C)).Nodup) (hd : D.Nodup) (hs : ∀ x ∈ D, x ∈ B ∨ x ∈ H) (hh : ∀ x ∈ H, ¬ x ∈ A ++ (B ++ C)) : (A ++ (D ++ C)).Nodup := by
  obtain ⟨h1, h2, h3⟩ := List.nodup_append.1 hn
  obtain ⟨h4, h5, h6⟩ := List.nodup_append.1 h2
  refine List.nodup_append.2 ⟨h1, List.nodup_append.2 ⟨hd, h5, fun x hx y hy e => ?_⟩, fun x hx y hy e => ?_⟩
  · subst e
    rcases hs x hx with h | h
    · exact h6 x h x hy rfl
    · exact hh x h (by simp [hy])
  · subst e
    rcases List.mem_append.1 hy with h | h
    · rcases hs x h with h | h
      · exact h3 x hx x (by simp [h]) rfl
      · exact hh x h (by simp [hx])
    · exact h3 x hx x (by simp [h]) rfl
theorem RepL.splice {A B C : List PV} {vs : List Value} (h : RepL P w ok (A ++ (B ++ C)) vs F) :
    ∃ va vb vc Fa Fb Fc, vs = va ++ (vb ++ vc) ∧ F = Fa ++ (Fb ++ Fc) ∧ va.length = A.length ∧ vb.length = B.length ∧ RepL P w ok A va Fa ∧ RepL P w ok B vb Fb ∧ RepL P w ok C vc Fc := by
  obtain ⟨va, v2, Fa, F2, rfl, rfl, h1, h2⟩ := RepL.split h
  obtain ⟨vb, vc, Fb, Fc, rfl, rfl, h3, h4⟩ := RepL.split h2
  exact ⟨va, vb, vc, Fa, Fb, Fc, rfl, rfl, h1.length.symm, h3.length.symm, h1, h3, h4⟩
theorem setCells_cells {x : PV} {f : Nat} {ps : List PV} (h1 : 1 ≤ ps.length) (hf : f + ps.length ≤ x.cells.length) (hna : ∀ p ∈ ps, ∀ ds, p ≠ .agg ds) : (Pv.setCells x f ps).cells = x.cells.take f ++ (ps ++ x.cells.drop (f + ps.length)) := by
  by_cases ha : ∃ cs, x = .agg cs
  · obtain ⟨cs, rfl⟩ := ha
    simp [Pv.setCells, PV.cells]
  · have e : x.cells = [x] := by cases x <;> first | rfl | exact absurd ⟨_, rfl⟩ ha
    rw [e] at hf ⊢
    have e2 : Pv.setCells x f ps = ps.headD .nilp := by cases x <;> first | rfl | exact absurd ⟨_, rfl⟩ ha
    rw [e2]
    match ps, h1, hf, hna with
    | [p], _, hf, hna =>
      simp only [List.length_cons, List.length_nil] at hf
      obtain rfl : f = 0 := by omega
      have : p.cells = [p] := by cases p <;> first | rfl | exact absurd rfl (hna _ List.mem_cons_self _)
      simp [this]
    | _ :: _ :: _, _, hf, _ => exfalso; simp only [List.length_cons, List.length_nil] at hf; omega
theorem flatC_set {n i f : Nat} {xs ps : List PV} {x : PV} (hu : ∀ x ∈ xs, x.cells.length = n) (hx : xs[i]? = some x) (h1 : 1 ≤ ps.length) (hf : f + ps.length ≤ x.cells.length) (hna : ∀ p ∈ ps, ∀ ds, p ≠ .agg ds) :
    flatC (xs.set i (Pv.setCells x f ps)) = (flatC xs).take (i * n + f) ++ (ps ++ (flatC xs).drop (i * n + f + ps.length)) := by
  have hi : i < xs.length := (List.getElem?_eq_some_iff.1 hx).1
  have hxi : xs[i] = x := (List.getElem?_eq_some_iff.1 hx).2
  have e1 : xs = xs.take i ++ (x :: xs.drop (i + 1)) := by
    rw [← hxi, ← List.drop_eq_getElem_cons hi, List.take_append_drop]
  have e2 : xs.set i (Pv.setCells x f ps) = xs.take i ++ (Pv.setCells x f ps :: xs.drop (i + 1)) := by
    rw [List.set_eq_take_append_cons_drop, if_pos hi]
  have l1 : (flatC (xs.take i)).length = i * n := by
    rw [flatC_length (fun y hy => hu y (List.mem_of_mem_take hy)), List.length_take, Nat.min_eq_left (by omega)]
  have c1 : ∀ (y : PV) ys, flatC (y :: ys) = y.cells ++ flatC ys := fun y ys => by simp [flatC]
  have e3 : flatC xs = flatC (xs.take i) ++ (x.cells ++ flatC (xs.drop (i + 1))) := by
    rw [← c1, ← flatC_append, ← e1]
  rw [e2, flatC_append, c1, setCells_cells h1 hf hna]
  generalize hA : flatC (xs.take i) = A at *
  generalize hC : flatC (xs.drop (i + 1)) = C at *
  rw [e3]
  have t1 : (A ++ (x.cells ++ C)).take (i * n + f) = A ++ x.cells.take f := by
    rw [← l1, List.take_append, List.take_of_length_le (by omega), Nat.add_sub_cancel_left, List.take_append_of_le_length (by omega)]
  have t2 : (A ++ (x.cells ++ C)).drop (i * n + f + ps.length) = x.cells.drop (f + ps.length) ++ C := by
    rw [← l1, List.drop_append, List.drop_eq_nil_of_le (by omega), List.nil_append, show A.length + f + ps.length - A.length = f + ps.length by omega, List.drop_append_of_le_length hf]
  rw [t1, t2]
  simp [List.append_assoc]
theorem mid_get {α : Type} {vs us : List α} {k j : Nat} (h : k + us.length ≤ vs.length) : (vs.take k ++ (us ++ vs.drop (k + us.length)))[j]? = if k ≤ j ∧ j < k + us.length then us[j - k]? else vs[j]? := by
  have l1 : (vs.take k).length = k := by rw [List.length_take]; omega
  by_cases h1 : j < k
  · rw [List.getElem?_append_left (by omega), List.getElem?_take, if_pos h1, if_neg (by omega)]
  · rw [List.getElem?_append_right (by omega), l1]
    by_cases h2 : j < k + us.length
    · rw [if_pos ⟨by omega, h2⟩, List.getElem?_append_left (by omega)]
    · rw [if_neg (by omega), List.getElem?_append_right (by omega), List.getElem?_drop]
      congr 1; omega
theorem RepL.mid {qs ps : List PV} {vs us : List Value} {H : List Nat} {k : Nat} {W : World} (h : RepL P w ok qs vs F) (hk : k + ps.length ≤ qs.length) (hr : RepL P W ok' ps us H) (hn : F.Nodup) (hHn : H.Nodup) (hH : ∀ x ∈ H, ¬ x ∈ F)
    (hfr : ∀ {p : List PV} {v : List Value} {F1 : List Nat}, RepL P w ok p v F1 → (∀ x ∈ F1, x ∈ F) → RepL P W ok' p v F1) :
    ∃ F', RepL P W ok' (qs.take k ++ (ps ++ qs.drop (k + ps.length))) (vs.take k ++ (us ++ vs.drop (k + us.length))) F' ∧ F'.Nodup ∧ ∀ x ∈ F', x ∈ F ∨ x ∈ H := by
  have e : qs = qs.take k ++ ((qs.drop k).take ps.length ++ qs.drop (k + ps.length)) := by
    rw [← List.drop_drop, List.take_append_drop, List.take_append_drop]
  have hl := h.length
  have hlu := hr.length
  rw [e] at h
  obtain ⟨va, vb, vc, Fa, Fb, Fc, rfl, rfl, l1, l2, h1, h2, h3⟩ := h.splice
  have l1' : va.length = k := by rw [l1, List.length_take]; omega
  have l2' : vb.length = us.length := by rw [l2, List.length_take, List.length_drop]; omega
  have t1 : (va ++ (vb ++ vc)).take k = va := by rw [← l1', List.take_left]
  have t2 : (va ++ (vb ++ vc)).drop (k + us.length) = vc := by rw [← List.drop_drop, ← l1', List.drop_left, ← l2', List.drop_left]
  rw [t1, t2]
  refine ⟨Fa ++ (H ++ Fc), RepL.append (hfr h1 (fun x hx => by simp [hx])) (RepL.append hr (hfr h3 (fun x hx => by simp [hx]))), nodup_splice hn hHn (fun x hx => .inr hx) hH, fun x hx => ?_⟩
  simp only [List.mem_append] at hx ⊢
  rcases hx with hx | hx | hx
  · exact .inl (.inl hx)
  · exact .inr hx
  · exact .inl (.inr (.inr hx))
theorem RepL.notAgg : ∀ {ps : List PV} {vs : List Value} {F : List Nat}, RepL P w ok ps vs F → ∀ c ∈ ps, ∀ ds, c ≠ .agg ds
  | _, _, _, .nil, c, hc => by simp at hc
  | _, _, _, .cons c v F cs vs F' h0 h1 h2, c', hc => by
    rcases List.mem_cons.1 hc with rfl | hc
    · exact h0
    · exact RepL.notAgg h2 c' hc
theorem setCells_len {x : PV} {f : Nat} {ps : List PV} (h1 : 1 ≤ ps.length) (hf : f + ps.length ≤ x.cells.length) (hna : ∀ p ∈ ps, ∀ ds, p ≠ .agg ds) : (Pv.setCells x f ps).cells.length = x.cells.length := by
  rw [setCells_cells h1 hf hna]
  simp only [List.length_append, List.length_take, List.length_drop]
  omega
theorem Rep.write {W : World} {fl : Nat} {e : TypeId} {xs ps : List PV} {us : List Value} {H : List Nat} {b off n cap i f : Nat} {x : PV} {arr : Array Value} {ty : TypeId} (hfl : 1 ≤ fl) (h : Rep P w ok (.sl fl e xs) (.slice (some ⟨b, off, none⟩) n cap) F) (hn : F.Nodup)
    (hx : xs[i]? = some x) (h1 : 1 ≤ ps.length) (hf : f + ps.length ≤ x.cells.length) (hr : RepL P W ok' ps us H) (hHn : H.Nodup) (hH : ∀ x ∈ H, ¬ x ∈ F) (hw : w.heap[b]? = some (.cells arr ty (0, 0)))
    (hW : W.heap[b]? = some (.cells (putCells arr (off + (i * P.cellsOf e + f)) us) ty (0, 0))) (hoth : ∀ b', b' ≠ b → W.heap[b']? = w.heap[b']?) (hsz : w.heap.size ≤ W.heap.size) (hk : ∀ i b', ok i b' → b' < w.heap.size → ok' i b') (hokb : ∀ i b', ok i b' → b' ≠ b) :
    b ∈ F ∧ off + (i * P.cellsOf e + f) + us.length ≤ arr.size ∧ ∃ F', Rep P W ok' (.sl fl e (xs.set i (Pv.setCells x f ps))) (.slice (some ⟨b, off, none⟩) n cap) F' ∧ F'.Nodup ∧ ∀ x ∈ F', x ∈ F ∨ x ∈ H := by
  have hi : i < xs.length := (List.getElem?_eq_some_iff.1 hx).1
  have hna := hr.notAgg
  have hlu := hr.length
  have key : ∀ {vs : List Value} {F1 : List Nat}, RepL P w ok (flatC xs) vs F1 → (∀ x ∈ xs, x.cells.length = P.cellsOf e) → F = b :: F1 → ∃ F', RepL P W ok' (flatC (xs.set i (Pv.setCells x f ps))) (vs.take (i * P.cellsOf e + f) ++ (us ++ vs.drop (i * P.cellsOf e + f + us.length))) F' ∧ F'.Nodup ∧ (∀ x ∈ F', x ∈ F1 ∨ x ∈ H) ∧
      i * P.cellsOf e + f + us.length ≤ vs.length ∧ ∀ y ∈ xs.set i (Pv.setCells x f ps), y.cells.length = P.cellsOf e := by
    intro vs F1 hl hu hF
    subst hF
    have hn1 := List.nodup_cons.1 hn
    have hxc := hu x (List.mem_of_getElem? hx)
    have hkl : i * P.cellsOf e + f + ps.length ≤ (flatC xs).length := by
      rw [flatC_length hu]
      have : (i + 1) * P.cellsOf e ≤ xs.length * P.cellsOf e := Nat.mul_le_mul_right _ (by omega)
      rw [Nat.add_mul, Nat.one_mul] at this
      omega
    rw [flatC_set hu hx h1 hf hna]
    obtain ⟨F', k1, k2, k3⟩ := hl.mid hkl hr hn1.2 hHn (fun x hx hxF => hH x hx (List.mem_cons_of_mem _ hxF)) (fun {p v F2} hp hF2 => hp.frame hk hsz (fun i b' hb _ => hoth b' (hokb i b' hb)) (fun b' hb => hoth b' (fun e => hn1.1 (e ▸ hF2 b' hb))))
    refine ⟨F', k1, k2, k3, by rw [← hl.length, ← hlu]; exact hkl, fun y hy => ?_⟩
    rcases List.mem_or_eq_of_mem_set hy with hy | rfl
    · exact hu y hy
    · rw [setCells_len h1 hf hna, hxc]
  have hlen : (xs.set i (Pv.setCells x f ps)).length = xs.length := List.length_set
  cases h with
  | slE _ _ _ => simp at hi
  | slI _ _ _ _ _ _ _ _ _ _ _ _ => omega
  | slO _ _ vs _ _ _ arr' ty' F1 hl hu hg hc g1 g2 hz =>
    rw [hw] at hg
    simp only [Option.some.injEq, Obj.cells.injEq, and_true] at hg
    obtain ⟨rfl, rfl⟩ := hg
    obtain ⟨F', k1, k2, k3, k4, k5⟩ := key hl hu rfl
    have hfit : off + (i * P.cellsOf e + f) + us.length ≤ arr.size := by
      by_cases hz : vs.length = 0
      · omega
      · obtain ⟨v, hv⟩ : ∃ v, vs[vs.length - 1]? = some v := ⟨_, List.getElem?_eq_getElem (by omega)⟩
        have := (Array.getElem?_eq_some_iff.1 (hc _ v hv)).1
        omega
    refine ⟨List.mem_cons_self, hfit, b :: F', ?_, List.nodup_cons.2 ⟨fun hb => ?_, k2⟩, fun x hx => ?_⟩
    · rw [← hlen]
      refine .slO e _ _ b off cap _ ty F' k1 k5 hW (fun j v hj => ?_) (by rw [hlen]; exact g1) g2 hz
      rw [mid_get k4] at hj
      split at hj
      · rename_i hin
        have hlt : j - (i * P.cellsOf e + f) < us.length := by omega
        have := putCells_in (arr := arr) hfit hlt
        rw [show off + (i * P.cellsOf e + f) + (j - (i * P.cellsOf e + f)) = off + j by omega, hj] at this
        exact this
      · rw [putCells_out hfit (by omega)]
        exact hc j v hj
    · rcases k3 b hb with hb | hb
      · exact (List.nodup_cons.1 hn).1 hb
      · exact hH b hb List.mem_cons_self
    · rcases List.mem_cons.1 hx with rfl | hx
      · exact .inl List.mem_cons_self
      · rcases k3 x hx with hx | hx
        · exact .inl (List.mem_cons_of_mem _ hx)
        · exact .inr hx
  | slA _ _ vs _ _ F1 hl hu ho hz =>
    obtain ⟨F', k1, k2, k3, k4, k5⟩ := key hl hu rfl
    rcases ho.2 with ⟨hnn, _⟩ | ⟨g, c, cur, he, _, hg, h3, h4, h5, h6⟩
    · cases hnn
    · simp only [Value.slice.injEq, Option.some.injEq, Addr.mk.injEq, and_true, true_and] at he
      obtain ⟨rfl, rfl⟩ := he
      rw [hw] at hg
      simp only [Option.some.injEq, Obj.cells.injEq, and_true] at hg
      obtain ⟨rfl, rfl⟩ := hg
      have hvl : vs.length = xs.length * P.cellsOf ty := ho.1
      have hcl : xs.length * P.cellsOf ty ≤ arr.size := by rw [h5]; exact Nat.mul_le_mul_right _ h3
      have hfit : 0 + (i * P.cellsOf ty + f) + us.length ≤ arr.size := by omega
      refine ⟨List.mem_cons_self, hfit, b :: F', ?_, List.nodup_cons.2 ⟨fun hb => ?_, k2⟩, fun x hx => ?_⟩
      · rw [← hlen]
        refine .slA ty _ _ b cap F' k1 k5 ⟨by rw [hlen, ← hvl]; simp only [List.length_append, List.length_take, List.length_drop]; omega, .inr ⟨b, cap, _, rfl, Nat.zero_le _, hW, by rw [hlen]; exact h3, h4, by rw [putCells_size hfit]; exact h5, ?_⟩⟩ hz
        rw [hlen]
        apply List.ext_getElem?
        intro j
        rw [mid_get k4, List.getElem?_take]
        have hcv : ∀ j, j < xs.length * P.cellsOf ty → arr[j]? = vs[j]? := fun j hj => by
          rw [← h6, List.getElem?_take, if_pos hj]; simp
        split
        · rename_i hjl
          split
          · rename_i hin
            have hlt : j - (i * P.cellsOf ty + f) < us.length := by omega
            have := putCells_in (arr := arr) hfit hlt
            rw [show 0 + (i * P.cellsOf ty + f) + (j - (i * P.cellsOf ty + f)) = j by omega] at this
            simpa using this
          · have := putCells_out (arr := arr) (vs := us) (j := j) hfit (by omega)
            rw [hcv j hjl] at this
            simpa using this
        · rw [if_neg (by omega)]
          exact (List.getElem?_eq_none (by omega)).symm
      · rcases k3 b hb with hb | hb
        · exact (List.nodup_cons.1 hn).1 hb
        · exact hH b hb List.mem_cons_self
      · rcases List.mem_cons.1 hx with rfl | hx
        · exact .inl List.mem_cons_self
        · rcases k3 x hx with hx | hx
          · exact .inl (List.mem_cons_of_mem _ hx)
          · exact .inr hx
end
end Go.Proofs.YtngooidedlnmaaaGreat.Pv
