/- A plain reading of Go code and its soundness, part 28. No condition. -/
import Derived.Test.YtngooidedlnmaaaGreatV27
set_option linter.all false
set_option linter.unusedSimpArgs false
set_option linter.unusedVariables false
set_option linter.unnecessarySimpa false
/- A function that makes a box of one argument and zeros, and returns where it is. No condition. -/
namespace Go.Proofs.YtngooidedlnmaaaGreat.Pv
open Go
def plainOp (o : Oper) (d : Nat) : Bool := o.dst == some d && o.guard.isNone
def makerOps (P : Program) (N d : Nat) (zs : List PV) : List Oper → Bool
  | [o1, o2, o3, o4] => match o1.op, o2.op, o3.op, o4.op, o1.dst, o2.dst, o3.dst with
    | .move (.tmp 0), .build t ⟨[(0, .tmp x)]⟩, .box _ (.tmp y), .assign (.tmp z), some d1, some d2, some d3 =>
      x == d1 && y == d2 && z == d3 && plainOp o1 d1 && plainOp o2 d2 && plainOp o3 d3 && plainOp o4 d && decide (d1 < N) && decide (d2 < N) && decide (d3 < N) && decide (d < N) && zeroB P t zs && !zs.isEmpty &&
      (match P.underlying t with
      | some (.struct fs) => fs.toList.all (fun f => knownB P f.type) && (match fs.toList with
        | f0 :: _ => f0.offset == 0 && P.cellsOf f0.type == 1
        | [] => false)
      | _ => false)
    | _, _, _, _, _, _, _ => false
  | _ => false
def makerB (P : Program) (f : FuncId) (zs : List PV) : Bool := match P.funcs[f]? with
  | some fn => match fn.body, fn.results.toList with
    | some (.seq (.region _ ops0 false) (.seq (.region _ ops1 false) .ret)), [.tmp d] => (match ops0.toList with
      | [o0] => (match o0.op with
        | .assign (.const _) => true
        | _ => false) && plainOp o0 d && d != 0 && decide (1 ≤ fn.ntmps) && fn.name != "runtime.NumGoroutine"
      | _ => false) && makerOps P fn.ntmps d zs ops1.toList
    | _, _ => false
  | none => false
section
variable {P : Program} {w : World} {a : Act} {o : Oper} {v : Value} {d : Nat}
theorem wp_plainOp {next : Act → World → Prop} {Q : Exit → Act → World → Prop} {w2 : World} {ops : Array Oper} (hp : plainOp o d = true) (hr : (execOp a.eval o).run P w = .ok (.value v) w2) (hn : next (a.put (some d) v) w2) :
    if Region.wanted o (yielded ops a.tmps) then o.wp P a w next Q ∨ (o.asks P a w ∧ LetsOut Q) else next (a.put o.dst undef) w := by
  simp only [plainOp, Bool.and_eq_true, beq_iff_eq, Option.isNone_iff_eq_none] at hp
  have hw : Region.wanted o (yielded ops a.tmps) = true := by simp [Region.wanted, hp.2]
  rw [if_pos hw]
  refine .inl ?_
  unfold Oper.wp
  rw [hr, Oper.upon_value, hp.1]
  exact hn
theorem put_size : (a.put (some d) v).tmps.size = a.tmps.size := by simp [Act.put]
theorem eval_same (h : d < a.tmps.size) : (a.put (some d) v).eval (.tmp d) = v := by simp [Act.eval, Act.put, h]
theorem eval_ne {j : Nat} (h : d ≠ j) : (a.put (some d) v).eval (.tmp j) = a.eval (.tmp j) := by simp [Act.eval, Act.put, Array.getElem?_setIfInBounds_ne h]
theorem run_maker_build {t : TypeId} {zs : List PV} {fs : Array Field} {f0 : Field} {rest : List Field} {ρ : Operand → Value} {x : Operand} (ho : o.op = .build t #[(0, x)]) (hz : zeroB P t zs = true) (hne : zs.isEmpty = false) (hfs : P.underlying t = some (.struct fs)) (hk : fs.toList.all (fun f => knownB P f.type) = true) (h0 : fs.toList = f0 :: rest) (hoff : f0.offset = 0) (hsz : P.cellsOf f0.type = 1) (hv : (ρ x).oneCell' = true) :
    ∃ zc : List Value, repLB zs.tail zc = true ∧ (execOp ρ o).run P w = .ok (.value (.agg (ρ x :: zc).toArray)) w := by
  obtain ⟨z, hz1, _, hz2⟩ := run_alloc' (w := w) hz
  obtain ⟨p0, ps, rfl⟩ : ∃ p0 ps, zs = p0 :: ps := by cases zs with | nil => simp at hne | cons p ps => exact ⟨p, ps, rfl⟩
  obtain ⟨c0, zc, hzc⟩ : ∃ c0 zc, z.cells.toList = c0 :: zc := by
    cases hx : z.cells.toList with
    | nil => rw [hx] at hz1; simp [repLB] at hz1
    | cons c zc => exact ⟨c, zc, rfl⟩
  rw [hzc] at hz1
  simp only [repLB, Bool.and_eq_true] at hz1
  refine ⟨zc, hz1.2, ?_⟩
  have hcells : z.cells = (c0 :: zc).toArray := by apply Array.ext'; simpa using hzc
  have hv1 : (ρ x).cells = #[ρ x] := by
    revert hv
    cases ρ x <;> intro hv <;> first | rfl | cases hv
  rw [ex_build ho]
  refine run_valOf ?_
  have hpl : (fs.mapM fun f => do pure (f.offset, ← sizeOf f.type) : Sem (Array (Nat × Nat))).run P w = .ok (fs.map fun f => (f.offset, P.cellsOf f.type)) w := by
    have h1 := run_places fs.toList (fun f hf => by simpa using List.all_eq_true.1 hk f hf) w
    have h2 : (fs.toList.mapM fun f => Prod.mk f.offset <$> sizeOf f.type : Sem (List (Nat × Nat))).run P w = .ok (fs.toList.map fun f => (f.offset, P.cellsOf f.type)) w := by simpa using h1
    rw [Array.mapM_eq_mapM_toList]
    simp [h2]
    apply Array.ext'
    simp
  have hplace : (fs.map fun f => (f.offset, P.cellsOf f.type))[0]? = some (0, 1) := by
    have : fs[0]? = some f0 := by rw [← Array.getElem?_toList, h0]; rfl
    simp [this, hoff, hsz]
  have hfill : Instr.fill (fun i => (fs.map fun f => (f.offset, P.cellsOf f.type))[i]?) z.cells [(0, ρ x)] = some (ρ x :: zc).toArray := by
    simp only [Instr.fill, hplace, hv1, hcells]
    simp
  unfold Instr.build
  simp only [Sem.run_bind, hz2, Result.andThen_ok, run_underlying hfs, hpl, Sem.run_pure]
  have hl : ((#[(0, x)] : Array (Nat × Operand)).map fun y => (y.1, ρ y.2)).toList = [(0, ρ x)] := by simp
  simp only [hl, hfill, Sem.run_pure]
theorem makerB_enters {f : FuncId} {zs : List PV} (h : makerB P f zs = true) : ∃ fn, P.funcs[f]? = some fn ∧ fn.body.isSome = true ∧ fn.name ≠ "runtime.NumGoroutine" := by
  unfold makerB at h
  split at h
  · rename_i fn hfn
    split at h
    · rename_i id0 ops0 id1 ops1 d hb hres
      simp only [Bool.and_eq_true] at h
      obtain ⟨h0, h1⟩ := h
      split at h0
      · rename_i o0 hops0
        simp only [Bool.and_eq_true, decide_eq_true_eq, bne_iff_ne, ne_eq] at h0
        exact ⟨fn, hfn, by rw [hb]; rfl, h0.2⟩
      · cases h0
    · cases h
  · cases h
theorem maker_calls {f : FuncId} {zs : List PV} (h : makerB P f zs = true) (hv : v.oneCell' = true) : Calls P f #[v] w fun e w' => ∃ (zc : List Value) (ty : TypeId), repLB zs.tail zc = true ∧ e = .returned (.pointer (some ⟨w.heap.size, 0, none⟩)) ∧ w' = w.alloc (.cells (v :: zc).toArray ty) := by
  unfold makerB at h
  split at h
  · rename_i fn hfn
    split at h
    · rename_i id0 ops0 id1 ops1 d hb hres
      simp only [Bool.and_eq_true] at h
      obtain ⟨h0, h1⟩ := h
      split at h0
      · rename_i o0 hops0
        simp only [Bool.and_eq_true, decide_eq_true_eq, bne_iff_ne, ne_eq] at h0
        obtain ⟨⟨⟨⟨hop0, hp0⟩, hd0⟩, hN1⟩, hname⟩ := h0
        unfold makerOps at h1
        split at h1
        · rename_i o1 o2 o3 o4 hops1
          split at h1
          · rename_i t x ty y z d1 d2 d3 e1 e2 e3 e4 g1 g2 g3
            simp only [Bool.and_eq_true, decide_eq_true_eq, beq_iff_eq, Bool.not_eq_true'] at h1
            obtain ⟨⟨⟨⟨⟨⟨⟨⟨⟨⟨⟨⟨⟨rfl, rfl⟩, rfl⟩, p1⟩, p2⟩, p3⟩, p4⟩, l1⟩, l2⟩, l3⟩, l4⟩, hz⟩, hne⟩, hst⟩ := h1
            obtain rfl : ops0 = #[o0] := by apply Array.ext'; simpa using hops0
            obtain rfl : ops1 = #[o1, o2, o3, o4] := by apply Array.ext'; simpa using hops1
            obtain ⟨dd, hdd⟩ : ∃ c, o0.op = .assign (.const c) := by
              split at hop0
              · rename_i c hc; exact ⟨c, hc⟩
              · cases hop0
            split at hst
            · rename_i fs hfs
              simp only [Bool.and_eq_true] at hst
              obtain ⟨hk, hst⟩ := hst
              split at hst
              · rename_i f0 rest hf0
                simp only [Bool.and_eq_true, beq_iff_eq] at hst
                refine calls_of_wp hfn hb ?_
                have hsz : (#[v] ++ Array.replicate (fn.ntmps - (#[v] : Array Value).size) undef).size = fn.ntmps := by simp; omega
                generalize hA : ({ tmps := #[v] ++ Array.replicate (fn.ntmps - (#[v] : Array Value).size) undef, defers := [] } : Act) = A
                have hAs : A.tmps.size = fn.ntmps := by rw [← hA]; exact hsz
                have hA0 : A.eval (.tmp 0) = v := by rw [← hA]; simp [Act.eval, Array.getElem?_append]
                have hAd : A.defers = [] := by rw [← hA]
                refine wp_seq (wp_region ?_)
                show wpOps P #[o0] _ [0] A w
                simp only [wpOps]
                refine wp_plainOp hp0 (v := dd) (w2 := w) (by simp [execOp, hdd, Act.eval]) ?_
                refine wp_seq (wp_region ?_)
                show wpOps P #[o1, o2, o3, o4] _ [0, 1, 2, 3] _ w
                simp only [wpOps]
                generalize hB : A.put (some d) dd = B
                have hBs : B.tmps.size = fn.ntmps := by rw [← hB, put_size, hAs]
                have hB0 : B.eval (.tmp 0) = v := by rw [← hB, eval_ne hd0, hA0]
                have hBd : B.defers = [] := by rw [← hB]; exact hAd
                have r1 : (execOp B.eval o1).run P w = .ok (.value v) w := by rw [ex_move (.inl e1), hB0]; rfl
                refine wp_plainOp (o := o1) p1 (v := v) (w2 := w) r1 ?_
                have hx1 : (B.put (some x) v).eval (.tmp x) = v := eval_same (by rw [hBs]; exact l1)
                obtain ⟨zc, hzc, hrun⟩ := run_maker_build (w := w) (ρ := (B.put (some x) v).eval) e2 hz hne hfs hk hf0 hst.1 hst.2 (by rw [hx1]; exact hv)
                rw [hx1] at hrun
                refine wp_plainOp (o := o2) p2 hrun ?_
                generalize hC : (B.put (some x) v).put (some y) (.agg (v :: zc).toArray) = C
                have hCs : C.tmps.size = fn.ntmps := by rw [← hC, put_size, put_size, hBs]
                have hCy : C.eval (.tmp y) = .agg (v :: zc).toArray := by rw [← hC]; exact eval_same (by rw [put_size, hBs]; exact l2)
                have hCd : C.defers = [] := by rw [← hC]; exact hBd
                have r3 : (execOp C.eval o3).run P w = .ok (.value (.pointer (some ⟨w.heap.size, 0, none⟩))) (w.alloc (.cells (v :: zc).toArray ty)) := by
                  rw [ex_box e3, hCy]
                  exact run_valOf (by simp [Instr.box, newVar, newRow, newObj, Sem.run, Value.cells])
                refine wp_plainOp (o := o3) p3 r3 ?_
                have hDz : (C.put (some z) (.pointer (some ⟨w.heap.size, 0, none⟩))).eval (.tmp z) = .pointer (some ⟨w.heap.size, 0, none⟩) := eval_same (by rw [hCs]; exact l3)
                have r4 : (execOp (C.put (some z) (.pointer (some ⟨w.heap.size, 0, none⟩))).eval o4).run P (w.alloc (.cells (v :: zc).toArray ty)) = .ok (.value (.pointer (some ⟨w.heap.size, 0, none⟩))) (w.alloc (.cells (v :: zc).toArray ty)) := by rw [ex_move (.inr e4), hDz]; rfl
                refine wp_plainOp (o := o4) p4 r4 ?_
                refine wp_ret ?_
                refine ⟨hCd, .pointer (some ⟨w.heap.size, 0, none⟩), ?_, zc, ty, hzc, rfl, rfl⟩
                have := run_results (P := P) (w := w.alloc (.cells (v :: zc).toArray ty)) (fn := fn) (tmps := ((C.put (some z) (.pointer (some ⟨w.heap.size, 0, none⟩))).put (some d) (.pointer (some ⟨w.heap.size, 0, none⟩))).tmps) (vs := [.pointer (some ⟨w.heap.size, 0, none⟩)]) (by rw [hres]; rfl) (fun i r u h1 h2 => by
                  rw [hres] at h1
                  cases i with
                  | zero =>
                    simp at h1 h2; subst h1; subst h2
                    have := eval_same (a := C.put (some z) (.pointer (some ⟨w.heap.size, 0, none⟩))) (d := d) (v := .pointer (some ⟨w.heap.size, 0, none⟩)) (by rw [put_size, hCs]; exact l4)
                    simp only [Act.eval] at this
                    simp only [resSem, this, Sem.run_pure]
                  | succ i => simp at h1)
                exact this
              · cases hst
            · cases hst
          · cases h1
        · cases h1
      · cases h0
    · cases h
  · cases h
end
end Go.Proofs.YtngooidedlnmaaaGreat.Pv
