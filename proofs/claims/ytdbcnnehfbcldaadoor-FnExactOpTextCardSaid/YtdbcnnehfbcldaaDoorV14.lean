/- A plain reading of Go code and its soundness, part 14. No condition. -/
import Derived.Test.YtdbcnnehfbcldaaDoorV13
import Derived.Laws.MakeOwn
import Derived.Laws.BytesString
set_option linter.all false
set_option linter.unusedSimpArgs false
set_option linter.unusedVariables false
set_option linter.unnecessarySimpa false
/- Made rows, bytes as a string, structs built of their parts. No condition. -/
namespace Go.Proofs.YtdbcnnehfbcldaaDoor.Pv
open Go
section
variable {P : Program} {ar : Nat → Nat} {N : Nat} {E : Entry} {G G' : Gh} {s : St} {a : Act} {w w' : World} {m m' m2 : Mem} {F : List Nat} {as cs : List AV} {ρ : Operand → Value} {o : Oper} {d : Nat} {t' : Nat → AV} {ok : Bool → Nat → Prop}
theorem RepL.of_get : ∀ {cs : List PV} {vs : List Value}, cs.length = vs.length → (∀ (j : Nat) c v, cs[j]? = some c → vs[j]? = some v → Rep P w ok c v [] ∧ ∀ ds, c ≠ .agg ds) → RepL P w ok cs vs []
  | [], [], _, _ => .nil
  | c :: cs, v :: vs, hl, h => by
    have h0 := h 0 c v rfl rfl
    have := RepL.of_get (cs := cs) (vs := vs) (by simpa using hl) (fun j c v h1 h2 => h (j + 1) c v (by simpa using h1) (by simpa using h2))
    have := RepL.cons c v [] cs vs [] h0.2 h0.1 this
    simpa using this
theorem made_rep {e : TypeId} {z : PV} {zc : Array Value} {n : Nat} (hz : repLB z.cells zc.toList = true) (hs : zc.size = P.cellsOf e) : RepL P w ok (flatC (List.replicate n z)) (madeCells zc (n * P.cellsOf e)).toList [] := by
  have hzl : z.cells.length = P.cellsOf e := by
    have := (repLB_sound (P := P) (w := w) (ok := ok) hz).length
    rw [this]; simpa using hs
  have hu : ∀ x ∈ List.replicate n z, x.cells.length = P.cellsOf e := fun x hx => by rw [(List.mem_replicate.1 hx).2]; exact hzl
  refine RepL.of_get (by rw [flatC_length hu]; simp [size_madeCells]) (fun j c v hj hv => ?_)
  have hlt : j < n * P.cellsOf e := by
    have := (List.getElem?_eq_some_iff.1 hv).1
    simpa [size_madeCells] using this
  have hpos : 0 < P.cellsOf e := by
    rcases Nat.eq_zero_or_pos (P.cellsOf e) with h0 | h0
    · rw [h0] at hlt; simp at hlt
    · exact h0
  have hf : j % P.cellsOf e < P.cellsOf e := Nat.mod_lt _ hpos
  have hi : j / P.cellsOf e < n := (Nat.div_lt_iff_lt_mul hpos).2 hlt
  obtain ⟨c', hc'⟩ : ∃ c', z.cells[j % P.cellsOf e]? = some c' := ⟨_, List.getElem?_eq_getElem (by rw [hzl]; exact hf)⟩
  have h1 := flatC_get hu (i := j / P.cellsOf e) (f := j % P.cellsOf e) (x := z) (by simp [hi]) hc'
  have hdm : j / P.cellsOf e * P.cellsOf e + j % P.cellsOf e = j := by rw [Nat.mul_comm]; exact Nat.div_add_mod j _
  rw [hdm, hj] at h1
  obtain rfl := Option.some.inj h1
  obtain ⟨v', F', k1, k2, k3, _⟩ := (repLB_sound (P := P) (w := w) (ok := ok) hz).get hc'
  have hF : F' = [] := List.eq_nil_iff_forall_not_mem.2 (fun b hb => by simpa using k3 b hb)
  subst hF
  have hvv : v = v' := by
    have e1 : (madeCells zc (n * P.cellsOf e)).toList[j]? = some (zc[j % zc.size]!) := by
      simp [madeCells, hlt]
    rw [e1] at hv
    rw [hs] at hv
    have e2 : zc[j % P.cellsOf e]? = some v' := by simpa using k1
    have e3 : zc[j % P.cellsOf e]! = v' := by
      rw [Array.getElem!_eq_getD, Array.getD_eq_getD_getElem?, e2]; rfl
    rw [e3] at hv
    exact (Option.some.inj hv).symm
  subst hvv
  exact ⟨k2, (repLB_sound (P := P) (w := w) (ok := ok) hz).notAgg _ (List.mem_of_getElem? hc')⟩
def mksB (P : Program) (t e : TypeId) (z : PV) (bytes : Nat) : Bool := slB P t e && (match P.info? e with
  | some i => i.size == P.cellsOf e && i.bytes == bytes && (match i.zero with
    | some v => v.cells.size == P.cellsOf e && repLB z.cells v.cells.toList
    | none => false)
  | none => false)
theorem gives_mks {t e : TypeId} {bytes : Nat} {z : PV} {x y : Operand} {x' : Opd} (h : Sim P ar N E G ⟨t', m⟩ a w) (hc : mksB P t e z bytes = true) (ho : o.op = .makeSlice t x y) (hxy : ρ x = ρ y)
    (hr : RepO P G w m cs [ρ x] F) (hs : semL d m (.mks e z bytes x') cs = some (as, m2)) :
    ∃ v w2, (execOp ρ o).run P w = .ok (.value v) w2 ∧ Gives P ar N E 0 t' a as m2 v w2 := by
  match cs, hs, hr with
  | [], hs, hr => simp [semL] at hs
  | _ :: _ :: _, hs, hr => simp [semL] at hs
  | [c], hs, hr =>
    obtain ⟨v, hv, h1⟩ := hr.inv1
    simp only [List.cons.injEq, and_true] at hv
    cases c with
    | pv p =>
      cases p with
      | int k n =>
        simp only [semL] at hs
        split at hs
        · rename_i hcond
          obtain ⟨c1, c2, c3⟩ := hcond
          simp only [Option.some.injEq, Prod.mk.injEq] at hs
          obtain ⟨rfl, rfl⟩ := hs
          have hi := h1.of_pv
          cases hi
          unfold mksB at hc
          rw [Bool.and_eq_true] at hc
          obtain ⟨hc1, hc⟩ := hc
          split at hc
          · rename_i i hi
            rw [Bool.and_eq_true, Bool.and_eq_true, beq_iff_eq, beq_iff_eq] at hc
            obtain ⟨⟨hi1, hi2⟩, hc⟩ := hc
            split at hc
            · rename_i v hz
              rw [Bool.and_eq_true, beq_iff_eq] at hc
              obtain ⟨hz1, hz2⟩ := hc
              obtain ⟨n, rfl⟩ := Int.eq_ofNat_of_zero_le c1
              have hrun := run_make (P := P) w t e i v (slB_iff hc1) hi hz k k n n c1 (Int.le_refl _) (by rw [hi2, Int.mul_comm]; omega) c3
              simp only [Int.toNat_natCast] at hrun ⊢
              rw [hi1] at hrun
              have hu : ∀ x ∈ List.replicate n z, x.cells.length = P.cellsOf e := fun x hx => by
                rw [(List.mem_replicate.1 hx).2]
                have := (repLB_sound (P := P) (w := w) (ok := G.ok) hz2).length
                rw [this]; simpa using hz1
              obtain ⟨G2, F2, g1, g2, g3, g4⟩ := h.newRow (e := e) (ps := List.replicate n z) (flat := (madeCells v.cells (n * P.cellsOf e)).toList) (cur := madeCells v.cells (n * P.cellsOf e)) (cap := n) (F := []) (made_rep hz2 hz1) hu List.nodup_nil (by simp)
                (size_madeCells _ _) (by simp) (by simp only [maxLen]; omega) (by rw [List.length_replicate]; exact List.take_of_length_le (by rw [Array.length_toList, size_madeCells]; exact Nat.le_refl _))
              rw [List.length_replicate] at g2
              refine ⟨.slice (some ⟨w.heap.size, 0, none⟩) n n, _, ?_, G2, _, g1, g3, g4, fun c hcc => ?_⟩
              · rw [ex_makeSlice ho, ← hxy, hv]
                exact run_valOf hrun
              · simp only [List.cons.injEq, and_true] at hcc
                subst hcc
                exact .pv _ _ _ (by simp) g2
            · cases hc
          · cases hc
        · cases hs
      | _ => simp [semL] at hs
    | _ => simp [semL] at hs
def b2sB (P : Program) (src dst : TypeId) : Bool := (match P.underlying src with
  | some (.slice e) => (match P.underlying e with
    | some (.int .u8) => true
    | _ => false)
  | _ => false) && strB P dst
theorem bytesOf_cells : ∀ {xs : List PV} {l : List UInt8}, bytesOf xs = some l → ∃ ns : List Int, xs = ns.map (PV.int .u8) ∧ l = ns.map fun n => UInt8.ofNat n.toNat
  | [], l, h => by simp only [bytesOf, Option.some.injEq] at h; subst h; exact ⟨[], rfl, rfl⟩
  | x :: xs, l, h => by
    unfold bytesOf at h
    split at h
    · rename_i heq; cases heq
    · rename_i n xs' heq
      simp only [List.cons.injEq] at heq
      obtain ⟨rfl, rfl⟩ := heq
      simp only [Option.map_eq_some_iff] at h
      obtain ⟨l', h1, rfl⟩ := h
      obtain ⟨ns, rfl, rfl⟩ := bytesOf_cells h1
      exact ⟨n :: ns, rfl, rfl⟩
    · cases h
theorem fold_bytes : ∀ (ns : List Int) (s : ByteArray), ns.foldl (fun (r : ByteArray) n => r.push (UInt8.ofNat n.toNat)) s = ⟨(s.data.toList ++ ns.map fun n => UInt8.ofNat n.toNat).toArray⟩
  | [], s => by simp
  | n :: ns, s => by
    rw [List.foldl_cons, fold_bytes ns]
    congr 2
    simp [ByteArray.push]
theorem plain_b2s {src dst : TypeId} {x : Operand} {x' : Opd} {c : AV} (hroot : ∀ r p v, RefAt P G w m r p v → ∃ F, Rep P w G.ok p v F) (hc : b2sB P src dst = true) (ho : o.op = .convert src dst x) (hr : RepO P G w m [c] [ρ x] F) (hs : semL d m (.b2s x') [c] = some (as, m2)) : Plain P G w m m2 F as ((execOp ρ o).run P w) := by
  obtain ⟨v, hv, h1⟩ := hr.inv1
  simp only [List.cons.injEq, and_true] at hv
  simp only [semL] at hs
  split at hs
  · rename_i fl e xs hx
    obtain ⟨F', h2⟩ := rowOf_rep hroot h1 hx
    simp only [Option.map_eq_some_iff, Prod.mk.injEq] at hs
    obtain ⟨l, hl, rfl, rfl⟩ := hs
    obtain ⟨ns, rfl, rfl⟩ := bytesOf_cells hl
    unfold b2sB at hc
    split at hc
    · rename_i e2 he2
      split at hc
      · rename_i he3
        have hd := strB_iff (by simpa using hc)
        have flat : flatC (ns.map (PV.int .u8)) = ns.map (PV.int .u8) := by
          clear hl h2 hx
          induction ns with
          | nil => rfl
          | cons n ns ih => simp only [flatC, List.map_cons, List.flatMap_cons, PV.cells] at ih ⊢; rw [ih]; rfl
        have vals : ∀ {vs : List Value} {F : List Nat}, RepL P w G.ok (ns.map (PV.int .u8)) vs F → vs = ns.map (Value.int .u8) := by
          intro vs F hr
          clear hl h2 hx flat
          induction ns generalizing vs F with
          | nil => cases hr; rfl
          | cons n ns ih =>
            rw [List.map_cons] at hr
            cases hr with
            | cons c v F cs vs F' h0 h1 h2 =>
              cases h1
              rw [List.map_cons, ih h2]
        have hstr : ∀ (b : Addr) (len cap : Nat), len = ns.length → (∀ j u, (ns.map (Value.int .u8))[j]? = some u → w.cell? (b.add j) = some u) → (execOp ρ o).run P w = .ok (.value (.string ⟨(ns.map fun n => UInt8.ofNat n.toNat).toArray⟩)) w ∨ ρ x ≠ .slice (some b) len cap := by
          intro b len cap hlen hcell
          by_cases hx : ρ x = .slice (some b) len cap
          · left
            rw [ex_convert ho, hx]
            refine run_valOf ?_
            rw [run_convert_bytes_string w src dst e2 _ _ _ he2 he3 hd]
            have hload := run_loadCells_list (P := P) w b (ns.map (Value.int .u8)) hcell
            rw [List.length_map, ← hlen] at hload
            rw [run_bytesToString w b len cap ns hload, fold_bytes]
            simp
          · exact .inr hx
        have cellAt : ∀ {vs : List Value} {b off : Nat}, vs = ns.map (Value.int .u8) → (∀ j v, vs[j]? = some v → w.cell? ⟨b, off + j, none⟩ = some v) → ∀ j u, (ns.map (Value.int .u8))[j]? = some u → w.cell? ((⟨b, off, none⟩ : Addr).add j) = some u := by
          rintro vs b off rfl hcl j u hj
          rw [addr_add]; exact hcl j u hj
        have h3 := h2
        generalize hxs : ns.map (PV.int .u8) = xs at h2
        cases h2 with
        | slN fl e =>
          have : ns = [] := by simpa using hxs
          subst this
          refine .imm (v := _) ?_ (.str _)
          rw [ex_convert ho, hv]
          refine run_valOf ?_
          rw [run_convert_bytes_string w src dst e2 _ _ _ he2 he3 hd]
          simp [Conv.bytesToString]
          rfl
        | slE _ e ad =>
          have : ns = [] := by simpa using hxs
          subst this
          rcases hstr ad 0 0 (by simp) (by simp) with h4 | h4
          · exact .imm h4 (.str _)
          · exact absurd hv h4
        | slI e xs vs b off cap h hu hb hcl h1 h2 =>
          subst hxs
          rw [flat] at h
          rcases hstr ⟨b, off, none⟩ (ns.map (PV.int .u8)).length cap (by simp) (cellAt (vals h) hcl) with h4 | h4
          · exact .imm h4 (.str _)
          · exact absurd hv h4
        | slO e xs vs b off cap arr ty F h hu hg hcl h1 h2 _ =>
          subst hxs
          rw [flat] at h
          rcases hstr ⟨b, off, none⟩ (ns.map (PV.int .u8)).length cap (by simp) (cellAt (vals h) (fun j v hj => by simp [World.cell?, hg, hcl j v hj])) with h4 | h4
          · exact .imm h4 (.str _)
          · exact absurd hv h4
        | slA e xs vs b cap F h hu hown _ =>
          subst hxs
          rw [flat] at h
          rcases hstr ⟨b, 0, none⟩ (ns.map (PV.int .u8)).length cap (by simp) (cellAt (vals h) (own_reads hown)) with h4 | h4
          · exact .imm h4 (.str _)
          · exact absurd hv h4
      · simp at hc
    · simp at hc
  · cases hs
/-! ### Structs built of their parts -/
theorem run_places : ∀ (fs : List Field), (∀ f ∈ fs, knownB P f.type = true) → ∀ w : World, (fs.mapM fun f => do pure (f.offset, ← sizeOf f.type) : Sem (List (Nat × Nat))).run P w = .ok (fs.map fun f => (f.offset, P.cellsOf f.type)) w
  | [], _, w => by simp [Sem.run_pure]
  | f :: fs, h, w => by
    rw [List.mapM_cons]
    simp only [Sem.run_bind, run_sizeOf' (h f List.mem_cons_self), Result.andThen_ok, Sem.run_pure, run_places fs (fun f hf => h f (List.mem_cons_of_mem _ hf)), List.map_cons]
def partsB (P : Program) (fs : Array Field) : List (Nat × Operand) → List (Nat × Nat) → Bool
  | [], [] => true
  | (i, _) :: ps, (off, n) :: qs => (match fs[i]? with
    | some f => f.offset == off && P.cellsOf f.type == n
    | none => false) && partsB P fs ps qs
  | _, _ => false
def buildB (P : Program) (t : TypeId) (zs : List PV) (ps : List (Nat × Operand)) (qs : List (Nat × Nat)) : Bool := zeroB P t zs && (match P.underlying t with
  | some (.struct fs) => fs.toList.all (fun f => knownB P f.type) && partsB P fs ps qs
  | _ => false)
theorem RepAL.splice {A B C : List AV} {vs : List Value} (h : RepAL P G w m (A ++ (B ++ C)) vs F) :
    ∃ va vb vc Fa Fb Fc, vs = va ++ (vb ++ vc) ∧ F = Fa ++ (Fb ++ Fc) ∧ va.length = A.length ∧ vb.length = B.length ∧ RepAL P G w m A va Fa ∧ RepAL P G w m B vb Fb ∧ RepAL P G w m C vc Fc := by
  obtain ⟨va, v2, Fa, F2, rfl, rfl, h1, h2⟩ := h.split
  obtain ⟨vb, vc, Fb, Fc, rfl, rfl, h3, h4⟩ := h2.split
  exact ⟨va, vb, vc, Fa, Fb, Fc, rfl, rfl, h1.length.symm, h3.length.symm, h1, h3, h4⟩
theorem fill_rep {fs : Array Field} {place : Nat → Option (Nat × Nat)} (hp : ∀ i f, fs[i]? = some f → place i = some (f.offset, P.cellsOf f.type)) :
    ∀ (ps : List (Nat × Operand)) (qs : List (Nat × Nat)) (as : List AV) (cs r : List AV) (cells : Array Value) (F0 F : List Nat), partsB P fs ps qs = true → RepAL P G w m cs cells.toList F0 → RepO P G w m as (ps.map fun x => ρ x.2) F → (F0 ++ F).Nodup →
      fillCells cs qs as = some r → ∃ cells' F', Instr.fill place cells (ps.map fun x => (x.1, ρ x.2)) = some cells' ∧ RepAL P G w m r cells'.toList F' ∧ F'.Nodup ∧ ∀ b ∈ F', b ∈ F0 ++ F
  | [], [], as, cs, r, cells, F0, F, _, h, hr, hn, hf => by
    cases hr
    simp only [fillCells, Option.some.injEq] at hf
    subst hf
    exact ⟨cells, F0, by simp [Instr.fill], h, by simpa using hn, by simp⟩
  | [], _ :: _, as, cs, r, cells, F0, F, hb, h, hr, hn, hf => by simp [partsB] at hb
  | _ :: _, [], as, cs, r, cells, F0, F, hb, h, hr, hn, hf => by simp [partsB] at hb
  | (i, x) :: ps, (off, n) :: qs, as, cs, r, cells, F0, F, hb, h, hr, hn, hf => by
    rw [List.map_cons] at hr
    cases hr with
    | cons c _ F1 as vs F2 h1 h2 =>
      simp only [fillCells] at hf
      split at hf
      · rename_i hc
        obtain ⟨hc1, hc2, hc3⟩ := hc
        simp only [partsB, Bool.and_eq_true] at hb
        obtain ⟨hb1, hb2⟩ := hb
        split at hb1
        · rename_i f hfi
          simp only [Bool.and_eq_true, beq_iff_eq] at hb1
          obtain ⟨rfl, rfl⟩ := hb1
          obtain ⟨k1, k2⟩ := h1.cells hc3
          have hlen := h.length
          have hvl : (ρ x).cells.size = P.cellsOf f.type := by
            have := k1.length
            rw [hc1] at this
            simpa using this.symm
          have hsz : cs.length = cells.size := by simpa using hlen
          have e1 : cs = cs.take f.offset ++ ((cs.drop f.offset).take (P.cellsOf f.type) ++ cs.drop (f.offset + P.cellsOf f.type)) := by
            rw [← List.drop_drop, List.take_append_drop, List.take_append_drop]
          rw [e1] at h
          obtain ⟨va, vb, vc, Fa, Fb, Fc, e2, rfl, l1, l2, r1, r2, r3⟩ := h.splice
          have hnew : RepAL P G w m (cs.take f.offset ++ c.cells ++ cs.drop (f.offset + P.cellsOf f.type)) (putCells cells f.offset (ρ x).cells.toList).toList (Fa ++ F1 ++ Fc) := by
            have l1' : va.length = f.offset := by rw [l1, List.length_take]; omega
            have l2' : vb.length = P.cellsOf f.type := by rw [l2, List.length_take, List.length_drop]; omega
            have e4 : List.drop (va.length + (ρ x).cells.toList.length) (va ++ (vb ++ vc)) = vc := by
              have hvl' : (ρ x).cells.toList.length = P.cellsOf f.type := by simpa using hvl
              rw [hvl', ← l2', ← List.append_assoc, ← List.length_append, List.drop_left]
            have e3 : (putCells cells f.offset (ρ x).cells.toList).toList = va ++ (ρ x).cells.toList ++ vc := by
              simp only [putCells, e2]
              rw [← l1', List.take_left, e4]
            rw [e3]
            exact (r1.append k1).append r3
          have hperm : (Fa ++ F1 ++ Fc ++ F2).Nodup := by
            have hn1 := hn
            simp only [List.append_assoc] at hn1
            have a1 := List.nodup_append.1 hn1
            have a2 := List.nodup_append.1 a1.2.1
            have a3 := List.nodup_append.1 a2.2.1
            have a4 := List.nodup_append.1 a3.2.1
            simp only [List.append_assoc]
            refine List.nodup_append.2 ⟨a1.1, List.nodup_append.2 ⟨a4.1, List.nodup_append.2 ⟨a3.1, a4.2.1, fun b hb c hc => a3.2.2 b hb c (by simp [hc])⟩, fun b hb c hc e => ?_⟩, fun b hb c hc => ?_⟩
            · subst e
              rcases List.mem_append.1 hc with hc | hc
              · exact a3.2.2 b hc b (by simp [hb]) rfl
              · exact a4.2.2 b hb b hc rfl
            · refine a1.2.2 b hb c ?_
              simp only [List.mem_append] at hc ⊢
              rcases hc with hc | hc | hc <;> simp [hc]
          obtain ⟨cells', F', g1, g2, g3, g4⟩ := fill_rep hp ps qs as _ r (putCells cells f.offset (ρ x).cells.toList) (Fa ++ F1 ++ Fc) F2 hb2 hnew h2 hperm hf
          refine ⟨cells', F', ?_, g2, g3, fun b hb => ?_⟩
          · simp only [List.map_cons, Instr.fill, hp i f hfi]
            rw [if_neg (by simp only [hvl, ne_eq, not_true_eq_false, decide_false, Bool.false_or, decide_eq_true_eq]; simp; omega)]
            have hfold : ((ρ x).cells.zipIdx.foldl (fun cs (x : Value × Nat) => cs.setIfInBounds (f.offset + x.2) x.1) cells) = putCells cells f.offset (ρ x).cells.toList := by
              rw [← Array.foldl_toList, Array.toList_zipIdx]
              exact fold_put (ρ x).cells.toList cells f.offset 0 (by simp [hvl]; omega)
            rw [hfold]; exact g1
          · have := g4 b hb
            simp only [List.mem_append] at this ⊢
            rcases this with ((h | h) | h) | h <;> simp [h]
        · cases hb1
      · cases hf
theorem plain_build {t : TypeId} {zs : List PV} {parts : Array (Nat × Operand)} {qs : List (Nat × Nat)} {os : List Opd} (hc : buildB P t zs parts.toList qs = true) (ho : o.op = .build t parts) (hr : RepO P G w m cs (parts.toList.map fun x => ρ x.2) F) (hn : F.Nodup)
    (hs : semL d m (.build zs qs os) cs = some (as, m2)) : Plain P G w m m2 F as ((execOp ρ o).run P w) := by
  unfold semL at hs
  simp only [Option.map_eq_some_iff, Prod.mk.injEq] at hs
  obtain ⟨r, hf, rfl, rfl⟩ := hs
  unfold buildB at hc
  rw [Bool.and_eq_true] at hc
  obtain ⟨hz, hc⟩ := hc
  split at hc
  · rename_i fs hfs
    simp only [Bool.and_eq_true] at hc
    obtain ⟨hk, hp⟩ := hc
    obtain ⟨z, hz1, _, hz2⟩ := run_alloc' (w := w) hz
    have hrep : RepAL P G w m (zs.map .pv) z.cells.toList [] := (repLB_sound hz1).toA
    obtain ⟨cells', F', g1, g2, g3, g4⟩ := fill_rep (fs := fs) (place := fun i => (fs.map fun f => (f.offset, P.cellsOf f.type))[i]?) (fun i f hi => by simp [hi]) parts.toList qs cs _ r z.cells [] F hp hrep hr (by simpa using hn) hf
    refine .mk (v := .agg cells') ?_ (by simpa using RepA.agg r cells'.toList F' g2) g3 (by simpa using g4)
    rw [ex_build ho]
    refine run_valOf ?_
    have hpl : (fs.mapM fun f => do pure (f.offset, ← sizeOf f.type) : Sem (Array (Nat × Nat))).run P w = .ok (fs.map fun f => (f.offset, P.cellsOf f.type)) w := by
      have h1 := run_places fs.toList (fun f hf => by simpa using List.all_eq_true.1 hk f hf) w
      have h2 : (fs.toList.mapM fun f => Prod.mk f.offset <$> sizeOf f.type : Sem (List (Nat × Nat))).run P w = .ok (fs.toList.map fun f => (f.offset, P.cellsOf f.type)) w := by simpa using h1
      rw [Array.mapM_eq_mapM_toList]
      simp [h2]
      apply Array.ext'
      simp
    have hpt : (parts.map fun x => (x.1, ρ x.2)).toList = parts.toList.map fun x => (x.1, ρ x.2) := by simp
    unfold Instr.build
    simp only [Sem.run_bind, hz2, Result.andThen_ok, run_underlying hfs, hpl, hpt, g1, Sem.run_pure]
  · cases hc
end
end Go.Proofs.YtdbcnnehfbcldaaDoor.Pv
