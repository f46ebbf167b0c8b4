/- A plain reading of Go code and its soundness, part 13. No condition. -/
import Derived.Test.YtngooidedlnmaaaGreatV12
set_option linter.all false
set_option linter.unusedSimpArgs false
set_option linter.unusedVariables false
set_option linter.unnecessarySimpa false
/- An append, as an operation. No condition. -/
namespace Go.Proofs.YtngooidedlnmaaaGreat.Pv
open Go
section
variable {P : Program} {ar : Nat → Nat} {N : Nat} {E : Entry} {G G' : Gh} {s : St} {a : Act} {w w' : World} {m m' m2 : Mem} {F : List Nat} {as cs : List AV} {ρ : Operand → Value} {o : Oper} {d : Nat} {t' : Nat → AV} {ok : Bool → Nat → Prop}
theorem Rep.row2 {e : TypeId} {xs : List PV} {v : Value} (h : Rep P w ok (.sl 2 e xs) v F) :
    (∃ vs F', RepL P w ok (flatC xs) vs F' ∧ (∀ x ∈ xs, x.cells.length = P.cellsOf e) ∧ w.ownsRow 0 e (P.cellsOf e) v xs.length vs ∧ F = v.ownBlock.toList ++ F') ∨ (xs = [] ∧ F = [] ∧ ∃ ad, v = .slice (some ad) 0 0) := by
  cases h with
  | slN _ _ => exact .inl ⟨[], [], .nil, by simp, World.ownsRow_nil _ _ _ _, rfl⟩
  | slE _ _ ad => exact .inr ⟨rfl, rfl, ad, rfl⟩
  | slA _ _ vs b cap F' h hu hr _ => exact .inl ⟨vs, F', h, hu, hr, rfl⟩
theorem Rep.ofRow {e : TypeId} {xs : List PV} {v : Value} {vs : List Value} (hr : RepL P w ok (flatC xs) vs F) (hu : ∀ x ∈ xs, x.cells.length = P.cellsOf e) (ho : w.ownsRow 0 e (P.cellsOf e) v xs.length vs) : ∃ F2, Rep P w ok (.sl 2 e xs) v F2 ∧ (F2 = v.ownBlock.toList ++ F ∨ F2 = []) := by
  rcases ho.2 with ⟨rfl, hn⟩ | ⟨g, cap, cur, rfl, rest⟩
  · have hx : xs = [] := List.eq_nil_of_length_eq_zero hn
    subst hx
    cases hr
    exact ⟨[], .slN 2 e, .inr rfl⟩
  · by_cases hz : cap = 0
    · subst hz
      have hx : xs = [] := List.eq_nil_of_length_eq_zero (by omega)
      subst hx
      exact ⟨[], .slE 2 e _, .inr rfl⟩
    · exact ⟨_, .slA e xs vs g cap F hr hu ho hz, .inl rfl⟩
theorem RepL.oneCells : ∀ {ps : List PV} {vs : List Value} {F : List Nat}, RepL P w ok ps vs F → ∀ u ∈ vs, u.oneCell' = true
  | _, _, _, .nil, u, hu => by simp at hu
  | _, _, _, .cons c v F cs vs G h0 h1 h2, u, hu => by
    rcases List.mem_cons.1 hu with rfl | hu
    · exact h1.oneCell h0
    · exact RepL.oneCells h2 u hu
theorem Rep.src {fl : Nat} {e u : TypeId} {xs : List PV} {v : Value} (hk : (∃ e', P.underlying u = some (.slice e')) ∨ P.underlying u = some .string) (h : Rep P w ok (.sl fl e xs) v F) :
    ∃ vs F', Src P (P.cellsOf e) u v xs.length vs w ∧ RepL P w ok (flatC xs) vs F' ∧ (∀ x ∈ xs, x.cells.length = P.cellsOf e) ∧ (∀ b ∈ F', b ∈ F) ∧ (F.Nodup → F'.Nodup) := by
  have key : ∀ (vs : List Value) (F' : List Nat) (b off cap : Nat), RepL P w ok (flatC xs) vs F' → (∀ x ∈ xs, x.cells.length = P.cellsOf e) → (∀ j v, vs[j]? = some v → w.cell? ⟨b, off + j, none⟩ = some v) → Src P (P.cellsOf e) u (.slice (some ⟨b, off, none⟩) xs.length cap) xs.length vs w := by
    intro vs F' b off cap hr hu hc
    have hl : vs.length = xs.length * P.cellsOf e := by rw [← hr.length, flatC_length hu]
    have hc' : ∀ j u, vs[j]? = some u → w.cell? ((⟨b, off, none⟩ : Addr).add j) = some u := fun j u hj => by rw [addr_add]; exact hc j u hj
    exact ⟨hk, fun _ => rfl, run_firstCells_some w _ _ _ _ _ vs hl hc', run_firstCells_some w.drew _ _ _ _ _ vs hl (by simpa using hc'), hl, hr.oneCells⟩
  cases h with
  | slN _ _ => exact ⟨[], [], ⟨hk, fun _ => rfl, run_firstCells_none w _ 0 0 0, run_firstCells_none w.drew _ 0 0 0, by simp, by simp⟩, .nil, by simp, by simp, fun _ => List.nodup_nil⟩
  | slE _ _ ad => exact ⟨[], [], ⟨hk, fun _ => rfl, run_firstCells_some w _ _ _ _ _ [] (by simp) (by simp), run_firstCells_some w.drew _ _ _ _ _ [] (by simp) (by simp), by simp, by simp⟩, .nil, by simp, by simp, fun _ => List.nodup_nil⟩
  | slI _ _ vs b off cap h hu hb hc h1 h2 => exact ⟨vs, [], key vs [] b off cap h hu hc, h, hu, by simp, fun _ => List.nodup_nil⟩
  | slO _ _ vs b off cap arr ty F' h hu hg hc h1 h2 _ =>
    refine ⟨vs, F', key vs F' b off cap h hu (fun j v hj => by simp [World.cell?, hg, hc j v hj]), h, hu, fun b hb => List.mem_cons_of_mem _ hb, fun hn => (List.nodup_cons.1 hn).2⟩
  | slA _ _ vs b cap F' h hu hr _ =>
    refine ⟨vs, F', key vs F' b 0 cap h hu (own_reads hr), h, hu, fun b hb => List.mem_cons_of_mem _ hb, fun hn => (List.nodup_cons.1 hn).2⟩
mutual
theorem flat_own : ∀ {p : PV}, p.flat = true → ∀ c ∈ p.cells, ownP c = false
  | .sl _ _ _, h, c, hc => by simp [PV.flat] at h
  | .agg cs, h, c, hc => by simp only [PV.flat] at h; simp only [PV.cells] at hc; exact flatL_own1 h c hc
  | .ref _, h, c, hc => by simp [PV.flat] at h
  | .clo _ _, h, c, hc => by simp [PV.flat] at h
  | .int _ _, h, c, hc => by simp [PV.cells] at hc; subst hc; rfl
  | .bool _, h, c, hc => by simp [PV.cells] at hc; subst hc; rfl
  | .str _, h, c, hc => by simp [PV.cells] at hc; subst hc; rfl
  | .nilp, h, c, hc => by simp [PV.cells] at hc; subst hc; rfl
  | .nili, h, c, hc => by simp [PV.cells] at hc; subst hc; rfl
  | .iface _ _, h, c, hc => by simp [PV.cells] at hc; subst hc; rfl
theorem flatL_own1 : ∀ {ps : List PV}, flatL ps = true → ∀ c ∈ ps, ownP c = false
  | [], h, c, hc => by simp at hc
  | p :: ps, h, c, hc => by
    simp only [flatL, Bool.and_eq_true] at h
    rcases List.mem_cons.1 hc with rfl | hc
    · cases c <;> first | rfl | simp [PV.flat] at h
    · exact flatL_own1 h.2 c hc
end
theorem flatL_own : ∀ {ps : List PV}, flatL ps = true → ∀ c ∈ flatC ps, ownP c = false
  | [], h, c, hc => by simp [flatC] at hc
  | p :: ps, h, c, hc => by
    simp only [flatL, Bool.and_eq_true] at h
    have e : flatC (p :: ps) = p.cells ++ flatC ps := by simp [flatC]
    rw [e] at hc
    rcases List.mem_append.1 hc with hc | hc
    · exact flat_own h.1 c hc
    · exact flatL_own h.2 c hc
theorem Hd.unique {r : Root} {v u : Value} (h1 : Hd G w r v) (h2 : Hd G w r u) : v = u := by
  cases r with
  | v t => simp only [Hd] at h1 h2; rw [h1, h2]
  | c o n => simp only [Hd] at h1 h2; rw [h1] at h2; exact Option.some.inj h2
theorem app_dst {c : AV} {v : Value} {p : PV} (h : Sim P ar N E G ⟨t', m⟩ a w) (hr : RepA P G w m c v F) (hn : F.Nodup) (hF : ∀ b ∈ F, G.γ b = some .x)
    (hd : (c = .pv p ∧ m2 = m) ∨ ∃ r, c = .rw r ∧ r.path = [] ∧ m.deref r = some p ∧ m2 = m.take r.root) :
    ∃ G1 F1, Sim P ar N E G1 ⟨t', m2⟩ a w ∧ Rep P w G1.ok p v F1 ∧ F1.Nodup ∧ (∀ b ∈ F1, G1.γ b = some .x ∧ (b ∈ F ∨ G.γ b ≠ some .x)) ∧ (∀ b, G.γ b = some .x → G1.γ b = some .x) ∧ Grow P G G1 w w m m2 := by
  rcases hd with ⟨rfl, rfl⟩ | ⟨r, rfl, hpath, hde, rfl⟩
  · exact ⟨G, F, h, hr.of_pv, hn, fun b hb => ⟨hF b hb, .inl hb⟩, fun _ h => h, Grow.labels rfl rfl rfl (fun _ _ h => h) (fun _ h => h)⟩
  · obtain ⟨⟨hv, p0, v0, k1, k2, k3⟩, rfl⟩ := hr.of_deref hde
    rw [hpath] at k3
    obtain ⟨rfl, rfl⟩ := k3.nil_inv
    obtain ⟨G1, F1, u, g1, g2, g3, g4, g5, g6, g7⟩ := h.takeRoot k1
    have := g2.unique k2
    subst this
    exact ⟨G1, F1, g1, g3, g4, fun b hb => ⟨(g5 b hb).1, .inr (by rw [(g5 b hb).2]; simp)⟩, g6, g7⟩
def appB (P : Program) (t u e : TypeId) (bytes : Nat) : Bool := slB P t e && (slB P u e || strB P u) && (bytes != 1 || P.cellsOf e == 1) && (match P.info? e with
  | some i => i.size == P.cellsOf e && i.bytes == bytes && (match i.zero with
    | some z => z.cells.size == P.cellsOf e
    | none => false)
  | none => false)
theorem run_append_none_src (t u ty e : TypeId) (i : TypeInfo) (z : Value) (size bytes : Nat) (ht : P.underlying t = some (.slice e)) (hi : P.info? e = some i) (hz : i.zero = some z)
    (hsize : i.size = size) (hby : i.bytes = bytes) (hzs : z.cells.size = size)
    (ad : Addr) (x : Value) (m : Nat) (news : List Value) (hs : Src P size u x m news w)
    (h63 : m ≤ maxLen) (hbytes : m * bytes ≤ 140737488355328) :
    (m = 0 ∧ news = [] ∧ (Builtin.append_ #[t, u] ty #[.slice (some ad) 0 0, x]).run P w = .ok (.slice (some ad) 0 0) w) ∨
    ∃ v' w', (Builtin.append_ #[t, u] ty #[.slice (some ad) 0 0, x]).run P w = .ok v' w' ∧ w'.ownsRow 0 e size v' m news ∧ w.grownBy w' none ∧ v'.ownBlock = some w.heap.size := by
  subst hsize
  subst hby
  have hsmall : m ≤ 9223372036854775807 := by simp only [maxLen] at h63; omega
  have hl := hs.newsLen
  by_cases hm : m = 0
  · subst hm
    have hn : news = [] := List.eq_nil_of_length_eq_zero (by simpa using hl)
    subst hn
    refine .inl ⟨rfl, rfl, ?_⟩
    rcases hs.kind with ⟨e', hk⟩ | hk <;> simp [Builtin.append_, run_underlying ht, run_underlying hk, sizeOf, typeInfo, hi, hs.len, hs.cells, storeCells]
  · have hold : (Builtin.firstCells i.size 0 (.slice (some ad) 0 0)).run P w.drew = .ok ([] : List Value).toArray w.drew := run_firstCells_some w.drew _ _ _ _ _ [] (by simp) (by simp)
    have hr := run_append_grow_src (P := P) w t u ty e i z ht hi hz (some ad) 0 0 [] hold x m news hs (by omega) (by omega) (growslice_fits (by omega) (by simpa using hbytes))
    have hge := grownCap_ge w m 0 e
    have hcm : grownCap w m 0 e ≤ maxLen := grownCap_le_maxLen w m 0 e h63
    simp only [Nat.zero_add, List.nil_append] at hr
    refine .inr ⟨_, _, hr, ⟨hl, .inr ⟨w.heap.size, _, _, rfl, Nat.zero_le _, heap_alloc_new w.drew _, hge, hcm, ?_, ?_⟩⟩, ⟨rfl, rfl, rfl, by simp, fun k hk _ => heap_alloc_old w.drew _ k hk⟩, rfl⟩
    · rw [Array.size_append, size_zeroCells, hzs]
      simp only [List.size_toArray, hl, ← Nat.add_mul]
      congr 1
      omega
    · rw [Array.toList_append, ← hl]
      exact List.take_left
theorem gives_app_fin {t u e : TypeId} {x y : Operand} {xs ys : List PV} {v v' : Value} {v2 : Value} {w' : World} {G1 : Gh} {F1' F2 : List Nat} {vs vals : List Value} (row : Option Nat) (h : Sim P ar N E G1 ⟨t', m2⟩ a w) (ho : o.op = .call { callee := .builtin .append, args := #[x, y], argTypes := #[t, u] })
    (e1 : ρ x = v) (e2 : ρ y = v2) (k1 : RepL P w G1.ok (flatC xs) vs F1') (k2 : ∀ x ∈ xs, x.cells.length = P.cellsOf e) (hn : (row.toList ++ (F1' ++ F2)).Nodup) (hown : ∀ b, row = some b → G1.γ b = some .x) (hF1 : ∀ b ∈ F1', G1.γ b = some .x) (hF2 : ∀ b ∈ F2, G1.γ b = some .x) (hr : RepL P w G1.ok (flatC ys) vals F2) (hu2 : ∀ x ∈ ys, x.cells.length = P.cellsOf e)
    (r1 : (Builtin.append_ #[t, u] o.type #[v, v2]).run P w = .ok v' w') (r2 : w'.ownsRow 0 e (P.cellsOf e) v' (xs.length + ys.length) (vs ++ vals)) (r3 : w.grownBy w' row) (r4 : v'.ownBlock = row ∨ v'.ownBlock = some w.heap.size) :
    ∃ v w2, (execOp ρ o).run P w = .ok (.value v) w2 ∧ Gives P ar N E 0 t' a [.pv (.sl 2 e (xs ++ ys))] m2 v w2 := by
  have hnew : ∀ b, v'.ownBlock = some b → (row = some b ∨ b = w.heap.size) := fun b hb => by
    rcases r4 with r4 | r4
    · exact .inl (r4 ▸ hb)
    · rw [hb] at r4; exact .inr (Option.some.inj r4)
  have hmem : ∀ b, b ∈ v'.ownBlock.toList ↔ v'.ownBlock = some b := fun b => by simp [eq_comm]
  have hlt : ∀ b o1, G1.γ b = some o1 → b < w.heap.size := fun b o1 hb => h.lab b (by rw [hb]; simp)
  obtain ⟨hg, hsim⟩ := h.hand (G' := relabel G1 v'.ownBlock.toList .x) (w' := w') rfl rfl rfl (fun b o1 ho1 hb => by
      refine (relabel_out fun hm => ?_).trans hb
      rcases hnew b ((hmem b).1 hm) with h3 | h3
      · rw [hown b h3] at hb; exact ho1 (Option.some.inj hb).symm
      · have := hlt b _ hb; omega)
    (fun b hbl hb => by
      refine (relabel_out fun hm => ?_).trans hb
      rcases hnew b ((hmem b).1 hm) with h3 | h3
      · rw [hown b h3] at hb; cases hb
      · omega)
    (fun b hb => by
      by_cases hm : b ∈ v'.ownBlock.toList
      · exact (r2.lt b ((hmem b).1 hm)).2
      · rw [relabel_out hm] at hb; exact Nat.lt_of_lt_of_le (h.lab b hb) r3.size)
    r3.os r3.tape r3.output r3.size (fun b hbl hb => r3.block b hbl (fun e => hb (hown b e.symm)))
  have hsame : ∀ b ∈ F1' ++ F2, w'.heap[b]? = w.heap[b]? := fun b hb => by
    have hx : G1.γ b = some .x := by
      rcases List.mem_append.1 hb with hb | hb
      · exact hF1 b hb
      · exact hF2 b hb
    refine r3.block b (hlt b _ hx) (fun e => ?_)
    exact (List.nodup_append.1 hn).2.2 b (by simp [← e]) b hb rfl
  have hrep := RepL.append (k1.frame hg.hk hg.size hg.ho (fun b hb => hsame b (List.mem_append_left _ hb))) (hr.frame hg.hk hg.size hg.ho (fun b hb => hsame b (List.mem_append_right _ hb)))
  rw [← flatC_append] at hrep
  obtain ⟨F3, hfin, hF3⟩ := Rep.ofRow (P := P) (v := v') (e := e) hrep (fun x hx => (List.mem_append.1 hx).elim (k2 x) (hu2 x)) (by rw [List.length_append]; exact r2)
  have hn2 := List.nodup_append.1 hn
  have hnn : (v'.ownBlock.toList ++ (F1' ++ F2)).Nodup := by
    refine List.nodup_append.2 ⟨by cases v'.ownBlock <;> simp, hn2.2.1, fun b hb c hc e => ?_⟩
    subst e
    rcases hnew b ((hmem b).1 hb) with h3 | h3
    · exact hn2.2.2 b (by simp [h3]) b hc rfl
    · have : G1.γ b = some .x := by
        rcases List.mem_append.1 hc with hb | hb
        · exact hF1 b hb
        · exact hF2 b hb
      have := hlt b _ this
      omega
  have hlb : ∀ b ∈ v'.ownBlock.toList ++ (F1' ++ F2), (relabel G1 v'.ownBlock.toList .x).γ b = some .x := fun b hb => by
    by_cases hm : b ∈ v'.ownBlock.toList
    · exact relabel_in hm
    · rw [relabel_out hm]
      rcases List.mem_append.1 ((List.mem_append.1 hb).resolve_left hm) with hb | hb
      · exact hF1 b hb
      · exact hF2 b hb
  refine ⟨v', w', ?_, _, F3, hsim, ?_, fun b hb => ?_, fun c hcc => ?_⟩
  · rw [ex_append ho, e1, e2]; exact run_valOf r1
  · rcases hF3 with rfl | rfl
    · exact hnn
    · exact List.nodup_nil
  · rcases hF3 with rfl | rfl
    · exact hlb b hb
    · simp at hb
  · simp only [List.cons.injEq, and_true] at hcc
    subst hcc
    exact .pv _ _ _ (by simp) hfin
theorem gives_app_core {t u e : TypeId} {bytes : Nat} {x y : Operand} {xs ys : List PV} {v v2 : Value} {G1 : Gh} {F1 F2 : List Nat} {vals : List Value} (h : Sim P ar N E G1 ⟨t', m2⟩ a w) (hc : appB P t u e bytes = true) (ho : o.op = .call { callee := .builtin .append, args := #[x, y], argTypes := #[t, u] })
    (e1 : ρ x = v) (e2 : ρ y = v2) (h1 : Rep P w G1.ok (.sl 2 e xs) v F1) (hn : (F1 ++ F2).Nodup) (hF1 : ∀ b ∈ F1, G1.γ b = some .x) (hF2 : ∀ b ∈ F2, G1.γ b = some .x) (hs : Src P (P.cellsOf e) u v2 ys.length vals w) (hr : RepL P w G1.ok (flatC ys) vals F2) (hu2 : ∀ x ∈ ys, x.cells.length = P.cellsOf e)
    (hb : (xs.length + ys.length) * bytes ≤ 140737488355328) (hl : xs.length + ys.length ≤ 9223372036854775807) :
    ∃ v w2, (execOp ρ o).run P w = .ok (.value v) w2 ∧ Gives P ar N E 0 t' a [.pv (.sl 2 e (xs ++ ys))] m2 v w2 := by
  unfold appB at hc
  rw [Bool.and_eq_true] at hc
  obtain ⟨hc0, hc⟩ := hc
  rw [Bool.and_eq_true, Bool.and_eq_true] at hc0
  have hc1 := hc0.1.1
  split at hc
  · rename_i i hi
    rw [Bool.and_eq_true, Bool.and_eq_true, beq_iff_eq, beq_iff_eq] at hc
    obtain ⟨⟨hi1, hi2⟩, hc⟩ := hc
    split at hc
    · rename_i z hz
      have hz2 := beq_iff_eq.1 hc
      rcases h1.row2 with ⟨vs, F1', k1, k2, k3, k4⟩ | ⟨rfl, rfl, ad, rfl⟩
      · subst k4
        obtain ⟨v', w', r1, r2, r3, r4⟩ := run_append_own_src (P := P) (w := w) 0 t u o.type e i z (P.cellsOf e) bytes (slB_iff hc1) hi hz hi1 hi2 hz2 v xs.length vs k3 v2 ys.length vals hs (by simp only [maxLen]; omega) hb (Nat.zero_le _)
        exact gives_app_fin (v' := v') (w' := w') v.ownBlock h ho e1 e2 k1 k2 (by rw [← List.append_assoc]; exact hn) (fun b hb => hF1 b (by simp [hb])) (fun b hb => hF1 b (by simp [hb])) hF2 hr hu2 r1 r2 r3 r4
      · rcases run_append_none_src (P := P) (w := w) t u o.type e i z (P.cellsOf e) bytes (slB_iff hc1) hi hz hi1 hi2 hz2 ad v2 ys.length vals hs (by simp only [maxLen]; simp at hl; omega) (by simpa using hb) with ⟨q1, q2, q3⟩ | ⟨v', w', r1, r2, r3, r4⟩
        · have : ys = [] := List.eq_nil_of_length_eq_zero q1
          subst this
          cases hr
          refine ⟨.slice (some ad) 0 0, w, ?_, G1, [], h, List.nodup_nil, by simp, fun c hcc => ?_⟩
          · rw [ex_append ho, e1, e2]; exact run_valOf q3
          · simp only [List.cons.injEq, and_true] at hcc
            subst hcc
            exact .pv _ _ _ (by simp) (.slE 2 e ad)
        · exact gives_app_fin (v' := v') (w' := w') (vs := []) (F1' := []) none h ho e1 e2 .nil (by simp) (by simpa using hn) (by simp) (by simp) hF2 hr hu2 r1 (by simpa using r2) r3 (.inr r4)
    · cases hc
  · cases hc
theorem bytes_rep : ∀ (l : List UInt8), RepL P w ok (flatC (l.map fun b => .int .u8 b.toNat)) (l.map fun b => Value.int .u8 b.toNat) []
  | [] => .nil
  | b :: l => by
    have e : flatC ((b :: l).map fun b => (.int .u8 b.toNat : PV)) = .int .u8 b.toNat :: flatC (l.map fun b => .int .u8 b.toNat) := by simp [flatC, PV.cells]
    rw [e, List.map_cons]
    exact .cons _ _ [] _ _ [] (by simp) (.int _ _) (bytes_rep l)
theorem gives_app {t u e : TypeId} {bytes : Nat} {x y : Operand} {x' y' : Opd} (h : Sim P ar N E G ⟨t', m⟩ a w) (hc : appB P t u e bytes = true) (ho : o.op = .call { callee := .builtin .append, args := #[x, y], argTypes := #[t, u] })
    (hr : RepO P G w m cs [ρ x, ρ y] F) (hn : F.Nodup) (hF : ∀ b ∈ F, G.γ b = some .x) (hs : semL d m (.app e bytes x' y') cs = some (as, m2)) :
    ∃ v w2, (execOp ρ o).run P w = .ok (.value v) w2 ∧ Gives P ar N E 0 t' a as m2 v w2 := by
  have huk : ((∃ e', P.underlying u = some (.slice e')) ∨ P.underlying u = some .string) ∧ (bytes = 1 → P.cellsOf e = 1) := by
    have hc' := hc
    unfold appB at hc'
    simp only [Bool.and_eq_true, Bool.or_eq_true, beq_iff_eq, bne_iff_ne, ne_eq] at hc'
    refine ⟨?_, fun hb => hc'.1.2.resolve_left (fun h => h hb)⟩
    rcases hc'.1.1.2 with hc | hc
    · exact .inl ⟨_, slB_iff hc⟩
    · exact .inr (strB_iff hc)
  revert hs hr
  match cs with
  | [] => intro hr hs; simp [semL] at hs
  | [_] => intro hr hs; simp [semL] at hs
  | _ :: _ :: _ :: _ => intro hr hs; simp [semL] at hs
  | [c1, c2] =>
    intro hr hs
    obtain ⟨v, v2, F1, F2, hv, rfl, h1, h2⟩ := hr.inv2
    simp only [List.cons.injEq, and_true] at hv
    obtain ⟨ev1, ev2⟩ := hv
    have hn' := List.nodup_append.1 hn
    simp only [semL] at hs
    -- the destination in hand, the source read ahead of it
    have fin : ∀ {xs ys : List PV} {vals : List Value} {F3 : List Nat}, ((c1 = .pv (.sl 2 e xs) ∧ m2 = m) ∨ ∃ r, c1 = .rw r ∧ r.path = [] ∧ m.deref r = some (.sl 2 e xs) ∧ m2 = m.take r.root) →
        Src P (P.cellsOf e) u v2 ys.length vals w → RepL P w G.ok (flatC ys) vals F3 → (∀ x ∈ ys, x.cells.length = P.cellsOf e) → F3.Nodup → (∀ b ∈ F3, b ∈ F2) → (xs.length + ys.length) * bytes ≤ 140737488355328 → xs.length + ys.length ≤ 9223372036854775807 →
        ∃ v w2, (execOp ρ o).run P w = .ok (.value v) w2 ∧ Gives P ar N E 0 t' a [.pv (.sl 2 e (xs ++ ys))] m2 v w2 := by
      intro xs ys vals F3 hd hsrc hrep hu hn3 hF3 hb hl
      obtain ⟨G1, F1', g1, g2, g3, g4, g5, g6⟩ := app_dst h h1 hn'.1 (fun b hb => hF b (by simp [hb])) hd
      have hF3x : ∀ b ∈ F3, G.γ b = some .x := fun b hb => hF b (by simp [hF3 b hb])
      refine gives_app_core g1 hc ho ev1 ev2 g2 (F2 := F3) (List.nodup_append.2 ⟨g3, hn3, fun b hb1 c hc1 e1 => ?_⟩) (fun b hb => (g4 b hb).1) (fun b hb => g5 b (hF3x b hb)) hsrc (hrep.frame g6.hk g6.size g6.ho (fun _ _ => rfl)) hu hb hl
      subst e1
      rcases (g4 b hb1).2 with h3 | h3
      · exact hn'.2.2 b h3 b (hF3 b hc1) rfl
      · exact h3 (hF3x b hc1)
    split at hs
    · rename_i fl e1 xs fl2 e2 ys hx hy
      split at hs
      · rename_i hcond
        obtain ⟨rfl, rfl, rfl, hb, hl⟩ := hcond
        have srcPv : ∀ q, c2 = .pv q → ∃ vals F3, Src P (P.cellsOf e2) u v2 ys.length vals w ∧ RepL P w G.ok (flatC ys) vals F3 ∧ (∀ x ∈ ys, x.cells.length = P.cellsOf e2) ∧ F3.Nodup ∧ ∀ b ∈ F3, b ∈ F2 := by
          rintro q rfl
          simp only [rowOf, Option.some.injEq] at hy
          subst hy
          obtain ⟨vals, F3, k1, k2, k3, k4, k5⟩ := h2.of_pv.src huk.1
          exact ⟨vals, F3, k1, k2, k3, k5 hn'.2.1, k4⟩
        have srcRw : ∀ r, c2 = .rw r → flatL ys = true → ∃ vals F3, Src P (P.cellsOf e2) u v2 ys.length vals w ∧ RepL P w G.ok (flatC ys) vals F3 ∧ (∀ x ∈ ys, x.cells.length = P.cellsOf e2) ∧ F3.Nodup ∧ ∀ b ∈ F3, b ∈ F2 := by
          rintro r rfl hflat
          simp only [rowOf] at hy
          obtain ⟨href, rfl⟩ := h2.of_deref hy
          obtain ⟨F4, k0, _, _⟩ := h.root href
          obtain ⟨vals, F3, k1, k2, k3, k4, k5⟩ := k0.src huk.1
          have e3 := k2.own_nil (flatL_own hflat)
          subst e3
          exact ⟨vals, [], k1, k2, k3, List.nodup_nil, by simp⟩
        split at hs
        · simp only [Option.some.injEq, Prod.mk.injEq] at hs
          obtain ⟨rfl, rfl⟩ := hs
          simp only [rowOf, Option.some.injEq] at hx
          subst hx
          obtain ⟨vals, F3, k1, k2, k3, k4, k5⟩ := srcPv _ rfl
          exact fin (.inl ⟨rfl, rfl⟩) k1 k2 k3 k4 k5 hb hl
        · split at hs
          · rename_i r q hp
            simp only [Option.some.injEq, Prod.mk.injEq] at hs
            obtain ⟨rfl, rfl⟩ := hs
            obtain ⟨vals, F3, k1, k2, k3, k4, k5⟩ := srcPv _ rfl
            exact fin (.inr ⟨r, rfl, hp, hx, rfl⟩) k1 k2 k3 k4 k5 hb hl
          · cases hs
        · split at hs
          · rename_i q r hf
            simp only [Option.some.injEq, Prod.mk.injEq] at hs
            obtain ⟨rfl, rfl⟩ := hs
            simp only [rowOf, Option.some.injEq] at hx
            subst hx
            obtain ⟨vals, F3, k1, k2, k3, k4, k5⟩ := srcRw _ rfl hf
            exact fin (.inl ⟨rfl, rfl⟩) k1 k2 k3 k4 k5 hb hl
          · cases hs
        · split at hs
          · rename_i r r' hf
            simp only [Option.some.injEq, Prod.mk.injEq] at hs
            obtain ⟨rfl, rfl⟩ := hs
            obtain ⟨vals, F3, k1, k2, k3, k4, k5⟩ := srcRw _ rfl hf.2.2
            exact fin (.inr ⟨r, rfl, hf.1, hx, rfl⟩) k1 k2 k3 k4 k5 hb hl
          · cases hs
        · cases hs
      · cases hs
    · rename_i fl e1 xs s hx hy
      split at hs
      · rename_i hcond
        obtain ⟨rfl, rfl, rfl, hl⟩ := hcond
        have hone := huk.2 rfl
        have hv2 : v2 = .string s := by
          cases c2 <;> simp only [rowOf, reduceCtorEq] at hy
          · obtain rfl := Option.some.inj hy
            have := h2.of_pv
            cases this; rfl
          · obtain ⟨href, rfl⟩ := h2.of_deref hy
            obtain ⟨F4, k0, _, _⟩ := h.root href
            cases k0; rfl
        have hsrc : Src P (P.cellsOf e1) u v2 (s.data.toList.map fun b => (.int .u8 b.toNat : PV)).length (s.data.toList.map fun b => Value.int .u8 b.toNat) w := by
          rw [hone, hv2, List.length_map, Array.length_toList]
          exact ⟨huk.1, fun _ => rfl, firstCells_string s w, firstCells_string s w.drew, by simp, fun u hu => by
            obtain ⟨_, _, rfl⟩ := List.mem_map.1 hu
            rfl⟩
        have hu : ∀ x ∈ (s.data.toList.map fun b => (.int .u8 b.toNat : PV)), x.cells.length = P.cellsOf e1 := by
          intro x hx
          obtain ⟨b, _, rfl⟩ := List.mem_map.1 hx
          rw [hone]; rfl
        have hsz : (s.data.toList.map fun b => (.int .u8 b.toNat : PV)).length = s.size := by rw [List.length_map, Array.length_toList]; rfl
        split at hs
        · simp only [Option.some.injEq, Prod.mk.injEq] at hs
          obtain ⟨rfl, rfl⟩ := hs
          simp only [rowOf, Option.some.injEq] at hx
          subst hx
          exact fin (.inl ⟨rfl, rfl⟩) hsrc (bytes_rep _) hu List.nodup_nil (by simp) (by rw [hsz]; omega) (by rw [hsz]; omega)
        · split at hs
          · rename_i r hp
            simp only [Option.some.injEq, Prod.mk.injEq] at hs
            obtain ⟨rfl, rfl⟩ := hs
            exact fin (.inr ⟨r, rfl, hp, hx, rfl⟩) hsrc (bytes_rep _) hu List.nodup_nil (by simp) (by rw [hsz]; omega) (by rw [hsz]; omega)
          · cases hs
        · cases hs
      · cases hs
    · cases hs
end
end Go.Proofs.YtngooidedlnmaaaGreat.Pv
