/- A plain reading of Go code and its soundness, part 33. No condition. -/
import Derived.Test.YtdbcnnehfbcldaaDoorV32
set_option linter.all false
set_option linter.unusedSimpArgs false
set_option linter.unusedVariables false
set_option linter.unnecessarySimpa false
/- One operation with its operands read and its result put; a region in its order. No condition. -/
namespace Go.Proofs.YtdbcnnehfbcldaaDoor.Pv
open Go
section
variable {P : Program} {ar : Nat → Nat} {N : Nat} {E : Entry} {G G' : Gh} {s s' : St} {a : Act} {w w' : World} {m m' m2 : Mem} {t' : Nat → AV} {V : List Nat} {as cs : List AV} {F : List Nat} {ρ : Operand → Value} {o : Oper} {q : Oq} {d : Nat} {R : Oracle} {modes : FuncId → List Pm} {next : Act → World → Prop} {Q : Exit → Act → World → Prop}
theorem run_callFunc_own {f : FuncId} {fn : Func} (hf : P.funcs[f]? = some fn) (hb : fn.body.isSome = true) (hn : fn.name ≠ "runtime.NumGoroutine") (args : Array Value) : (callFunc f args).run P w = .ok (.enter f args) w := by
  have h3 : fn.body ≠ none := fun e => by rw [e] at hb; cases hb
  simp [callFunc, hf, hn, h3]
theorem ex_callf {f : FuncId} {xs : Array Operand} {ts : Array TypeId} (ho : o.op = .call ⟨.value (.func f), xs, ts⟩) : execOp a.eval o = callFunc f (xs.map a.eval) := by
  obtain ⟨dst, op, ty, pos, after, guard⟩ := o
  simp only at ho
  subst ho
  show callFunc f (#[] ++ xs.map a.eval ++ #[]) = _
  simp
theorem run_callv {t : Tmp} {f : FuncId} {caps : Array Value} {xs : Array Operand} {ts : Array TypeId} (ho : o.op = .call ⟨.value (.tmp t), xs, ts⟩) (hv : a.eval (.tmp t) = .func (.func f) #[] caps) : (execOp a.eval o).run P w = (callFunc f (xs.map a.eval ++ caps)).run P w := by
  simp [execOp, ho, resolve, Deferred.ofValue, hv, invoke]
theorem RepAL.opds : ∀ {cs : List AV} {vs : List Value} {F : List Nat}, RepAL P G w m cs vs F → RepO P G w m cs vs F
  | _, _, _, .nil => .nil
  | _, _, _, .cons c v F cs vs F' _ h1 h2 => .cons c v F cs vs F' h1 (RepAL.opds h2)
theorem RepO.app : ∀ {cs : List AV} {vs : List Value} {F : List Nat} {ds : List AV} {us : List Value} {F' : List Nat}, RepO P G w m cs vs F → RepO P G w m ds us F' → RepO P G w m (cs ++ ds) (vs ++ us) (F ++ F')
  | _, _, _, _, _, _, .nil, h => h
  | _, _, _, _, _, _, .cons c v F cs vs F' h1 h2, h => by
    rw [List.append_assoc]
    exact .cons c v F _ _ _ h1 (RepO.app h2 h)
theorem step_done (hV : ∀ x ∈ V, x < 1000000) (hd : dstB ar N 0 o.dst = true) (hg : Gave P ar N E t' a as m2 ((execOp a.eval o).run P w)) (hs : endStep V 0 t' m2 as o.dst = some s') (hn : ∀ G' w', Sim P ar N E G' s' (a.put o.dst (match (execOp a.eval o).run P w with | .ok (.value v) _ => v | _ => undef)) w' → next (a.put o.dst (match (execOp a.eval o).run P w with | .ok (.value v) _ => v | _ => undef)) w') : o.wp P a w next Q := by
  rcases hg with ⟨v, w2, h1, h2⟩ | ⟨w2, h1, h2⟩
  · unfold Oper.wp
    rw [h1] at hn ⊢
    rw [Oper.upon_value]
    obtain ⟨G', h⟩ := h2.put hV hd hs
    exact hn G' _ h
  · unfold Oper.wp
    rw [h1] at hn ⊢
    rw [Oper.upon_skip]
    obtain ⟨G', h⟩ := h2.put hV hd hs
    exact hn G' _ h
theorem tup_gives {us : List Value} {G' : Gh} {F' : List Nat} {tup : Nat} {dst : Option Nat} (h1 : tup ≠ 1) (hs : endStep V tup t' m2 as dst = some s') (h : RepO P G' w' m2 as us F') (h4 : dst = none → tup = 0) : dst ≠ none → GivesAt P G' w' m2 (tupled us) F' tup as := by
  intro hdn
  obtain ⟨d, rfl⟩ := Option.ne_none_iff_exists'.1 hdn
  cases tup with
  | zero =>
    intro c hc
    subst hc
    cases h with
    | cons _ v F _ vs F2 k1 k2 =>
      cases k2
      simpa [tupled] using k1
  | succ n =>
    simp only [endStep] at hs
    split at hs
    · rename_i hl
      refine ⟨us, [], ?_, h⟩
      rw [List.append_nil]
      have hlen : us.length = n + 1 := by rw [← h.length, hl]
      match us, hlen with
      | [], hl => simp at hl
      | [v], hl => simp at hl; omega
      | _ :: _ :: _, _ => rfl
    · cases hs
theorem call_done {f : FuncId} {vs : List Value} {as' : List AV} (hS : Sound P modes R) (hE : Enters P R) (hV : ∀ x ∈ V, x < 1000000) (hd : dstB ar N q.tup o.dst = true) (hq : q.tup ≠ 1) (h : Sim P ar N E G ⟨t', m⟩ a w) (hr : RepO P G w m as vs F) (hnd : F.Nodup) (hF : ∀ b ∈ F, G.γ b = some .x) (hc0 : doCall R modes f (shareIn (modes f) as) m = some (as', m2))
    (hs : endStep V q.tup t' m2 as' o.dst = some s') (hrun : (execOp a.eval o).run P w = (callFunc f vs.toArray).run P w) (hn : ∀ G' a' w', Sim P ar N E G' s' a' w' → next a' w') : o.wp P a w next Q := by
  obtain ⟨G1, F1, g1, hg1, gr1, _, hnd1, hF1⟩ := h.shareIn (qs := modes f) (X := []) hr (by simpa using hnd) (by simpa using hF)
  have hF2 : ∀ b ∈ F1, G1.γ b = some .x := fun b hb => hF1 b (by simpa using hb)
  clear hF hnd hr h hg1 hF1
  generalize hsh : shareIn (modes f) as = as1 at *
  have hc := hc0
  clear hc0
  obtain ⟨ps, r, hR⟩ : ∃ ps r, R f ps = some r := by
    unfold doCall at hc
    split at hc
    · rename_i ps _ _ _
      split at hc
      · rename_i rs outs hR; exact ⟨_, _, hR⟩
      · cases hc
    · cases hc
  obtain ⟨fn, h1, h2, h3⟩ := hE f ps r hR
  unfold Oper.wp
  rw [hrun, run_callFunc_own h1 h2 h3, Oper.upon_enter]
  refine (gives_call hS g1 gr1 hnd1 hF2 hc).mono ?_
  rintro e w' ⟨v, rfl, G', F', us, k1, rfl, k2, k3, k4⟩
  show next _ _
  cases hdst : o.dst with
  | none =>
    rw [hdst] at hs
    simp only [endStep, Option.some.injEq] at hs
    subst hs
    exact hn G' _ _ k1
  | some d =>
    rw [hdst] at hs hd
    have hgv : GivesAt P G' w' m2 (tupled us) F' q.tup as' := tup_gives hq hs k2 (by simp) (by simp)
    obtain ⟨G2, hG2⟩ := Gives.put hV hd ⟨G', F', k1, k3, k4, hgv⟩ hs
    exact hn G2 _ _ hG2
theorem newb_done {f : FuncId} {zs : List PV} {x : Operand} {x' : Opd} {c : AV} {ts : Array TypeId} {as' : List AV} {k : Nat} (hV : ∀ x ∈ V, x < 1000000) (hd : dstB ar N q.tup o.dst = true) (hq : q.tup ≠ 1) (h : Sim P ar N E G ⟨t', m⟩ a w) (ho : o.op = .call ⟨.value (.func f), #[x], ts⟩) (hmk : makerB P f zs = true) (hr : RepO P G w m [c] [a.eval x] F) (hnd : F.Nodup) (hF : ∀ b ∈ F, G.γ b = some .x)
    (hc : semL k m (.newb f zs x') [c] = some (as', m2)) (hk : ∀ d, o.dst = some d → k = d) (hs : endStep V q.tup t' m2 as' o.dst = some s') (hn : ∀ G' a' w', Sim P ar N E G' s' a' w' → next a' w') : o.wp P a w next Q := by
  obtain ⟨v, hv, h1⟩ := hr.inv1
  simp only [List.cons.injEq, and_true] at hv
  simp only [semL] at hc
  split at hc
  · split at hc
    · rename_i hcc
      simp only [Option.some.injEq, Prod.mk.injEq] at hc
      obtain ⟨rfl, rfl⟩ := hc
      have hone := h1.oneCell hcc.1 hcc.2
      obtain ⟨fn, hf1, hf2, hf3⟩ := makerB_enters hmk
      unfold Oper.wp
      rw [show (execOp a.eval o).run P w = (callFunc f #[v]).run P w by rw [ex_callf ho]; simp [hv], run_callFunc_own hf1 hf2 hf3, Oper.upon_enter]
      refine (maker_calls (w := w) hmk hone).mono ?_
      rintro e w' ⟨zc, ty, hz, rfl, rfl⟩
      show next _ _
      obtain ⟨hg, h4⟩ := h.alloc (.cells (v :: zc).toArray ty)
      have hlt : ∀ b ∈ F, b ≠ w.heap.size := fun b hb e => by have := h.lab b (by rw [hF b hb]; simp); omega
      have h5 : RepAL P (relabel G [w.heap.size] .x) (w.alloc (.cells (v :: zc).toArray ty)) m [c] [v] F := by
        have := RepAL.cons (P := P) (G := G) (w := w) (m := m) c v F [] [] [] (fun ds e => by subst e; simp [AV.isAgg] at hcc) h1 .nil
        rw [List.append_nil] at this
        exact this.grow hg (fun b hb => heap_alloc_old w _ b (h.lab b (by rw [hF b hb]; simp)))
      have h6 : RepAL P (relabel G [w.heap.size] .x) (w.alloc (.cells (v :: zc).toArray ty)) m (zs.tail.map .pv) zc [] := (repLB_sound hz).toA
      have h7 := h5.append h6
      simp only [List.append_nil, List.cons_append, List.nil_append] at h7
      obtain ⟨G', hb, h8⟩ := h4.setNew (d := k) (nb := w.heap.size) (vs := v :: zc) (ty := ty) (by simpa using heap_alloc_new w (.cells (v :: zc).toArray ty)) (relabel_in (by simp)) h7 hnd
        (fun b hb => by rw [relabel_out (by simpa using hlt b hb)]; exact hF b hb) (fun hb => hlt _ hb rfl)
      have hp : RepA P G' (w.alloc (.cells (v :: zc).toArray ty)) (m.setNew k (c :: zs.tail.map .pv)) (.ptr k (m.kb k + 1) 0) (.pointer (some ⟨w.heap.size, 0, none⟩)) [] := by
        have := RepA.ptr (P := P) (G := G') (w := w.alloc (.cells (v :: zc).toArray ty)) (m := m.setNew k (c :: zs.tail.map .pv)) k (m.kb k + 1) 0 (by simp [Mem.setNew, upd])
        rw [hb] at this
        exact this
      cases hdst : o.dst with
      | none =>
        rw [hdst] at hs
        simp only [endStep, Option.some.injEq] at hs
        subst hs
        exact hn G' _ _ h8
      | some d =>
        have hdk := hk d hdst
        subst hdk
        rw [hdst] at hs hd
        have ht0 : q.tup = 0 := by
          cases hq2 : q.tup with
          | zero => rfl
          | succ n =>
            rw [hq2] at hs hq
            simp only [endStep] at hs
            split at hs
            · rename_i hl; simp at hl; omega
            · cases hs
        rw [ht0] at hs hd
        obtain ⟨G2, hG2⟩ := Gives.put hV hd ⟨G', [], h8, List.nodup_nil, by simp, fun c' hc' => by
          simp only [List.cons.injEq, and_true] at hc'; subst hc'; exact hp⟩ hs
        exact hn G2 _ _ hG2
    · cases hc
  · cases hc
theorem slv_ops (e : TypeId) (x l h : Opd) : (PO.slv e x l h).opds = [x, l, h] := rfl
theorem slv_done {e : TypeId} {u l hO : Opd} {k : Nat} {as' : List AV} (hV : ∀ x ∈ V, x < 1000000) (hd : dstB ar N q.tup o.dst = true) (hq : q.tup ≠ 1) (h : Sim P ar N E G s a w) (hc : cSlc P o.op (some e) u l hO = true) (htk : takeT V s.t [u, l, hO] = some t')
    (hsem : sem R modes k s.m (.slv e u l hO) [opd s u, opd s l, opd s hO] = some (as', m2)) (hs : endStep V q.tup t' m2 as' o.dst = some s') (hn : ∀ G' a' w', Sim P ar N E G' s' a' w' → next a' w') : o.wp P a w next Q := by
  generalize hop : o.op = op at hc
  unfold cSlc at hc
  split at hc
  · rename_i t x lo hi
    simp only [Bool.and_eq_true] at hc
    obtain ⟨⟨hty, hh⟩, hx⟩ := hc
    obtain ⟨G1, F, h1, hr, hnn, hF⟩ := h.read (xs := [x, lo.getD (.const (.int .i64 0)), hi.getD (.const (.pointer none))]) hx htk
    simp only [List.map_cons, List.map_nil] at hr
    simp only [sem] at hsem
    split at hsem
    · rename_i p m1 hin
      obtain ⟨v, v2, v3, F1, F2, F3, hv, rfl, r1, r2, r3⟩ := hr.inv3
      obtain ⟨G2, k1, k2, k3, k4⟩ := h1.slvIn (F2 := F2 ++ F3) r1 (fun b hb => hF b (by simp [hb])) (fun b hb => hF b (List.mem_append_right _ hb)) hnn hin
      have hro : RepO P G2 w m1 [.pv p, opd s l, opd s hO] [a.eval x, a.eval (lo.getD (.const (.int .i64 0))), a.eval (hi.getD (.const (.pointer none)))] ([] ++ (F2 ++ (F3 ++ []))) := by
        simp only [List.cons.injEq, and_true] at hv
        obtain ⟨rfl, rfl, rfl⟩ := hv
        have hna : ∀ ds, p ≠ .agg ds := by
          rintro ds rfl
          simp [semL] at hsem
        refine .cons _ _ _ _ _ _ (.pv p _ [] hna k3) (.cons _ _ _ _ _ _ (r2.grow k2 (fun _ _ => rfl)) (.cons _ _ _ _ _ _ (r3.grow k2 (fun _ _ => rfl)) .nil))
      simp only [List.append_nil, List.nil_append] at hro
      obtain ⟨⟨kk, n, qq, hl, hq2⟩, hx2⟩ := slc_form hsem
      rw [hl, hq2] at hsem hro
      rcases hx2 with ⟨he, _⟩ | ⟨e0, fl, e1, ys, he, hb, rfl⟩
      · cases he
      · simp only [Option.some.injEq] at he
        subst he
        rw [hb] at hsem hro
        have hpl := plain_slc_sl (e2 := e) (fun _ => rfl) hh (slB_iff (by simpa using hty.1)) (by simpa using hty.2) hop hro hsem
        have hg : Gave P ar N E t' a as' m2 ((execOp a.eval o).run P w) := .plain k1 k4 hpl
        by_cases ht0 : q.tup = 0
        · rw [ht0] at hs hd
          exact step_done hV hd hg hs (fun G' w' k => hn _ _ _ k)
        · cases hdst : o.dst with
          | none =>
            rw [hdst] at hs hd
            simp only [endStep] at hs
            refine step_done (V := V) (s' := s') hV (by rw [hdst]; rfl) hg (by rw [hdst]; simpa [endStep] using hs) (fun G' w' k => hn _ _ _ k)
          | some dd =>
            exfalso
            rw [hdst] at hs
            have hlen : as'.length = 1 := by
              obtain ⟨_, c, _, _, _, rfl, _⟩ := hpl
              rfl
            cases hq3 : q.tup with
            | zero => exact ht0 hq3
            | succ n =>
              rw [hq3] at hs hq
              simp only [endStep] at hs
              split at hs
              · rename_i hl; omega
              · cases hs
    · cases hsem
  · cases hc
theorem idv_ops (e : TypeId) (x i : Opd) : (PO.idv e x i).opds = [x, i] := rfl
theorem idv_done {e : TypeId} {u v : Opd} {k : Nat} {as' : List AV} (hV : ∀ x ∈ V, x < 1000000) (hd : dstB ar N q.tup o.dst = true) (hq : q.tup ≠ 1) (h : Sim P ar N E G s a w) (hc : cIdxa P o.op e u v = true) (htk : takeT V s.t [u, v] = some t')
    (hsem : sem R modes k s.m (.idv e u v) [opd s u, opd s v] = some (as', m2)) (hs : endStep V q.tup t' m2 as' o.dst = some s') (hn : ∀ G' a' w', Sim P ar N E G' s' a' w' → next a' w') : o.wp P a w next Q := by
  generalize hop : o.op = op at hc
  unfold cIdxa at hc
  split at hc
  · rename_i t x i
    simp only [Bool.and_eq_true] at hc
    obtain ⟨G1, F, h1, hr, hnn, hF⟩ := h.read (xs := [x, i]) hc.2 htk
    simp only [List.map_cons, List.map_nil] at hr
    simp only [sem] at hsem
    split at hsem
    · rename_i p m1 hin
      obtain ⟨v1, v2, F1, F2, hv, rfl, r1, r2⟩ := hr.inv2
      obtain ⟨G2, k1, k2, k3, k4⟩ := h1.slvIn (F2 := F2) r1 (fun b hb => hF b (by simp [hb])) (fun b hb => hF b (List.mem_append_right _ hb)) hnn hin
      have hi : ∃ kk n, opd s v = .pv (.int kk n) := by
        cases hv : opd s v with
        | pv pp =>
          cases pp with
          | int kk n => exact ⟨_, _, rfl⟩
          | _ => rw [hv] at hsem; cases p <;> simp [semL] at hsem
        | _ => rw [hv] at hsem; cases p <;> simp [semL] at hsem
      obtain ⟨kk, n, hi⟩ := hi
      have hp : ∃ fl e1 ys, p = .sl fl e1 ys := by
        cases p with
        | sl fl e1 ys => exact ⟨_, _, _, rfl⟩
        | _ => rw [hi] at hsem; simp [semL] at hsem
      obtain ⟨fl, e1, ys, rfl⟩ := hp
      have hro : RepO P G2 w m1 [.pv (.sl fl e1 ys), opd s v] [a.eval x, a.eval i] ([] ++ (F2 ++ [])) := by
        simp only [List.cons.injEq, and_true] at hv
        obtain ⟨rfl, rfl⟩ := hv
        exact .cons _ _ _ _ _ _ (.pv _ _ [] (by simp) k3) (.cons _ _ _ _ _ _ (r2.grow k2 (fun _ _ => rfl)) .nil)
      rw [hi] at hsem hro
      have hpl := plain_idxa_sh k1.mono (slB_iff hc.1.1) hc.1.2 hop hro hsem
      have hg : Gave P ar N E t' a as' m2 ((execOp a.eval o).run P w) := .plain k1 (by simpa using k4) hpl
      by_cases ht0 : q.tup = 0
      · rw [ht0] at hs hd
        exact step_done hV hd hg hs (fun G' w' k => hn _ _ _ k)
      · cases hdst : o.dst with
        | none =>
          rw [hdst] at hs hd
          simp only [endStep] at hs
          refine step_done (V := V) (s' := s') hV (by rw [hdst]; rfl) hg (by rw [hdst]; simpa [endStep] using hs) (fun G' w' k => hn _ _ _ k)
        | some dd =>
          exfalso
          rw [hdst] at hs
          have hlen : as'.length = 1 := by
            obtain ⟨_, c, _, _, _, rfl, _⟩ := hpl
            rfl
          cases hq3 : q.tup with
          | zero => exact ht0 hq3
          | succ n =>
            rw [hq3] at hs hq
            simp only [endStep] at hs
            split at hs
            · rename_i hl; omega
            · cases hs
    · cases hsem
  · cases hc
theorem tmv_done {t n k : Nat} {as' : List AV} (hV : ∀ x ∈ V, x < 1000000) (hd : dstB ar N q.tup o.dst = true) (h : Sim P ar N E G s a w) (hc : cTmv o.op t n = true) (htk : takeT V s.t (PO.tmv t n).opds = some t')
    (hsem : semL k s.m (.tmv t n) ((PO.tmv t n).opds.map (opd s)) = some (as', m2)) (hs : endStep V q.tup t' m2 as' o.dst = some s') (hn : ∀ G' a' w', Sim P ar N E G' s' a' w' → next a' w') : o.wp P a w next Q := by
  have hop : (o.op = .move (.tmp t) ∨ o.op = .assign (.tmp t)) ∧ t < 1000000 ∧ 2 ≤ n := by
    generalize o.op = op at hc
    unfold cTmv at hc
    split at hc
    · simp only [Bool.and_eq_true, beq_iff_eq, decide_eq_true_eq] at hc; exact ⟨.inl (by rw [hc.1.1]), hc.1.2, hc.2⟩
    · simp only [Bool.and_eq_true, beq_iff_eq, decide_eq_true_eq] at hc; exact ⟨.inr (by rw [hc.1.1]), hc.1.2, hc.2⟩
    · cases hc
  obtain ⟨hop, ht, hn2⟩ := hop
  simp only [semL] at hsem
  split at hsem
  · rename_i hall
    simp only [Option.some.injEq, Prod.mk.injEq] at hsem
    obtain ⟨rfl, rfl⟩ := hsem
    have hget : ∀ j, j < n → (PO.tmv t n).opds[j]? = some (.t (t + 1000000 * (j + 1))) := fun j hj => by
      simp [PO.opds, hj]
    have hlen : (PO.tmv t n).opds.length = n := by simp [PO.opds]
    have hconc : ∀ j, j < n → ∃ v, conc a (t + 1000000 * (j + 1)) = some v := fun j hj => by
      cases hx : conc a (t + 1000000 * (j + 1)) with
      | some v => exact ⟨v, rfl⟩
      | none =>
        have h1 := h.nn _ hx
        have h2 := List.all_eq_true.1 hall (s.t (t + 1000000 * (j + 1))) (List.mem_map.2 ⟨.t (t + 1000000 * (j + 1)), List.mem_of_getElem? (hget j hj), rfl⟩)
        rw [h1] at h2
        cases h2
    have cat : ∀ j, conc a (t + 1000000 * (j + 1)) = match a.tmps.getD t undef with
      | .tuple vs => vs[j]?
      | _ => none := fun j => by
      have e1 : (t + 1000000 * (j + 1)) % 1000000 = t := by omega
      have e2 : (t + 1000000 * (j + 1)) / 1000000 - 1 = j := by omega
      unfold conc
      rw [if_neg (by omega), e1, e2]
      rfl
    obtain ⟨arr, harr⟩ : ∃ arr, a.tmps.getD t undef = .tuple arr := by
      obtain ⟨v, hv⟩ := hconc 0 (by omega)
      rw [cat] at hv
      split at hv
      · rename_i vs hvs; exact ⟨vs, hvs⟩
      · cases hv
    have hcat : ∀ j, conc a (t + 1000000 * (j + 1)) = arr[j]? := fun j => by rw [cat, harr]
    have hsz : n ≤ arr.size := by
      obtain ⟨v, hv⟩ := hconc (n - 1) (by omega)
      rw [hcat] at hv
      have := (Array.getElem?_eq_some_iff.1 hv).1
      omega
    obtain ⟨G1, F, g1, g2, g3, g4, _⟩ := Sim.takes (ks := fun p v => repB p v = true) (fun p v G w h => repB_sound h) (PO.tmv t n).opds G s.t (arr.toList.take n) [] t' h htk (by rw [hlen]; simp; omega) (fun j o' v' k1 k2 => by
      have hj : j < n := by have := (List.getElem?_eq_some_iff.1 k1).1; omega
      rw [hget j hj] at k1
      obtain rfl := Option.some.inj k1
      show conc a _ = _
      rw [hcat]
      rw [List.getElem?_take, if_pos hj] at k2
      simpa using k2) ⟨List.nodup_nil, by simp⟩
    have hrun : (execOp a.eval o).run P w = .ok (.value (.tuple arr)) w := by
      rw [ex_move hop]
      show (pure (Next.value (a.eval (.tmp t))) : Sem Next).run P w = _
      have : a.eval (.tmp t) = .tuple arr := harr
      rw [this]; rfl
    have htup : o.dst ≠ none → q.tup ≠ 0 := fun hdn h0 => by
      obtain ⟨d, hdd⟩ := Option.ne_none_iff_exists'.1 hdn
      rw [hdd, h0] at hs
      have hl2 : ((PO.tmv t n).opds.map (opd s)).length = n := by rw [List.length_map, hlen]
      revert hs hl2
      generalize (PO.tmv t n).opds.map (opd s) = l
      intro hs hl2
      match l, hl2 with
      | [], hl2 => simp at hl2; omega
      | [_], hl2 => simp at hl2; omega
      | _ :: _ :: _, _ => simp [endStep] at hs
    unfold Oper.wp
    rw [hrun, Oper.upon_value]
    cases hdst : o.dst with
    | none =>
      rw [hdst] at hs
      simp only [endStep, Option.some.injEq] at hs
      subst hs
      exact hn G1 _ _ g1
    | some d =>
      obtain ⟨j, hj⟩ : ∃ j, q.tup = j + 1 := Nat.exists_eq_succ_of_ne_zero (htup (by rw [hdst]; simp))
      rw [hdst] at hs hd
      obtain ⟨G2, hG2⟩ := Gives.put hV hd (v := .tuple arr) ⟨G1, F, g1, by simpa using g3, by simpa using g4, by
        rw [hj]
        exact ⟨arr.toList.take n, arr.toList.drop n, by rw [List.take_append_drop], g2⟩⟩ hs
      exact hn G2 _ _ hG2
  · cases hsem
theorem cals (o : Opd) (os : List Opd) : (PO.callv o os).opds = o :: os := rfl
theorem step_sound (hS : Sound P modes R) (hE : Enters P R) (hV : ∀ x ∈ V, x < 1000000) (h : Sim P ar N E G s a w) (hc : chkOq P ar N o q = true) (hs : step R modes V q s = some s') (hn : ∀ G' a' w', Sim P ar N E G' s' a' w' → next a' w') : o.wp P a w next Q := by
  simp only [chkOq, Bool.and_eq_true, beq_iff_eq, Bool.or_eq_true, bne_iff_ne, ne_eq] at hc
  obtain ⟨⟨⟨hdst, hd⟩, hop⟩, htup⟩ := hc
  unfold step at hs
  split at hs
  · rename_i as1 m1 t1 hsem htk
    rw [← hdst] at hs
    cases hcall : isCallB q.po with
    | false =>
      have ht0 : q.tup = 0 := by rcases htup with h1 | ⟨h1, _⟩ <;> simp_all
      rw [ht0] at hs hd
      have hL : semL (q.dst.getD 0) s.m q.po (q.po.opds.map (opd s)) = some (as1, m1) := by
        revert hsem hcall
        cases q.po <;> intro hsem hcall <;> first | exact hsem | simp [isCallB] at hcall
      exact step_done hV hd (one_any h hop hcall htk hL) hs (fun G' w' k => hn _ _ _ k)
    | true =>
      have hq1 : q.tup ≠ 1 := by
        rcases htup with h1 | ⟨_, h1⟩
        · omega
        · exact h1
      generalize hpo : q.po = po at hop hsem htk hcall
      cases po with
      | call f os =>
        simp only [chkOp] at hop
        generalize hoo : o.op = op at hop
        unfold cCall at hop
        split at hop
        · rename_i f' xs ts
          simp only [Bool.and_eq_true, beq_iff_eq] at hop
          obtain ⟨rfl, hx⟩ := hop
          obtain ⟨G1, F, h1, hr, hnn, hF⟩ := h.read hx htk
          refine call_done hS hE hV hd hq1 h1 hr hnn hF hsem hs ?_ hn
          rw [ex_callf hoo]
          congr 2
          apply Array.ext'; simp
        · cases hop
      | callv f os =>
        simp only [chkOp] at hop
        generalize hoo : o.op = op at hop
        unfold cCallv at hop
        split at hop
        · rename_i t xs ts
          obtain ⟨G1, F, h1, hr, hnn, hF⟩ := h.read hop htk
          simp only [cals, List.map_cons] at hr hsem
          simp only [sem] at hsem
          split at hsem
          · rename_i x hcal
            obtain ⟨f1, as2⟩ := x
            have hev : a.eval (.tmp t) :: xs.toList.map a.eval = (Operand.tmp t :: xs.toList).map a.eval := rfl
            cases hr with
            | cons c v F1 cs vs F2 r1 r2 =>
              cases hof : opd s f with
              | clo g caps =>
                rw [hof] at hcal r1
                simp only [callee, Option.some.injEq, Prod.mk.injEq] at hcal
                obtain ⟨rfl, rfl⟩ := hcal
                generalize hfv : a.eval (.tmp t) = fv at r1
                cases r1 with
                | clo _ _ us l1 =>
                  have hro := r2.app l1.opds
                  rw [List.append_nil] at hro
                  refine call_done (vs := xs.toList.map a.eval ++ us) hS hE hV hd hq1 h1 hro hnn hF hsem hs ?_ hn
                  rw [run_callv hoo hfv]
                  congr 2
                  apply Array.ext'; simp
              | pv p =>
                rw [hof] at hcal r1
                have hp : ∃ g cs0, p = .clo g cs0 := by
                  cases p <;> simp [callee] at hcal
                  exact ⟨_, _, rfl⟩
                obtain ⟨g, cs0, rfl⟩ := hp
                simp only [callee, Option.some.injEq, Prod.mk.injEq] at hcal
                obtain ⟨rfl, rfl⟩ := hcal
                generalize hfv : a.eval (.tmp t) = fv at r1
                have r3 := r1.of_pv
                cases r3 with
                | clo _ _ us l1 =>
                  have hro := r2.app (l1.toA (m := s.m)).opds
                  rw [List.append_nil] at hro
                  refine call_done (vs := xs.toList.map a.eval ++ us) hS hE hV hd hq1 h1 hro hnn hF hsem hs ?_ hn
                  rw [run_callv hoo hfv]
                  congr 2
                  apply Array.ext'; simp
              | _ => rw [hof] at hcal; simp [callee] at hcal
          · cases hsem
        · cases hop
      | newb f zs x' =>
        simp only [chkOp] at hop
        generalize hoo : o.op = op at hop
        unfold cNewb at hop
        split at hop
        · rename_i f' x ts
          simp only [Bool.and_eq_true, beq_iff_eq] at hop
          obtain ⟨⟨rfl, hmk⟩, hx⟩ := hop
          obtain ⟨G1, F, h1, hr, hnn, hF⟩ := h.read (chk1 hx) htk
          simp only [List.map_cons, List.map_nil] at hr
          exact newb_done (x' := x') hV hd hq1 h1 hoo hmk hr hnn hF hsem (fun d hd' => by rw [← hdst, hd']; rfl) hs hn
        · cases hop
      | slv e u l hO =>
        simp only [chkOp, cSlv] at hop
        exact slv_done hV hd hq1 h hop htk hsem hs hn
      | idv e u v =>
        simp only [chkOp] at hop
        exact idv_done hV hd hq1 h hop htk hsem hs hn
      | tmv t n =>
        simp only [chkOp] at hop
        exact tmv_done (k := q.dst.getD 0) hV hd h hop htk hsem hs hn
      | _ => simp [isCallB] at hcall
  · cases hs
end
end Go.Proofs.YtdbcnnehfbcldaaDoor.Pv
