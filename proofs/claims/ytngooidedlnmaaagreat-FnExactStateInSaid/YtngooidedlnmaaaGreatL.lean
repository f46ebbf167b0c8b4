/- What the functions of a law compute, in the plain reading. No condition. -/
import Derived.Test.YtngooidedlnmaaaGreatL2
set_option linter.all false
set_option linter.unusedSimpArgs false
set_option linter.unusedVariables false
set_option linter.unnecessarySimpa false
/- Copies of states. No condition. -/
namespace Go.Proofs.YtngooidedlnmaaaGreat.Pv
open Go Go.Lib
set_option maxRecDepth 10000
set_option linter.unusedSimpArgs false
abbrev stO (s : M.PgState) : List PV := [.int .i64 s.pg.pool, .int .i64 s.pg.no, .int .i64 s.seen, .int .i64 s.started, .int .i64 s.tail.epoch, .int .i64 s.tail.seq, .sl 2 ty_impl_Head (s.base.map M.headV), .sl 2 ty_impl_Last (s.clients.map M.lastV), .sl 2 ty_impl_Entry (s.log.map M.entryV), .int .i64 s.firm.epoch, .int .i64 s.firm.seq, .sl 2 ty_impl_Chunk (s.chunks.map M.chunkV)]
theorem stVo (s : M.PgState) : M.pgStateV 2 true s = .agg (stO s) := rfl
set_option maxHeartbeats 4000000 in
theorem run_clone (st : M.PgState) (sm : SmallS st) : RUN CC fn_impl_PgState_clone [.agg (stC st)] = some ([.agg (stO st)], []) := by
  have a1 := run_slices_Clone_impl_Head_impl_Head (xs := st.base.map M.headV) (by have := sm.base; simp; omega)
  have a2 := run_slices_Clone_impl_Last_impl_Last (xs := st.clients.map M.lastV) (by have := sm.clients; simp; omega)
  have a3 := run_slices_Clone_impl_Entry_impl_Entry (xs := st.log.map M.entryV) (by have := sm.base; simp; omega)
  have a4 := run_slices_Clone_impl_Chunk_impl_Chunk (xs := st.chunks.map M.chunkV) (by have := sm.chunks; simp; omega)
  rw [RUN_eq, prog_impl_PgState_clone]
  simp [pf_impl_PgState_clone, a1, a2, a3, a4]
set_option maxHeartbeats 4000000 in
theorem run_l17Copy (st : M.PgState) (sm : SmallS st) : RUN CC fn_spec_l17Copy [.agg (stC st)] = some ([.agg (stO st)], []) := by
  have a1 : st.base.length * 48 ≤ 140737488355328 ∧ st.base.length ≤ 9223372036854775807 := by have := sm.base; omega
  have a2 : st.clients.length * 32 ≤ 140737488355328 ∧ st.clients.length ≤ 9223372036854775807 := by have := sm.clients; omega
  have a3 : st.log.length * 88 ≤ 140737488355328 ∧ st.log.length ≤ 9223372036854775807 := by have := sm.base; omega
  have a4 : st.chunks.length * 64 ≤ 140737488355328 ∧ st.chunks.length ≤ 9223372036854775807 := by have := sm.chunks; omega
  rw [RUN_eq, prog_spec_l17Copy]
  simp [pf_spec_l17Copy, a1, a2, a3, a4]
end Go.Proofs.YtngooidedlnmaaaGreat.Pv
/- The place of a group's state among states; a state of a store. No condition. -/
namespace Go.Proofs.YtngooidedlnmaaaGreat.Pv
open Go Go.Lib
set_option maxRecDepth 10000
set_option linter.unusedSimpArgs false
instance : DecidableEq M.Pg := fun a b => decidable_of_iff (a.pool = b.pool ∧ a.no = b.no) (by cases a; cases b; simp)
def pgLt (a b : M.Pg) : Prop := verLt a.pool a.no b.pool b.no
theorem pgLt_trans {a b c : M.Pg} (h1 : pgLt a b) (h2 : pgLt b c) : pgLt a c := by
  unfold pgLt verLt at *; omega
theorem pgLt_irrefl (a : M.Pg) : ¬ pgLt a a := by unfold pgLt verLt; omega
theorem pg_eqs (a b : M.Pg) (h : a ≠ b) : (a.pool == b.pool && a.no == b.no) = false := by
  cases a; cases b
  simp only [ne_eq, M.Pg.mk.injEq] at h
  simpa using fun e k => h ⟨e, k⟩
theorem pg_cmp_zero (a b : M.Pg) : cmpV a.pool a.no b.pool b.no = 0 ↔ a = b := by
  have h := cmpV_zero ⟨a.pool, a.no⟩ ⟨b.pool, b.no⟩
  cases a; cases b
  simpa using h
def upS (l : List M.PgState) : Prop := ∀ i j (h : i < j) (hj : j < l.length), pgLt (l[i]'(by omega)).pg l[j].pg
theorem M.up_states {l : List M.PgState} (h : M.statesB l = true) : upS l := by
  simp only [M.statesB, Bool.and_eq_true] at h
  have step : ∀ j (hj : j + 1 < l.length), pgLt (l[j]'(by omega)).pg l[j + 1].pg := fun j hj => by
    have h1 := allB_iff.1 h.1 (j + 1) hj
    simp only [Bool.and_eq_true] at h1
    have h2 := h1.2
    rw [relB_succ _ _ (by omega)] at h2
    simpa [M.pgLess_eq, pgLt] using h2
  intro i j
  induction j with
  | zero => intro h; omega
  | succ j ih =>
    intro hij hj
    rcases Nat.lt_or_ge i j with k | k
    · exact pgLt_trans (ih k (by omega)) (step j hj)
    · obtain rfl : i = j := by omega
      exact step i hj
theorem shr_one {n : Nat} (h : n ≤ 4194304) : shrI .u64 (n : Int) 1 = ((n / 2 : Nat) : Int) := by
  simp only [shrI]
  have : min (Int.toNat 1) IntKind.u64.bits = 1 := rfl
  rw [this, Int.fdiv_eq_ediv_of_nonneg _ (by omega)]
  omega
theorem run_stateAt1 (s : M.PgState) (g : M.Pg) : RUN CC fn_impl_stateAt_1 [.agg (stC s), .agg [.int .i64 g.pool, .int .i64 g.no]] = some ([.int .i64 (cmpV s.pg.pool s.pg.no g.pool g.no)], []) := by
  rw [RUN_eq, prog_impl_stateAt_1]
  simp [pf_impl_stateAt_1, run_comparePgs]
set_option maxHeartbeats 4000000 in
theorem run_bsearch {l : List M.PgState} (g : M.Pg) (hl : l.length ≤ 1048576) (up : upS l) :
    ∃ i, i ≤ l.length ∧ (∀ j (h : j < i) (h2 : j < l.length), pgLt l[j].pg g) ∧ (∀ h : i < l.length, ¬ pgLt l[i].pg g) ∧
      RUN CC fn_slices_BinarySearchFunc_impl_PgState_impl_PgState_impl_Pg [.sl 0 ty_impl_PgState (l.map (M.pgStateV 0 true)), .agg [.int .i64 g.pool, .int .i64 g.no], .clo fn_impl_stateAt_1 []] = some ([.int .i64 i, .bool (decide (∃ h : i < l.length, l[i].pg = g))], []) := by
  rw [RUN_eq, prog_slices_BinarySearchFunc_impl_PgState_impl_PgState_impl_Pg]
  simp [pf_slices_BinarySearchFunc_impl_PgState_impl_PgState_impl_Pg]
  generalize hE : EX CC _ pf_slices_BinarySearchFunc_impl_PgState_impl_PgState_impl_Pg_l0 _ = E
  obtain ⟨x, s', rfl, rfl, i, h0, h2, h4, k4, b4, h8, h9, hi, hlt, hge⟩ : ∃ e s', E = some (e, s') ∧ e = .exit 0 ∧ ∃ i : Nat, s'.t 0 = .pv (.sl 0 ty_impl_PgState (l.map (M.pgStateV 0 true))) ∧ s'.t 2 = .pv (.clo fn_impl_stateAt_1 []) ∧ s'.t 4 = .ptr 4 1 0 ∧ s'.m.kb 4 = 1 ∧ s'.m.b 4 = some [.pv (.int .i64 g.pool), .pv (.int .i64 g.no)] ∧ s'.t 8 = .pv (.int .i64 l.length) ∧ s'.t 9 = .pv (.int .i64 i) ∧ i ≤ l.length ∧ (∀ j (h : j < i) (h2 : j < l.length), pgLt l[j].pg g) ∧ (∀ h : i < l.length, ¬ pgLt l[i].pg g) := by
    rw [← hE]
    refine EX_for0 l.length (fun r s => ∃ i j : Nat, s.t 0 = .pv (.sl 0 ty_impl_PgState (l.map (M.pgStateV 0 true))) ∧ s.t 2 = .pv (.clo fn_impl_stateAt_1 []) ∧ s.t 4 = .ptr 4 1 0 ∧ s.m.kb 4 = 1 ∧ s.m.b 4 = some [.pv (.int .i64 g.pool), .pv (.int .i64 g.no)] ∧ s.t 8 = .pv (.int .i64 l.length) ∧ s.t 9 = .pv (.int .i64 i) ∧ s.t 10 = .pv (.int .i64 j) ∧ i ≤ j ∧ j ≤ l.length ∧ j - i ≤ l.length - r ∧ (∀ a (h : a < i) (h2 : a < l.length), pgLt l[a].pg g) ∧ (∀ a (h : j ≤ a) (h2 : a < l.length), ¬ pgLt l[a].pg g)) (fun e s' => e = .exit 0 ∧ ∃ i : Nat, s'.t 0 = .pv (.sl 0 ty_impl_PgState (l.map (M.pgStateV 0 true))) ∧ s'.t 2 = .pv (.clo fn_impl_stateAt_1 []) ∧ s'.t 4 = .ptr 4 1 0 ∧ s'.m.kb 4 = 1 ∧ s'.m.b 4 = some [.pv (.int .i64 g.pool), .pv (.int .i64 g.no)] ∧ s'.t 8 = .pv (.int .i64 l.length) ∧ s'.t 9 = .pv (.int .i64 i) ∧ i ≤ l.length ∧ (∀ j (h : j < i) (h2 : j < l.length), pgLt l[j].pg g) ∧ (∀ h : i < l.length, ¬ pgLt l[i].pg g)) ?_ ?_ ?_
    · exact ⟨0, l.length, by simp, by simp, by simp, by simp, by simp, by simp, by simp, by simp, by omega, by omega, by omega, fun a h => by omega, fun a h h2 => by omega⟩
    · rintro s ⟨i, j, h0, h2, h4, k4, b4, h8, h9, h10, c1, c2, c3, c4, c5⟩
      obtain rfl : i = j := by omega
      refine ⟨_, _, by simp [pf_slices_BinarySearchFunc_impl_PgState_impl_PgState_impl_Pg_lb0, h9, h10]; rfl, by simp, rfl, i, ?_⟩
      simp [h0, h2, h4, k4, b4, h8, h9, c2]
      exact ⟨c4, fun h => c5 i (Nat.le_refl _) h⟩
    · rintro r s hr ⟨i, j, h0, h2, h4, k4, b4, h8, h9, h10, c1, c2, c3, c4, c5⟩
      by_cases cij : i < j
      case neg =>
        right
        obtain rfl : i = j := by omega
        refine ⟨_, _, by simp [pf_slices_BinarySearchFunc_impl_PgState_impl_PgState_impl_Pg_lb0, h9, h10]; rfl, by simp, rfl, i, ?_⟩
        simp [h0, h2, h4, k4, b4, h8, h9, c2]
        exact ⟨c4, fun h => c5 i (Nat.le_refl _) h⟩
      left
      have hs := shr_one (n := i + j) (by omega)
      simp only [Int.natCast_add] at hs
      have hu : IntKind.u64.wrap ((i : Int) + (j : Int)) = (i : Int) + (j : Int) := IntWalk.u64_in _ (by omega)
      have hm : (i + j) / 2 < l.length := by omega
      have m1 : i ≤ (i + j) / 2 := by omega
      have m2 : (i + j) / 2 < j := by omega
      generalize hh : (i + j) / 2 = h at hs hm m1 m2
      have cm := run_stateAt1 l[h] g
      have cn := cmpV_neg l[h].pg.pool l[h].pg.no g.pool g.no
      by_cases d : pgLt l[h].pg g
      · have d2 := cn.2 d
        simp (disch := omega) [pf_slices_BinarySearchFunc_impl_PgState_impl_PgState_impl_Pg_lb0, h0, h2, h4, k4, b4, h8, h9, h10, cij, hs, hu, hm, callee, idxN, M.pgStateV, cm, d2, IntWalk.i64_in]
        refine ⟨h + 1, by simp, j, rfl, by omega, c2, by omega, fun a ha h2 => ?_, c5⟩
        rcases Nat.lt_or_ge a h with k | k
        · exact pgLt_trans (up a h k hm) d
        · obtain rfl : a = h := by omega
          exact d
      · have d2 : ¬ cmpV l[h].pg.pool l[h].pg.no g.pool g.no < 0 := fun e => d (cn.1 e)
        simp (disch := omega) [pf_slices_BinarySearchFunc_impl_PgState_impl_PgState_impl_Pg_lb0, h0, h2, h4, k4, b4, h8, h9, h10, cij, hs, hu, hm, callee, idxN, M.pgStateV, cm, d2, IntWalk.i64_in]
        refine ⟨i, rfl, h, rfl, by omega, by omega, by omega, c4, fun a ha h2 ht => ?_⟩
        rcases Nat.lt_or_ge h a with k | k
        · exact d (pgLt_trans (up h a k h2) ht)
        · obtain rfl : a = h := by omega
          exact d ht
  refine ⟨i, hi, hlt, hge, ?_⟩
  by_cases c : i < l.length
  · have cm := run_stateAt1 l[i] g
    by_cases d : l[i].pg = g
    · have d2 := (pg_cmp_zero l[i].pg g).2 d
      rw [show decide (∃ h : i < l.length, l[i].pg = g) = true from decide_eq_true ⟨c, d⟩]
      simp (disch := omega) [h0, h2, h4, k4, b4, h8, h9, c, idxN, M.pgStateV, callee, cm, d2]
    · have d2 : ¬ cmpV l[i].pg.pool l[i].pg.no g.pool g.no = 0 := fun e => d ((pg_cmp_zero _ _).1 e)
      simp (disch := omega) [h0, h2, h4, k4, b4, h8, h9, c, idxN, M.pgStateV, callee, cm, d, d2]
  · simp (disch := omega) [h0, h2, h4, k4, b4, h8, h9, c, callee]
end Go.Proofs.YtngooidedlnmaaaGreat.Pv
/- The law FnExactStateIn. No condition. -/
namespace Go.Proofs.YtngooidedlnmaaaGreat.Pv
open Go Go.Lib
set_option maxRecDepth 10000
set_option linter.unusedSimpArgs false
def M.zeroS : M.PgState := ⟨⟨0, 0⟩, 0, 0, ⟨0, 0⟩, [], [], [], ⟨0, 0⟩, []⟩
def M.newS (g : M.Pg) : M.PgState := if M.pgB g then { M.zeroS with pg := g } else M.zeroS
theorem run_iNewState (g : M.Pg) : RUN CC fn_impl_NewState [.agg [.int .i64 g.pool, .int .i64 g.no]] = some ([.agg (stO (M.newS g))], []) := by
  have h := run_pgB g
  rw [RUN_eq, prog_impl_NewState]
  cases c : M.pgB g <;> simp [pf_impl_NewState, h, c, M.newS, M.zeroS]
theorem run_sNewState (g : M.Pg) : RUN CC fn_spec_NewState [.agg [.int .i64 g.pool, .int .i64 g.no]] = some ([.agg (stO (M.newS g))], []) := by
  have h := run_sPgB g
  rw [RUN_eq, prog_spec_NewState]
  cases c : M.pgB g <;> simp [pf_spec_NewState, h, c, M.newS, M.zeroS]
def M.pickS (l : List M.PgState) (g : M.Pg) : M.PgState := (l.find? fun x => decide (x.pg = g)).getD (M.newS g)
def M.stateIn (s : M.Store) (g : M.Pg) : M.PgState := if M.storeB s then M.pickS s.live g else M.zeroS
theorem M.pickS_at {l : List M.PgState} {g : M.Pg} {i : Nat} (hi : i < l.length) (h : l[i].pg = g) (h2 : ∀ j (hj : j < i), (l[j]'(by omega)).pg ≠ g) : M.pickS l g = l[i] := by
  have : l.find? (fun x => decide (x.pg = g)) = some l[i] := List.find?_eq_some_iff_getElem.2 ⟨by simpa using h, i, hi, rfl, fun j hj => by simpa using h2 j hj⟩
  simp [M.pickS, this]
theorem M.pickS_none {l : List M.PgState} {g : M.Pg} (h : ∀ x ∈ l, x.pg ≠ g) : M.pickS l g = M.newS g := by
  have : l.find? (fun x => decide (x.pg = g)) = none := List.find?_eq_none.2 fun x hx => by simpa using h x hx
  simp [M.pickS, this]
set_option maxHeartbeats 4000000 in
theorem run_Store_state {l k : List M.PgState} (g : M.Pg) (hl : l.length ≤ 1048576) (up : upS l) (sm : ∀ s ∈ l, SmallS s) : RUN CC fn_impl_Store_state [.agg [.sl 0 ty_impl_PgState (l.map (M.pgStateV 0 true)), .sl 0 ty_impl_PgState (k.map (M.pgStateV 0 true))], .agg [.int .i64 g.pool, .int .i64 g.no]] = some ([.agg (stO (M.pickS l g))], []) := by
  obtain ⟨i, hi, hlt, hge, hb⟩ := run_bsearch g hl up
  have sa : RUN CC fn_impl_stateAt [.sl 0 ty_impl_PgState (l.map (M.pgStateV 0 true)), .agg [.int .i64 g.pool, .int .i64 g.no]] = some ([.int .i64 i, .bool (decide (∃ h : i < l.length, l[i].pg = g))], []) := by
    rw [RUN_eq, prog_impl_stateAt]
    simp [pf_impl_stateAt, hb]
  rw [RUN_eq, prog_impl_Store_state]
  by_cases c : ∃ h : i < l.length, l[i].pg = g
  · obtain ⟨c1, c2⟩ := c
    have c3 : decide (∃ h : i < l.length, l[i].pg = g) = true := decide_eq_true ⟨c1, c2⟩
    rw [c3] at sa
    have cl := run_clone l[i] (sm _ (List.getElem_mem c1))
    rw [M.pickS_at c1 c2 fun j hj e => pgLt_irrefl g (by have := hlt j hj (by omega); rwa [e] at this)]
    simp (disch := omega) [pf_impl_Store_state, sa, c1, idxN, M.pgStateV, cl]
  · have c3 : decide (∃ h : i < l.length, l[i].pg = g) = false := decide_eq_false c
    rw [c3] at sa
    have nw := run_iNewState g
    rw [M.pickS_none fun x hx e => ?_]
    · simp [pf_impl_Store_state, sa, nw]
    · obtain ⟨j, hj, rfl⟩ := List.getElem_of_mem hx
      rcases Nat.lt_trichotomy j i with k | k | k
      · have := hlt j k hj
        rw [e] at this
        exact pgLt_irrefl g this
      · subst k
        exact c ⟨hj, e⟩
      · have h1 := up i j k hj
        rw [e] at h1
        exact hge (by omega) h1
theorem run_l18At {l : List M.PgState} (g : M.Pg) (hl : l.length ≤ 1048576) : RUN CC fn_spec_l18At [.sl 0 ty_impl_PgState (l.map (M.pgStateV 0 true)), .agg [.int .i64 g.pool, .int .i64 g.no]] = some ([.int .i64 (findI (fun x : M.PgState => decide (x.pg = g)) l)], []) := by
  rw [RUN_eq, prog_spec_l18At]
  simp [pf_spec_l18At]
  generalize hE : EX CC _ pf_spec_l18At_l0 _ = E
  obtain ⟨x, s', rfl, h⟩ := search_loop hE l (fun x => decide (x.pg = g)) (fun i s => s.t 5 = .pv (.int .i64 i) ∧ s.t 0 = .pv (.sl 0 ty_impl_PgState (l.map (M.pgStateV 0 true))) ∧ s.t 3 = .ptr 3 1 0 ∧ s.m.kb 3 = 1 ∧ s.m.b 3 = some [.pv (.int .i64 g.pool), .pv (.int .i64 g.no)]) (.exit 0) (by simp) (fun i x s => x = .ret ∧ s.t 4 = .pv (.int .i64 i)) (by simp)
    (by
      rintro s ⟨h5, h0, h3, hk, hb⟩
      simp [pf_spec_l18At_lb0, h5, h0, h3, hk, hb])
    (by
      rintro s i hi ⟨h5, h0, h3, hk, hb⟩
      by_cases hq : l[i].pg = g
      · simp (disch := omega) [pf_spec_l18At_lb0, h5, h0, h3, hk, hb, hi, idxN, M.pgStateV, hq, eqK, IntWalk.i64_in]
      · have hq' := pg_eqs _ _ hq
        simp (disch := omega) [pf_spec_l18At_lb0, h5, h0, h3, hk, hb, hi, idxN, M.pgStateV, hq, hq', eqK, IntWalk.i64_in])
  rcases h with ⟨rfl, _, hf, _⟩ | ⟨i, hi, hf, _, rfl, h4⟩
  · simp [hf]
  · simp [hf, h4]
theorem run_iStateIn (s : M.Store) (g : M.Pg) (sm : SmallT s) : RUN CC fn_impl_StateIn [.agg [.sl 0 ty_impl_PgState (s.live.map (M.pgStateV 0 true)), .sl 0 ty_impl_PgState (s.kept.map (M.pgStateV 0 true))], .agg [.int .i64 g.pool, .int .i64 g.no]] = some ([.agg (stO (M.stateIn s g))], []) := by
  have a1 := run_iStoreOk s sm
  rw [RUN_eq, prog_impl_StateIn]
  cases c : M.storeB s
  · simp [pf_impl_StateIn, a1, c, M.stateIn, M.zeroS]
  · have up := M.up_states (l := s.live) (by simp only [M.storeB, Bool.and_eq_true] at c; exact c.1)
    have a2 := run_Store_state (k := s.kept) g sm.live up sm.ls
    simp [pf_impl_StateIn, a1, a2, c, M.stateIn]
theorem run_sStateIn (s : M.Store) (g : M.Pg) (sm : SmallT s) : RUN CC fn_spec_StateIn [.agg [.sl 0 ty_impl_PgState (s.live.map (M.pgStateV 0 true)), .sl 0 ty_impl_PgState (s.kept.map (M.pgStateV 0 true))], .agg [.int .i64 g.pool, .int .i64 g.no]] = some ([.agg (stO (M.stateIn s g))], []) := by
  have a1 := run_sStoreOk s sm
  have a2 := run_l18At g sm.live
  rw [RUN_eq, prog_spec_StateIn]
  cases c : M.storeB s
  · simp [pf_spec_StateIn, a1, c, M.stateIn, M.zeroS]
  · rcases findI_cases (fun x : M.PgState => decide (x.pg = g)) s.live with ⟨e, hn⟩ | ⟨i, hi, e, h1, h2⟩
    · rw [e] at a2
      have nw := run_sNewState g
      have pk := M.pickS_none (l := s.live) (g := g) fun x hx => by simpa using hn x hx
      simp [pf_spec_StateIn, a1, a2, nw, pk, c, M.stateIn]
    · rw [e] at a2
      have cl := run_l17Copy s.live[i] (sm.ls _ (List.getElem_mem hi))
      have pk := M.pickS_at (l := s.live) (g := g) hi (by simpa using h1) fun j hj => by simpa using h2 j hj
      simp (disch := omega) [pf_spec_StateIn, a1, a2, cl, pk, c, M.stateIn, hi, idxN, M.pgStateV]
theorem M.need_stateIn (s : M.Store) (g : M.Pg) : M.needPgState (M.stateIn s g) ≤ 20000 := by
  have hz : M.needPgState M.zeroS = 0 := by simp [M.needPgState, M.zeroS, sumN]
  unfold M.stateIn
  split
  · rename_i h
    simp only [M.storeB, Bool.and_eq_true] at h
    simp only [M.pickS]
    cases hf : s.live.find? (fun x => decide (x.pg = g)) with
    | none =>
      simp only [Option.getD_none, M.newS]
      split
      · simp [M.needPgState, M.zeroS, sumN]
      · omega
    | some x =>
      simp only [Option.getD_some]
      have hx := List.mem_of_find?_eq_some hf
      have h1 := h.1
      simp only [M.statesB, Bool.and_eq_true] at h1
      obtain ⟨i, hi⟩ := allB_mem h1.1 hx
      simp only [Bool.and_eq_true] at hi
      exact M.need_state hi.1
  · omega
set_option maxHeartbeats 8000000 in
theorem run_FnExactStateIn (a : M.Store) (g : M.Pg) (h : M.okStore a) (_ : M.okPg g) : RUN CC fn_laws_FnExactStateIn [M.storeV 0 false a, M.pgV g] = some ([.bool true], []) := by
  have z := run_szStore a (left := 1048576) (by omega) (by omega) h
  by_cases hb : M.needStore a ≤ 1048576
  · have sm := M.smallT hb
    have t := run_toStore a hb
    have tg := run_toPg g
    have w := run_sStateIn a g sm
    have i := run_iStateIn a g sm
    have ho := M.need_stateIn a g
    generalize M.stateIn a g = out at w i ho
    have e := run_eqPgState out (by omega)
    have em := run_eqStore a hb
    have b1 := sumN_lin (f := M.mkPgState) (g := M.needPgState) (c := 8) (d := 10) a.live fun x _ => M.mk_state x
    have b2 := sumN_lin (f := M.mkPgState) (g := M.needPgState) (c := 8) (d := 10) a.kept fun x _ => M.mk_state x
    have b3 := M.mk_state out
    simp only [M.mkPgState] at b3
    have hb' := hb
    simp only [M.needStore] at hb'
    have mk := run_markStore a (k := 1) (by omega) (by omega) hb
    have mg := run_markPgState out (k := 1) (by omega) (by omega) (by omega)
    have hg := run_heldPgState out (k := 1) (by omega) (by omega) (by omega)
    have z1 : szR 1048576 (M.needStore a) = 1048576 - (M.needStore a : Nat) := szR_ge (by omega)
    rw [z1] at z
    have n1 : ¬ (1048576 : Int) - (M.needStore a : Nat) < 0 := by omega
    have n2 : ¬ (1 : Int) + ((sumN M.mkHead out.base : Nat) : Int) + ((sumN M.mkLast out.clients : Nat) : Int) + ((sumN M.mkEntry out.log : Nat) : Int) + ((sumN M.mkChunk out.chunks : Nat) : Int) < 0 := by omega
    have n3 : ¬ (1 : Int) + ((sumN M.mkPgState a.live : Nat) : Int) + ((sumN M.mkPgState a.kept : Nat) : Int) < 0 := by omega
    simp only [M.storeV, M.pgV, M.pgStateV, M.tyPgState_t, M.tyPgState_f, M.tyHead_t, M.tyLast_t, M.tyEntry_t, M.tyChunk_t] at e mg
    simp only [M.storeV, M.pgV, M.tyPgState_t, M.tyPgState_f] at z t tg em mk
    rw [RUN_eq, prog_laws_FnExactStateIn]
    simp [pf_laws_FnExactStateIn, M.storeV, M.pgV, z, n1, t, tg, w, i, e, em, mk, mg, hg, n2, n3, rowCells, rowMem, rowVar, rowBacks, Mem.hideRoot]
  · have z1 : szR 1048576 (M.needStore a) = -1 := szR_lt (by omega)
    rw [z1] at z
    simp only [M.storeV, M.tyPgState_f] at z
    rw [RUN_eq, prog_laws_FnExactStateIn]
    simp [pf_laws_FnExactStateIn, M.storeV, M.pgV, z]
end Go.Proofs.YtngooidedlnmaaaGreat.Pv
