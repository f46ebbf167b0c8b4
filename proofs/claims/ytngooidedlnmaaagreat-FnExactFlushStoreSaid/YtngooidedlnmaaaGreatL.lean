/- What the functions of a law compute, in the plain reading. No condition. -/
import Derived.Test.YtngooidedlnmaaaGreatL2
set_option linter.all false
set_option linter.unusedSimpArgs false
set_option linter.unusedVariables false
set_option linter.unnecessarySimpa false
/- The law FnExactFlushStore. No condition. -/
namespace Go.Proofs.YtngooidedlnmaaaGreat.Pv
open Go Go.Lib
set_option maxRecDepth 10000
set_option linter.unusedSimpArgs false
theorem sumN_const {α : Type} {f : α → Nat} {c : Nat} : ∀ l : List α, (∀ x ∈ l, f x ≤ c) → sumN f l ≤ c * l.length
  | [], _ => by simp [sumN]
  | x :: l, h => by
    have h1 := h x (by simp)
    have h2 := sumN_const l fun y hy => h y (by simp [hy])
    simp only [sumN, List.length_cons, Nat.mul_add] at h2 ⊢
    omega
theorem sumN_lin {α : Type} {f g : α → Nat} {c d : Nat} : ∀ l : List α, (∀ x ∈ l, f x ≤ c + d * g x) → sumN f l ≤ c * l.length + d * sumN g l
  | [], _ => by simp [sumN]
  | x :: l, h => by
    have h1 := h x (by simp)
    have h2 := sumN_lin l fun y hy => h y (by simp [hy])
    simp only [sumN, List.length_cons, Nat.mul_add] at h2 ⊢
    omega
theorem M.mk_state (x : M.PgState) : M.mkPgState x ≤ 8 + 10 * M.needPgState x := by
  have b1 := sumN_const (f := M.mkHead) (c := 5) x.base fun _ _ => by simp [M.mkHead]
  have b2 := sumN_const (f := M.mkLast) (c := 4) x.clients fun _ _ => by simp [M.mkLast]
  have b3 := sumN_const (f := M.mkEntry) (c := 10) x.log fun _ _ => by simp [M.mkEntry]
  have b4 := sumN_const (f := M.mkChunk) (c := 6) x.chunks fun _ _ => by simp [M.mkChunk]
  simp only [M.mkPgState, M.needPgState]
  omega
theorem nameB_size {s : ByteArray} (h : nameB s = true) : s.size ≤ 8 := by
  simp only [nameB, Bool.and_eq_true, decide_eq_true_eq] at h
  exact h.2.2
theorem allB_mem {α : Type} {p : Nat → α → Bool} {l : List α} (h : allB p l = true) {x : α} (hx : x ∈ l) : ∃ i, p i x = true := by
  obtain ⟨i, hi, rfl⟩ := List.getElem_of_mem hx
  exact ⟨i, allB_iff.1 h i hi⟩
theorem M.need_state {x : M.PgState} (h : M.stateB x = true) : M.needPgState x ≤ 20000 := by
  simp only [M.stateB, Bool.and_eq_true, M.headsB, M.lastsB, M.logB, M.chunksB, decide_eq_true_eq] at h
  obtain ⟨_, _, _, _, ⟨⟨h1, h2⟩, _, h3⟩, ⟨h4, h5⟩, _, _, h6, h7⟩ := h
  have b1 := sumN_const (f := M.needHead) (c := 8) x.base fun y hy => by
    obtain ⟨i, hi⟩ := allB_mem h1 hy
    simp only [M.headB, Bool.and_eq_true] at hi
    exact nameB_size hi.1
  have b3 := sumN_const (f := M.needEntry) (c := 8) x.log fun y hy => by
    obtain ⟨i, hi⟩ := allB_mem h4 hy
    simp only [M.logE, M.entryB, Bool.and_eq_true] at hi
    exact nameB_size hi.1.2.2.2.1
  have b4 := sumN_const (f := M.needChunk) (c := 72) x.chunks fun y hy => by
    obtain ⟨i, hi⟩ := allB_mem h6 hy
    simp only [M.chunkB, Bool.and_eq_true, decide_eq_true_eq] at hi
    have := nameB_size hi.1.1
    have := hi.1.2.2.2.2
    simp only [M.needChunk]
    omega
  simp only [M.needPgState]
  omega
theorem M.need_states {l : List M.PgState} (h : M.statesB l = true) : l.length ≤ 8 ∧ sumN M.needPgState l ≤ 160000 := by
  simp only [M.statesB, Bool.and_eq_true, decide_eq_true_eq] at h
  refine ⟨h.2, ?_⟩
  have := sumN_const (f := M.needPgState) (c := 20000) l fun y hy => by
    obtain ⟨i, hi⟩ := allB_mem h.1 hy
    simp only [Bool.and_eq_true] at hi
    exact M.need_state hi.1
  omega
theorem M.smallS {x : M.PgState} (h : M.needPgState x ≤ 1048576) : SmallS x := by
  simp only [M.needPgState] at h
  refine ⟨by omega, by omega, by omega, fun y hy => ?_, fun y hy => ?_, fun y hy => ?_⟩
  · have := sumN_le M.needHead hy
    simp only [M.needHead] at this h
    omega
  · have := sumN_le M.needEntry hy
    simp only [M.needEntry] at this h
    omega
  · have := sumN_le M.needChunk hy
    have e : M.needChunk y = y.name.size + y.bytes.size := rfl
    omega
theorem M.smallT {s : M.Store} (h : M.needStore s ≤ 1048576) : SmallT s := by
  simp only [M.needStore] at h
  refine ⟨by omega, by omega, fun x hx => M.smallS ?_, fun x hx => M.smallS ?_⟩
  · have := sumN_le M.needPgState hx
    omega
  · have := sumN_le M.needPgState hx
    omega
set_option maxHeartbeats 4000000 in
theorem run_cloneStates {l : List M.PgState} (hl : l.length ≤ 1048576) (sm : ∀ s ∈ l, SmallS s) : RUN CC fn_impl_cloneStates [.sl 0 ty_impl_PgState (l.map (M.pgStateV 0 true))] = some ([.sl 2 ty_impl_PgState (l.map (M.pgStateV 2 true))], []) := by
  rw [RUN_eq, prog_impl_cloneStates]
  simp [pf_impl_cloneStates]
  generalize hE : EX CC _ pf_impl_cloneStates_l0 _ = E
  obtain ⟨x, s', rfl, h⟩ := list_loop hE l (fun _ _ => true) (fun i s => s.t 8 = .pv (.int .i64 i) ∧ s.t 7 = .pv (.int .i64 l.length) ∧ s.t 6 = .pv (.sl 0 ty_impl_PgState (l.map (M.pgStateV 0 true))) ∧ ∃ k kn, s.t 3 = .rw ⟨.v 3, k, kn, []⟩ ∧ s.m.kr (.v 3) = k ∧ s.m.r 3 = some (.sl 2 ty_impl_PgState ((l.take i).map (M.pgStateV 2 true)))) (.exit 0) (by simp) (fun i x s => False) (by simp)
    (by
      rintro s ⟨h8, h7, h6, k, kn, h3, hk, hr⟩
      simp [pf_impl_cloneStates_lb0, h8, h7, h6, h3, hk]
      simpa using hr)
    (by
      rintro s i hi ⟨h8, h7, h6, k, kn, h3, hk, hr⟩
      have cl := run_clone l[i] (sm _ (List.getElem_mem hi))
      have e1 : (l.take i).length = i := by simp; omega
      have b1 : ((l.take i).length + 1) * 160 ≤ 140737488355328 ∧ (l.take i).length + 1 ≤ 9223372036854775807 := by omega
      have e2 : (l.take (i + 1)).map (M.pgStateV 2 true) = (l.take i).map (M.pgStateV 2 true) ++ [.agg (stO l[i])] := by
        rw [List.take_succ_eq_append_getElem hi, List.map_append]; rfl
      rw [e2]
      generalize hA : l.take i = A at hr b1
      simp (disch := omega) [pf_impl_cloneStates_lb0, h8, h7, h6, h3, hk, hr, hi, idxN, M.pgStateV, cl, b1, IntWalk.i64_in])
  rcases h with ⟨rfl, ⟨_, _, _, k, kn, h3, hk, hr⟩, _⟩ | ⟨i, _, hf, _⟩
  case inr => cases hf
  rw [List.take_of_length_le (Nat.le_refl _)] at hr
  simp [h3, hk, hr]
set_option maxHeartbeats 4000000 in
theorem run_l18Own {l : List M.PgState} (hl : l.length ≤ 1048576) (sm : ∀ s ∈ l, SmallS s) : RUN CC fn_spec_l18Own [.sl 0 ty_impl_PgState (l.map (M.pgStateV 0 true))] = some ([.sl 2 ty_impl_PgState (l.map (M.pgStateV 2 true))], []) := by
  rw [RUN_eq, prog_spec_l18Own]
  simp [pf_spec_l18Own]
  generalize hE : EX CC _ pf_spec_l18Own_l0 _ = E
  obtain ⟨x, s', rfl, h⟩ := list_loop hE l (fun _ _ => true) (fun i s => s.t 4 = .pv (.int .i64 i) ∧ s.t 0 = .pv (.sl 0 ty_impl_PgState (l.map (M.pgStateV 0 true))) ∧ ∃ k kn, s.t 3 = .rw ⟨.v 3, k, kn, []⟩ ∧ s.m.kr (.v 3) = k ∧ s.m.r 3 = some (.sl 2 ty_impl_PgState ((l.take i).map (M.pgStateV 2 true)))) (.exit 0) (by simp) (fun i x s => False) (by simp)
    (by
      rintro s ⟨h4, h0, k, kn, h3, hk, hr⟩
      simp [pf_spec_l18Own_lb0, h4, h0, h3, hk]
      simpa using hr)
    (by
      rintro s i hi ⟨h4, h0, k, kn, h3, hk, hr⟩
      have cl := run_l17Copy l[i] (sm _ (List.getElem_mem hi))
      have e1 : (l.take i).length = i := by simp; omega
      have b1 : ((l.take i).length + 1) * 160 ≤ 140737488355328 ∧ (l.take i).length + 1 ≤ 9223372036854775807 := by omega
      have e2 : (l.take (i + 1)).map (M.pgStateV 2 true) = (l.take i).map (M.pgStateV 2 true) ++ [.agg (stO l[i])] := by
        rw [List.take_succ_eq_append_getElem hi, List.map_append]; rfl
      rw [e2]
      generalize hA : l.take i = A at hr b1
      simp (disch := omega) [pf_spec_l18Own_lb0, h4, h0, h3, hk, hr, hi, idxN, M.pgStateV, cl, b1, IntWalk.i64_in])
  rcases h with ⟨rfl, ⟨_, _, k, kn, h3, hk, hr⟩, _⟩ | ⟨i, _, hf, _⟩
  case inr => cases hf
  rw [List.take_of_length_le (Nat.le_refl _)] at hr
  simp [h3, hk, hr]
def M.flush (s : M.Store) : M.Store := if M.storeB s then ⟨s.live, s.live⟩ else ⟨[], []⟩
theorem M.need_flush {s : M.Store} : M.needStore (M.flush s) ≤ 400000 := by
  unfold M.flush
  split
  · rename_i h
    simp only [M.storeB, Bool.and_eq_true] at h
    have := M.need_states h.1
    simp only [M.needStore]
    omega
  · simp [M.needStore, sumN]
theorem run_iFlush (s : M.Store) (sm : SmallT s) : RUN CC fn_impl_FlushStore [.agg [.sl 0 ty_impl_PgState (s.live.map (M.pgStateV 0 true)), .sl 0 ty_impl_PgState (s.kept.map (M.pgStateV 0 true))]] = some ([.agg [.sl 2 ty_impl_PgState ((M.flush s).live.map (M.pgStateV 2 true)), .sl 2 ty_impl_PgState ((M.flush s).kept.map (M.pgStateV 2 true))]], []) := by
  have a1 := run_iStoreOk s sm
  have a2 := run_cloneStates sm.live sm.ls
  rw [RUN_eq, prog_impl_FlushStore]
  cases c : M.storeB s <;> simp [pf_impl_FlushStore, a1, a2, c, M.flush]
theorem run_sFlush (s : M.Store) (sm : SmallT s) : RUN CC fn_spec_FlushStore [.agg [.sl 0 ty_impl_PgState (s.live.map (M.pgStateV 0 true)), .sl 0 ty_impl_PgState (s.kept.map (M.pgStateV 0 true))]] = some ([.agg [.sl 2 ty_impl_PgState ((M.flush s).live.map (M.pgStateV 2 true)), .sl 2 ty_impl_PgState ((M.flush s).kept.map (M.pgStateV 2 true))]], []) := by
  have a1 := run_sStoreOk s sm
  have a2 := run_l18Own sm.live sm.ls
  rw [RUN_eq, prog_spec_FlushStore]
  cases c : M.storeB s <;> simp [pf_spec_FlushStore, a1, a2, c, M.flush]
theorem run_heldStore (a : M.Store) {k : Int} (h0 : 0 ≤ k) (hk : k + ((sumN M.mkPgState a.live : Nat) : Int) + ((sumN M.mkPgState a.kept : Nat) : Int) ≤ 4611686018427387904) (hn : M.needStore a ≤ 1048576) : RUN CC fn_laws_heldStore [.agg [.sl 0 ty_impl_PgState ((mrkL M.mrkPgState M.mkPgState k a.live).map (M.pgStateV 0 true)), .sl 0 ty_impl_PgState ((mrkL M.mrkPgState M.mkPgState (k + ((sumN M.mkPgState a.live : Nat) : Int)) a.kept).map (M.pgStateV 0 true))], .int .i64 k] = some ([.int .i64 (k + ((sumN M.mkPgState a.live : Nat) : Int) + ((sumN M.mkPgState a.kept : Nat) : Int))], []) := by
  have hn' := hn
  simp only [M.needStore] at hn'
  have h1 := run_heldPgStateS (xs := a.live) (k := k) (by omega) (by omega) (by omega)
  have h2 := run_heldPgStateS (xs := a.kept) (k := k + ((sumN M.mkPgState a.live : Nat) : Int)) (by omega) (by omega) (by omega)
  have n1 : ¬ k + ((sumN M.mkPgState a.live : Nat) : Int) < 0 := by omega
  have n2 : ¬ k + ((sumN M.mkPgState a.live : Nat) : Int) + ((sumN M.mkPgState a.kept : Nat) : Int) < 0 := by omega
  rw [RUN_eq, prog_laws_heldStore]
  simp [pf_laws_heldStore, h1, h2, n1, n2]
set_option maxHeartbeats 8000000 in
theorem run_FnExactFlushStore (a : M.Store) (h : M.okStore a) : RUN CC fn_laws_FnExactFlushStore [M.storeV 0 false a] = some ([.bool true], []) := by
  have z := run_szStore a (left := 1048576) (by omega) (by omega) h
  by_cases hb : M.needStore a ≤ 1048576
  · have sm := M.smallT hb
    have t := run_toStore a hb
    have w := run_sFlush a sm
    have g := run_iFlush a sm
    have ho := M.need_flush (s := a)
    generalize M.flush a = out at w g ho
    have e := run_eqStore out (by omega)
    have em := run_eqStore a hb
    have b1 := sumN_lin (f := M.mkPgState) (g := M.needPgState) (c := 8) (d := 10) a.live fun x _ => M.mk_state x
    have b2 := sumN_lin (f := M.mkPgState) (g := M.needPgState) (c := 8) (d := 10) a.kept fun x _ => M.mk_state x
    have b3 := sumN_lin (f := M.mkPgState) (g := M.needPgState) (c := 8) (d := 10) out.live fun x _ => M.mk_state x
    have b4 := sumN_lin (f := M.mkPgState) (g := M.needPgState) (c := 8) (d := 10) out.kept fun x _ => M.mk_state x
    have hb' := hb
    simp only [M.needStore] at hb'
    have ho' := ho
    simp only [M.needStore] at ho'
    have mk := run_markStore a (k := 1) (by omega) (by omega) hb
    have mg := run_markStore out (k := 1) (by omega) (by omega) (by omega)
    have hg := run_heldStore out (k := 1) (by omega) (by omega) (by omega)
    have z1 : szR 1048576 (M.needStore a) = 1048576 - (M.needStore a : Nat) := szR_ge (by omega)
    rw [z1] at z
    have n1 : ¬ (1048576 : Int) - (M.needStore a : Nat) < 0 := by omega
    have n2 : ¬ (1 : Int) + ((sumN M.mkPgState out.live : Nat) : Int) + ((sumN M.mkPgState out.kept : Nat) : Int) < 0 := by omega
    have n3 : ¬ (1 : Int) + ((sumN M.mkPgState a.live : Nat) : Int) + ((sumN M.mkPgState a.kept : Nat) : Int) < 0 := by omega
    simp only [M.storeV, M.tyPgState_t, M.tyPgState_f] at z t e em mk mg
    rw [RUN_eq, prog_laws_FnExactFlushStore]
    simp [pf_laws_FnExactFlushStore, M.storeV, z, n1, t, w, g, e, em, mk, mg, hg, n2, n3, rowCells, rowMem, rowVar, rowBacks, Mem.hideRoot]
  · have z1 : szR 1048576 (M.needStore a) = -1 := szR_lt (by omega)
    rw [z1] at z
    simp only [M.storeV, M.tyPgState_f] at z
    rw [RUN_eq, prog_laws_FnExactFlushStore]
    simp [pf_laws_FnExactFlushStore, M.storeV, z]
end Go.Proofs.YtngooidedlnmaaaGreat.Pv
