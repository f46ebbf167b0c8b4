/- What the functions of a law compute, in the plain reading. No condition. -/
import Derived.Test.YtngooidedlnmaaaGreatL1
set_option linter.all false
set_option linter.unusedSimpArgs false
set_option linter.unusedVariables false
set_option linter.unnecessarySimpa false
/- What a valid state is, in plain terms. No condition. -/
namespace Go.Proofs.YtngooidedlnmaaaGreat.Pv
open Go Go.Lib
set_option linter.unusedSimpArgs false
def chOk (n : Nat) : Prop := (97 ≤ n ∧ n ≤ 122) ∨ (48 ≤ n ∧ n ≤ 57)
instance (n : Nat) : Decidable (chOk n) := by unfold chOk; infer_instance
def nameB (s : ByteArray) : Bool := allB (fun _ b => decide (chOk b.toNat)) s.data.toList && decide (1 ≤ s.size ∧ s.size ≤ 8)
def relB {α : Type} (r : α → α → Bool) (l : List α) : Nat → α → Bool
  | 0, _ => true
  | j + 1, a => (l[j]?).all fun b => r b a
theorem relB_zero {α : Type} (r : α → α → Bool) (l : List α) (a : α) : relB r l 0 a = true := rfl
theorem relB_succ {α : Type} (r : α → α → Bool) (l : List α) {j : Nat} (h : j < l.length) (a : α) : relB r l (j + 1) a = r l[j] a := by simp [relB, h]
theorem allB_take {α : Type} {p : Nat → α → Bool} {l : List α} {n : Nat} : (allB p (l.take (n + 1)) && decide (l.length ≤ n)) = (allB p l && decide (l.length ≤ n)) := by
  by_cases h : l.length ≤ n
  · rw [List.take_of_length_le (by omega)]
  · simp [h]
instance : DecidableEq M.Ver := fun a b => decidable_of_iff (a.epoch = b.epoch ∧ a.seq = b.seq) (by cases a; cases b; simp)
def M.zeroB (v : M.Ver) : Bool := decide (v.epoch = 0 ∧ v.seq = 0)
def M.verB (v : M.Ver) : Bool := decide (verOk v.epoch v.seq)
def M.fullB (v : M.Ver) : Bool := decide (verOk v.epoch v.seq ∧ ¬ (v.epoch = 0 ∧ v.seq = 0))
def M.vltB (a b : M.Ver) : Bool := decide (verLt a.epoch a.seq b.epoch b.seq)
def M.reqB (r : M.Req) : Bool := decide (reqOk r.client r.no)
def sizeB (a b : Int) : Bool := decide ((0 ≤ a ∧ a ≤ 64) ∧ 0 ≤ b ∧ b ≤ 4294967295)
def M.pgB (g : M.Pg) : Bool := decide ((1 ≤ g.pool ∧ g.pool ≤ 4) ∧ 0 ≤ g.no ∧ g.no ≤ 15)
def M.entryB (e : M.Entry) : Bool := M.verB e.ver && (M.verB e.prior && (M.vltB e.prior e.ver && (nameB e.name && (M.reqB e.req && (sizeB e.size e.sum && (!e.gone || decide (e.size = 0 ∧ e.sum = 0)))))))
def M.chunkB (c : M.Chunk) : Bool := nameB c.name && (M.fullB c.ver && (decide (0 ≤ c.pos ∧ c.pos ≤ 6) && (decide (0 ≤ c.sum ∧ c.sum ≤ 4294967295) && decide (c.bytes.size ≤ 64))))
def M.upTo (tail v : M.Ver) : Bool := M.fullB v && !M.vltB tail v
def M.headB (tail : M.Ver) (l : List M.Head) (i : Nat) (h : M.Head) : Bool := nameB h.name && (M.upTo tail h.ver && (sizeB h.size h.sum && relB (fun a b => nlt a.name b.name) l i h))
def M.headsB (tail : M.Ver) (l : List M.Head) : Bool := allB (M.headB tail l) l && decide (l.length ≤ 16)
def M.lastB (tail : M.Ver) (l : List M.Last) (i : Nat) (c : M.Last) : Bool := decide ((100 ≤ c.client ∧ c.client ≤ 105) ∧ 1 ≤ c.no ∧ c.no ≤ 1000) && (M.upTo tail c.ver && relB (fun a b => decide (a.client < b.client)) l i c)
def M.lastsB (tail : M.Ver) (l : List M.Last) : Bool := allB (M.lastB tail l) l && decide (l.length ≤ 6)
def M.headOf (e : M.Entry) : M.Head := ⟨e.name, e.ver, e.size, e.sum⟩
def M.putH (e : M.Entry) : List M.Head → List M.Head
  | [] => if e.gone then [] else [M.headOf e]
  | x :: l => if nlt x.name e.name then x :: M.putH e l else (if e.gone then [] else [M.headOf e]) ++ (if x.name = e.name then l else x :: l)
theorem M.names_putH (e : M.Entry) : ∀ l : List M.Head, (M.putH e l).map (·.name) = putN e.name e.gone (l.map (·.name))
  | [] => by cases h : e.gone <;> simp [M.putH, putN, M.headOf, h]
  | x :: l => by
    simp only [M.putH, putN, List.map_cons]
    split
    · rw [List.map_cons, M.names_putH e l]
    · rw [List.map_append]
      congr 1
      · cases h : e.gone <;> simp [M.headOf]
      · split <;> simp
def M.hasH (e : M.Entry) (l : List M.Head) (k : Nat) : Nat := if h : k < l.length then (if l[k].name = e.name then 1 else 0) else 0
theorem M.putH_at (e : M.Entry) : ∀ (l : List M.Head) (k : Nat), k ≤ l.length → (∀ j (h : j < k) (h2 : j < l.length), nlt l[j].name e.name = true) → (∀ h : k < l.length, nlt l[k].name e.name = false) →
    M.putH e l = l.take k ++ ((if e.gone then [] else [M.headOf e]) ++ l.drop (k + M.hasH e l k))
  | [], k, hk, _, _ => by
    obtain rfl : k = 0 := by simpa using hk
    simp [M.putH, M.hasH]
  | x :: l, 0, _, _, h2 => by
    have h3 : nlt x.name e.name = false := h2 (by simp)
    simp only [M.putH, h3, Bool.false_eq_true, if_false, List.take_zero, List.nil_append, M.hasH, List.length_cons, Nat.zero_lt_succ, dif_pos, List.getElem_cons_zero]
    congr 1
    by_cases h4 : x.name = e.name <;> simp [h4]
  | x :: l, k + 1, hk, h1, h2 => by
    have h3 : nlt x.name e.name = true := h1 0 (by omega) (by simp)
    have ih := M.putH_at e l k (by simpa using hk) (fun j hj hj2 => h1 (j + 1) (by omega) (by simpa using hj2)) (fun h => h2 (by simpa using h))
    have h5 : M.hasH e (x :: l) (k + 1) = M.hasH e l k := by simp [M.hasH]
    rw [h5, show k + 1 + M.hasH e l k = (k + M.hasH e l k) + 1 by omega]
    simp [M.putH, h3, ih]
theorem M.putH_len (e : M.Entry) : ∀ l : List M.Head, (M.putH e l).length ≤ l.length + 1
  | [] => by cases h : e.gone <;> simp [M.putH, h]
  | x :: l => by
    have := M.putH_len e l
    simp only [M.putH]
    split
    · simp; omega
    · split <;> split <;> simp <;> omega
def M.headsN (s : M.PgState) (i : Nat) : List M.Head := (s.log.take i).foldl (fun hs e => M.putH e hs) s.base
def M.verN (s : M.PgState) : Nat → M.Ver
  | 0 => s.tail
  | i + 1 => (s.log[i]?).elim s.tail (·.ver)
theorem M.headsN_zero (s : M.PgState) : M.headsN s 0 = s.base := rfl
theorem M.headsN_succ (s : M.PgState) {i : Nat} (hi : i < s.log.length) : M.headsN s (i + 1) = M.putH s.log[i] (M.headsN s i) := by
  simp only [M.headsN]
  rw [List.take_succ_eq_append_getElem hi, List.foldl_append]
  rfl
theorem M.verN_succ (s : M.PgState) {i : Nat} (hi : i < s.log.length) : M.verN s (i + 1) = s.log[i].ver := by simp [M.verN, hi]
theorem M.up_headsN (s : M.PgState) (h : upN (s.base.map (·.name))) : ∀ i, upN ((M.headsN s i).map (·.name))
  | 0 => h
  | i + 1 => by
    by_cases hi : i < s.log.length
    · rw [M.headsN_succ s hi, M.names_putH]
      exact up_putN (M.up_headsN s h i)
    · have : M.headsN s (i + 1) = M.headsN s i := by
        simp only [M.headsN]
        rw [List.take_of_length_le (by omega), List.take_of_length_le (by omega)]
      rw [this]
      exact M.up_headsN s h i
theorem M.up_base {tail : M.Ver} {l : List M.Head} (h : M.headsB tail l = true) : upN (l.map (·.name)) := by
  refine upN_of fun i hi => ?_
  simp only [M.headsB, Bool.and_eq_true] at h
  have h1 := allB_iff.1 h.1 (i + 1) (by simpa using hi)
  simp only [M.headB, Bool.and_eq_true] at h1
  have h2 := h1.2.2.2
  rw [relB_succ _ _ (by simp at hi; omega)] at h2
  simpa using h2
def M.logE (s : M.PgState) (i : Nat) (e : M.Entry) : Bool := M.entryB e && (decide (e.prior = M.verN s i) && decide ((M.headsN s (i + 1)).length ≤ 16))
def M.logB (s : M.PgState) : Bool := allB (M.logE s) s.log && decide (s.log.length ≤ 24)
def M.chunkLess (a b : M.Chunk) : Bool := if a.name = b.name then (if a.ver = b.ver then decide (a.pos < b.pos) else M.vltB a.ver b.ver) else nlt a.name b.name
def M.chunksB (l : List M.Chunk) : Bool := allB (fun i c => M.chunkB c && relB M.chunkLess l i c) l && decide (l.length ≤ 160)
def M.endVer (s : M.PgState) : M.Ver := (s.log.getLast?).elim s.tail (·.ver)
def M.stateB (s : M.PgState) : Bool := M.pgB s.pg && (decide (0 ≤ s.seen ∧ s.seen ≤ 60) && (decide (0 ≤ s.started ∧ s.started ≤ s.seen) && (M.verB s.tail && ((M.headsB s.tail s.base && M.lastsB s.tail s.clients) && (M.logB s && (M.verB s.firm && (!M.vltB (M.endVer s) s.firm && M.chunksB s.chunks)))))))
def M.pgLess (a b : M.Pg) : Bool := decide (a.pool < b.pool ∨ a.pool = b.pool ∧ a.no < b.no)
def M.statesB (l : List M.PgState) : Bool := allB (fun i s => M.stateB s && relB (fun a b => M.pgLess a.pg b.pg) l i s) l && decide (l.length ≤ 8)
def M.storeB (s : M.Store) : Bool := M.statesB s.live && M.statesB s.kept
end Go.Proofs.YtngooidedlnmaaaGreat.Pv
/- Names, entries and chunks: whether they are valid, by the program and by the reference. No condition. -/
namespace Go.Proofs.YtngooidedlnmaaaGreat.Pv
open Go Go.Lib
set_option maxRecDepth 10000
set_option linter.unusedSimpArgs false
theorem ch_cases (n : Nat) : (decide (chOk n) = true ∧ ((¬ (n : Int) < 97 ∧ ¬ 122 < (n : Int)) ∨ ((n : Int) < 97 ∧ ¬ (n : Int) < 48 ∧ ¬ 57 < (n : Int)))) ∨ (decide (chOk n) = false ∧ (((n : Int) < 97 ∧ (n : Int) < 48) ∨ ((n : Int) < 97 ∧ ¬ (n : Int) < 48 ∧ 57 < (n : Int)) ∨ (¬ (n : Int) < 97 ∧ 122 < (n : Int) ∧ ¬ (n : Int) < 48 ∧ 57 < (n : Int)))) := by
  by_cases h : chOk n
  · refine .inl ⟨by simpa using h, ?_⟩
    unfold chOk at h; omega
  · refine .inr ⟨by simpa using h, ?_⟩
    unfold chOk at h; omega
theorem size_toList (s : ByteArray) : s.size = s.data.toList.length := Array.length_toList.symm
theorem run_iNameOk (nm : ByteArray) (hn : nm.size ≤ 4611686018427387904) : RUN CC fn_impl_NameOk [.str nm] = some ([.bool (nameB nm)], []) := by
  generalize hl : nm.data.toList = l
  have hsz : nm.size = l.length := by rw [size_toList, hl]
  rw [RUN_eq, prog_impl_NameOk]
  simp [pf_impl_NameOk]
  generalize hE : EX CC _ pf_impl_NameOk_l0 _ = E
  obtain ⟨x, s', rfl, h⟩ := all_loop hE l (fun _ b => decide (chOk b.toNat)) (fun i s => s.t 0 = .pv (.str nm) ∧ s.t 6 = .pv (.int .i64 l.length) ∧ s.t 7 = .pv (.int .i64 i)) (.exit 0) (by simp) (fun i x s => x = .ret ∧ s.t 2 = .pv (.bool false)) (by simp [hsz])
    (by
      rintro s ⟨h0, h6, h7⟩
      simp [pf_impl_NameOk_lb0, h0, h6, h7])
    (by
      rintro s i hi ⟨h0, h6, h7⟩
      rcases ch_cases l[i].toNat with ⟨e, ⟨c1, c2⟩ | ⟨c1, c2, c3⟩⟩ | ⟨e, ⟨c1, c2⟩ | ⟨c1, c2, c3⟩ | ⟨c1, c2, c3, c4⟩⟩
      · simp (disch := omega) [pf_impl_NameOk_lb0, h0, h6, h7, hi, hsz, hl, idxN, c1, c2, e, IntWalk.i64_in]
      · simp (disch := omega) [pf_impl_NameOk_lb0, h0, h6, h7, hi, hsz, hl, idxN, c1, c2, c3, e, IntWalk.i64_in]
      · simp (disch := omega) [pf_impl_NameOk_lb0, h0, h6, h7, hi, hsz, hl, idxN, c1, c2, e, IntWalk.i64_in]
      · simp (disch := omega) [pf_impl_NameOk_lb0, h0, h6, h7, hi, hsz, hl, idxN, c1, c2, c3, e, IntWalk.i64_in]
      · simp (disch := omega) [pf_impl_NameOk_lb0, h0, h6, h7, hi, hsz, hl, idxN, c1, c2, c3, c4, e, IntWalk.i64_in])
  rcases h with ⟨rfl, hf, h0, _, _⟩ | ⟨i, hf, _, rfl, h2⟩
  · simp [nameB, hl, hf, h0, hsz]
    congr 1 <;> (apply decide_eq_decide.2; omega)
  · simp [nameB, hl, hf, h2]
theorem run_sName (nm : ByteArray) (hn : nm.size ≤ 4611686018427387904) : RUN CC fn_spec_l09Name [.str nm] = some ([.bool (nameB nm)], []) := by
  generalize hl : nm.data.toList = l
  have hsz : nm.size = l.length := by rw [size_toList, hl]
  rw [RUN_eq, prog_spec_l09Name]
  by_cases c : 1 ≤ nm.size ∧ nm.size ≤ 8
  case neg =>
    by_cases c1 : (l.length : Int) < 1
    · have c' : ¬ (1 ≤ l.length ∧ l.length ≤ 8) := by omega
      simp [pf_spec_l09Name, nameB, hsz, c1, c']
    · have c2 : (8 : Int) < l.length := by omega
      have c' : ¬ (1 ≤ l.length ∧ l.length ≤ 8) := by omega
      simp [pf_spec_l09Name, nameB, hsz, c1, c2, c']
  have c1 : ¬ (l.length : Int) < 1 := by omega
  have c2 : ¬ (8 : Int) < l.length := by omega
  have c' : 1 ≤ l.length ∧ l.length ≤ 8 := by omega
  simp [pf_spec_l09Name, hsz, c1, c2]
  generalize hE : EX CC _ pf_spec_l09Name_l0 _ = E
  obtain ⟨x, s', rfl, h⟩ := all_loop hE l (fun _ b => decide (chOk b.toNat)) (fun i s => s.t 0 = .pv (.str nm) ∧ s.t 3 = .pv (.int .i64 i)) (.exit 0) (by simp) (fun i x s => x = .ret ∧ s.t 2 = .pv (.bool false)) (by simp)
    (by
      rintro s ⟨h0, h7⟩
      simp [pf_spec_l09Name_lb0, h0, h7, hsz])
    (by
      rintro s i hi ⟨h0, h7⟩
      rcases ch_cases l[i].toNat with ⟨e, ⟨c1, c2⟩ | ⟨c1, c2, c3⟩⟩ | ⟨e, ⟨c1, c2⟩ | ⟨c1, c2, c3⟩ | ⟨c1, c2, c3, c4⟩⟩
      · simp (disch := omega) [pf_spec_l09Name_lb0, h0, h7, hi, hsz, hl, idxN, c1, c2, e, IntWalk.i64_in]
      · simp (disch := omega) [pf_spec_l09Name_lb0, h0, h7, hi, hsz, hl, idxN, c1, c2, c3, e, IntWalk.i64_in]
      · simp (disch := omega) [pf_spec_l09Name_lb0, h0, h7, hi, hsz, hl, idxN, c1, c2, e, IntWalk.i64_in]
      · simp (disch := omega) [pf_spec_l09Name_lb0, h0, h7, hi, hsz, hl, idxN, c1, c2, c3, e, IntWalk.i64_in]
      · simp (disch := omega) [pf_spec_l09Name_lb0, h0, h7, hi, hsz, hl, idxN, c1, c2, c3, c4, e, IntWalk.i64_in])
  rcases h with ⟨rfl, hf, h0, _⟩ | ⟨i, hf, _, rfl, h2⟩
  · simp [nameB, hl, hf, h0, hsz, c']
  · simp [nameB, hl, hf, h2]
theorem run_sNameOk (nm : ByteArray) (hn : nm.size ≤ 4611686018427387904) : RUN CC fn_spec_NameOk [.str nm] = some ([.bool (nameB nm)], []) := by
  rw [RUN_eq, prog_spec_NameOk]
  simp [pf_spec_NameOk, run_sName nm hn]
set_option maxHeartbeats 4000000 in
theorem run_iEntryOk (e : M.Entry) (hn : e.name.size ≤ 1048576) : RUN CC fn_impl_EntryOk [M.entryV e] = some ([.bool (M.entryB e)], []) := by
  have nm := run_iNameOk e.name (by omega)
  rw [RUN_eq, prog_impl_EntryOk]
  by_cases c1 : verOk e.ver.epoch e.ver.seq
  case neg => simp [pf_impl_EntryOk, M.entryV, run_verOk, c1, M.entryB, M.verB]
  by_cases c2 : verOk e.prior.epoch e.prior.seq
  case neg => simp [pf_impl_EntryOk, M.entryV, run_verOk, c1, c2, M.entryB, M.verB]
  by_cases c3 : verLt e.prior.epoch e.prior.seq e.ver.epoch e.ver.seq
  case neg => simp [pf_impl_EntryOk, M.entryV, run_verOk, run_iVerLess, c1, c2, c3, M.entryB, M.verB, M.vltB]
  cases c4 : nameB e.name
  case false => simp [pf_impl_EntryOk, M.entryV, run_verOk, run_iVerLess, nm, c1, c2, c3, c4, M.entryB, M.verB, M.vltB]
  by_cases c5 : reqOk e.req.client e.req.no
  case neg => simp [pf_impl_EntryOk, M.entryV, run_verOk, run_iVerLess, run_reqOk, nm, c1, c2, c3, c4, c5, M.entryB, M.verB, M.vltB, M.reqB]
  by_cases c6 : (0 ≤ e.size ∧ e.size ≤ 64) ∧ 0 ≤ e.sum ∧ e.sum ≤ 4294967295
  case neg => simp [pf_impl_EntryOk, M.entryV, run_verOk, run_iVerLess, run_reqOk, run_sizeOk, nm, c1, c2, c3, c4, c5, c6, M.entryB, M.verB, M.vltB, M.reqB, sizeB]
  cases c7 : e.gone
  case false => simp [pf_impl_EntryOk, M.entryV, run_verOk, run_iVerLess, run_reqOk, run_sizeOk, nm, c1, c2, c3, c4, c5, c6, c7, M.entryB, M.verB, M.vltB, M.reqB, sizeB]
  by_cases c8 : e.size = 0 <;> by_cases c9 : e.sum = 0 <;> simp [pf_impl_EntryOk, M.entryV, run_verOk, run_iVerLess, run_reqOk, run_sizeOk, nm, c1, c2, c3, c4, c5, c6, c7, c8, c9, M.entryB, M.verB, M.vltB, M.reqB, sizeB]
set_option maxHeartbeats 4000000 in
theorem run_sEntryOk (e : M.Entry) (hn : e.name.size ≤ 1048576) : RUN CC fn_spec_EntryOk [M.entryV e] = some ([.bool (M.entryB e)], []) := by
  have nm := run_sNameOk e.name (by omega)
  rw [RUN_eq, prog_spec_EntryOk]
  by_cases c1 : verOk e.ver.epoch e.ver.seq
  case neg => simp [pf_spec_EntryOk, M.entryV, run_l17Ver, c1, M.entryB, M.verB]
  by_cases c2 : verOk e.prior.epoch e.prior.seq
  case neg => simp [pf_spec_EntryOk, M.entryV, run_l17Ver, c1, c2, M.entryB, M.verB]
  by_cases c3 : verLt e.prior.epoch e.prior.seq e.ver.epoch e.ver.seq
  case neg => simp [pf_spec_EntryOk, M.entryV, run_l17Ver, run_sVerLess, c1, c2, c3, M.entryB, M.verB, M.vltB]
  cases c4 : nameB e.name
  case false => simp [pf_spec_EntryOk, M.entryV, run_l17Ver, run_sVerLess, nm, c1, c2, c3, c4, M.entryB, M.verB, M.vltB]
  by_cases c5 : reqOk e.req.client e.req.no
  case neg => simp [pf_spec_EntryOk, M.entryV, run_l17Ver, run_sVerLess, run_l17Req, nm, c1, c2, c3, c4, c5, M.entryB, M.verB, M.vltB, M.reqB]
  cases c7 : e.gone
  case false =>
    by_cases c6 : 0 ≤ e.size ∧ e.size ≤ 64 <;> by_cases c8 : 0 ≤ e.sum ∧ e.sum ≤ 4294967295 <;> simp [pf_spec_EntryOk, M.entryV, run_l17Ver, run_sVerLess, run_l17Req, nm, c1, c2, c3, c4, c5, c6, c7, c8, M.entryB, M.verB, M.vltB, M.reqB, sizeB]
  by_cases c8 : e.size = 0 <;> by_cases c9 : e.sum = 0 <;> simp [pf_spec_EntryOk, M.entryV, run_l17Ver, run_sVerLess, run_l17Req, nm, c1, c2, c3, c4, c5, c7, c8, c9, M.entryB, M.verB, M.vltB, M.reqB, sizeB]
theorem run_full (v : M.Ver) : RUN CC fn_spec_l17Full [.agg [.int .i64 v.epoch, .int .i64 v.seq]] = some ([.bool (M.fullB v)], []) := run_l17Full _ _
set_option maxHeartbeats 4000000 in
theorem run_iChunkOk (c : M.Chunk) (hn : c.name.size ≤ 1048576) : RUN CC fn_impl_ChunkOk [M.chunkV c] = some ([.bool (M.chunkB c)], []) := by
  have nm := run_iNameOk c.name (by omega)
  rw [RUN_eq, prog_impl_ChunkOk]
  cases c1 : nameB c.name
  case false => simp [pf_impl_ChunkOk, M.chunkV, nm, c1, M.chunkB]
  by_cases c2 : verOk c.ver.epoch c.ver.seq
  case neg => simp [pf_impl_ChunkOk, M.chunkV, run_verOk, nm, c1, c2, M.chunkB, M.fullB]
  by_cases c3 : c.ver.epoch = 0 ∧ c.ver.seq = 0
  · obtain ⟨k1, k2⟩ := c3
    rw [k1, k2] at c2
    simp [pf_impl_ChunkOk, M.chunkV, run_verOk, nm, c1, c2, k1, k2, eqK, M.chunkB, M.fullB]
  have c3' : ((c.ver.epoch == 0) && (c.ver.seq == 0)) = false := by simpa using fun e => fun k => c3 ⟨e, k⟩
  by_cases c4 : 0 ≤ c.pos ∧ c.pos ≤ 6 <;> by_cases c5 : 0 ≤ c.sum ∧ c.sum ≤ 4294967295 <;> simp [pf_impl_ChunkOk, M.chunkV, run_verOk, nm, c1, c2, c3, c3', c4, c5, eqK, M.chunkB, M.fullB] <;> omega
set_option maxHeartbeats 4000000 in
theorem run_sChunkOk (c : M.Chunk) (hn : c.name.size ≤ 1048576) : RUN CC fn_spec_ChunkOk [M.chunkV c] = some ([.bool (M.chunkB c)], []) := by
  have nm := run_sNameOk c.name (by omega)
  rw [RUN_eq, prog_spec_ChunkOk]
  cases c1 : nameB c.name
  case false => simp [pf_spec_ChunkOk, M.chunkV, nm, c1, M.chunkB]
  have fu := run_full c.ver
  cases c2 : M.fullB c.ver
  case false => simp [pf_spec_ChunkOk, M.chunkV, fu, nm, c1, c2, M.chunkB]
  by_cases c4 : 0 ≤ c.pos ∧ c.pos ≤ 6 <;> by_cases c5 : 0 ≤ c.sum ∧ c.sum ≤ 4294967295 <;> simp [pf_spec_ChunkOk, M.chunkV, fu, nm, c1, c2, c4, c5, M.chunkB] <;> omega
abbrev stC (s : M.PgState) : List PV := [.int .i64 s.pg.pool, .int .i64 s.pg.no, .int .i64 s.seen, .int .i64 s.started, .int .i64 s.tail.epoch, .int .i64 s.tail.seq, .sl 0 ty_impl_Head (s.base.map M.headV), .sl 0 ty_impl_Last (s.clients.map M.lastV), .sl 0 ty_impl_Entry (s.log.map M.entryV), .int .i64 s.firm.epoch, .int .i64 s.firm.seq, .sl 0 ty_impl_Chunk (s.chunks.map M.chunkV)]
abbrev stA (s : M.PgState) : List AV := [.pv (.int .i64 s.pg.pool), .pv (.int .i64 s.pg.no), .pv (.int .i64 s.seen), .pv (.int .i64 s.started), .pv (.int .i64 s.tail.epoch), .pv (.int .i64 s.tail.seq), .pv (.sl 0 ty_impl_Head (s.base.map M.headV)), .pv (.sl 0 ty_impl_Last (s.clients.map M.lastV)), .pv (.sl 0 ty_impl_Entry (s.log.map M.entryV)), .pv (.int .i64 s.firm.epoch), .pv (.int .i64 s.firm.seq), .pv (.sl 0 ty_impl_Chunk (s.chunks.map M.chunkV))]
theorem stV (s : M.PgState) : M.pgStateV 0 true s = .agg (stC s) := rfl
theorem run_upTo (s : M.PgState) (v : M.Ver) : RUN CC fn_impl_PgState_upToTail [.agg (stC s), .agg [.int .i64 v.epoch, .int .i64 v.seq]] = some ([.bool (M.upTo s.tail v)], []) := by
  rw [RUN_eq, prog_impl_PgState_upToTail]
  by_cases c1 : verOk v.epoch v.seq
  case neg => simp [pf_impl_PgState_upToTail, run_verOk, c1, M.upTo, M.fullB]
  by_cases c2 : v.epoch = 0 ∧ v.seq = 0
  · obtain ⟨k1, k2⟩ := c2
    rw [k1, k2] at c1
    simp [pf_impl_PgState_upToTail, run_verOk, c1, k1, k2, eqK, M.upTo, M.fullB]
  have c2' : ((v.epoch == 0) && (v.seq == 0)) = false := by simpa using fun e => fun k => c2 ⟨e, k⟩
  by_cases c3 : verLt s.tail.epoch s.tail.seq v.epoch v.seq <;> simp [pf_impl_PgState_upToTail, run_verOk, run_iVerLess, c1, c2, c2', c3, eqK, M.upTo, M.fullB, M.vltB]
theorem bl_nlt (a b : ByteArray) : Op.bytesLess a.toList b.toList = nlt a b := by rw [nlt, Lib.toList_data, Lib.toList_data]
theorem bl_nlt' (a b : ByteArray) : Op.bytesLess a.data.toList b.data.toList = nlt a b := rfl
theorem tl_eq (a b : ByteArray) : (a.toList == b.toList) = decide (a = b) := by
  rw [Lib.toList_data, Lib.toList_data]
  by_cases h : a = b
  · simp [h]
  · have : ¬ a.data.toList = b.data.toList := fun e => h (ba_eq e)
    simp only [h, decide_false]
    simpa using this
theorem name_le (a b : ByteArray) : (nlt b a || decide (b = a)) = !nlt a b := by
  cases h : nlt a b with
  | true => simp [nlt_asymm h, (nlt_ne h).symm]
  | false =>
    by_cases h2 : a = b
    · simp [h2]
    · simp [nlt_of h h2]
end Go.Proofs.YtngooidedlnmaaaGreat.Pv
/- The base of a state: heads and last requests, by the program and by the reference. No condition. -/
namespace Go.Proofs.YtngooidedlnmaaaGreat.Pv
open Go Go.Lib
set_option maxRecDepth 10000
set_option linter.unusedSimpArgs false
theorem run_sVlt (a b : M.Ver) : RUN CC fn_spec_VerLess [.agg [.int .i64 a.epoch, .int .i64 a.seq], .agg [.int .i64 b.epoch, .int .i64 b.seq]] = some ([.bool (M.vltB a b)], []) := run_sVerLess _ _ _ _
theorem run_iVlt (a b : M.Ver) : RUN CC fn_impl_VerLess [.agg [.int .i64 a.epoch, .int .i64 a.seq], .agg [.int .i64 b.epoch, .int .i64 b.seq]] = some ([.bool (M.vltB a b)], []) := run_iVerLess _ _ _ _
theorem run_size (a b : Int) : RUN CC fn_impl_sizeOk [.int .i64 a, .int .i64 b] = some ([.bool (sizeB a b)], []) := run_sizeOk _ _
set_option maxHeartbeats 8000000 in
theorem run_sHeads {l : List M.Head} (tail : M.Ver) (hl : l.length ≤ 1048576) (hn : ∀ h ∈ l, h.name.size ≤ 1048576) : RUN CC fn_spec_l17Heads [.sl 0 ty_impl_Head (l.map M.headV), .agg [.int .i64 tail.epoch, .int .i64 tail.seq]] = some ([.bool (M.headsB tail l)], []) := by
  rw [RUN_eq, prog_spec_l17Heads, M.headsB, ← allB_take]
  simp [pf_spec_l17Heads]
  generalize hE : EX CC _ pf_spec_l17Heads_l0 _ = E
  have hloop := all_loop hE (l.take 17) (M.headB tail l) (fun i s => s.t 5 = .pv (.int .i64 i) ∧ s.t 3 = .ptr 3 1 0 ∧ s.m.kb 3 = 1 ∧ s.m.b 3 = some [.pv (.int .i64 tail.epoch), .pv (.int .i64 tail.seq)] ∧ s.t 0 = .pv (.sl 0 ty_impl_Head (l.map M.headV))) (.exit 0) (by simp) (fun i x s => x = .ret ∧ s.t 4 = .pv (.bool false)) (by simp)
    (by
      rintro s ⟨h5, h3, hk, hb, h0⟩
      by_cases c : l.length ≤ 16
      · have c1 : min 17 l.length = l.length := by omega
        simp only [List.length_take, c1] at h5 ⊢
        simp [pf_spec_l17Heads_lb0, h5, h3, hk, hb, h0]
      · have c1 : min 17 l.length = 17 := by omega
        have c2 : (17 : Int) < l.length ∨ (l.length : Int) = 17 := by omega
        simp only [List.length_take, c1] at h5 ⊢
        rcases c2 with c2 | c2 <;> simp [pf_spec_l17Heads_lb0, h5, h3, hk, hb, h0, c2])
    (by
      rintro s i hi ⟨h5, h3, hk, hb, h0⟩
      have hi : i < l.length ∧ i < 17 := by simp at hi; omega
      obtain ⟨hi, hi2⟩ := hi
      have hi3 : (i : Int) ≤ 16 := by omega
      have nm := run_sNameOk l[i].name (by have := hn l[i] (List.getElem_mem hi); omega)
      have fu := run_full l[i].ver
      have vl := run_sVlt tail l[i].ver
      simp only [List.getElem_take]
      cases i with
      | zero =>
        cases d1 : nameB l[0].name
        case false => simp (disch := omega) [pf_spec_l17Heads_lb0, h5, h3, hk, hb, h0, hi, idxN, idx, M.headV, nm, d1, M.headB, IntWalk.i64_in]
        cases d2 : M.fullB l[0].ver
        case false => simp (disch := omega) [pf_spec_l17Heads_lb0, h5, h3, hk, hb, h0, hi, idxN, idx, M.headV, nm, fu, d1, d2, M.headB, M.upTo, IntWalk.i64_in]
        cases d3 : M.vltB tail l[0].ver
        case true => simp (disch := omega) [pf_spec_l17Heads_lb0, h5, h3, hk, hb, h0, hi, idxN, idx, M.headV, nm, fu, vl, d1, d2, d3, M.headB, M.upTo, IntWalk.i64_in]
        by_cases d4 : (0 : Int) ≤ l[0].size ∧ l[0].size ≤ 64 <;> by_cases d5 : (0 : Int) ≤ l[0].sum ∧ l[0].sum ≤ 4294967295 <;>
          simp (disch := omega) [pf_spec_l17Heads_lb0, h5, h3, hk, hb, h0, hi, idxN, idx, M.headV, nm, fu, vl, d1, d2, d3, d4, d5, M.headB, M.upTo, sizeB, relB_zero, IntWalk.i64_in]
      | succ j =>
        have hj : j < l.length := by omega
        have e1 : (0 : Int) < (j : Int) + 1 := by omega
        have e2 : (j : Int) + 1 < l.length := by omega
        have e3 := idxN hi
        have e4 : (j : Int) + 1 ≤ 16 := by omega
        simp only [Int.natCast_add, Int.cast_ofNat_Int] at e3
        cases d1 : nameB l[j + 1].name
        case false => simp (disch := omega) [pf_spec_l17Heads_lb0, h5, h3, hk, hb, h0, hi, hj, e1, e2, e3, e4, idxN, M.headV, nm, d1, M.headB, IntWalk.i64_in]
        cases d6 : nlt l[j].name l[j + 1].name
        case false => simp (disch := omega) [pf_spec_l17Heads_lb0, h5, h3, hk, hb, h0, hi, hj, e1, e2, e3, e4, idxN, M.headV, nm, d1, d6, M.headB, bl_nlt, bl_nlt', relB_succ _ _ hj, IntWalk.i64_in]
        cases d2 : M.fullB l[j + 1].ver
        case false => simp (disch := omega) [pf_spec_l17Heads_lb0, h5, h3, hk, hb, h0, hi, hj, e1, e2, e3, e4, idxN, M.headV, nm, fu, d1, d2, d6, M.headB, M.upTo, bl_nlt, bl_nlt', IntWalk.i64_in]
        cases d3 : M.vltB tail l[j + 1].ver
        case true => simp (disch := omega) [pf_spec_l17Heads_lb0, h5, h3, hk, hb, h0, hi, hj, e1, e2, e3, e4, idxN, M.headV, nm, fu, vl, d1, d2, d3, d6, M.headB, M.upTo, bl_nlt, bl_nlt', IntWalk.i64_in]
        by_cases d4 : 0 ≤ l[j + 1].size ∧ l[j + 1].size ≤ 64 <;> by_cases d5 : 0 ≤ l[j + 1].sum ∧ l[j + 1].sum ≤ 4294967295 <;>
          simp (disch := omega) [pf_spec_l17Heads_lb0, h5, h3, hk, hb, h0, hi, hj, e1, e2, e3, e4, idxN, M.headV, nm, fu, vl, d1, d2, d3, d4, d5, d6, M.headB, M.upTo, sizeB, bl_nlt, bl_nlt', relB_succ _ _ hj, IntWalk.i64_in])
  obtain ⟨x, s', rfl, h⟩ := hloop
  rcases h with ⟨rfl, hf, _, _, _, _, h0⟩ | ⟨i, hf, _, rfl, h4⟩
  · simp [hf, h0]
    omega
  · simp [hf, h4]
set_option maxHeartbeats 8000000 in
theorem run_sLasts {l : List M.Last} (tail : M.Ver) (hl : l.length ≤ 1048576) : RUN CC fn_spec_l17Lasts [.sl 0 ty_impl_Last (l.map M.lastV), .agg [.int .i64 tail.epoch, .int .i64 tail.seq]] = some ([.bool (M.lastsB tail l)], []) := by
  rw [RUN_eq, prog_spec_l17Lasts, M.lastsB, ← allB_take]
  simp [pf_spec_l17Lasts]
  generalize hE : EX CC _ pf_spec_l17Lasts_l0 _ = E
  have hloop := all_loop hE (l.take 7) (M.lastB tail l) (fun i s => s.t 5 = .pv (.int .i64 i) ∧ s.t 3 = .ptr 3 1 0 ∧ s.m.kb 3 = 1 ∧ s.m.b 3 = some [.pv (.int .i64 tail.epoch), .pv (.int .i64 tail.seq)] ∧ s.t 0 = .pv (.sl 0 ty_impl_Last (l.map M.lastV))) (.exit 0) (by simp) (fun i x s => x = .ret ∧ s.t 4 = .pv (.bool false)) (by simp)
    (by
      rintro s ⟨h5, h3, hk, hb, h0⟩
      by_cases c : l.length ≤ 6
      · have c1 : min 7 l.length = l.length := by omega
        simp only [List.length_take, c1] at h5 ⊢
        simp [pf_spec_l17Lasts_lb0, h5, h3, hk, hb, h0]
      · have c1 : min 7 l.length = 7 := by omega
        have c2 : (7 : Int) < l.length ∨ (l.length : Int) = 7 := by omega
        simp only [List.length_take, c1] at h5 ⊢
        rcases c2 with c2 | c2 <;> simp [pf_spec_l17Lasts_lb0, h5, h3, hk, hb, h0, c2])
    (by
      rintro s i hi ⟨h5, h3, hk, hb, h0⟩
      have hi : i < l.length ∧ i < 7 := by simp at hi; omega
      obtain ⟨hi, hi2⟩ := hi
      have hi3 : (i : Int) ≤ 6 := by omega
      have fu := run_full l[i].ver
      have vl := run_sVlt tail l[i].ver
      simp only [List.getElem_take]
      cases i with
      | zero =>
        by_cases d1 : (100 : Int) ≤ l[0].client ∧ l[0].client ≤ 105
        case neg => simp (disch := omega) [pf_spec_l17Lasts_lb0, h5, h3, hk, hb, h0, hi, idxN, idx, M.lastV, d1, M.lastB, IntWalk.i64_in]
        by_cases d4 : (1 : Int) ≤ l[0].no ∧ l[0].no ≤ 1000
        case neg => simp (disch := omega) [pf_spec_l17Lasts_lb0, h5, h3, hk, hb, h0, hi, idxN, idx, M.lastV, d1, d4, M.lastB, IntWalk.i64_in]
        cases d2 : M.fullB l[0].ver
        case false => simp (disch := omega) [pf_spec_l17Lasts_lb0, h5, h3, hk, hb, h0, hi, idxN, idx, M.lastV, fu, d1, d2, d4, M.lastB, M.upTo, IntWalk.i64_in]
        cases d3 : M.vltB tail l[0].ver <;> simp (disch := omega) [pf_spec_l17Lasts_lb0, h5, h3, hk, hb, h0, hi, idxN, idx, M.lastV, fu, vl, d1, d2, d3, d4, M.lastB, M.upTo, relB_zero, IntWalk.i64_in]
      | succ j =>
        have hj : j < l.length := by omega
        have e1 : (0 : Int) < (j : Int) + 1 := by omega
        have e2 : (j : Int) + 1 < l.length := by omega
        have e3 := idxN hi
        have e4 : (j : Int) + 1 ≤ 6 := by omega
        simp only [Int.natCast_add, Int.cast_ofNat_Int] at e3
        by_cases d1 : 100 ≤ l[j + 1].client ∧ l[j + 1].client ≤ 105
        case neg => simp (disch := omega) [pf_spec_l17Lasts_lb0, h5, h3, hk, hb, h0, hi, hj, e1, e2, e3, e4, idxN, M.lastV, d1, M.lastB, IntWalk.i64_in]
        rcases lt_cases (l[j].client) (l[j + 1].client) with ⟨d6, d6'⟩ | ⟨d6, d6'⟩
        case inr => simp (disch := omega) [pf_spec_l17Lasts_lb0, h5, h3, hk, hb, h0, hi, hj, e1, e2, e3, e4, idxN, M.lastV, d1, d6, d6', M.lastB, relB_succ _ _ hj, IntWalk.i64_in]
        by_cases d4 : 1 ≤ l[j + 1].no ∧ l[j + 1].no ≤ 1000
        case neg => simp (disch := omega) [pf_spec_l17Lasts_lb0, h5, h3, hk, hb, h0, hi, hj, e1, e2, e3, e4, idxN, M.lastV, d1, d4, d6, d6', M.lastB, IntWalk.i64_in]
        cases d2 : M.fullB l[j + 1].ver
        case false => simp (disch := omega) [pf_spec_l17Lasts_lb0, h5, h3, hk, hb, h0, hi, hj, e1, e2, e3, e4, idxN, M.lastV, fu, d1, d2, d4, d6, d6', M.lastB, M.upTo, IntWalk.i64_in]
        cases d3 : M.vltB tail l[j + 1].ver <;> simp (disch := omega) [pf_spec_l17Lasts_lb0, h5, h3, hk, hb, h0, hi, hj, e1, e2, e3, e4, idxN, M.lastV, fu, vl, d1, d2, d3, d4, d6, d6', M.lastB, M.upTo, relB_succ _ _ hj, IntWalk.i64_in])
  obtain ⟨x, s', rfl, h⟩ := hloop
  rcases h with ⟨rfl, hf, _, _, _, _, h0⟩ | ⟨i, hf, _, rfl, h4⟩
  · simp [hf, h0]
    omega
  · simp [hf, h4]
end Go.Proofs.YtngooidedlnmaaaGreat.Pv
/- The base of a state, by the program. No condition. -/
namespace Go.Proofs.YtngooidedlnmaaaGreat.Pv
open Go Go.Lib
set_option maxRecDepth 10000
set_option linter.unusedSimpArgs false
theorem run_reqB (a b : Int) : RUN CC fn_impl_reqOk [.agg [.int .i64 a, .int .i64 b]] = some ([.bool (decide (reqOk a b))], []) := run_reqOk a b
set_option maxHeartbeats 8000000 in
theorem run_baseOk (st : M.PgState) (hl : st.base.length ≤ 1048576) (hc : st.clients.length ≤ 1048576) (hn : ∀ h ∈ st.base, h.name.size ≤ 1048576) : RUN CC fn_impl_PgState_baseOk [.agg (stC st)] = some ([.bool (M.headsB st.tail st.base && M.lastsB st.tail st.clients)], []) := by
  have up := run_upTo st
  rw [RUN_eq, prog_impl_PgState_baseOk]
  simp [pf_impl_PgState_baseOk]
  generalize hE : EX CC _ pf_impl_PgState_baseOk_l0 _ = E
  have hloop := all_loop hE st.base (M.headB st.tail st.base) (fun i s => s.t 11 = .pv (.int .i64 i) ∧ s.t 10 = .pv (.int .i64 st.base.length) ∧ s.t 9 = .pv (.sl 0 ty_impl_Head (st.base.map M.headV)) ∧ s.t 1 = .ptr 1 1 0 ∧ s.m.kb 1 = 1 ∧ s.m.b 1 = some (stA st)) (.exit 0) (by simp) (fun i x s => x = .ret ∧ s.t 2 = .pv (.bool false)) (by simp)
    (by
      rintro s ⟨h11, h10, h9, h1, hk, hb⟩
      simp [pf_impl_PgState_baseOk_lb0, h11, h10, h9, h1, hk, hb])
    (by
      rintro s i hi ⟨h11, h10, h9, h1, hk, hb⟩
      have nm := run_iNameOk st.base[i].name (by have := hn st.base[i] (List.getElem_mem hi); omega)
      have up := up st.base[i].ver
      have sz := run_size st.base[i].size st.base[i].sum
      cases i with
      | zero =>
        cases d1 : nameB st.base[0].name
        case false => simp (disch := omega) [pf_impl_PgState_baseOk_lb0, h11, h10, h9, h1, hk, hb, hi, idxN, idx, M.headV, nm, d1, M.headB, IntWalk.i64_in]
        cases d2 : M.upTo st.tail st.base[0].ver
        case false => simp (disch := omega) [pf_impl_PgState_baseOk_lb0, h11, h10, h9, h1, hk, hb, hi, idxN, idx, M.headV, nm, up, d1, d2, M.headB, IntWalk.i64_in]
        cases d3 : sizeB st.base[0].size st.base[0].sum <;>
          simp (disch := omega) [pf_impl_PgState_baseOk_lb0, h11, h10, h9, h1, hk, hb, hi, idxN, idx, M.headV, nm, up, sz, d1, d2, d3, M.headB, relB_zero, IntWalk.i64_in]
      | succ j =>
        have hj : j < st.base.length := by omega
        have e1 : (0 : Int) < (j : Int) + 1 := by omega
        have e2 : (j : Int) + 1 < st.base.length := by omega
        have e3 := idxN hi
        simp only [Int.natCast_add, Int.cast_ofNat_Int] at e3
        cases d1 : nameB st.base[j + 1].name
        case false => simp (disch := omega) [pf_impl_PgState_baseOk_lb0, h11, h10, h9, h1, hk, hb, hi, hj, e1, e2, e3, idxN, M.headV, nm, d1, M.headB, IntWalk.i64_in]
        cases d2 : M.upTo st.tail st.base[j + 1].ver
        case false => simp (disch := omega) [pf_impl_PgState_baseOk_lb0, h11, h10, h9, h1, hk, hb, hi, hj, e1, e2, e3, idxN, M.headV, nm, up, d1, d2, M.headB, IntWalk.i64_in]
        cases d3 : sizeB st.base[j + 1].size st.base[j + 1].sum
        case false => simp (disch := omega) [pf_impl_PgState_baseOk_lb0, h11, h10, h9, h1, hk, hb, hi, hj, e1, e2, e3, idxN, M.headV, nm, up, sz, d1, d2, d3, M.headB, IntWalk.i64_in]
        cases d4 : nlt st.base[j].name st.base[j + 1].name <;>
          simp (disch := omega) [pf_impl_PgState_baseOk_lb0, h11, h10, h9, h1, hk, hb, hi, hj, e1, e2, e3, idxN, M.headV, nm, up, sz, d1, d2, d3, d4, M.headB, bl_nlt, bl_nlt', tl_eq, name_le, relB_succ _ _ hj, IntWalk.i64_in])
  obtain ⟨x, s', rfl, h⟩ := hloop
  rcases h with ⟨rfl, hf, _, _, _, h1, hk, hb⟩ | ⟨i, hf, _, rfl, h2⟩
  case inr => simp [hf, h2, M.headsB]
  simp [h1, hk, hb]
  generalize hS : ({ t := _, m := _ } : St) = S
  generalize hE2 : EX CC _ pf_impl_PgState_baseOk_l1 S = E2
  have hloop2 := all_loop hE2 st.clients (M.lastB st.tail st.clients) (fun i s => s.t 55 = .pv (.int .i64 i) ∧ s.t 54 = .pv (.int .i64 st.clients.length) ∧ s.t 53 = .pv (.sl 0 ty_impl_Last (st.clients.map M.lastV)) ∧ s.t 1 = .ptr 1 1 0 ∧ s.m.kb 1 = 1 ∧ s.m.b 1 = some (stA st)) (.exit 2) (by simp) (fun i x s => x = .ret ∧ s.t 2 = .pv (.bool false)) (by rw [← hS]; simp [h1, hk, hb])
    (by
      rintro s ⟨h11, h10, h9, h1, hk, hb⟩
      simp [pf_impl_PgState_baseOk_lb1, h11, h10, h9, h1, hk, hb])
    (by
      rintro s i hi ⟨h11, h10, h9, h1, hk, hb⟩
      have up := up st.clients[i].ver
      have rq := run_reqB st.clients[i].client st.clients[i].no
      have rc : (reqOk st.clients[i].client st.clients[i].no ∧ ¬ (st.clients[i].client = 0 ∧ st.clients[i].no = 0)) ↔ ((100 ≤ st.clients[i].client ∧ st.clients[i].client ≤ 105) ∧ 1 ≤ st.clients[i].no ∧ st.clients[i].no ≤ 1000) := by unfold reqOk; omega
      have rz : ((st.clients[i].client == 0) && (st.clients[i].no == 0)) = decide (st.clients[i].client = 0 ∧ st.clients[i].no = 0) := by
        by_cases a1 : st.clients[i].client = 0 <;> by_cases a2 : st.clients[i].no = 0 <;> simp [a1, a2]
      generalize hC : st.clients[i].client = cl at *
      generalize hN : st.clients[i].no = no at *
      by_cases d1 : reqOk cl no
      case neg =>
        have rc' : ¬ ((100 ≤ cl ∧ cl ≤ 105) ∧ 1 ≤ no ∧ no ≤ 1000) := fun e => d1 (rc.2 e).1
        simp (disch := omega) [pf_impl_PgState_baseOk_lb1, h11, h10, h9, h1, hk, hb, hi, idxN, M.lastV, hC, hN, rq, d1, eqK, rc', M.lastB, IntWalk.i64_in]
      by_cases d2 : cl = 0 ∧ no = 0
      case pos =>
        have rc' : ¬ ((100 ≤ cl ∧ cl ≤ 105) ∧ 1 ≤ no ∧ no ≤ 1000) := fun e => (rc.2 e).2 d2
        obtain ⟨k1, k2⟩ := d2
        rw [k1, k2] at rq d1
        simp (disch := omega) [pf_impl_PgState_baseOk_lb1, h11, h10, h9, h1, hk, hb, hi, idxN, M.lastV, hC, hN, rq, d1, k1, k2, eqK, M.lastB, IntWalk.i64_in]
      have rc' := rc.1 ⟨d1, d2⟩
      cases d3 : M.upTo st.tail st.clients[i].ver
      case false => simp (disch := omega) [pf_impl_PgState_baseOk_lb1, h11, h10, h9, h1, hk, hb, hi, idxN, M.lastV, hC, hN, rq, rz, up, d1, d2, d3, eqK, rc', M.lastB, IntWalk.i64_in]
      cases i with
      | zero => simp (disch := omega) [pf_impl_PgState_baseOk_lb1, h11, h10, h9, h1, hk, hb, hi, idxN, idx, M.lastV, hC, hN, rq, rz, up, d1, d2, d3, eqK, rc', M.lastB, relB_zero, IntWalk.i64_in]
      | succ j =>
        have hj : j < st.clients.length := by omega
        have e1 : (0 : Int) < (j : Int) + 1 := by omega
        have e2 : (j : Int) + 1 < st.clients.length := by omega
        have e3 := idxN hi
        simp only [Int.natCast_add, Int.cast_ofNat_Int] at e3
        rcases lt_cases (st.clients[j].client) cl with ⟨d6, d6'⟩ | ⟨d6, d6'⟩ <;>
          simp (disch := omega) [pf_impl_PgState_baseOk_lb1, h11, h10, h9, h1, hk, hb, hi, hj, e1, e2, e3, idxN, M.lastV, hC, hN, rq, rz, up, d1, d2, d3, d6, d6', eqK, rc', M.lastB, relB_succ _ _ hj, IntWalk.i64_in])
  obtain ⟨x, s'', rfl, h⟩ := hloop2
  rcases h with ⟨rfl, hf2, _, _, _, h1, hk, hb⟩ | ⟨i, hf2, _, rfl, h2⟩
  case inr => simp [hf, hf2, h2, M.headsB, M.lastsB]
  by_cases c1 : st.base.length ≤ 16
  · have c1' : (st.base.length : Int) ≤ 16 := by omega
    by_cases c2 : st.clients.length ≤ 6
    · have c2' : (st.clients.length : Int) ≤ 6 := by omega
      simp [h1, hk, hb, hf, hf2, c1, c1', c2, c2', M.headsB, M.lastsB]
    · have c2' : ¬ (st.clients.length : Int) ≤ 6 := by omega
      simp [h1, hk, hb, hf, hf2, c1, c1', c2, c2', M.headsB, M.lastsB]
  · have c1' : ¬ (st.base.length : Int) ≤ 16 := by omega
    simp [h1, hk, hb, hf, hf2, c1, c1', M.headsB, M.lastsB]
end Go.Proofs.YtngooidedlnmaaaGreat.Pv
/- An entry put among heads, by the reference. No condition. -/
namespace Go.Proofs.YtngooidedlnmaaaGreat.Pv
open Go Go.Lib
set_option maxRecDepth 10000
set_option linter.unusedSimpArgs false
set_option maxHeartbeats 4000000 in
theorem run_l17Put {l : List M.Head} (e : M.Entry) (hl : l.length ≤ 1048576) : RUN CC fn_spec_l17Put [.sl 0 ty_impl_Head (l.map M.headV), M.entryV e] = some ([.sl 2 ty_impl_Head ((M.putH e l).map M.headV)], []) := by
  rw [RUN_eq, prog_spec_l17Put]
  simp [pf_spec_l17Put, M.entryV]
  generalize hS : ({ t := _, m := _ } : St) = S
  generalize hE : EX CC _ pf_spec_l17Put_l0 S = E
  have hloop := list_loop hE l (fun _ h => nlt h.name e.name) (fun i s => s.t 5 = .pv (.int .i64 i) ∧ s.t 0 = .pv (.sl 0 ty_impl_Head (l.map M.headV)) ∧ s.t 3 = .ptr 3 1 0 ∧ s.m.kb 3 = 1 ∧ s.m.b 3 = some (((M.entryV e).cells).map AV.pv) ∧ s.m.kr (.v 6) = S.m.kr (.v 6)) (.exit 0) (by simp) (fun i x s => x = .exit 0 ∧ s.t 5 = .pv (.int .i64 i) ∧ s.t 0 = .pv (.sl 0 ty_impl_Head (l.map M.headV)) ∧ s.t 3 = .ptr 3 1 0 ∧ s.m.kb 3 = 1 ∧ s.m.b 3 = some (((M.entryV e).cells).map AV.pv) ∧ s.m.kr (.v 6) = S.m.kr (.v 6)) (by rw [← hS]; simp [M.entryV])
    (by
      rintro s ⟨h5, h0, h3, hk, hb, hr⟩
      simp [pf_spec_l17Put_lb0, h5, h0, h3, hk, hb, hr, M.entryV])
    (by
      rintro s i hi ⟨h5, h0, h3, hk, hb, hr⟩
      cases d1 : nlt l[i].name e.name <;> simp (disch := omega) [pf_spec_l17Put_lb0, h5, h0, h3, hk, hb, hr, hi, idxN, M.headV, M.entryV, d1, bl_nlt, bl_nlt', IntWalk.i64_in])
  obtain ⟨x, s', rfl, h⟩ := hloop
  obtain ⟨i, hi, rfl, hK, hlt, hat⟩ : ∃ i, i ≤ l.length ∧ x = .exit 0 ∧ (s'.t 5 = .pv (.int .i64 i) ∧ s'.t 0 = .pv (.sl 0 ty_impl_Head (l.map M.headV)) ∧ s'.t 3 = .ptr 3 1 0 ∧ s'.m.kb 3 = 1 ∧ s'.m.b 3 = some (((M.entryV e).cells).map AV.pv) ∧ s'.m.kr (.v 6) = S.m.kr (.v 6)) ∧ (∀ j (h : j < i) (h2 : j < l.length), nlt l[j].name e.name = true) ∧ (∀ h : i < l.length, nlt l[i].name e.name = false) := by
    rcases h with ⟨rfl, hK, hf⟩ | ⟨i, hi, hf, hall, _, rfl, hK⟩
    · exact ⟨l.length, Nat.le_refl _, rfl, hK, fun j _ h2 => hf j h2, fun h => absurd h (by omega)⟩
    · exact ⟨i, by omega, rfl, hK, fun j h h2 => hall j h, fun _ => hf⟩
  obtain ⟨h5, h0, h3, hk, hb, hr⟩ := hK
  have hp := M.putH_at e l i hi hlt hat
  generalize hA : l.take i = A at hp
  have a1 : List.take i (l.map M.headV) = A.map M.headV := by rw [← List.map_take, hA]
  have a2 : A.length * 48 ≤ 140737488355328 ∧ A.length ≤ 9223372036854775807 := by rw [← hA, List.length_take]; omega
  have a3 : (A.length + 1) * 48 ≤ 140737488355328 ∧ A.length + 1 ≤ 9223372036854775807 := by rw [← hA, List.length_take]; omega
  generalize hB : l.drop (i + M.hasH e l i) = B at hp
  have c1 : List.drop (i + M.hasH e l i) (l.map M.headV) = B.map M.headV := by rw [← List.map_drop, hB]
  have c0 : B.length ≤ 1048576 := by rw [← hB, List.length_drop]; omega
  have c2 : (A.length + B.length) * 48 ≤ 140737488355328 ∧ A.length + B.length ≤ 9223372036854775807 := by rw [← hA, List.length_take]; omega
  have c3 : (A.length + 1 + B.length) * 48 ≤ 140737488355328 ∧ A.length + 1 + B.length ≤ 9223372036854775807 := by rw [← hA, List.length_take]; omega
  by_cases hi2 : i < l.length
  · by_cases hn : l[i].name = e.name
    · have hh : M.hasH e l i = 1 := by simp [M.hasH, hi2, hn]
      rw [hh] at c1
      have hi3 : (0 : Int) ≤ (i : Int) + 1 ∧ (i : Int) + 1 ≤ l.length := by omega
      cases hg : e.gone <;> simp (disch := omega) [h5, h0, h3, hk, hb, M.entryV, hg, hi, hi2, hi3, hn, idxN, M.headV, IntWalk.i64_in, hp, a1, a2, a3, c1, c2, c3, tl_eq, M.headOf]
    · have hh : M.hasH e l i = 0 := by simp [M.hasH, hi2, hn]
      rw [hh, Nat.add_zero] at c1
      cases hg : e.gone <;> simp (disch := omega) [h5, h0, h3, hk, hb, M.entryV, hg, hi, hi2, hn, idxN, M.headV, IntWalk.i64_in, hp, a1, a2, a3, c1, c2, c3, tl_eq, M.headOf]
  · have hh : M.hasH e l i = 0 := by simp [M.hasH, hi2]
    rw [hh, Nat.add_zero] at c1
    cases hg : e.gone <;> simp (disch := omega) [h5, h0, h3, hk, hb, M.entryV, hg, hi, hi2, idxN, M.headV, IntWalk.i64_in, hp, a1, a2, a3, c1, c2, c3, tl_eq, M.headOf]
end Go.Proofs.YtngooidedlnmaaaGreat.Pv
/- The log of a state, by the program and by the reference. No condition. -/
namespace Go.Proofs.YtngooidedlnmaaaGreat.Pv
open Go Go.Lib
set_option maxRecDepth 10000
set_option linter.unusedSimpArgs false
@[simp] theorem ownAV_mp (o k : Nat) : ownAV (.mp o k) = false := rfl
@[simp] theorem ownC_mp (o k : Nat) : ownC (.mp o k) = false := rfl
@[simp] theorem putT_mp (V : List Nat) (s : St) (d o k : Nat) : putT V s d (.mp o k) = { s with t := upd s.t d (.mp o k) } := rfl
@[simp] theorem newMap_eq (m : Mem) (d : Nat) : m.newMap d = { b := upd m.b d none, r := m.r, mp := upd (upd m.mp d none) d (some []), kb := upd m.kb d (m.kb d + 1), kr := newKr m.kr d, kn := m.kn } := rfl
theorem upN_lt : ∀ {l : List ByteArray}, upN l → ∀ i j (h : i < j) (hj : j < l.length), nlt (l[i]'(by omega)) l[j] = true
  | [], _, i, j, _, hj => by simp at hj
  | x :: l, h, 0, j + 1, _, hj => h.1 _ (List.getElem_mem (by simpa using hj))
  | x :: l, h, i + 1, j + 1, hij, hj => by
    have := upN_lt h.2 i j (by omega) (by simpa using hj)
    simpa using this
theorem up_take {l : List ByteArray} (h : upN l) {i : Nat} (hi : i < l.length) : l[i] ∉ l.take i := by
  intro hm
  obtain ⟨j, hj, e⟩ := List.getElem_of_mem hm
  simp only [List.length_take] at hj
  have h1 := upN_lt h j i (by omega) hi
  rw [List.getElem_take] at e
  simp [e, nlt_irrefl] at h1
theorem ver_eqs (a b : M.Ver) (h : a ≠ b) : (a.epoch == b.epoch && a.seq == b.seq) = false := by
  cases a; cases b
  simp only [ne_eq, M.Ver.mk.injEq] at h
  simpa using fun e k => h ⟨e, k⟩
set_option maxHeartbeats 8000000 in
theorem run_logOk (st : M.PgState) (hu : upN (st.base.map (·.name))) (hb : st.base.length ≤ 1048576) (hl : st.log.length ≤ 1048576) (hn : ∀ e ∈ st.log, e.name.size ≤ 1048576) : RUN CC fn_impl_PgState_logOk [.agg (stC st)] = some ([.bool (M.logB st)], []) := by
  rw [RUN_eq, prog_impl_PgState_logOk]
  simp [pf_impl_PgState_logOk]
  generalize hE : EX CC _ pf_impl_PgState_logOk_l0 _ = E
  obtain ⟨x, s', rfl, h⟩ := list_loop hE st.base (fun _ _ => true) (fun i s => s.t 15 = .pv (.int .i64 i) ∧ s.t 14 = .pv (.int .i64 st.base.length) ∧ s.t 13 = .pv (.sl 0 ty_impl_Head (st.base.map M.headV)) ∧ s.t 1 = .ptr 1 1 0 ∧ s.m.kb 1 = 1 ∧ s.m.b 1 = some (stA st) ∧ s.t 3 = .ptr 3 1 0 ∧ s.m.kb 3 = 1 ∧ s.m.b 3 = some [.pv (.int .i64 st.tail.epoch), .pv (.int .i64 st.tail.seq)] ∧ s.t 4 = .mp 11 1 ∧ s.m.kb 11 = 1 ∧ s.m.b 11 = none ∧ ∃ ns : List ByteArray, s.m.mp 11 = some (ns.map entN) ∧ ns.Perm ((st.base.map (·.name)).take i)) (.exit 0) (by simp) (fun i x s => False) (by simp)
    (by
      rintro s ⟨h15, h14, h13, h1, k1, b1, h3, k3, b3, h4, k4, b4, ns, h5, h6⟩
      simp [pf_impl_PgState_logOk_lb0, h15, h14, h13, h1, k1, b1, h3, k3, b3, h4, k4, b4, h5]
      exact ⟨_, rfl, h6⟩)
    (by
      rintro s i hi ⟨h15, h14, h13, h1, k1, b1, h3, k3, b3, h4, k4, b4, ns, h5, h6⟩
      simp (disch := omega) [pf_impl_PgState_logOk_lb0, h15, h14, h13, h1, k1, b1, h3, k3, b3, h4, k4, b4, h5, hi, idxN, M.headV, sameK_str, mset_names, IntWalk.i64_in]
      refine ⟨_, rfl, ?_⟩
      have hi' : i < (st.base.map (·.name)).length := by simpa using hi
      have h7 := up_take hu hi'
      rw [List.getElem_map] at h7
      rw [List.take_succ_eq_append_getElem hi', List.getElem_map]
      have h8 : st.base[i].name ∉ ns := fun hm => h7 (h6.mem_iff.1 hm)
      simpa [setN, h8] using h6.append_right [st.base[i].name])
  rcases h with ⟨rfl, ⟨h15, h14, h13, h1, k1, b1, h3, k3, b3, h4, k4, b4, ns, h5, h6⟩, _⟩ | ⟨i, _, hf, _⟩
  case inr => cases hf
  rw [List.take_of_length_le (by simp)] at h6
  simp [h1, k1, b1]
  generalize hS : ({ t := _, m := _ } : St) = S
  generalize hE2 : EX CC _ pf_impl_PgState_logOk_l1 S = E2
  have hloop2 := all_loop hE2 st.log (M.logE st) (fun i s => s.t 26 = .pv (.int .i64 i) ∧ s.t 25 = .pv (.int .i64 st.log.length) ∧ s.t 24 = .pv (.sl 0 ty_impl_Entry (st.log.map M.entryV)) ∧ s.t 1 = .ptr 1 1 0 ∧ s.m.kb 1 = 1 ∧ s.m.b 1 = some (stA st) ∧ s.t 3 = .ptr 3 1 0 ∧ s.m.kb 3 = 1 ∧ s.m.b 3 = some [.pv (.int .i64 (M.verN st i).epoch), .pv (.int .i64 (M.verN st i).seq)] ∧ s.t 4 = .mp 11 1 ∧ s.m.kb 11 = 1 ∧ s.m.b 11 = none ∧ ∃ ns : List ByteArray, s.m.mp 11 = some (ns.map entN) ∧ ns.Perm ((M.headsN st i).map (·.name))) (.exit 2) (by simp) (fun i x s => x = .ret ∧ s.t 2 = .pv (.bool false)) (by
      rw [← hS]
      simp [h1, k1, b1, h3, k3, b3, h4, k4, b4, h5, M.verN, M.headsN_zero]
      exact ⟨_, rfl, h6⟩)
    (by
      rintro s ⟨h26, h25, h24, h1, k1, b1, h3, k3, b3, h4, k4, b4, ns, h5, h6⟩
      simp [pf_impl_PgState_logOk_lb1, h26, h25, h24, h1, k1, b1, h3, k3, b3, h4, k4, b4, h5]
      exact ⟨_, rfl, h6⟩)
    (by
      rintro s i hi ⟨h26, h25, h24, h1, k1, b1, h3, k3, b3, h4, k4, b4, ns, h5, h6⟩
      have en := run_iEntryOk st.log[i] (hn _ (List.getElem_mem hi))
      simp only [M.entryV] at en
      cases d1 : M.entryB st.log[i]
      case false => simp (disch := omega) [pf_impl_PgState_logOk_lb1, h26, h25, h24, h1, k1, b1, h3, k3, b3, h4, k4, b4, h5, hi, idxN, M.entryV, en, d1, M.logE, IntWalk.i64_in]
      by_cases d2 : st.log[i].prior = M.verN st i
      case neg =>
        have d2' := ver_eqs _ _ d2
        simp (disch := omega) [pf_impl_PgState_logOk_lb1, h26, h25, h24, h1, k1, b1, h3, k3, b3, h4, k4, b4, h5, hi, idxN, M.entryV, en, d1, d2, d2', eqK, M.logE, IntWalk.i64_in]
      have h7 := setN_perm (nm := st.log[i].name) (gone := st.log[i].gone) (M.up_headsN st hu i) h6
      rw [← M.names_putH, ← M.headsN_succ st hi] at h7
      have h8 := h7.length_eq
      rw [List.length_map] at h8
      have h9 := M.verN_succ st hi
      rw [d2] at en
      by_cases d3 : (M.headsN st (i + 1)).length ≤ 16
      · have d3' : ¬ (16 : Int) < ((setN st.log[i].name st.log[i].gone ns).length : Int) := by omega
        cases d4 : st.log[i].gone <;> rw [d4] at d3' h7 en <;>
          simp (disch := omega) [pf_impl_PgState_logOk_lb1, h26, h25, h24, h1, k1, b1, h3, k3, b3, h4, k4, b4, h5, hi, idxN, M.entryV, en, d1, d2, d3, d3', d4, eqK, M.logE, sameK_str, mset_names, mdel_names, h9, IntWalk.i64_in] <;> exact ⟨_, rfl, h7⟩
      · have d3' : (16 : Int) < ((setN st.log[i].name st.log[i].gone ns).length : Int) := by omega
        cases d4 : st.log[i].gone <;> rw [d4] at d3' en <;>
          simp (disch := omega) [pf_impl_PgState_logOk_lb1, h26, h25, h24, h1, k1, b1, h3, k3, b3, h4, k4, b4, h5, hi, idxN, M.entryV, en, d1, d2, d3, d3', d4, eqK, M.logE, sameK_str, mset_names, mdel_names, h9, IntWalk.i64_in])
  obtain ⟨x, s'', rfl, h⟩ := hloop2
  rcases h with ⟨rfl, hf2, _, _, _, h1, k1, b1, _⟩ | ⟨i, hf2, _, rfl, h2⟩
  case inr => simp [hf2, h2, M.logB]
  simp [h1, k1, b1, hf2, M.logB]
  omega
end Go.Proofs.YtngooidedlnmaaaGreat.Pv
/- The log of a state, by the reference. No condition. -/
namespace Go.Proofs.YtngooidedlnmaaaGreat.Pv
open Go Go.Lib
set_option maxRecDepth 10000
set_option linter.unusedSimpArgs false
def HoldsS (s : St) (d : Nat) (e : TypeId) (xs : List PV) : Prop := s.t d = .pv (.sl 0 e xs) ∨ ∃ k kn, s.t d = .rw ⟨.v d, k, kn, []⟩ ∧ s.m.kr (.v d) = k ∧ s.m.r d = some (.sl 2 e xs)
theorem M.headsN_len (st : M.PgState) : ∀ i, (M.headsN st i).length ≤ st.base.length + i
  | 0 => Nat.le_refl _
  | i + 1 => by
    by_cases hi : i < st.log.length
    · rw [M.headsN_succ st hi]
      have := M.putH_len st.log[i] (M.headsN st i)
      have := M.headsN_len st i
      omega
    · have : M.headsN st (i + 1) = M.headsN st i := by
        simp only [M.headsN]
        rw [List.take_of_length_le (by omega), List.take_of_length_le (by omega)]
      rw [this]
      have := M.headsN_len st i
      omega
set_option maxHeartbeats 8000000 in
theorem run_l17Log (st : M.PgState) (hb : st.base.length + st.log.length ≤ 1048576) (hn : ∀ e ∈ st.log, e.name.size ≤ 1048576) : RUN CC fn_spec_l17Log [.agg (stC st)] = some ([.bool (M.logB st)], []) := by
  rw [RUN_eq, prog_spec_l17Log, M.logB, ← allB_take]
  simp [pf_spec_l17Log]
  generalize hE : EX CC _ pf_spec_l17Log_l0 _ = E
  have hloop := all_loop hE (st.log.take 25) (M.logE st) (fun i s => s.t 5 = .pv (.int .i64 i) ∧ s.t 1 = .ptr 1 1 0 ∧ s.m.kb 1 = 1 ∧ s.m.b 1 = some (stA st) ∧ s.t 3 = .ptr 3 1 0 ∧ s.m.kb 3 = 1 ∧ s.m.b 3 = some [.pv (.int .i64 (M.verN st i).epoch), .pv (.int .i64 (M.verN st i).seq)] ∧ HoldsS s 4 ty_impl_Head ((M.headsN st i).map M.headV)) (.exit 0) (by simp) (fun i x s => x = .ret ∧ s.t 2 = .pv (.bool false)) (by simp [HoldsS, M.verN, M.headsN_zero])
    (by
      rintro s ⟨h5, h1, k1, b1, h3, k3, b3, h4⟩
      by_cases c : st.log.length ≤ 24
      · have c1 : min 25 st.log.length = st.log.length := by omega
        simp only [List.length_take, c1] at h5 b3 h4 ⊢
        rcases h4 with h4 | ⟨k, kn, h4, hk, hr⟩
        · simp [pf_spec_l17Log_lb0, h5, h1, k1, b1, h3, k3, b3, h4, HoldsS]
        · simp [pf_spec_l17Log_lb0, h5, h1, k1, b1, h3, k3, b3, h4, hk, hr, HoldsS]
      · have c1 : min 25 st.log.length = 25 := by omega
        have c2 : (25 : Int) < st.log.length ∨ (st.log.length : Int) = 25 := by omega
        simp only [List.length_take, c1] at h5 b3 h4 ⊢
        rcases h4 with h4 | ⟨k, kn, h4, hk, hr⟩ <;> rcases c2 with c2 | c2
        · simp [pf_spec_l17Log_lb0, h5, h1, k1, b1, h3, k3, b3, h4, c2, HoldsS]
        · simp [pf_spec_l17Log_lb0, h5, h1, k1, b1, h3, k3, b3, h4, c2, HoldsS]
        · simp [pf_spec_l17Log_lb0, h5, h1, k1, b1, h3, k3, b3, h4, hk, hr, c2, HoldsS]
        · simp [pf_spec_l17Log_lb0, h5, h1, k1, b1, h3, k3, b3, h4, hk, hr, c2, HoldsS])
    (by
      rintro s i hi ⟨h5, h1, k1, b1, h3, k3, b3, h4⟩
      have hi : i < st.log.length ∧ i < 25 := by simp at hi; omega
      obtain ⟨hi, hi2⟩ := hi
      have hi3 : (i : Int) ≤ 24 := by omega
      simp only [List.getElem_take]
      have en := run_sEntryOk st.log[i] (hn _ (List.getElem_mem hi))
      have pu := run_l17Put (l := M.headsN st i) st.log[i] (by have := M.headsN_len st i; omega)
      simp only [M.entryV] at en pu
      rw [← M.headsN_succ st hi] at pu
      have h9 := M.verN_succ st hi
      cases d1 : M.entryB st.log[i]
      case false => rcases h4 with h4 | ⟨k, kn, h4, hk, hr⟩ <;> simp (disch := omega) [pf_spec_l17Log_lb0, h5, h1, k1, b1, h3, k3, b3, h4, hi, hi3, idxN, M.entryV, en, d1, M.logE, IntWalk.i64_in]
      by_cases d2 : st.log[i].prior = M.verN st i
      case neg =>
        have d2' := ver_eqs _ _ d2
        rcases h4 with h4 | ⟨k, kn, h4, hk, hr⟩ <;> simp (disch := omega) [pf_spec_l17Log_lb0, h5, h1, k1, b1, h3, k3, b3, h4, hi, hi3, idxN, M.entryV, en, d1, d2, d2', eqK, M.logE, IntWalk.i64_in]
      rw [d2] at en pu
      by_cases d3 : (M.headsN st (i + 1)).length ≤ 16
      · have d3' : ¬ (16 : Int) < ((M.headsN st (i + 1)).length : Int) := by omega
        rcases h4 with h4 | ⟨k, kn, h4, hk, hr⟩
        · simp (disch := omega) [pf_spec_l17Log_lb0, h5, h1, k1, b1, h3, k3, b3, h4, hi, hi3, idxN, M.entryV, en, pu, d1, d2, d3, d3', eqK, M.logE, h9, IntWalk.i64_in, HoldsS]
        · simp (disch := omega) [pf_spec_l17Log_lb0, h5, h1, k1, b1, h3, k3, b3, h4, hk, hr, hi, hi3, idxN, M.entryV, en, pu, d1, d2, d3, d3', eqK, M.logE, h9, IntWalk.i64_in, HoldsS]
      · have d3' : (16 : Int) < ((M.headsN st (i + 1)).length : Int) := by omega
        rcases h4 with h4 | ⟨k, kn, h4, hk, hr⟩
        · simp (disch := omega) [pf_spec_l17Log_lb0, h5, h1, k1, b1, h3, k3, b3, h4, hi, hi3, idxN, M.entryV, en, pu, d1, d2, d3, d3', eqK, M.logE, h9, IntWalk.i64_in]
        · simp (disch := omega) [pf_spec_l17Log_lb0, h5, h1, k1, b1, h3, k3, b3, h4, hk, hr, hi, hi3, idxN, M.entryV, en, pu, d1, d2, d3, d3', eqK, M.logE, h9, IntWalk.i64_in])
  obtain ⟨x, s', rfl, h⟩ := hloop
  rcases h with ⟨rfl, hf, _, h1, k1, b1, _⟩ | ⟨i, hf, _, rfl, h2⟩
  · simp [hf, h1, k1, b1]
    omega
  · simp [hf, h2]
end Go.Proofs.YtngooidedlnmaaaGreat.Pv
/- The chunks of a state; its last version. No condition. -/
namespace Go.Proofs.YtngooidedlnmaaaGreat.Pv
open Go Go.Lib
set_option maxRecDepth 10000
set_option linter.unusedSimpArgs false
def M.cmpC (a b : M.Chunk) : Int := firstI [compareBytes a.name.data.toList b.name.data.toList, cmpV a.ver.epoch a.ver.seq b.ver.epoch b.ver.seq, cmpI a.pos b.pos]
theorem cmpV_zero (a b : M.Ver) : cmpV a.epoch a.seq b.epoch b.seq = 0 ↔ a = b := by
  obtain ⟨a, c⟩ := a
  obtain ⟨b, d⟩ := b
  simp only [M.Ver.mk.injEq]
  by_cases h1 : a < b <;> by_cases h2 : b < a <;> by_cases h3 : c < d <;> by_cases h4 : d < c <;> simp [cmpV, firstI, cmpI, h1, h2, h3, h4] <;> omega
theorem M.cmpC_less (a b : M.Chunk) : M.cmpC a b < 0 ↔ M.chunkLess a b = true := by
  unfold M.cmpC M.chunkLess
  rcases cmpB_cases a.name.data.toList b.name.data.toList with ⟨h1, h2, h3⟩ | ⟨h1, h2, h3⟩ | ⟨h1, h2, h3⟩
  · have h4 : ¬ a.name = b.name := fun e => h3 (by rw [e])
    simp [firstI, h1, h4, nlt, h2]
  · have h4 : a.name = b.name := ba_eq h3
    rw [h1, if_pos h4]
    by_cases h5 : a.ver = b.ver
    · rw [(cmpV_zero a.ver b.ver).2 h5, if_pos h5]
      simp only [firstI, if_true, decide_eq_true_eq, cmpI]
      by_cases h7 : a.pos < b.pos <;> by_cases h8 : b.pos < a.pos <;> simp [h7, h8]
    · have h6 : ¬ cmpV a.ver.epoch a.ver.seq b.ver.epoch b.ver.seq = 0 := fun e => h5 ((cmpV_zero a.ver b.ver).1 e)
      rw [if_neg h5]
      simp only [firstI, if_true, h6, if_false, M.vltB, decide_eq_true_eq]
      exact cmpV_neg _ _ _ _
  · have h4 : ¬ a.name = b.name := fun e => h3 (by rw [e])
    simp [firstI, h1, h4, nlt, h2]
theorem run_cmpC (a b : M.Chunk) : RUN CC fn_impl_compareChunks [M.chunkV a, M.chunkV b] = some ([.int .i64 (M.cmpC a b)], []) := by
  have h := run_cmp_Or (l := [compareBytes a.name.data.toList b.name.data.toList, cmpV a.ver.epoch a.ver.seq b.ver.epoch b.ver.seq, cmpI a.pos b.pos]) (by simp)
  simp only [List.map_cons, List.map_nil] at h
  rw [RUN_eq, prog_impl_compareChunks]
  simp [pf_impl_compareChunks, M.chunkV, run_cmp_Compare, run_compareVers, h, M.cmpC]
theorem run_chunkLess (a b : M.Chunk) : RUN CC fn_spec_l17ChunkLess [M.chunkV a, M.chunkV b] = some ([.bool (M.chunkLess a b)], []) := by
  rw [RUN_eq, prog_spec_l17ChunkLess]
  by_cases h1 : a.name = b.name
  · by_cases h2 : a.ver = b.ver
    · simp [pf_spec_l17ChunkLess, M.chunkV, tl_eq, bl_nlt, bl_nlt', h1, h2, eqK, M.chunkLess]
    · have h3 := ver_eqs _ _ h2
      simp [pf_spec_l17ChunkLess, M.chunkV, tl_eq, bl_nlt, bl_nlt', run_sVlt, h1, h2, h3, eqK, M.chunkLess]
  · simp [pf_spec_l17ChunkLess, M.chunkV, tl_eq, bl_nlt, bl_nlt', h1, M.chunkLess]
set_option maxHeartbeats 4000000 in
theorem run_chunksOk (st : M.PgState) (hl : st.chunks.length ≤ 1048576) (hn : ∀ c ∈ st.chunks, c.name.size ≤ 1048576) : RUN CC fn_impl_PgState_chunksOk [.agg (stC st)] = some ([.bool (M.chunksB st.chunks)], []) := by
  rw [RUN_eq, prog_impl_PgState_chunksOk]
  simp [pf_impl_PgState_chunksOk]
  generalize hE : EX CC _ pf_impl_PgState_chunksOk_l0 _ = E
  obtain ⟨x, s', rfl, h⟩ := all_loop hE st.chunks (fun i c => M.chunkB c && relB M.chunkLess st.chunks i c) (fun i s => s.t 8 = .pv (.int .i64 i) ∧ s.t 7 = .pv (.int .i64 st.chunks.length) ∧ s.t 6 = .pv (.sl 0 ty_impl_Chunk (st.chunks.map M.chunkV)) ∧ s.t 1 = .ptr 1 1 0 ∧ s.m.kb 1 = 1 ∧ s.m.b 1 = some (stA st)) (.exit 0) (by simp) (fun i x s => x = .ret ∧ s.t 2 = .pv (.bool false)) (by simp)
    (by
      rintro s ⟨h8, h7, h6, h1, hk, hb⟩
      simp [pf_impl_PgState_chunksOk_lb0, h8, h7, h6, h1, hk, hb])
    (by
      rintro s i hi ⟨h8, h7, h6, h1, hk, hb⟩
      have ck := run_iChunkOk st.chunks[i] (hn _ (List.getElem_mem hi))
      simp only [M.chunkV] at ck
      cases i with
      | zero => cases d1 : M.chunkB st.chunks[0] <;> simp (disch := omega) [pf_impl_PgState_chunksOk_lb0, h8, h7, h6, h1, hk, hb, hi, idxN, idx, M.chunkV, ck, d1, relB_zero, IntWalk.i64_in]
      | succ j =>
        have hj : j < st.chunks.length := by omega
        have e1 : (0 : Int) < (j : Int) + 1 := by omega
        have e2 : (j : Int) + 1 < st.chunks.length := by omega
        have e3 := idxN hi
        have cm := run_cmpC st.chunks[j] st.chunks[j + 1]
        have cl := M.cmpC_less st.chunks[j] st.chunks[j + 1]
        simp only [M.chunkV] at cm
        simp only [Int.natCast_add, Int.cast_ofNat_Int] at e3
        cases d1 : M.chunkB st.chunks[j + 1]
        case false => simp (disch := omega) [pf_impl_PgState_chunksOk_lb0, h8, h7, h6, h1, hk, hb, hi, hj, e1, e2, e3, idxN, M.chunkV, ck, d1, IntWalk.i64_in]
        cases d2 : M.chunkLess st.chunks[j] st.chunks[j + 1]
        · have d3 : 0 ≤ M.cmpC st.chunks[j] st.chunks[j + 1] := by
            rw [d2] at cl
            simp at cl
            omega
          simp (disch := omega) [pf_impl_PgState_chunksOk_lb0, h8, h7, h6, h1, hk, hb, hi, hj, e1, e2, e3, idxN, M.chunkV, ck, cm, d1, d2, d3, relB_succ _ _ hj, IntWalk.i64_in]
        · have d3 : ¬ 0 ≤ M.cmpC st.chunks[j] st.chunks[j + 1] := by
            have := cl.2 d2
            omega
          simp (disch := omega) [pf_impl_PgState_chunksOk_lb0, h8, h7, h6, h1, hk, hb, hi, hj, e1, e2, e3, idxN, M.chunkV, ck, cm, d1, d2, d3, relB_succ _ _ hj, IntWalk.i64_in])
  rcases h with ⟨rfl, hf, _, _, _, h1, hk, hb⟩ | ⟨i, hf, _, rfl, h2⟩
  · simp [M.chunksB, hf, h1, hk, hb]
    omega
  · simp [M.chunksB, hf, h2]
set_option maxHeartbeats 4000000 in
theorem run_l17Chunks {l : List M.Chunk} (hl : l.length ≤ 1048576) (hn : ∀ c ∈ l, c.name.size ≤ 1048576) : RUN CC fn_spec_l17Chunks [.sl 0 ty_impl_Chunk (l.map M.chunkV)] = some ([.bool (M.chunksB l)], []) := by
  rw [RUN_eq, prog_spec_l17Chunks, M.chunksB, ← allB_take]
  simp [pf_spec_l17Chunks]
  generalize hE : EX CC _ pf_spec_l17Chunks_l0 _ = E
  obtain ⟨x, s', rfl, h⟩ := all_loop hE (l.take 161) (fun i c => M.chunkB c && relB M.chunkLess l i c) (fun i s => s.t 3 = .pv (.int .i64 i) ∧ s.t 0 = .pv (.sl 0 ty_impl_Chunk (l.map M.chunkV))) (.exit 0) (by simp) (fun i x s => x = .ret ∧ s.t 2 = .pv (.bool false)) (by simp)
    (by
      rintro s ⟨h3, h0⟩
      by_cases c : l.length ≤ 160
      · have c1 : min 161 l.length = l.length := by omega
        simp only [List.length_take, c1] at h3 ⊢
        simp [pf_spec_l17Chunks_lb0, h3, h0]
      · have c1 : min 161 l.length = 161 := by omega
        have c2 : (161 : Int) < l.length ∨ (l.length : Int) = 161 := by omega
        simp only [List.length_take, c1] at h3 ⊢
        rcases c2 with c2 | c2 <;> simp [pf_spec_l17Chunks_lb0, h3, h0, c2])
    (by
      rintro s i hi ⟨h3, h0⟩
      have hi : i < l.length ∧ i < 161 := by simp at hi; omega
      obtain ⟨hi, hi2⟩ := hi
      have hi3 : (i : Int) ≤ 160 := by omega
      simp only [List.getElem_take]
      have ck := run_sChunkOk l[i] (hn _ (List.getElem_mem hi))
      simp only [M.chunkV] at ck
      cases i with
      | zero => cases d1 : M.chunkB l[0] <;> simp (disch := omega) [pf_spec_l17Chunks_lb0, h3, h0, hi, idxN, idx, M.chunkV, ck, d1, relB_zero, IntWalk.i64_in]
      | succ j =>
        have hj : j < l.length := by omega
        have e1 : (0 : Int) < (j : Int) + 1 := by omega
        have e2 : (j : Int) + 1 < l.length := by omega
        have e3 := idxN hi
        have e4 : (j : Int) + 1 ≤ 160 := by omega
        have cm := run_chunkLess l[j] l[j + 1]
        simp only [M.chunkV] at cm
        simp only [Int.natCast_add, Int.cast_ofNat_Int] at e3
        cases d1 : M.chunkB l[j + 1]
        case false => simp (disch := omega) [pf_spec_l17Chunks_lb0, h3, h0, hi, hj, e1, e2, e3, e4, idxN, M.chunkV, ck, d1, IntWalk.i64_in]
        cases d2 : M.chunkLess l[j] l[j + 1] <;>
          simp (disch := omega) [pf_spec_l17Chunks_lb0, h3, h0, hi, hj, e1, e2, e3, e4, idxN, M.chunkV, ck, cm, d1, d2, relB_succ _ _ hj, IntWalk.i64_in])
  rcases h with ⟨rfl, hf, _, h0⟩ | ⟨i, hf, _, rfl, h2⟩
  · simp [hf, h0]
    omega
  · simp [hf, h2]
theorem M.endVer_nil {st : M.PgState} (h : st.log = []) : M.endVer st = st.tail := by simp [M.endVer, h]
theorem M.endVer_at {st : M.PgState} {n : Nat} (h : st.log.length = n + 1) : M.endVer st = (st.log[n]'(by omega)).ver := by
  have h2 : st.log.getLast? = some (st.log[n]'(by omega)) := by simp [List.getLast?_eq_getElem?, h]
  simp [M.endVer, h2]
end Go.Proofs.YtngooidedlnmaaaGreat.Pv
/- Whether a state is valid, by the program and by the reference. No condition. -/
namespace Go.Proofs.YtngooidedlnmaaaGreat.Pv
open Go Go.Lib
set_option maxRecDepth 10000
set_option linter.unusedSimpArgs false
theorem run_lastE {l : List M.Entry} {n : Nat} (h : l.length = n + 1) (hl : l.length ≤ 1048576) : RUN CC fn_impl_last_impl_Entry [.sl 0 ty_impl_Entry (l.map M.entryV)] = some ([M.entryV (l[n]'(by omega))], []) := by
  rw [RUN_eq, prog_impl_last_impl_Entry]
  have e : ((n : Int) + 1 - 1) = n := by omega
  have hi : n < l.length := by omega
  simp (disch := omega) [pf_impl_last_impl_Entry, M.entryV, h, e, idxN, IntWalk.i64_in]
theorem run_lastVer (st : M.PgState) (hl : st.log.length ≤ 1048576) : RUN CC fn_impl_PgState_lastVer [.agg (stC st)] = some ([.agg [.int .i64 (M.endVer st).epoch, .int .i64 (M.endVer st).seq]], []) := by
  rw [RUN_eq, prog_impl_PgState_lastVer]
  cases hn : st.log.length with
  | zero =>
    have h := M.endVer_nil (List.length_eq_zero_iff.1 hn)
    simp [pf_impl_PgState_lastVer, hn, h]
  | succ n =>
    have h := M.endVer_at hn
    have la := run_lastE hn hl
    simp only [M.entryV] at la
    have h0 : ¬ (n : Int) + 1 = 0 := by omega
    simp [pf_impl_PgState_lastVer, hn, h, la, h0]
theorem run_lastOf (st : M.PgState) (hl : st.log.length ≤ 1048576) : RUN CC fn_spec_l17LastOf [.agg (stC st)] = some ([.agg [.int .i64 (M.endVer st).epoch, .int .i64 (M.endVer st).seq]], []) := by
  rw [RUN_eq, prog_spec_l17LastOf]
  cases hn : st.log.length with
  | zero =>
    have h := M.endVer_nil (List.length_eq_zero_iff.1 hn)
    simp [pf_spec_l17LastOf, hn, h]
  | succ n =>
    have h := M.endVer_at hn
    have h0 : (0 : Int) < (n : Int) + 1 := by omega
    have e : ((n : Int) + 1 - 1) = n := by omega
    have hi : n < st.log.length := by omega
    simp (disch := omega) [pf_spec_l17LastOf, hn, h, h0, e, idxN, M.entryV, IntWalk.i64_in]
structure SmallS (st : M.PgState) : Prop where
  base : st.base.length + st.log.length ≤ 1048576
  clients : st.clients.length ≤ 1048576
  chunks : st.chunks.length ≤ 1048576
  bn : ∀ h ∈ st.base, h.name.size ≤ 1048576
  ln : ∀ e ∈ st.log, e.name.size ≤ 1048576
  cn : ∀ c ∈ st.chunks, c.name.size ≤ 1048576
theorem run_verB (v : M.Ver) : RUN CC fn_impl_verOk [.agg [.int .i64 v.epoch, .int .i64 v.seq]] = some ([.bool (M.verB v)], []) := run_verOk _ _
theorem run_sVerB (v : M.Ver) : RUN CC fn_spec_l17Ver [.agg [.int .i64 v.epoch, .int .i64 v.seq]] = some ([.bool (M.verB v)], []) := run_l17Ver _ _
theorem run_pgB (g : M.Pg) : RUN CC fn_impl_pgOk [.agg [.int .i64 g.pool, .int .i64 g.no]] = some ([.bool (M.pgB g)], []) := run_pgOk _ _
theorem run_sPgB (g : M.Pg) : RUN CC fn_spec_l17Pg [.agg [.int .i64 g.pool, .int .i64 g.no]] = some ([.bool (M.pgB g)], []) := run_l17Pg _ _
set_option maxHeartbeats 8000000 in
theorem run_iStateOk (st : M.PgState) (sm : SmallS st) : RUN CC fn_impl_StateOk [.agg (stC st)] = some ([.bool (M.stateB st)], []) := by
  have a1 := run_pgB st.pg
  have a2 := run_verB
  have a3 := run_baseOk st (by have := sm.base; omega) sm.clients sm.bn
  have a5 := run_lastVer st (by have := sm.base; omega)
  have a6 := run_iVlt
  have a7 := run_chunksOk st sm.chunks sm.cn
  rw [RUN_eq, prog_impl_StateOk]
  cases c1 : M.pgB st.pg
  case false => simp [pf_impl_StateOk, a1, c1, M.stateB]
  by_cases c2 : 0 ≤ st.seen ∧ st.seen ≤ 60
  case neg => simp [pf_impl_StateOk, a1, c1, c2, M.stateB]
  by_cases c3 : 0 ≤ st.started ∧ st.started ≤ st.seen
  case neg => simp [pf_impl_StateOk, a1, c1, c2, c3, M.stateB]
  cases c4 : M.verB st.tail
  case false => simp [pf_impl_StateOk, a1, a2, c1, c2, c3, c4, M.stateB]
  cases c5 : M.headsB st.tail st.base && M.lastsB st.tail st.clients
  case false => simp [pf_impl_StateOk, a1, a2, a3, c1, c2, c3, c4, c5, M.stateB]
  have hu := M.up_base (by rw [Bool.and_eq_true] at c5; exact c5.1)
  have a4 := run_logOk st hu (by have := sm.base; omega) (by have := sm.base; omega) sm.ln
  cases c6 : M.logB st
  case false => simp [pf_impl_StateOk, a1, a2, a3, a4, c1, c2, c3, c4, c5, c6, M.stateB]
  cases c7 : M.verB st.firm
  case false => simp [pf_impl_StateOk, a1, a2, a3, a4, c1, c2, c3, c4, c5, c6, c7, M.stateB]
  cases c8 : M.vltB (M.endVer st) st.firm <;> simp [pf_impl_StateOk, a1, a2, a3, a4, a5, a6, a7, c1, c2, c3, c4, c5, c6, c7, c8, M.stateB]
set_option maxHeartbeats 8000000 in
theorem run_sStateOk (st : M.PgState) (sm : SmallS st) : RUN CC fn_spec_StateOk [.agg (stC st)] = some ([.bool (M.stateB st)], []) := by
  have a1 := run_sPgB st.pg
  have a2 := run_sVerB
  have a3 := run_sHeads st.tail (l := st.base) (by have := sm.base; omega) sm.bn
  have a4 := run_sLasts st.tail (l := st.clients) sm.clients
  have a5 := run_lastOf st (by have := sm.base; omega)
  have a6 := run_sVlt
  have a7 := run_l17Chunks (l := st.chunks) sm.chunks sm.cn
  have a8 := run_l17Log st sm.base sm.ln
  rw [RUN_eq, prog_spec_StateOk]
  cases c1 : M.pgB st.pg
  case false => simp [pf_spec_StateOk, a1, c1, M.stateB]
  by_cases c2 : 0 ≤ st.seen ∧ st.seen ≤ 60
  case neg => simp [pf_spec_StateOk, a1, c1, c2, M.stateB]
  by_cases c3 : 0 ≤ st.started ∧ st.started ≤ st.seen
  case neg => simp [pf_spec_StateOk, a1, c1, c2, c3, M.stateB]
  cases c4 : M.verB st.tail
  case false => simp [pf_spec_StateOk, a1, a2, c1, c2, c3, c4, M.stateB]
  cases c7 : M.verB st.firm
  case false => simp [pf_spec_StateOk, a1, a2, c1, c2, c3, c4, c7, M.stateB]
  cases c5 : M.headsB st.tail st.base
  case false => simp [pf_spec_StateOk, a1, a2, a3, c1, c2, c3, c4, c5, c7, M.stateB]
  cases c9 : M.lastsB st.tail st.clients
  case false => simp [pf_spec_StateOk, a1, a2, a3, a4, c1, c2, c3, c4, c5, c7, c9, M.stateB]
  cases c6 : M.logB st
  case false => simp [pf_spec_StateOk, a1, a2, a3, a4, a8, c1, c2, c3, c4, c5, c6, c7, c9, M.stateB]
  cases c8 : M.vltB (M.endVer st) st.firm <;> simp [pf_spec_StateOk, a1, a2, a3, a4, a5, a6, a7, a8, c1, c2, c3, c4, c5, c6, c7, c8, c9, M.stateB]
end Go.Proofs.YtngooidedlnmaaaGreat.Pv
/- Lists of states: whether they are valid; their copies. No condition. -/
namespace Go.Proofs.YtngooidedlnmaaaGreat.Pv
open Go Go.Lib
set_option maxRecDepth 10000
set_option linter.unusedSimpArgs false
theorem run_comparePgs (a b c d : Int) : RUN CC fn_impl_comparePgs [.agg [.int .i64 a, .int .i64 b], .agg [.int .i64 c, .int .i64 d]] = some ([.int .i64 (cmpV a b c d)], []) := by
  have h := run_cmp_Or (l := [cmpI a c, cmpI b d]) (by simp)
  simp only [List.map_cons, List.map_nil] at h
  rw [RUN_eq, prog_impl_comparePgs]
  simp [pf_impl_comparePgs, run_cmp_Compare, h, cmpV]
theorem run_l18Less (a b c d : Int) : RUN CC fn_spec_l18Less [.agg [.int .i64 a, .int .i64 b], .agg [.int .i64 c, .int .i64 d]] = some ([.bool (decide (verLt a b c d))], []) := by
  rw [RUN_eq, prog_spec_l18Less]
  by_cases h : a < c
  · simp [pf_spec_l18Less, verLt, h]
  · by_cases h2 : a = c
    · by_cases h3 : b < d <;> simp [pf_spec_l18Less, verLt, h2, h3]
    · simp [pf_spec_l18Less, verLt, h, h2]
theorem M.pgLess_eq (a b : M.Pg) : M.pgLess a b = decide (verLt a.pool a.no b.pool b.no) := rfl
set_option maxHeartbeats 4000000 in
theorem run_statesOk {l : List M.PgState} (hl : l.length ≤ 1048576) (sm : ∀ s ∈ l, SmallS s) : RUN CC fn_impl_statesOk [.sl 0 ty_impl_PgState (l.map (M.pgStateV 0 true))] = some ([.bool (M.statesB l)], []) := by
  rw [RUN_eq, prog_impl_statesOk]
  simp [pf_impl_statesOk]
  generalize hE : EX CC _ pf_impl_statesOk_l0 _ = E
  obtain ⟨x, s', rfl, h⟩ := all_loop hE l (fun i s => M.stateB s && relB (fun a b => M.pgLess a.pg b.pg) l i s) (fun i s => s.t 7 = .pv (.int .i64 i) ∧ s.t 6 = .pv (.int .i64 l.length) ∧ s.t 5 = .pv (.sl 0 ty_impl_PgState (l.map (M.pgStateV 0 true))) ∧ s.t 0 = .pv (.sl 0 ty_impl_PgState (l.map (M.pgStateV 0 true)))) (.exit 0) (by simp) (fun i x s => x = .ret ∧ s.t 2 = .pv (.bool false)) (by simp)
    (by
      rintro s ⟨h7, h6, h5, h0⟩
      simp [pf_impl_statesOk_lb0, h7, h6, h5, h0])
    (by
      rintro s i hi ⟨h7, h6, h5, h0⟩
      have ck := run_iStateOk l[i] (sm _ (List.getElem_mem hi))
      cases i with
      | zero => cases d1 : M.stateB l[0] <;> simp (disch := omega) [pf_impl_statesOk_lb0, h7, h6, h5, h0, hi, idxN, idx, M.pgStateV, ck, d1, relB_zero, IntWalk.i64_in]
      | succ j =>
        have hj : j < l.length := by omega
        have e1 : (0 : Int) < (j : Int) + 1 := by omega
        have e2 : (j : Int) + 1 < l.length := by omega
        have e3 := idxN hi
        have cl := cmpV_neg l[j].pg.pool l[j].pg.no l[j + 1].pg.pool l[j + 1].pg.no
        simp only [Int.natCast_add, Int.cast_ofNat_Int] at e3
        cases d1 : M.stateB l[j + 1]
        case false => simp (disch := omega) [pf_impl_statesOk_lb0, h7, h6, h5, h0, hi, hj, e1, e2, e3, idxN, M.pgStateV, ck, d1, IntWalk.i64_in]
        by_cases d2 : verLt l[j].pg.pool l[j].pg.no l[j + 1].pg.pool l[j + 1].pg.no
        · have d3 : ¬ 0 ≤ cmpV l[j].pg.pool l[j].pg.no l[j + 1].pg.pool l[j + 1].pg.no := by have := cl.2 d2; omega
          simp (disch := omega) [pf_impl_statesOk_lb0, h7, h6, h5, h0, hi, hj, e1, e2, e3, idxN, M.pgStateV, ck, run_comparePgs, d1, d2, d3, relB_succ _ _ hj, M.pgLess_eq, IntWalk.i64_in]
        · have d3 : 0 ≤ cmpV l[j].pg.pool l[j].pg.no l[j + 1].pg.pool l[j + 1].pg.no := by
            have : ¬ cmpV l[j].pg.pool l[j].pg.no l[j + 1].pg.pool l[j + 1].pg.no < 0 := fun e => d2 (cl.1 e)
            omega
          simp (disch := omega) [pf_impl_statesOk_lb0, h7, h6, h5, h0, hi, hj, e1, e2, e3, idxN, M.pgStateV, ck, run_comparePgs, d1, d2, d3, relB_succ _ _ hj, M.pgLess_eq, IntWalk.i64_in])
  rcases h with ⟨rfl, hf, _, _, _, h0⟩ | ⟨i, hf, _, rfl, h2⟩
  · simp [M.statesB, hf, h0]
    omega
  · simp [M.statesB, hf, h2]
set_option maxHeartbeats 4000000 in
theorem run_l18List {l : List M.PgState} (hl : l.length ≤ 1048576) (sm : ∀ s ∈ l, SmallS s) : RUN CC fn_spec_l18List [.sl 0 ty_impl_PgState (l.map (M.pgStateV 0 true))] = some ([.bool (M.statesB l)], []) := by
  rw [RUN_eq, prog_spec_l18List, M.statesB, ← allB_take]
  simp [pf_spec_l18List]
  generalize hE : EX CC _ pf_spec_l18List_l0 _ = E
  obtain ⟨x, s', rfl, h⟩ := all_loop hE (l.take 9) (fun i s => M.stateB s && relB (fun a b => M.pgLess a.pg b.pg) l i s) (fun i s => s.t 3 = .pv (.int .i64 i) ∧ s.t 0 = .pv (.sl 0 ty_impl_PgState (l.map (M.pgStateV 0 true)))) (.exit 0) (by simp) (fun i x s => x = .ret ∧ s.t 2 = .pv (.bool false)) (by simp)
    (by
      rintro s ⟨h3, h0⟩
      by_cases c : l.length ≤ 8
      · have c1 : min 9 l.length = l.length := by omega
        simp only [List.length_take, c1] at h3 ⊢
        simp [pf_spec_l18List_lb0, h3, h0]
      · have c1 : min 9 l.length = 9 := by omega
        have c2 : (9 : Int) < l.length ∨ (l.length : Int) = 9 := by omega
        simp only [List.length_take, c1] at h3 ⊢
        rcases c2 with c2 | c2 <;> simp [pf_spec_l18List_lb0, h3, h0, c2])
    (by
      rintro s i hi ⟨h3, h0⟩
      have hi : i < l.length ∧ i < 9 := by simp at hi; omega
      obtain ⟨hi, hi2⟩ := hi
      have hi3 : (i : Int) ≤ 8 := by omega
      simp only [List.getElem_take]
      have ck := run_sStateOk l[i] (sm _ (List.getElem_mem hi))
      cases i with
      | zero => cases d1 : M.stateB l[0] <;> simp (disch := omega) [pf_spec_l18List_lb0, h3, h0, hi, idxN, idx, M.pgStateV, ck, d1, relB_zero, IntWalk.i64_in]
      | succ j =>
        have hj : j < l.length := by omega
        have e1 : (0 : Int) < (j : Int) + 1 := by omega
        have e2 : (j : Int) + 1 < l.length := by omega
        have e3 := idxN hi
        have e4 : (j : Int) + 1 ≤ 8 := by omega
        simp only [Int.natCast_add, Int.cast_ofNat_Int] at e3
        cases d1 : M.stateB l[j + 1]
        case false => simp (disch := omega) [pf_spec_l18List_lb0, h3, h0, hi, hj, e1, e2, e3, e4, idxN, M.pgStateV, ck, d1, IntWalk.i64_in]
        by_cases d2 : verLt l[j].pg.pool l[j].pg.no l[j + 1].pg.pool l[j + 1].pg.no <;>
          simp (disch := omega) [pf_spec_l18List_lb0, h3, h0, hi, hj, e1, e2, e3, e4, idxN, M.pgStateV, ck, run_l18Less, d1, d2, relB_succ _ _ hj, M.pgLess_eq, IntWalk.i64_in])
  rcases h with ⟨rfl, hf, _, h0⟩ | ⟨i, hf, _, rfl, h2⟩
  · simp [hf, h0]
    omega
  · simp [hf, h2]
structure SmallT (s : M.Store) : Prop where
  live : s.live.length ≤ 1048576
  kept : s.kept.length ≤ 1048576
  ls : ∀ x ∈ s.live, SmallS x
  ks : ∀ x ∈ s.kept, SmallS x
theorem run_iStoreOk (s : M.Store) (sm : SmallT s) : RUN CC fn_impl_StoreOk [.agg [.sl 0 ty_impl_PgState (s.live.map (M.pgStateV 0 true)), .sl 0 ty_impl_PgState (s.kept.map (M.pgStateV 0 true))]] = some ([.bool (M.storeB s)], []) := by
  have a1 := run_statesOk sm.live sm.ls
  have a2 := run_statesOk sm.kept sm.ks
  rw [RUN_eq, prog_impl_StoreOk]
  cases c1 : M.statesB s.live <;> simp [pf_impl_StoreOk, a1, a2, c1, M.storeB]
theorem run_sStoreOk (s : M.Store) (sm : SmallT s) : RUN CC fn_spec_StoreOk [.agg [.sl 0 ty_impl_PgState (s.live.map (M.pgStateV 0 true)), .sl 0 ty_impl_PgState (s.kept.map (M.pgStateV 0 true))]] = some ([.bool (M.storeB s)], []) := by
  have a1 := run_l18List sm.live sm.ls
  have a2 := run_l18List sm.kept sm.ks
  rw [RUN_eq, prog_spec_StoreOk]
  cases c1 : M.statesB s.live <;> simp [pf_spec_StoreOk, a1, a2, c1, M.storeB]
end Go.Proofs.YtngooidedlnmaaaGreat.Pv
/- How much a valid store takes. No condition. -/
namespace Go.Proofs.YtngooidedlnmaaaGreat.Pv
open Go Go.Lib
set_option maxRecDepth 10000
set_option linter.unusedSimpArgs false
theorem sumN_const {α : Type} {f : α → Nat} {c : Nat} : ∀ l : List α, (∀ x ∈ l, f x ≤ c) → sumN f l ≤ c * l.length
  | [], _ => by simp [sumN]
  | x :: l, h => by
    have h1 := h x (by simp)
    have h2 := sumN_const l fun y hy => h y (by simp [hy])
    simp only [sumN, List.length_cons, Nat.mul_add] at h2 ⊢
    omega
theorem sumN_lin {α : Type} {f g : α → Nat} {c d : Nat} : ∀ l : List α, (∀ x ∈ l, f x ≤ c + d * g x) → sumN f l ≤ c * l.length + d * sumN g l
  | [], _ => by simp [sumN]
  | x :: l, h => by
    have h1 := h x (by simp)
    have h2 := sumN_lin l fun y hy => h y (by simp [hy])
    simp only [sumN, List.length_cons, Nat.mul_add] at h2 ⊢
    omega
theorem M.mk_state (x : M.PgState) : M.mkPgState x ≤ 8 + 10 * M.needPgState x := by
  have b1 := sumN_const (f := M.mkHead) (c := 5) x.base fun _ _ => by simp [M.mkHead]
  have b2 := sumN_const (f := M.mkLast) (c := 4) x.clients fun _ _ => by simp [M.mkLast]
  have b3 := sumN_const (f := M.mkEntry) (c := 10) x.log fun _ _ => by simp [M.mkEntry]
  have b4 := sumN_const (f := M.mkChunk) (c := 6) x.chunks fun _ _ => by simp [M.mkChunk]
  simp only [M.mkPgState, M.needPgState]
  omega
theorem nameB_size {s : ByteArray} (h : nameB s = true) : s.size ≤ 8 := by
  simp only [nameB, Bool.and_eq_true, decide_eq_true_eq] at h
  exact h.2.2
theorem allB_mem {α : Type} {p : Nat → α → Bool} {l : List α} (h : allB p l = true) {x : α} (hx : x ∈ l) : ∃ i, p i x = true := by
  obtain ⟨i, hi, rfl⟩ := List.getElem_of_mem hx
  exact ⟨i, allB_iff.1 h i hi⟩
theorem M.need_state {x : M.PgState} (h : M.stateB x = true) : M.needPgState x ≤ 20000 := by
  simp only [M.stateB, Bool.and_eq_true, M.headsB, M.lastsB, M.logB, M.chunksB, decide_eq_true_eq] at h
  obtain ⟨_, _, _, _, ⟨⟨h1, h2⟩, _, h3⟩, ⟨h4, h5⟩, _, _, h6, h7⟩ := h
  have b1 := sumN_const (f := M.needHead) (c := 8) x.base fun y hy => by
    obtain ⟨i, hi⟩ := allB_mem h1 hy
    simp only [M.headB, Bool.and_eq_true] at hi
    exact nameB_size hi.1
  have b3 := sumN_const (f := M.needEntry) (c := 8) x.log fun y hy => by
    obtain ⟨i, hi⟩ := allB_mem h4 hy
    simp only [M.logE, M.entryB, Bool.and_eq_true] at hi
    exact nameB_size hi.1.2.2.2.1
  have b4 := sumN_const (f := M.needChunk) (c := 72) x.chunks fun y hy => by
    obtain ⟨i, hi⟩ := allB_mem h6 hy
    simp only [M.chunkB, Bool.and_eq_true, decide_eq_true_eq] at hi
    have := nameB_size hi.1.1
    have := hi.1.2.2.2.2
    simp only [M.needChunk]
    omega
  simp only [M.needPgState]
  omega
theorem M.need_states {l : List M.PgState} (h : M.statesB l = true) : l.length ≤ 8 ∧ sumN M.needPgState l ≤ 160000 := by
  simp only [M.statesB, Bool.and_eq_true, decide_eq_true_eq] at h
  refine ⟨h.2, ?_⟩
  have := sumN_const (f := M.needPgState) (c := 20000) l fun y hy => by
    obtain ⟨i, hi⟩ := allB_mem h.1 hy
    simp only [Bool.and_eq_true] at hi
    exact M.need_state hi.1
  omega
theorem M.smallS {x : M.PgState} (h : M.needPgState x ≤ 1048576) : SmallS x := by
  simp only [M.needPgState] at h
  refine ⟨by omega, by omega, by omega, fun y hy => ?_, fun y hy => ?_, fun y hy => ?_⟩
  · have := sumN_le M.needHead hy
    simp only [M.needHead] at this h
    omega
  · have := sumN_le M.needEntry hy
    simp only [M.needEntry] at this h
    omega
  · have := sumN_le M.needChunk hy
    have e : M.needChunk y = y.name.size + y.bytes.size := rfl
    omega
theorem M.smallT {s : M.Store} (h : M.needStore s ≤ 1048576) : SmallT s := by
  simp only [M.needStore] at h
  refine ⟨by omega, by omega, fun x hx => M.smallS ?_, fun x hx => M.smallS ?_⟩
  · have := sumN_le M.needPgState hx
    omega
  · have := sumN_le M.needPgState hx
    omega
end Go.Proofs.YtngooidedlnmaaaGreat.Pv
