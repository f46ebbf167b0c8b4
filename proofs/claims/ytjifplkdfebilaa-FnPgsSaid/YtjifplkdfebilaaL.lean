/- What the functions of a law compute, in the plain reading. No condition. -/
import Derived.Test.YtjifplkdfebilaaPf
import Derived.IntWalk
set_option linter.all false
set_option linter.unnecessarySimpa false
set_option linter.unusedSimpArgs false
set_option linter.unusedVariables false
/- The draws of a generator. No condition. -/
namespace Go.Proofs.Ytjifplkdfebilaa.Pv
open Go
set_option maxRecDepth 10000
set_option linter.unusedSimpArgs false
def src (bs : List PV) (i seed : Int) : PV := .ref [.sl 0 ty_uint8 bs, .int .i64 i, .int .u64 seed]
def okBytes (bs : List PV) : Prop := bs.length ≤ 140737488355328 ∧ ∀ x ∈ bs, ∃ b, x = .int .u8 b ∧ 0 ≤ b ∧ b ≤ 255
theorem okBytes.at {bs : List PV} (h : okBytes bs) {i : Nat} (hi : i < bs.length) : ∃ b, bs[i] = .int .u8 b ∧ 0 ≤ b ∧ b ≤ 255 := by
  obtain ⟨b, h1, h2⟩ := h.2 bs[i] (List.getElem_mem hi)
  exact ⟨b, h1, h2⟩
theorem and255 (a : Int) : 0 ≤ andI .u64 a 255 ∧ andI .u64 a 255 ≤ 255 := by
  have h : (BitVec.ofInt 64 a &&& BitVec.ofInt 64 255).toNat ≤ 255 := by
    rw [BitVec.toNat_and]
    exact Nat.and_le_right
  unfold andI
  show 0 ≤ IntKind.u64.wrap (((BitVec.ofInt 64 a &&& BitVec.ofInt 64 255).toNat : Nat) : Int) ∧ IntKind.u64.wrap (((BitVec.ofInt 64 a &&& BitVec.ofInt 64 255).toNat : Nat) : Int) ≤ 255
  rw [IntWalk.u64_in _ (by omega)]
  omega
theorem idx_ok {i : Int} {n : Nat} (h0 : 0 ≤ i) (h : i < (n : Int)) : idx i n = some i.toNat := by simp [idx, h0, h]
theorem run_next {bs : List PV} {i : Int} (seed : Int) (hb : okBytes bs) (hi : 0 ≤ i) (hi2 : i ≤ 4611686018427387904) : ∃ x seed', RUN CC fn_P_spec_l00Src_next [src bs i seed] = some ([.int .i64 x], [src bs (i + 1) seed']) ∧ 0 ≤ x ∧ x ≤ 255 := by
  rw [RUN_eq, prog_P_spec_l00Src_next]
  by_cases h : i < (bs.length : Int)
  · obtain ⟨b, hb1, hb2, hb3⟩ := hb.at (i := i.toNat) (by omega)
    have e : i + 1 ≤ (bs.length : Int) := by omega
    simp (disch := omega) [pf_P_spec_l00Src_next, src, h, idx_ok, hb1, IntWalk.i64_in, e]
    omega
  · have e : ¬ i + 1 ≤ (bs.length : Int) := by omega
    simp (disch := omega) [pf_P_spec_l00Src_next, src, h, idx_ok, IntWalk.i64_in, e]
    rw [IntWalk.i64_in _ (by have := and255 (shrI IntKind.u64 (IntKind.u64.wrap (IntKind.u64.wrap (IntKind.u64.wrap (seed * 6364136223846793005) + IntKind.u64.wrap 0) + 1442695040888963407)) 40); omega)]
    exact and255 _
theorem run_pick {bs : List PV} {i : Int} (seed n : Int) (hb : okBytes bs) (hi : 0 ≤ i) (hi2 : i ≤ 4611686018427387900) : ∃ x i' seed', RUN CC fn_P_spec_l00Src_pick [src bs i seed, .int .i64 n] = some ([.int .i64 x], [src bs i' seed']) ∧ i ≤ i' ∧ i' ≤ i + 2 ∧ 0 ≤ x ∧ (x < n ∨ x = 0) := by
  rw [RUN_eq, prog_P_spec_l00Src_pick]
  by_cases h1 : n ≤ 1
  · refine ⟨0, i, seed, ?_, by omega, by omega, by omega, by omega⟩
    simp [pf_P_spec_l00Src_pick, src, h1]
  · obtain ⟨x, s1, h2, h3, h4⟩ := run_next seed hb hi (by omega)
    obtain ⟨y, s2, h5, h6, h7⟩ := run_next (i := i + 1) s1 hb (by omega) (by omega)
    simp only [src] at h2 h5
    by_cases h8 : n > 200
    · refine ⟨(x * 256 + y).tmod n, i + 1 + 1, s2, ?_, by omega, by omega, Int.tmod_nonneg _ (by omega), .inl (Int.tmod_lt_of_pos _ (by omega))⟩
      have h9 : ¬ n = 0 := by omega
      simp (disch := omega) [pf_P_spec_l00Src_pick, src, h1, h2, h5, h8, h9, IntWalk.i64_in]
    · refine ⟨x.tmod n, i + 1, s1, ?_, by omega, by omega, Int.tmod_nonneg _ (by omega), .inl (Int.tmod_lt_of_pos _ (by omega))⟩
      have h9 : ¬ n = 0 := by omega
      have h10 : ¬ 200 < n := by omega
      simp (disch := omega) [pf_P_spec_l00Src_pick, src, h1, h2, h10, h9]
theorem run_one {bs : List PV} {i : Int} (seed n : Int) (hb : okBytes bs) (hi : 0 ≤ i) (hi2 : i ≤ 4611686018427387900) : ∃ x i' seed', RUN CC fn_P_spec_l00Src_one [src bs i seed, .int .i64 n] = some ([.bool x], [src bs i' seed']) ∧ i ≤ i' ∧ i' ≤ i + 2 := by
  rw [RUN_eq, prog_P_spec_l00Src_one]
  obtain ⟨x, i', s1, h1, h2, h3, h4, h5⟩ := run_pick seed n hb hi hi2
  refine ⟨x == 0, i', s1, ?_, h2, h3⟩
  simp only [src] at h1
  simp [pf_P_spec_l00Src_one, src, h1]
theorem run_among {bs : List PV} {i : Int} {ns : List Int} (seed : Int) (hb : okBytes bs) (hi : 0 ≤ i) (hi2 : i ≤ 4611686018427387900) (hx : 1 ≤ ns.length) : ∃ x i' seed', RUN CC fn_P_spec_l00Src_among [src bs i seed, .sl 0 ty_int64 (ns.map (PV.int .i64))] = some ([.int .i64 x], [src bs i' seed']) ∧ i ≤ i' ∧ i' ≤ i + 2 ∧ x ∈ ns := by
  rw [RUN_eq, prog_P_spec_l00Src_among]
  obtain ⟨x, i', s1, h1, h2, h3, h4, h5⟩ := run_pick seed ns.length hb hi hi2
  refine ⟨ns[x.toNat]'(by omega), i', s1, ?_, h2, h3, List.getElem_mem _⟩
  simp only [src] at h1
  have hlt : x < (ns.length : Int) := by omega
  simp (disch := omega) [pf_P_spec_l00Src_among, src, h1, idx_ok, hlt]
end Go.Proofs.Ytjifplkdfebilaa.Pv
/- Pools and their groups. No condition. -/
namespace Go.Proofs.Ytjifplkdfebilaa.Pv
open Go
set_option maxRecDepth 10000
set_option linter.unusedSimpArgs false

@[simp] theorem run_between (a b c : Int) : RUN CC fn_impl_between [.int .i64 a, .int .i64 b, .int .i64 c] = some ([.bool (decide (b ≤ a ∧ a ≤ c))], []) := by
  rw [RUN_eq, prog_impl_between]
  by_cases h : b ≤ a <;> by_cases h2 : a ≤ c <;> simp [pf_impl_between, h, h2]
def codeOk (k m : Int) : Prop := (1 ≤ k ∧ k ≤ 4) ∧ 0 ≤ m ∧ m ≤ 3
instance (k m : Int) : Decidable (codeOk k m) := by unfold codeOk; infer_instance
@[simp] theorem run_CodeOk (a b : Int) : RUN CC fn_impl_CodeOk [.agg [.int .i64 a, .int .i64 b]] = some ([.bool (decide (codeOk a b))], []) := by
  rw [RUN_eq, prog_impl_CodeOk]
  by_cases h : 1 ≤ a ∧ a ≤ 4 <;> by_cases h2 : 0 ≤ b ∧ b ≤ 3 <;> simp [pf_impl_CodeOk, codeOk, h, h2]
@[simp] theorem run_Code_size (a b : Int) : RUN CC fn_impl_Code_size [.agg [.int .i64 a, .int .i64 b]] = some ([.int .i64 (IntKind.i64.wrap (a + b))], []) := by
  rw [RUN_eq, prog_impl_Code_size]
  simp [pf_impl_Code_size]
def poolV (id k m mn pgs rule : Int) : PV := .agg [.int .i64 id, .int .i64 k, .int .i64 m, .int .i64 mn, .int .i64 pgs, .int .i64 rule]
def poolOk (id k m mn pgs rule : Int) : Prop := (1 ≤ id ∧ id ≤ 4) ∧ codeOk k m ∧ (k ≤ mn ∧ mn ≤ k + m) ∧ (1 ≤ pgs ∧ pgs ≤ 16) ∧ 1 ≤ rule ∧ rule ≤ 4
instance (id k m mn pgs rule : Int) : Decidable (poolOk id k m mn pgs rule) := by unfold poolOk; infer_instance
theorem run_PoolOk (id k m mn pgs rule : Int) : RUN CC fn_impl_PoolOk [.agg [.int .i64 id, .int .i64 k, .int .i64 m, .int .i64 mn, .int .i64 pgs, .int .i64 rule]] = some ([.bool (decide (poolOk id k m mn pgs rule))], []) := by
  rw [RUN_eq, prog_impl_PoolOk]
  by_cases h1 : 1 ≤ id ∧ id ≤ 4
  · by_cases h2 : codeOk k m
    · have hw : IntKind.i64.wrap (k + m) = k + m := IntWalk.i64_in _ (by unfold codeOk at h2; omega)
      by_cases h3 : k ≤ mn ∧ mn ≤ k + m
      · by_cases h4 : 1 ≤ pgs ∧ pgs ≤ 16 <;> by_cases h5 : 1 ≤ rule ∧ rule ≤ 4 <;> simp [pf_impl_PoolOk, h1, h2, hw, h3, h4, h5, poolOk]
      · simp [pf_impl_PoolOk, h1, h2, hw, h3, poolOk]
    · simp [pf_impl_PoolOk, h1, h2, poolOk]
  · simp [pf_impl_PoolOk, h1, poolOk]
end Go.Proofs.Ytjifplkdfebilaa.Pv
/- The groups of a pool; the group of a name; a split. No condition. -/
namespace Go.Proofs.Ytjifplkdfebilaa.Pv
open Go
set_option maxRecDepth 10000
set_option linter.unusedSimpArgs false

/-- A variable that holds a slice of its own. -/
def Holder (s : St) (d : Nat) (p : PV) : Prop := ∃ k kn, s.t d = .rw ⟨.v d, k, kn, []⟩ ∧ s.m.kr (.v d) = k ∧ s.m.r d = some p
def pgV (p n : Int) : PV := .agg [.int .i64 p, .int .i64 n]
def pgsL (p : Int) (i n : Nat) : List PV := (List.range' i n).map fun j => pgV p (j : Nat)
theorem pgsL_succ (p : Int) (i n : Nat) : pgsL p i (n + 1) = pgV p (i : Nat) :: pgsL p (i + 1) n := by simp [pgsL, List.range'_succ]
theorem pgs_loop {id n : Int} {c1 c2 c3 c4 c5 : AV} {V : List Nat} (hV : V = [0, 1, 3, 4, 7]) (hn : n ≤ 16) : ∀ (d i : Nat) (s : St) (xs : List PV), n - i = d → (xs.length = i) → s.t 6 = .pv (.int .i64 n) → s.t 7 = .pv (.int .i64 i) → Holder s 3 (.sl 2 ty_impl_Pg xs) → s.t 1 = .ptr 1 1 0 → s.m.kb 1 = 1 → s.m.b 1 = some [.pv (.int .i64 id), c1, c2, c3, c4, c5] →
    ∃ s', EX CC V pf_impl_Pool_pgs_l0 s = some (.exit 0, s') ∧ Holder s' 3 (.sl 2 ty_impl_Pg (xs ++ pgsL id i d)) := by
  subst hV
  intro d
  induction d with
  | zero =>
    intro i s xs hd hx h6 h7 h3 h1 hkb hb
    have h : ¬ (i : Int) < n := by omega
    rw [ex_impl_Pool_pgs_l0]
    simp [pf_impl_Pool_pgs_lb0, h6, h7, h]
    obtain ⟨k, kn, h3⟩ := h3
    exact ⟨k, kn, by simpa [upd, pgsL] using h3⟩
  | succ d ih =>
    intro i s xs hd hx h6 h7 h3 h1 hkb hb
    have h : (i : Int) < n := by omega
    have hbnd : (xs.length + 1) * 16 ≤ 140737488355328 := by omega
    have hbnd2 : xs.length + 1 ≤ 9223372036854775807 := by omega
    obtain ⟨k, kn, h3a, h3b, h3c⟩ := h3
    rw [ex_impl_Pool_pgs_l0]
    simp (disch := omega) [pf_impl_Pool_pgs_lb0, h6, h7, h, h3a, h3b, h3c, h1, hkb, hb, hbnd, hbnd2, IntWalk.i64_in]
    rw [show xs ++ pgsL id i (d + 1) = (xs ++ [pgV id i]) ++ pgsL id (i + 1) d by simp [pgsL_succ]]
    refine ih (i + 1) _ (xs ++ [pgV id i]) (by omega) (by simp [hx]) ?_ ?_ ⟨_, _, rfl, ?_, ?_⟩ ?_ ?_ ?_
    all_goals simp [*, pgV]
theorem run_pgs (id k m mn pgs rule : Int) (h1 : 0 ≤ pgs) (h2 : pgs ≤ 16) : RUN CC fn_impl_Pool_pgs [.agg [.int .i64 id, .int .i64 k, .int .i64 m, .int .i64 mn, .int .i64 pgs, .int .i64 rule]] = some ([.sl 2 ty_impl_Pg (pgsL id 0 pgs.toNat)], []) := by
  rw [RUN_eq, prog_impl_Pool_pgs]
  simp [pf_impl_Pool_pgs]
  generalize hE : EX CC _ pf_impl_Pool_pgs_l0 _ = E
  obtain ⟨s', rfl, kk, kn, e1, e2, e3⟩ : ∃ s', E = some (.exit 0, s') ∧ Holder s' 3 (.sl 2 ty_impl_Pg ([] ++ pgsL id 0 pgs.toNat)) := by
    rw [← hE]
    refine pgs_loop rfl h2 _ 0 _ [] (by omega) rfl ?_ ?_ ⟨_, _, rfl, ?_, ?_⟩ ?_ ?_ rfl
    all_goals simp
  simp [e1, e2, e3]
theorem run_PgsIn {id k m mn pgs rule : Int} (h : poolOk id k m mn pgs rule) : RUN CC fn_impl_PgsIn [.agg [.int .i64 id, .int .i64 k, .int .i64 m, .int .i64 mn, .int .i64 pgs, .int .i64 rule]] = some ([.sl 2 ty_impl_Pg (pgsL id 0 pgs.toNat), .bool true], []) := by
  rw [RUN_eq, prog_impl_PgsIn]
  have hp := run_pgs id k m mn pgs rule (by unfold poolOk at h; omega) (by unfold poolOk at h; omega)
  simp [pf_impl_PgsIn, run_PoolOk, h, hp]
theorem run_Split {id k m mn pgs rule : Int} (h : poolOk id k m mn pgs rule) : RUN CC fn_impl_Split [.agg [.int .i64 id, .int .i64 k, .int .i64 m, .int .i64 mn, .int .i64 pgs, .int .i64 rule]] = some (if 16 < 2 * pgs then [.agg [.int .i64 0, .int .i64 0, .int .i64 0, .int .i64 0, .int .i64 0, .int .i64 0], .int .i64 4] else [.agg [.int .i64 id, .int .i64 k, .int .i64 m, .int .i64 mn, .int .i64 (pgs * 2), .int .i64 rule], .int .i64 0], []) := by
  rw [RUN_eq, prog_impl_Split]
  have hb : 1 ≤ pgs ∧ pgs ≤ 16 := by unfold poolOk at h; omega
  by_cases h2 : 16 < 2 * pgs <;> simp (disch := omega) [pf_impl_Split, run_PoolOk, h, h2, IntWalk.i64_in]

def mixStep (h w : Int) : Int :=
  let h1 := IntKind.u32.wrap (xorI .u32 h (IntKind.u32.wrap w) * 16777619)
  let h2 := xorI .u32 h1 (shrI .u32 h1 15)
  let h3 := IntKind.u32.wrap (h2 * 1540483477)
  xorI .u32 h3 (shrI .u32 h3 13)
def mixF (h : Int) (ns : List Int) : Int := ns.foldl mixStep h
theorem mix_loop {V : List Nat} (hV : V = [0, 3, 5, 6, 8]) (ns : List Int) (hn : (ns.length : Int) ≤ 4611686018427387904) : ∀ (d i : Nat) (s : St) (h : Int), ns.length - i = d → i ≤ ns.length → s.t 6 = .pv (.sl 0 ty_int64 (ns.map (PV.int .i64))) → s.t 7 = .pv (.int .i64 ns.length) → s.t 8 = .pv (.int .i64 i) → s.t 3 = .pv (.int .u32 h) →
    ∃ s', EX CC V pf_impl_Mix_l0 s = some (.exit 0, s') ∧ s'.t 3 = .pv (.int .u32 (mixF h (ns.drop i))) := by
  subst hV
  intro d
  induction d with
  | zero =>
    intro i s h hd hi h6 h7 h8 h3
    have hlt : ¬ (i : Int) < ns.length := by omega
    have e : ns.drop i = [] := List.drop_eq_nil_of_le (by omega)
    rw [ex_impl_Mix_l0]
    simp [pf_impl_Mix_lb0, h6, h7, h8, h3, hlt, e, mixF]
  | succ d ih =>
    intro i s h hd hi h6 h7 h8 h3
    have hlt : i < ns.length := by omega
    have e : ns.drop i = ns[i] :: ns.drop (i + 1) := List.drop_eq_getElem_cons hlt
    rw [ex_impl_Mix_l0]
    simp (disch := omega) [pf_impl_Mix_lb0, h6, h7, h8, h3, hlt, idx_ok, IntWalk.i64_in]
    rw [show mixF h (ns.drop i) = mixF (mixStep h ns[i]) (ns.drop (i + 1)) by rw [e]; rfl]
    refine ih (i + 1) _ _ (by omega) (by omega) ?_ ?_ ?_ ?_
    all_goals simp [*, mixStep]
theorem xor32 (a b : Int) : 0 ≤ xorI .u32 a b ∧ xorI .u32 a b ≤ 4294967295 := by
  unfold xorI
  rw [IntKind.wrap_u32]
  omega
theorem mixF_in : ∀ (ns : List Int) (h : Int), 0 ≤ h ∧ h ≤ 4294967295 → 0 ≤ mixF h ns ∧ mixF h ns ≤ 4294967295
  | [], h, hh => hh
  | n :: ns, h, _ => mixF_in ns (mixStep h n) (xor32 _ _)
def mixOf (ns : List Int) : Int := mixF 2166136261 ns
theorem mixOf_in (ns : List Int) : 0 ≤ mixOf ns ∧ mixOf ns ≤ 4294967295 := mixF_in ns _ (by omega)
theorem run_Mix (ns : List Int) (hn : (ns.length : Int) ≤ 4611686018427387904) : RUN CC fn_impl_Mix [.sl 0 ty_int64 (ns.map (PV.int .i64))] = some ([.int .i64 (mixOf ns)], []) := by
  rw [RUN_eq, prog_impl_Mix]
  simp [pf_impl_Mix]
  generalize hE : EX CC _ pf_impl_Mix_l0 _ = E
  obtain ⟨s', rfl, e1⟩ : ∃ s', E = some (.exit 0, s') ∧ s'.t 3 = .pv (.int .u32 (mixF 2166136261 (ns.drop 0))) := by
    rw [← hE]
    refine mix_loop rfl ns hn _ 0 _ _ rfl (by omega) ?_ ?_ ?_ ?_
    all_goals simp
  have := mixOf_in ns
  simp (disch := omega) [e1, IntWalk.i64_in]
  rw [IntWalk.i64_in _ (by unfold mixOf at this; omega)]
  rfl
def chOk (n : Nat) : Prop := (97 ≤ n ∧ n ≤ 122) ∨ (48 ≤ n ∧ n ≤ 57)
instance (n : Nat) : Decidable (chOk n) := by unfold chOk; infer_instance
def allCh (l : List UInt8) : Bool := l.all fun b => decide (chOk b.toNat)
theorem allCh_cons (b : UInt8) (l : List UInt8) : allCh (b :: l) = (decide (chOk b.toNat) && allCh l) := by simp [allCh]
def nameOk (bs : List UInt8) : Bool := allCh bs && decide (1 ≤ bs.length ∧ bs.length ≤ 8)
theorem size_list (s : ByteArray) : s.size = s.data.toList.length := Array.length_toList.symm
theorem name_loop {V : List Nat} (hV : V = [0, 3, 4, 7, 15, 19, 22]) (nm : ByteArray) (l : List UInt8) (hl : nm.data.toList = l) (hsz : nm.size = l.length) (hn : (l.length : Int) ≤ 4611686018427387904) : ∀ (d i : Nat) (s : St), l.length - i = d → i ≤ l.length → s.t 0 = .pv (.str nm) → s.t 6 = .pv (.int .i64 l.length) → s.t 7 = .pv (.int .i64 i) →
    ∃ s', EX CC V pf_impl_NameOk_l0 s = some (if allCh (l.drop i) then .exit 0 else .ret, s') ∧ s'.t 0 = .pv (.str nm) ∧ (allCh (l.drop i) = false → s'.t 2 = .pv (.bool false)) := by
  subst hV
  intro d
  induction d with
  | zero =>
    intro i s hd hi h0 h6 h7
    have hlt : ¬ (i : Int) < l.length := by omega
    rw [ex_impl_NameOk_l0, List.drop_eq_nil_of_le (by omega)]
    simp [pf_impl_NameOk_lb0, h0, h6, h7, hlt, allCh]
  | succ d ih =>
    intro i s hd hi h0 h6 h7
    have hlt : i < l.length := by omega
    have e : l.drop i = l[i] :: l.drop (i + 1) := List.drop_eq_getElem_cons hlt
    rw [ex_impl_NameOk_l0, e, allCh_cons]
    have hb : l[i].toNat ≤ 255 := by have := l[i].toNat_lt; omega
    by_cases hc : chOk l[i].toNat
    · simp only [hc, decide_true, Bool.true_and]
      have key : ∀ s1 : St, s1.t 0 = .pv (.str nm) → s1.t 6 = .pv (.int .i64 l.length) → s1.t 7 = .pv (.int .i64 ((i + 1 : Nat) : Int)) → ∃ s', EX CC [0, 3, 4, 7, 15, 19, 22] pf_impl_NameOk_l0 s1 = some (if allCh (l.drop (i + 1)) then .exit 0 else .ret, s') ∧ s'.t 0 = .pv (.str nm) ∧ (allCh (l.drop (i + 1)) = false → s'.t 2 = .pv (.bool false)) := fun s1 => ih (i + 1) s1 (by omega) (by omega)
      rcases hc with ⟨k1, k2⟩ | ⟨k1, k2⟩
      · have c1 : ¬ (l[i].toNat : Int) < 97 := by omega
        have c2 : ¬ 122 < (l[i].toNat : Int) := by omega
        simp (disch := omega) [pf_impl_NameOk_lb0, h0, h6, h7, hlt, hsz, hl, idx_ok, IntWalk.i64_in, c1, c2]
        refine key _ ?_ ?_ ?_
        all_goals simp [*]
      · have c1 : (l[i].toNat : Int) < 97 := by omega
        have c3 : ¬ (l[i].toNat : Int) < 48 := by omega
        have c4 : ¬ 57 < (l[i].toNat : Int) := by omega
        simp (disch := omega) [pf_impl_NameOk_lb0, h0, h6, h7, hlt, hsz, hl, idx_ok, IntWalk.i64_in, c1, c3, c4]
        refine key _ ?_ ?_ ?_
        all_goals simp [*]
    · simp only [hc, decide_false, Bool.false_and]
      unfold chOk at hc
      by_cases c1 : (l[i].toNat : Int) < 97
      · by_cases c3 : (l[i].toNat : Int) < 48
        · simp (disch := omega) [pf_impl_NameOk_lb0, h0, h6, h7, hlt, hsz, hl, idx_ok, IntWalk.i64_in, c1, c3]
        · have c4 : 57 < (l[i].toNat : Int) := by omega
          simp (disch := omega) [pf_impl_NameOk_lb0, h0, h6, h7, hlt, hsz, hl, idx_ok, IntWalk.i64_in, c1, c3, c4]
      · have c2 : 122 < (l[i].toNat : Int) := by omega
        have c3 : ¬ (l[i].toNat : Int) < 48 := by omega
        have c4 : 57 < (l[i].toNat : Int) := by omega
        simp (disch := omega) [pf_impl_NameOk_lb0, h0, h6, h7, hlt, hsz, hl, idx_ok, IntWalk.i64_in, c1, c2, c3, c4]
theorem run_NameOk (nm : ByteArray) (hn : (nm.size : Int) ≤ 4611686018427387904) : RUN CC fn_impl_NameOk [.str nm] = some ([.bool (nameOk nm.data.toList)], []) := by
  generalize hl : nm.data.toList = l
  have hsz : nm.size = l.length := by rw [size_list, hl]
  rw [RUN_eq, prog_impl_NameOk]
  simp [pf_impl_NameOk]
  generalize hE : EX CC _ pf_impl_NameOk_l0 _ = E
  obtain ⟨s', rfl, e1, e2⟩ : ∃ s', E = some (if allCh (l.drop 0) then .exit 0 else .ret, s') ∧ s'.t 0 = .pv (.str nm) ∧ (allCh (l.drop 0) = false → s'.t 2 = .pv (.bool false)) := by
    rw [← hE]
    refine name_loop rfl nm l hl hsz (by omega) _ 0 _ rfl (by omega) ?_ ?_ ?_
    all_goals simp [hsz]
  simp only [List.drop_zero] at e2 ⊢
  cases hc : allCh l with
  | true =>
    simp [e1, hsz, nameOk, hc]
    congr 1 <;> (apply decide_eq_decide.2; omega)
  | false => simp [nameOk, hc, e2 hc]
def wordsOf (l : List UInt8) : List Int := l.map fun b => (b.toNat : Int)
@[simp] theorem demL_ints (k : IntKind) : ∀ ns : List Int, demL (ns.map (PV.int k)) = ns.map (PV.int k)
  | [] => rfl
  | n :: ns => by simp [demL_ints k ns]
@[simp] theorem allOwn_ints (k : IntKind) : ∀ ns : List Int, allOwnL (ns.map (PV.int k)) = true
  | [] => rfl
  | n :: ns => by simp [allOwn_ints k ns]
@[simp] theorem noRef_ints (k : IntKind) : ∀ ns : List Int, noRefL (ns.map (PV.int k)) = true
  | [] => rfl
  | n :: ns => by simp [noRef_ints k ns]
theorem pgOf_loop {V : List Nat} (hV : V = [0, 1, 2, 5, 6, 9]) (nm : ByteArray) (l : List UInt8) (hl : nm.data.toList = l) (hsz : nm.size = l.length) (hn : (l.length : Int) ≤ 1000000) : ∀ (d i : Nat) (s : St), l.length - i = d → i ≤ l.length → s.t 1 = .pv (.str nm) → s.t 8 = .pv (.int .i64 l.length) → s.t 9 = .pv (.int .i64 i) → Holder s 5 (.sl 2 ty_int64 ((wordsOf (l.take i)).map (PV.int .i64))) →
    ∃ s', EX CC V pf_impl_pgOf_l0 s = some (.exit 0, s') ∧ Holder s' 5 (.sl 2 ty_int64 ((wordsOf l).map (PV.int .i64))) ∧ s'.t 2 = s.t 2 ∧ s'.t 4 = s.t 4 ∧ s'.m.b = s.m.b ∧ s'.m.kb = s.m.kb ∧ (∀ o n, s'.m.kr (.c o n) = s.m.kr (.c o n)) ∧ (∀ o n, s'.m.kn (.c o n) = s.m.kn (.c o n)) := by
  subst hV
  intro d
  induction d with
  | zero =>
    intro i s hd hi h1 h8 h9 h5
    have hlt : ¬ (i : Int) < l.length := by omega
    rw [List.take_of_length_le (by omega)] at h5
    rw [ex_impl_pgOf_l0]
    obtain ⟨k, kn, h5a, h5b, h5c⟩ := h5
    simp [pf_impl_pgOf_lb0, h1, h8, h9, hlt]
    exact ⟨k, kn, by simpa using h5a, h5b, h5c⟩
  | succ d ih =>
    intro i s hd hi h1 h8 h9 h5
    have hlt : i < l.length := by omega
    have hlen : (wordsOf (l.take i)).length = i := by simp [wordsOf]; omega
    have hbnd : (i + 1) * 8 ≤ 140737488355328 := by omega
    have hbnd2 : i + 1 ≤ 9223372036854775807 := by omega
    have hb : l[i].toNat ≤ 255 := by have := l[i].toNat_lt; omega
    obtain ⟨k, kn, h5a, h5b, h5c⟩ := h5
    have hmin : min i l.length = i := by omega
    rw [ex_impl_pgOf_l0]
    simp (disch := omega) [pf_impl_pgOf_lb0, h1, h8, h9, h5a, h5b, h5c, hlt, hsz, hl, idx_ok, IntWalk.i64_in, hlen, hbnd, hbnd2]
    have e : (wordsOf (l.take (i + 1))).map (PV.int .i64) = (wordsOf (l.take i)).map (PV.int .i64) ++ [PV.int .i64 l[i].toNat] := by
      rw [List.take_succ_eq_append_getElem hlt]
      simp only [wordsOf, List.map_append, List.map_cons, List.map_nil]
    generalize hS : ({ t := _, m := _ } : St) = S
    obtain ⟨s', q1, q2, q3, q4, q5, q6, q7, q8⟩ := ih (i + 1) S (by omega) (by omega) (by rw [← hS]; simp [h1]) (by rw [← hS]; simp [h8]) (by rw [← hS]; simp) (by rw [← hS, e]; exact ⟨_, _, rfl, by simp, by simp⟩)
    refine ⟨s', q1, q2, q3.trans (by rw [← hS]; simp), q4.trans (by rw [← hS]; simp), q5.trans (by rw [← hS]), q6.trans (by rw [← hS]), fun o n => (q7 o n).trans (by rw [← hS]; simp), fun o n => (q8 o n).trans (by rw [← hS])⟩
def pgNo (nm : ByteArray) (n : Int) : Int := (mixOf (wordsOf nm.data.toList)).tmod n
theorem run_pgOf {id k m mn pgs rule : Int} {nm : ByteArray} (hn : (nm.size : Int) ≤ 1000000) (hp : 1 ≤ pgs) : RUN CC fn_impl_pgOf [.agg [.int .i64 id, .int .i64 k, .int .i64 m, .int .i64 mn, .int .i64 pgs, .int .i64 rule], .str nm] = some ([pgV id (pgNo nm pgs)], []) := by
  generalize hl : nm.data.toList = l
  have hsz : nm.size = l.length := by rw [size_list, hl]
  rw [RUN_eq, prog_impl_pgOf]
  simp [pf_impl_pgOf]
  generalize hE : EX CC _ pf_impl_pgOf_l0 _ = E
  revert hE
  generalize hS : ({ t := _, m := _ } : St) = S
  intro hE
  obtain ⟨s', rfl, ⟨kk, kn, e1, e2, e3⟩, e4, e5, e6, e7, e8, e9⟩ : ∃ s', E = some (.exit 0, s') ∧ Holder s' 5 (.sl 2 ty_int64 ((wordsOf l).map (PV.int .i64))) ∧ s'.t 2 = S.t 2 ∧ s'.t 4 = S.t 4 ∧ s'.m.b = S.m.b ∧ s'.m.kb = S.m.kb ∧ (∀ o n, s'.m.kr (.c o n) = S.m.kr (.c o n)) ∧ (∀ o n, s'.m.kn (.c o n) = S.m.kn (.c o n)) := by
    rw [← hE]
    refine pgOf_loop rfl nm l hl hsz (by omega) _ 0 S rfl (by omega) ?_ ?_ ?_ ?_
    · rw [← hS]; simp
    · rw [← hS]; simp [hsz]
    · rw [← hS]; simp
    · rw [← hS]; exact ⟨_, _, rfl, by simp, by simp [wordsOf]⟩
  rw [← hS] at e4 e5 e6 e7 e8
  simp at e4 e5 e6 e7 e8
  have hw : ((wordsOf l).length : Int) ≤ 4611686018427387904 := by simp [wordsOf]; omega
  have hz : ¬ pgs = 0 := by omega
  simp [e1, e2, e3, e4, e5, e6, e7, e8, e9, run_Mix _ hw, hz, pgV, pgNo, hl]
theorem run_PgOf {id k m mn pgs rule : Int} {nm : ByteArray} (h : poolOk id k m mn pgs rule) (hn : nameOk nm.data.toList = true) : RUN CC fn_impl_PgOf [.agg [.int .i64 id, .int .i64 k, .int .i64 m, .int .i64 mn, .int .i64 pgs, .int .i64 rule], .str nm] = some ([pgV id (pgNo nm pgs), .bool true], []) := by
  have hsz : (nm.size : Int) ≤ 1000000 := by
    rw [size_list]
    simp only [nameOk, Bool.and_eq_true, decide_eq_true_eq] at hn
    omega
  have hg := run_pgOf (id := id) (k := k) (m := m) (mn := mn) (rule := rule) (pgs := pgs) hsz (by unfold poolOk at h; omega)
  have hN := run_NameOk nm (by omega)
  rw [hn] at hN
  rw [RUN_eq, prog_impl_PgOf]
  simp [pf_impl_PgOf, run_PoolOk, h, hN, hg, pgV]
end Go.Proofs.Ytjifplkdfebilaa.Pv
/- What the generators draw: codes, pools, rules, names. No condition. -/
namespace Go.Proofs.Ytjifplkdfebilaa.Pv
open Go
set_option maxRecDepth 10000
set_option linter.unusedSimpArgs false

theorem run_l04Draw {bs : List PV} {i : Int} (seed : Int) (hb : okBytes bs) (hi : 0 ≤ i) (hi2 : i ≤ 4611686018427387800) : ∃ k m i' seed', RUN CC fn_spec_l04Draw [src bs i seed] = some ([.agg [.int .i64 k, .int .i64 m]], [src bs i' seed']) ∧ i ≤ i' ∧ i' ≤ i + 4 ∧ codeOk k m := by
  rw [RUN_eq, prog_spec_l04Draw]
  obtain ⟨x, i1, s1, h1, h2, h3, h4, h5⟩ := run_pick seed 4 hb hi (by omega)
  obtain ⟨y, i2, s2, k1, k2, k3, k4, k5⟩ := run_pick (i := i1) s1 4 hb (by omega) (by omega)
  refine ⟨1 + x, y, i2, s2, ?_, by omega, by omega, by unfold codeOk; omega⟩
  simp only [src] at h1 k1
  simp (disch := omega) [pf_spec_l04Draw, src, h1, k1, IntWalk.i64_in]
set_option maxHeartbeats 4000000 in
theorem run_l09Draw {bs : List PV} {i : Int} (seed : Int) (hb : okBytes bs) (hi : 0 ≤ i) (hi2 : i ≤ 4611686018427387800) : ∃ id k m mn pgs rule i' seed', RUN CC fn_spec_l09Draw [src bs i seed] = some ([.agg [.int .i64 id, .int .i64 k, .int .i64 m, .int .i64 mn, .int .i64 pgs, .int .i64 rule]], [src bs i' seed']) ∧ i ≤ i' ∧ i' ≤ i + 12 ∧ poolOk id k m mn pgs rule := by
  rw [RUN_eq, prog_spec_l09Draw]
  obtain ⟨k, m, i1, s1, h1, h2, h3, h4⟩ := run_l04Draw seed hb hi (by omega)
  unfold codeOk at h4
  obtain ⟨a, i2, s2, a1, a2, a3, a4, a5⟩ := run_pick s1 4 hb (i := i1) (by omega) (by omega)
  obtain ⟨b, i3, s3, b1, b2, b3, b4, b5⟩ := run_pick s2 (m + 1) hb (i := i2) (by omega) (by omega)
  obtain ⟨c, i4, s4, c1, c2, c3, c4, c5⟩ := run_pick s3 16 hb (i := i3) (by omega) (by omega)
  obtain ⟨d, i5, s5, d1, d2, d3, d4, d5⟩ := run_pick s4 4 hb (i := i4) (by omega) (by omega)
  refine ⟨1 + a, k, m, k + b, 1 + c, 1 + d, i5, s5, ?_, by omega, by omega, by unfold poolOk codeOk; omega⟩
  simp only [src] at h1 a1 b1 c1 d1
  simp (maxSteps := 2000000) (disch := omega) [pf_spec_l09Draw, src, h1, a1, b1, c1, d1, IntWalk.i64_in]
  trace_state
theorem run_A8Pool {bs : List PV} (hb : okBytes bs) (rid a b : Int) (c : Bool) (hr : 1 ≤ rid ∧ rid ≤ 4) : ∃ id k m mn pgs, RUN CC fn_spec_A8Pool [.sl 0 ty_uint8 bs, .agg [.int .i64 rid, .int .i64 a, .int .i64 b, .bool c]] = some ([.agg [.int .i64 id, .int .i64 k, .int .i64 m, .int .i64 mn, .int .i64 pgs, .int .i64 rid]], []) ∧ poolOk id k m mn pgs rid := by
  rw [RUN_eq, prog_spec_A8Pool]
  obtain ⟨id, k, m, mn, pgs, rule, i1, s1, h1, h2, h3, h4⟩ := run_l09Draw (i := 0) 0 hb (by omega) (by omega)
  obtain ⟨x, i2, s2, k1, k2, k3, k4, k5⟩ := run_pick (i := i1) s1 2 hb (by omega) (by omega)
  refine ⟨1 + x, k, m, mn, pgs, ?_, by unfold poolOk codeOk at *; omega⟩
  simp only [src] at h1 k1
  simp (disch := omega) [pf_spec_A8Pool, h1, k1, IntWalk.i64_in]
/-- Buckets of a tree as it is read. -/
def bucketV (fl : Nat) (id kind : Int) (items : List Int) : PV := .agg [.int .i64 id, .int .i64 kind, .sl fl ty_int64 (items.map (PV.int .i64))]
theorem run_l08Rule {bs bks : List PV} {i root kind : Int} {items : List Int} {ds : List PV} (seed : Int) (hb : okBytes bs) (hi : 0 ≤ i) (hi2 : i ≤ 4611686018427387800) (hl : (bks.length : Int) ≤ 1000000) (h0 : 1 ≤ bks.length) (hlast : bks[bks.length - 1] = bucketV 0 root kind items) :
    ∃ rid k c i' seed', RUN CC fn_spec_l08Rule [src bs i seed, .agg [.sl 0 ty_impl_Device ds, .sl 0 ty_impl_Bucket bks]] = some ([.agg [.int .i64 rid, .int .i64 root, .int .i64 k, .bool c]], [src bs i' seed']) ∧ i ≤ i' ∧ i' ≤ i + 8 ∧ (1 ≤ rid ∧ rid ≤ 4) ∧ 0 ≤ k ∧ k ≤ 2 := by
  rw [RUN_eq, prog_spec_l08Rule]
  obtain ⟨x, i1, s1, h1, h2, h3, h4, h5⟩ := run_pick seed 4 hb hi (by omega)
  obtain ⟨y, i2, s2, k1, k2, k3, k4⟩ := run_among (i := i1) (ns := [0, 1, 1, 1, 2]) s1 hb (by omega) (by omega) (by simp)
  obtain ⟨z, i3, s3, j1, j2, j3⟩ := run_one (i := i2) s2 2 hb (by omega) (by omega)
  refine ⟨1 + x, y, z, i3, s3, ?_, by omega, by omega, by omega, ?_⟩
  · simp only [src, List.map_cons, List.map_nil] at h1 k1 j1
    have hlt : (bks.length : Int) - 1 < bks.length := by omega
    have e : ((bks.length : Int) - 1).toNat = bks.length - 1 := by omega
    simp (disch := omega) [pf_spec_l08Rule, src, h1, k1, j1, IntWalk.i64_in, idx_ok, hlt, e, hlast, bucketV]
  · simp at k4; omega
theorem run_A8Rule {bs bks : List PV} {root kind : Int} {items : List Int} {ds : List PV} (hb : okBytes bs) (hl : (bks.length : Int) ≤ 1000000) (h0 : 1 ≤ bks.length) (hlast : bks[bks.length - 1] = bucketV 0 root kind items) :
    ∃ rid k c, RUN CC fn_spec_A8Rule [.sl 0 ty_uint8 bs, .agg [.sl 0 ty_impl_Device ds, .sl 0 ty_impl_Bucket bks]] = some ([.agg [.int .i64 rid, .int .i64 root, .int .i64 k, .bool c]], []) ∧ (1 ≤ rid ∧ rid ≤ 4) ∧ 0 ≤ k ∧ k ≤ 2 := by
  rw [RUN_eq, prog_spec_A8Rule]
  obtain ⟨rid, k, c, i', s', h1, h2, h3, h4, h5⟩ := run_l08Rule (i := 0) (ds := ds) 0 hb (by omega) (by omega) hl h0 hlast
  refine ⟨rid, k, c, ?_, h4, h5⟩
  simp only [src] at h1
  simp (disch := omega) [pf_spec_A8Rule, h1]
/-- A name under way: letters of names alone. -/
theorem bytesOf_one (n : Int) : bytesOf [.int .u8 n] = some [UInt8.ofNat n.toNat] := rfl
theorem A8Name_loop {bs : List PV} (hb : okBytes bs) {V : List Nat} (hV : V = [0, 3, 4, 5]) : ∀ (d : Nat) (s : St) (k : Nat) (i seed : Int) (l : List UInt8), d ≤ 8 → l.length + d ≤ 8 → 0 ≤ i → i ≤ 1000 - 2 * d → allCh l = true → s.t 5 = .pv (.int .i64 d) → s.t 4 = .pv (.str ⟨l.toArray⟩) → s.t 3 = .ptr 7 k 0 → s.m.kb 7 = k → s.m.b 7 = some [.pv (.sl 0 ty_uint8 bs), .pv (.int .i64 i), .pv (.int .u64 seed)] →
    ∃ s' l', EX CC V pf_spec_A8Name_l0 s = some (.exit 0, s') ∧ s'.t 4 = .pv (.str ⟨l'.toArray⟩) ∧ allCh l' = true ∧ l'.length = l.length + d := by
  subst hV
  intro d
  induction d with
  | zero =>
    intro s k i seed l h1 h2 h3 h4 h5 t5 t4 t3 mk mb
    rw [ex_spec_A8Name_l0]
    simp [pf_spec_A8Name_lb0, t5, t4]
    exact h5
  | succ d ih =>
    intro s k i seed l h1 h2 h3 h4 h5 t5 t4 t3 mk mb
    obtain ⟨x, i1, s1, k1, k2, k3, k4, k5⟩ := run_pick (i := i) seed 10 hb h3 (by omega)
    simp only [src] at k1
    have hx : x < 10 := by omega
    obtain ⟨c, hc, hc2⟩ : ∃ c : UInt8, ([97, 98, 99, 120, 121, 122, 48, 49, 56, 57] : List UInt8)[x.toNat]?.getD 0 = c ∧ chOk c.toNat := by
      refine ⟨_, rfl, ?_⟩
      have : x.toNat < 10 := by omega
      revert this
      generalize x.toNat = n
      intro this
      match n, this with
      | 0, _ | 1, _ | 2, _ | 3, _ | 4, _ | 5, _ | 6, _ | 7, _ | 8, _ | 9, _ => decide
    have hidx : idx x (ByteArray.mk #[97, 98, 99, 120, 121, 122, 48, 49, 56, 57]).size = some x.toNat := idx_ok k4 (by simpa [ByteArray.size] using hx)
    have hle : ¬ (9223372036854775807 : Int) < ((ByteArray.mk l.toArray).size : Int) + ((ByteArray.mk #[c]).size : Int) := by simp [ByteArray.size]; omega
    have happ : (ByteArray.mk l.toArray ++ ByteArray.mk #[c]) = ByteArray.mk (l ++ [c]).toArray := by
      apply ByteArray.ext
      simp
    have hcc : UInt8.ofNat c.toNat = c := by simp
    rw [ex_spec_A8Name_l0]
    simp (disch := omega) [pf_spec_A8Name_lb0, t5, t4, t3, mk, mb, k1, hidx, hc, bytesOf, IntWalk.i64_in, hle, happ, hcc]
    generalize hS : ({ t := _, m := _ } : St) = S
    obtain ⟨s', l', q1, q2, q3, q4⟩ := ih S k i1 s1 (l ++ [c]) (by omega) (by simp; omega) (by omega) (by omega) (by simp [allCh] at h5 ⊢; exact ⟨h5, hc2⟩) (by rw [← hS]; simp) (by rw [← hS]; simp) (by rw [← hS]; simp [t3]) (by rw [← hS]; simp [mk]) (by rw [← hS]; simp)
    exact ⟨s', q1, l', q2, q3, by simp at q4; omega⟩
theorem run_A8Name {bs : List PV} (hb : okBytes bs) : ∃ nm : ByteArray, RUN CC fn_spec_A8Name [.sl 0 ty_uint8 bs] = some ([.str nm], []) ∧ nameOk nm.data.toList = true := by
  rw [RUN_eq, prog_spec_A8Name]
  obtain ⟨x, i1, s1, k1, k2, k3, k4, k5⟩ := run_pick (i := 0) 0 8 hb (by omega) (by omega)
  simp only [src] at k1
  simp (disch := omega) [pf_spec_A8Name, k1, IntWalk.i64_in]
  generalize hE : EX CC _ pf_spec_A8Name_l0 _ = E
  revert hE
  generalize hS : ({ t := _, m := _ } : St) = S
  intro hE
  obtain ⟨s', l', rfl, e1, e2, e3⟩ : ∃ s' l', E = some (.exit 0, s') ∧ s'.t 4 = .pv (.str ⟨l'.toArray⟩) ∧ allCh l' = true ∧ l'.length = ([] : List UInt8).length + (1 + x).toNat := by
    rw [← hE]
    refine A8Name_loop hb rfl (1 + x).toNat S 1 i1 s1 [] (by omega) (by simp; omega) (by omega) (by omega) rfl ?_ ?_ ?_ ?_ ?_
    all_goals rw [← hS]; simp
    omega
  simp at e3
  simp [e1]
  simp [nameOk, e2]
  omega
end Go.Proofs.Ytjifplkdfebilaa.Pv
/- The tree that the generator draws. No condition. -/
namespace Go.Proofs.Ytjifplkdfebilaa.Pv
open Go
set_option maxRecDepth 10000
set_option linter.unusedSimpArgs false

theorem run_l00Own {xs : List PV} (h : (xs.length : Int) ≤ 1000000) : RUN CC fn_spec_l00Own [.sl 0 ty_int64 xs] = some ([.sl 2 ty_int64 xs], []) := by
  rw [RUN_eq, prog_spec_l00Own]
  have h1 : xs.length * 8 ≤ 140737488355328 := by omega
  have h2 : xs.length ≤ 9223372036854775807 := by omega
  simp [pf_spec_l00Own, h1, h2]
def devV (id w : Int) : PV := .agg [.int .i64 id, .int .i64 w]
/-- What the tree's loops keep. -/
structure TreeIn (bs : List PV) (s : St) (i seed : Int) (k3 : Nat) (ds bks : List PV) : Prop where
  t0 : s.t 0 = .ptr 0 0 0
  t3 : s.t 3 = .ptr 3 k3 0
  kb0 : s.m.kb 0 = 0
  kb3 : s.m.kb 3 = k3
  b0 : s.m.b 0 = some [.pv (.sl 0 ty_uint8 bs), .pv (.int .i64 i), .pv (.int .u64 seed)]
  b3 : s.m.b 3 = some [.pv (.sl 2 ty_impl_Device ds), .pv (.sl 2 ty_impl_Bucket bks)]
theorem tree_l0 {bs : List PV} (hb : okBytes bs) {V : List Nat} (hV : V = [0, 3, 4, 5, 6, 7, 8, 9, 10, 11, 12, 29]) : ∀ (d : Nat) (s : St) (i seed : Int) (k3 k7 : Nat) (ds bks : List PV) (id : Int) (ns : List Int), d ≤ 3 → ns.length + d ≤ 3 → ds.length ≤ 16 → 0 ≤ i → i ≤ 10000 - 4 * d → TreeIn bs s i seed k3 ds bks → s.t 8 = .pv (.int .i64 d) → s.t 7 = .ptr 7 k7 0 → s.m.kb 7 = k7 → s.m.b 7 = some [.pv (.int .i64 id), .pv (.int .i64 1), .pv (.sl 2 ty_int64 (ns.map (PV.int .i64)))] →
    ∃ (s' : St) (i' seed' : Int) (ds' : List PV) (ns' : List Int), EX CC V pf_spec_l06Draw_l0 s = some (.exit 2, s') ∧ TreeIn bs s' i' seed' k3 ds' bks ∧ i ≤ i' ∧ i' ≤ i + 4 * d ∧ ds'.length ≤ 16 ∧ ns'.length ≤ ns.length + d ∧ s'.m.b 7 = some [.pv (.int .i64 id), .pv (.int .i64 1), .pv (.sl 2 ty_int64 (ns'.map (PV.int .i64)))] ∧ s'.m.kb = s.m.kb ∧ s'.m.b 2 = s.m.b 2 ∧ s'.t 7 = s.t 7 ∧ s'.t 2 = s.t 2 ∧ s'.t 4 = s.t 4 ∧ s'.t 5 = s.t 5 ∧ s'.t 6 = s.t 6 ∧ s'.m.r = s.m.r ∧ (∀ t, s'.m.kr (.v t) = s.m.kr (.v t)) ∧ s'.m.kn = s.m.kn := by
  subst hV
  intro d
  induction d with
  | zero =>
    intro s i seed k3 k7 ds bks id ns h1 h2 h3 h4 h5 h t8 t7 kb7 b7
    rw [ex_spec_l06Draw_l0]
    simp [pf_spec_l06Draw_lb0, t8, h.t3, h.kb3, h.b3]
    refine ⟨i, seed, ds, ?_, by omega, by omega, h3, ns, by omega, b7⟩
    constructor <;> simp [h.t0, h.t3, h.kb0, h.kb3, h.b0, h.b3]
  | succ d ih =>
    intro s i seed k3 k7 ds bks id ns h1 h2 h3 h4 h5 h t8 t7 kb7 b7
    rw [ex_spec_l06Draw_l0]
    by_cases hd : ds.length < 16
    · obtain ⟨x, i1, s1, a1, a2, a3, a4, a5⟩ := run_pick (i := i) seed 9 hb h4 (by omega)
      obtain ⟨y, i2, s2, j1, j2, j3, j4⟩ := run_among (i := i1) (ns := [1, 1, 2, 3, x]) s1 hb (by omega) (by omega) (by simp)
      simp only [src, List.map_cons, List.map_nil] at a1 j1
      have e1 : (ds.length : Int) < 16 := by omega
      have e2 : (ds.length + 1) * 16 ≤ 140737488355328 := by omega
      have e3 : ds.length + 1 ≤ 9223372036854775807 := by omega
      have e4 : (ns.length + 1) * 8 ≤ 140737488355328 := by omega
      have e5 : ns.length + 1 ≤ 9223372036854775807 := by omega
      simp (disch := omega) [pf_spec_l06Draw_lb0, t8, t7, kb7, b7, h.t0, h.t3, h.kb0, h.kb3, h.b0, h.b3, a1, j1, e1, e2, e3, e4, e5, IntWalk.i64_in]
      generalize hS : ({ t := _, m := _ } : St) = S
      have hT : TreeIn bs S i2 s2 k3 (ds ++ [devV ds.length y]) bks := by rw [← hS]; constructor <;> simp [h.t0, h.t3, h.kb0, h.kb3, devV]
      obtain ⟨s', i', seed', ds', ns', q1, q2, q3, q4, q5, q6, q7, q8, q9, q10, q11, q12, q13, q14, q15, q16, q17⟩ := ih S i2 s2 k3 k7 (ds ++ [devV ds.length y]) bks id (ns ++ [(ds.length : Int)]) (by omega) (by simp; omega) (by simp; omega) (by omega) (by omega) hT (by rw [← hS]; simp) (by rw [← hS]; simp [t7]) (by rw [← hS]; simp [kb7]) (by rw [← hS]; simp)
      refine ⟨s', q1, i', seed', ds', q2, by omega, by omega, q5, ns', by simp at q6; omega, q7, q8.trans (by rw [← hS]), q9.trans (by rw [← hS]; simp), q10.trans (by rw [← hS]; simp [t7]), q11.trans (by rw [← hS]; simp), q12.trans (by rw [← hS]; simp), q13.trans (by rw [← hS]; simp), q14.trans (by rw [← hS]; simp), q15.trans (by rw [← hS]), fun t => (q16 t).trans (by rw [← hS]; simp), q17.trans (by rw [← hS])⟩
    · have e1 : ¬ (ds.length : Int) < 16 := by omega
      simp (disch := omega) [pf_spec_l06Draw_lb0, t8, h.t3, h.kb3, h.b3, e1]
      refine ⟨i, seed, ds, ?_, by omega, by omega, h3, ns, by omega, b7⟩
      constructor <;> simp [h.t0, h.t3, h.kb0, h.kb3, h.b0, h.b3]
def HolderP (s : St) (d : Nat) (p : PV) : Prop := ∃ k kn, s.t d = .rw ⟨.v d, k, kn, []⟩ ∧ s.m.kr (.v d) = k ∧ k ≠ 0 ∧ s.m.r d = some p
def okBucket (b : PV) : Prop := ∃ (id kind : Int) (items : List Int), b = bucketV 2 id kind items ∧ items.length ≤ 16
theorem tree_l1 {bs : List PV} (hb : okBytes bs) {V : List Nat} (hV : V = [0, 3, 4, 5, 6, 7, 8, 9, 10, 11, 12, 29]) : ∀ (c : Nat) (s : St) (i seed : Int) (k3 : Nat) (ds bks : List PV) (id : Int) (hs : List Int), c ≤ 5 → hs.length + c ≤ 5 → ds.length ≤ 16 → bks.length + c ≤ 5 → (∀ b ∈ bks, okBucket b) → 0 ≤ i → i ≤ 1000 - 20 * c → -100 ≤ id - c → id ≤ 100 → TreeIn bs s i seed k3 ds bks → s.t 6 = .pv (.int .i64 c) → s.t 4 = .pv (.int .i64 id) → HolderP s 5 (.sl 2 ty_int64 (hs.map (PV.int .i64))) →
    ∃ (s' : St) (i' seed' : Int) (ds' bks' : List PV) (hs' : List Int), EX CC V pf_spec_l06Draw_l1 s = some (.exit 0, s') ∧ TreeIn bs s' i' seed' k3 ds' bks' ∧ i ≤ i' ∧ i' ≤ i + 20 * c ∧ ds'.length ≤ 16 ∧ bks'.length = bks.length + c ∧ (∀ b ∈ bks', okBucket b) ∧ s'.t 4 = .pv (.int .i64 (id - c)) ∧ HolderP s' 5 (.sl 2 ty_int64 (hs'.map (PV.int .i64))) ∧ hs'.length = hs.length + c ∧ s'.t 2 = s.t 2 ∧ s'.m.b 2 = s.m.b 2 ∧ s'.m.kb 2 = s.m.kb 2 := by
  subst hV
  intro c
  induction c with
  | zero =>
    intro s i seed k3 ds bks id hs h1 h2 h3 h4 h5 h6 h7 h8 h9 h t6 t4 h5'
    obtain ⟨k, kn, e1, e2, e4, e3⟩ := h5'
    rw [ex_spec_l06Draw_l1]
    simp [pf_spec_l06Draw_lb1, t6, t4]
    refine ⟨i, seed, ds, bks, ?_, by omega, by omega, h3, rfl, h5, hs, ⟨k, kn, by simpa using e1, e2, e4, e3⟩, rfl⟩
    constructor <;> simp [h.t0, h.t3, h.kb0, h.kb3, h.b0, h.b3]
  | succ c ih =>
    intro s i seed k3 ds bks id hs h1 h2 h3 h4 h5 h6 h7 h8 h9 h t6 t4 h5'
    obtain ⟨k, kn, e1, e2, e4, e3⟩ := h5'
    obtain ⟨x, i1, s1, a1, a2, a3, a4, a5⟩ := run_pick (i := i) seed 3 hb h6 (by omega)
    simp only [src] at a1
    rw [ex_spec_l06Draw_l1]
    simp (disch := omega) [pf_spec_l06Draw_lb1, t6, t4, h.t0, h.t3, h.kb0, h.kb3, h.b0, h.b3, a1, IntWalk.i64_in]
    generalize hE : EX CC _ pf_spec_l06Draw_l0 _ = E
    revert hE
    generalize hS : ({ t := _, m := _ } : St) = S
    intro hE
    have hT : TreeIn bs S i1 s1 k3 ds bks := by rw [← hS]; constructor <;> simp [h.t0, h.t3, h.kb0, h.kb3, h.b3]
    obtain ⟨s', i', seed', ds', ns', q1, q2, q3, q4, q5, q6, q7, q8, q9, q10, q11, q12, q13, q14, q15, q16, q17⟩ := tree_l0 hb rfl (1 + x).toNat S i1 s1 k3 (s.m.kb 7 + 1) ds bks id [] (by omega) (by simp; omega) h3 (by omega) (by omega) hT (by rw [← hS]; simp; omega) (by rw [← hS]; simp) (by rw [← hS]; simp) (by rw [← hS]; simp)
    rw [hE] at q1
    subst q1
    rw [← hS] at q8 q9 q10 q11 q12 q13 q14 q15 q16 q17
    simp [e1, e3, t4] at q8 q9 q10 q11 q12 q13 q14 q15 q16 q17
    have f1 : (bks.length + 1) * 40 ≤ 140737488355328 := by omega
    have f2 : bks.length + 1 ≤ 9223372036854775807 := by omega
    have f3 : (hs.length + 1) * 8 ≤ 140737488355328 := by omega
    have f4 : hs.length + 1 ≤ 9223372036854775807 := by omega
    have kb0 := h.kb0
    have kb3 := h.kb3
    simp (disch := omega) [q2.t0, q2.t3, q2.b0, q2.b3, kb0, kb3, q7, q8, q9, q10, q11, q12, q13, q14, q15, q16, q17, t6, e1, e2, e3, t4, f1, f2, f3, f4, IntWalk.i64_in]
    generalize hS2 : ({ t := _, m := _ } : St) = S2
    have hT2 : TreeIn bs S2 i' seed' k3 ds' (bks ++ [bucketV 2 id 1 ns']) := by rw [← hS2]; constructor <;> simp [q2.t0, q2.t3, q2.b0, q2.b3, kb0, kb3, bucketV]
    obtain ⟨s'', i'', seed'', ds'', bks'', hs'', r1, r2, r3, r4, r5, r6, r7, r8, r9, r10, r11, r12, r13⟩ := ih S2 i' seed' k3 ds' (bks ++ [bucketV 2 id 1 ns']) (id - 1) (hs ++ [id]) (by omega) (by simp; omega) q5 (by simp; omega) (by
      intro b hbm
      rcases List.mem_append.1 hbm with hbm | hbm
      · exact h5 b hbm
      · simp at hbm; subst hbm; exact ⟨id, 1, ns', rfl, by simp at q6; omega⟩) (by omega) (by omega) (by omega) (by omega) hT2 (by rw [← hS2]; simp) (by rw [← hS2]; simp) (by rw [← hS2]; exact ⟨_, _, rfl, by simp, by simp, by simp⟩)
    refine ⟨s'', r1, i'', seed'', ds'', bks'', r2, by omega, by omega, r5, by simp at r6; omega, r7, ?_, hs'', r9, by simp at r10; omega, r11.trans (by rw [← hS2]; simp [q11]), r12.trans (by rw [← hS2]; simp [q9]), r13.trans (by rw [← hS2]; simp)⟩
    rw [r8, show id - 1 - (c : Int) = id - ((c + 1 : Nat) : Int) by omega]
    simp
theorem tree_l2 {bs : List PV} {V : List Nat} (hV : V = [0, 3, 4, 5, 6, 7, 8, 9, 10, 11, 12, 29]) : ∀ (c : Nat) (s : St) (f : Nat) (i seed : Int) (k3 : Nat) (ds bks : List PV) (id : Int) (fl : Nat) (hs tops : List Int), c ≤ 3 → hs.length ≤ f + 2 * c → hs.length ≤ 5 → f ≤ 10 → bks.length + c ≤ 9 → tops.length + c ≤ 3 → (∀ b ∈ bks, okBucket b) → -100 ≤ id - c → id ≤ 100 → TreeIn bs s i seed k3 ds bks → s.t 11 = .pv (.int .i64 f) → s.t 4 = .pv (.int .i64 id) → HolderP s 5 (.sl fl ty_int64 (hs.map (PV.int .i64))) → HolderP s 10 (.sl 2 ty_int64 (tops.map (PV.int .i64))) →
    ∃ (s' : St) (bks' : List PV) (id' : Int) (tops' : List Int), EX CC V pf_spec_l06Draw_l2 s = some (.exit 4, s') ∧ TreeIn bs s' i seed k3 ds bks' ∧ bks.length ≤ bks'.length ∧ bks'.length ≤ bks.length + c ∧ (∀ b ∈ bks', okBucket b) ∧ s'.t 4 = .pv (.int .i64 id') ∧ -100 ≤ id' ∧ id' ≤ 100 ∧ HolderP s' 10 (.sl 2 ty_int64 (tops'.map (PV.int .i64))) ∧ tops'.length ≤ tops.length + c ∧ s'.t 2 = s.t 2 ∧ s'.m.b 2 = s.m.b 2 ∧ s'.m.kb 2 = s.m.kb 2 := by
  subst hV
  intro c
  induction c with
  | zero =>
    intro s f i seed k3 ds bks id fl hs tops h1 h2 h3 h4 h5 h6 h7 h8 h9 h t11 t4 h5' h10
    obtain ⟨k, kn, e1, e2, e4, e3⟩ := h5'
    obtain ⟨j, jn, g1, g2, g4, g3⟩ := h10
    have hlt : ¬ (f : Int) < hs.length := by omega
    rw [ex_spec_l06Draw_l2]
    simp [pf_spec_l06Draw_lb2, t11, t4, e1, e2, e3, hlt]
    refine ⟨bks, ?_, by omega, by omega, h7, by omega, by omega, tops, ⟨j, jn, by simpa using g1, g2, g4, g3⟩, by omega⟩
    constructor <;> simp [h.t0, h.t3, h.kb0, h.kb3, h.b0, h.b3]
  | succ c ih =>
    intro s f i seed k3 ds bks id fl hs tops h1 h2 h3 h4 h5 h6 h7 h8 h9 h t11 t4 h5' h10
    obtain ⟨k, kn, e1, e2, e4, e3⟩ := h5'
    obtain ⟨j, jn, g1, g2, g4, g3⟩ := h10
    rw [ex_spec_l06Draw_l2]
    by_cases hlt : (f : Int) < hs.length
    · have f1 : (bks.length + 1) * 40 ≤ 140737488355328 := by omega
      have f2 : bks.length + 1 ≤ 9223372036854775807 := by omega
      have f3 : (tops.length + 1) * 8 ≤ 140737488355328 := by omega
      have f4 : tops.length + 1 ≤ 9223372036854775807 := by omega
      have hown : ∀ xs : List PV, xs.length ≤ 10 → RUN CC fn_spec_l00Own [.sl 0 ty_int64 xs] = some ([.sl 2 ty_int64 xs], []) := fun xs hx => run_l00Own (by omega)
      have hle : f ≤ hs.length := by omega
      have htake : (hs.map (PV.int .i64)).take hs.length = hs.map (PV.int .i64) := List.take_of_length_le (by simp)
      by_cases hto : (hs.length : Int) < f + 2
      · simp (disch := first | omega | (simp; omega)) [pf_spec_l06Draw_lb2, t11, t4, e1, e2, e3, e4, g1, g2, g3, hlt, hle, hto, htake, h.t3, h.kb3, h.b3, f1, f2, f3, f4, IntWalk.i64_in, hown]
        generalize hS : ({ t := _, m := _ } : St) = S
        have hT : TreeIn bs S i seed k3 ds (bks ++ [bucketV 2 id 2 (hs.drop f)]) := by rw [← hS]; constructor <;> simp [h.t0, h.t3, h.kb0, h.kb3, h.b0, bucketV, List.map_drop, List.map_take]
        obtain ⟨s', bks', id', tops', r1, r2, r3, r4, r5, r6, r7, r8, r9, r10, r11, r12, r13⟩ := ih S (f + 2) i seed k3 ds (bks ++ [bucketV 2 id 2 (hs.drop f)]) (id - 1) 0 hs (tops ++ [id]) (by omega) (by omega) h3 (by omega) (by simp; omega) (by simp; omega) (by
          intro b hbm
          rcases List.mem_append.1 hbm with hbm | hbm
          · exact h7 b hbm
          · simp only [List.mem_singleton] at hbm; subst hbm; exact ⟨id, 2, _, rfl, by simp; omega⟩) (by omega) (by omega) hT (by rw [← hS]; simp) (by rw [← hS]; simp) (by rw [← hS]; exact ⟨k, kn, by simp [e1], by simp [e2], e4, by simp⟩) (by rw [← hS]; exact ⟨_, _, rfl, by simp, by simp, by simp⟩)
        exact ⟨s', r1, bks', r2, by simp at r3; omega, by simp at r4; omega, r5, id', r6, r7, r8, tops', r9, by simp at r10; omega, r11.trans (by rw [← hS]; simp), r12.trans (by rw [← hS]; simp), r13.trans (by rw [← hS])⟩
      · have hle2 : f + 2 ≤ hs.length := by omega
        have hle3 : (f : Int) + 2 ≤ hs.length := by omega
        have hle4 : (f : Int) ≤ f + 2 := by omega
        have htn : ((f : Int) + 2).toNat = f + 2 := by omega
        simp (disch := first | omega | (simp; omega)) [pf_spec_l06Draw_lb2, t11, t4, e1, e2, e3, e4, g1, g2, g3, hlt, hle, hto, hle2, hle3, hle4, htn, h.t3, h.kb3, h.b3, f1, f2, f3, f4, IntWalk.i64_in, hown]
        generalize hS : ({ t := _, m := _ } : St) = S
        have hT : TreeIn bs S i seed k3 ds (bks ++ [bucketV 2 id 2 ((hs.take (f + 2)).drop f)]) := by rw [← hS]; constructor <;> simp [h.t0, h.t3, h.kb0, h.kb3, h.b0, bucketV, List.map_drop, List.map_take]
        obtain ⟨s', bks', id', tops', r1, r2, r3, r4, r5, r6, r7, r8, r9, r10, r11, r12, r13⟩ := ih S (f + 2) i seed k3 ds (bks ++ [bucketV 2 id 2 ((hs.take (f + 2)).drop f)]) (id - 1) 0 hs (tops ++ [id]) (by omega) (by omega) h3 (by omega) (by simp; omega) (by simp; omega) (by
          intro b hbm
          rcases List.mem_append.1 hbm with hbm | hbm
          · exact h7 b hbm
          · simp only [List.mem_singleton] at hbm; subst hbm; exact ⟨id, 2, _, rfl, by simp; omega⟩) (by omega) (by omega) hT (by rw [← hS]; simp) (by rw [← hS]; simp) (by rw [← hS]; exact ⟨k, kn, by simp [e1], by simp [e2], e4, by simp⟩) (by rw [← hS]; exact ⟨_, _, rfl, by simp, by simp, by simp⟩)
        exact ⟨s', r1, bks', r2, by simp at r3; omega, by simp at r4; omega, r5, id', r6, r7, r8, tops', r9, by simp at r10; omega, r11.trans (by rw [← hS]; simp), r12.trans (by rw [← hS]; simp), r13.trans (by rw [← hS])⟩
    · simp (disch := omega) [pf_spec_l06Draw_lb2, t11, t4, e1, e2, e3, hlt]
      refine ⟨bks, ?_, by omega, by omega, h7, by omega, by omega, tops, ⟨j, jn, by simpa using g1, g2, g4, g3⟩, by omega⟩
      constructor <;> simp [h.t0, h.t3, h.kb0, h.kb3, h.b0, h.b3]
theorem run_l06Draw {bs : List PV} {i : Int} (seed : Int) (hb : okBytes bs) (hi : 0 ≤ i) (hi2 : i ≤ 100) : ∃ (ds bks : List PV) (i' seed' : Int), RUN CC fn_spec_l06Draw [src bs i seed] = some ([.agg [.sl 2 ty_impl_Device ds, .sl 2 ty_impl_Bucket bks]], [src bs i' seed']) ∧ ds.length ≤ 16 ∧ 1 ≤ bks.length ∧ bks.length ≤ 16 ∧ ∀ b ∈ bks, okBucket b := by
  rw [RUN_eq, prog_spec_l06Draw]
  obtain ⟨x, i1, s1, a1, a2, a3, a4, a5⟩ := run_pick (i := i) seed 4 hb hi (by omega)
  simp only [src] at a1
  simp (disch := omega) [pf_spec_l06Draw, src, a1, IntWalk.i64_in]
  generalize hE : EX CC _ pf_spec_l06Draw_l1 _ = E
  revert hE
  generalize hS : ({ t := _, m := _ } : St) = S
  intro hE
  have hT : TreeIn bs S i1 s1 1 [] [] := by rw [← hS]; constructor <;> simp
  obtain ⟨s', i2, s2, ds, bks, hs, q1, q2, q3, q4, q5, q6, q7, q8, ⟨k, kn, e1, e2, e4, e3⟩, q10, q11, q12, q13⟩ := tree_l1 hb rfl (2 + x).toNat S i1 s1 1 [] [] (-1) [] (by omega) (by simp; omega) (by simp) (by simp; omega) (by simp) (by omega) (by omega) (by omega) (by omega) hT (by rw [← hS]; simp; omega) (by rw [← hS]; simp) (by rw [← hS]; exact ⟨_, _, rfl, by simp, by simp, by simp⟩)
  rw [hE] at q1
  subst q1
  rw [← hS] at q11 q12 q13
  simp at q11 q12 q13 q6 q10
  obtain ⟨z, i3, s3, b1, b2, b3⟩ := run_one (i := i2) s2 2 hb (by omega) (by omega)
  simp only [src] at b1
  have hown : ∀ xs : List PV, xs.length ≤ 10 → RUN CC fn_spec_l00Own [.sl 0 ty_int64 xs] = some ([.sl 2 ty_int64 xs], []) := fun xs hx => run_l00Own (by omega)
  have f1 : (bks.length + 1) * 40 ≤ 140737488355328 := by omega
  have f2 : bks.length + 1 ≤ 9223372036854775807 := by omega
  have hid : (((2 + x).toNat : Nat) : Int) = 2 + x := by omega
  rw [hid] at q8
  have okb : ∀ (l : List PV) (id kind : Int) (ns : List Int), (∀ b ∈ l, okBucket b) → ns.length ≤ 16 → ∀ b ∈ l ++ [bucketV 2 id kind ns], okBucket b := by
    intro l id kind ns hl hn b hbm
    rcases List.mem_append.1 hbm with hbm | hbm
    · exact hl b hbm
    · simp only [List.mem_singleton] at hbm; subst hbm; exact ⟨id, kind, ns, rfl, hn⟩
  cases z with
  | false =>
    refine ⟨ds, bks ++ [bucketV 2 (-1 - (2 + x)) 3 hs], ⟨i3, s3, ?_⟩, q5, by simp, by simp; omega, okb _ _ _ _ q7 (by omega)⟩
    simp (disch := first | omega | (simp; omega)) [q2.t0, q2.t3, q2.b0, q2.b3, q2.kb0, q2.kb3, q8, q11, q12, q13, e1, e2, e3, b1, hown, f1, f2, bucketV]
  | true =>
    simp (disch := first | omega | (simp; omega)) [q2.t0, q2.t3, q2.b0, q2.b3, q2.kb0, q2.kb3, q8, q11, q12, q13, e1, e2, e3, b1]
    generalize hE2 : EX CC _ pf_spec_l06Draw_l2 _ = E2
    revert hE2
    generalize hS2 : ({ t := _, m := _ } : St) = S2
    intro hE2
    have hT2 : TreeIn bs S2 i3 s3 1 ds bks := by rw [← hS2]; constructor <;> simp [q2.t0, q2.t3, q2.b3, q2.kb0, q2.kb3]
    obtain ⟨s'', bks', id', tops, r1, r2, r3, r4, r5, r6, r7, r8, ⟨j, jn, g1, g2, g4, g3⟩, r10, r11, r12, r13⟩ := tree_l2 rfl 3 S2 0 i3 s3 1 ds bks (-1 - (2 + x)) 2 hs [] (by omega) (by omega) (by omega) (by omega) (by omega) (by simp) q7 (by omega) (by omega) hT2 (by rw [← hS2]; simp) (by rw [← hS2]; simp [q8]) (by rw [← hS2]; exact ⟨k, kn, by simp [e1], by simp [e2], e4, by simp [e3]⟩) (by rw [← hS2]; exact ⟨_, _, rfl, by simp, by simp, by simp⟩)
    rw [hE2] at r1
    subst r1
    rw [← hS2] at r11 r12 r13
    simp [q11, q12, q13] at r11 r12 r13
    have f1' : (bks'.length + 1) * 40 ≤ 140737488355328 := by omega
    have f2' : bks'.length + 1 ≤ 9223372036854775807 := by omega
    simp at r10
    refine ⟨ds, bks' ++ [bucketV 2 id' 3 tops], ⟨i3, s3, ?_⟩, q5, by simp, by simp; omega, okb _ _ _ _ r5 (by omega)⟩
    simp (disch := first | omega | (simp; omega)) [r2.t0, r2.t3, r2.b0, r2.b3, r2.kb0, r2.kb3, r6, r11, r12, r13, g1, g2, g3, hown, f1', f2', bucketV]
    trace_state
end Go.Proofs.Ytjifplkdfebilaa.Pv
/- FnPgs in the plain reading: it returns true for each code. No condition. -/
namespace Go.Proofs.Ytjifplkdfebilaa.Pv
open Go
set_option maxRecDepth 10000
set_option linter.unusedSimpArgs false

theorem demL_last {bks : List PV} (hn : 1 ≤ bks.length) (hb : ∀ b ∈ bks, okBucket b) : ∃ (h : (demL bks).length - 1 < (demL bks).length) (id kind : Int) (items : List Int), (demL bks)[(demL bks).length - 1] = bucketV 0 id kind items := by
  have hl : (demL bks).length = bks.length := by rw [demL_map, List.length_map]
  refine ⟨by omega, ?_⟩
  obtain ⟨id, kind, items, e, _⟩ := hb bks[bks.length - 1] (List.getElem_mem (by omega))
  refine ⟨id, kind, items, ?_⟩
  simp only [demL_map, List.getElem_map, List.length_map, e, bucketV, PV.dem, demL, demL_ints]
  simp [demL_map]
theorem run_A8Tree {bs : List PV} (hb : okBytes bs) : ∃ (ds bks : List PV), RUN CC fn_spec_A8Tree [.sl 0 ty_uint8 bs] = some ([.agg [.sl 2 ty_impl_Device ds, .sl 2 ty_impl_Bucket bks]], []) ∧ ds.length ≤ 16 ∧ 1 ≤ bks.length ∧ bks.length ≤ 16 ∧ ∀ b ∈ bks, okBucket b := by
  rw [RUN_eq, prog_spec_A8Tree]
  obtain ⟨ds, bks, i', s', h1, h2, h3, h4, h5⟩ := run_l06Draw (i := 0) 0 hb (by omega) (by omega)
  refine ⟨ds, bks, ?_, h2, h3, h4, h5⟩
  simp only [src] at h1
  simp [pf_spec_A8Tree, h1]
theorem pgsL_get (p : Int) (n j : Nat) (h : j < n) : (pgsL p 0 n)[j]'(by simpa [pgsL] using h) = pgV p j := by simp [pgsL]
theorem FnPgs_loop {id : Int} {n : Nat} {V : List Nat} (hV : V = [0, 3, 4, 5, 6, 7, 8, 9, 10, 11, 12, 13, 14, 27, 33, 40, 44, 51, 56, 61, 68, 73, 94, 103, 114, 122, 130, 133, 140, 146]) (hn : n ≤ 16) {c1 c2 c3 c4 c5 : AV} {k4 : Nat} : ∀ (d i : Nat) (s : St), n - i = d → i ≤ n → s.t 10 = .pv (.int .i64 i) → Holder s 8 (.sl 2 ty_impl_Pg (pgsL id 0 n)) → s.t 4 = .ptr 4 k4 0 → s.m.kb 4 = k4 → s.m.b 4 = some [.pv (.int .i64 id), c1, c2, c3, c4, c5] →
    ∃ s', EX CC V pf_laws_FnPgs_l0 s = some (.exit 0, s') ∧ s'.t 4 = s.t 4 ∧ s'.t 5 = s.t 5 ∧ s'.t 6 = s.t 6 ∧ s'.m = s.m := by
  subst hV
  intro d
  induction d with
  | zero =>
    intro i s h1 h2 t10 ⟨k, kn, e1, e2, e3⟩ t4 kb4 b4
    have hl : (pgsL id 0 n).length = n := by simp [pgsL]
    have hlt : ¬ (i : Int) < n := by omega
    rw [ex_laws_FnPgs_l0]
    simp [pf_laws_FnPgs_lb0, t10, e1, e2, e3, hl, hlt]
  | succ d ih =>
    intro i s h1 h2 t10 ⟨k, kn, e1, e2, e3⟩ t4 kb4 b4
    have hl : (pgsL id 0 n).length = n := by simp [pgsL]
    have hlt : (i : Int) < n := by omega
    have hi : i < n := by omega
    have hg : (pgsL id 0 n)[i]? = some (pgV id i) := by rw [List.getElem?_eq_getElem (by rw [hl]; exact hi), pgsL_get _ _ _ hi]
    have hg2 := pgsL_get id n i hi
    rw [ex_laws_FnPgs_l0]
    simp (disch := omega) [pf_laws_FnPgs_lb0, t10, e1, e2, e3, hl, hlt, t4, kb4, b4, idx_ok, hg, hg2, pgV, IntWalk.i64_in]
    generalize hS : ({ t := _, m := _ } : St) = S
    obtain ⟨s', q1, q2, q3, q4, q5⟩ := ih (i + 1) S (by omega) (by omega) (by rw [← hS]; simp) (by rw [← hS]; exact ⟨k, kn, by simp [e1], e2, e3⟩) (by rw [← hS]; simp [t4]) (by rw [← hS]; exact kb4) (by rw [← hS]; exact b4)
    exact ⟨s', q1, q2.trans (by rw [← hS]; simp [t4]), q3.trans (by rw [← hS]; simp), q4.trans (by rw [← hS]; simp), q5.trans (by rw [← hS])⟩
theorem mod_twice {w n : Int} (hw : 0 ≤ w) (hn : 1 ≤ n) : w.tmod (n * 2) = w.tmod n ∨ w.tmod (n * 2) = w.tmod n + n := by
  rw [Int.tmod_eq_emod_of_nonneg hw, Int.tmod_eq_emod_of_nonneg hw]
  have h1 : w % (n * 2) % n = w % n := Int.emod_emod_of_dvd w ⟨2, rfl⟩
  have h2 := Int.emod_nonneg w (b := n * 2) (by omega)
  have h3 := Int.emod_lt_of_pos w (b := n * 2) (by omega)
  generalize w % (n * 2) = r at *
  rw [← h1]
  by_cases h : r < n
  · left; exact (Int.emod_eq_of_lt h2 h).symm
  · right
    have : r % n = (r - n) % n := by rw [Int.sub_emod_right]
    rw [this, Int.emod_eq_of_lt (by omega) (by omega)]
    omega
theorem run_FnPgs {bs : List PV} (hb : ∀ x ∈ bs, ∃ b, x = .int .u8 b ∧ 0 ≤ b ∧ b ≤ 255) : RUN CC fn_laws_FnPgs [.sl 0 ty_uint8 bs] = some ([.bool true], []) := by
  rw [RUN_eq, prog_laws_FnPgs]
  by_cases hlen : 1048576 < (bs.length : Int)
  · simp [pf_laws_FnPgs, hlen]
  have hok : okBytes bs := ⟨by omega, hb⟩
  obtain ⟨ds, bks, t1, t2, t3, t4, t5⟩ := run_A8Tree hok
  obtain ⟨hl, root, kind, items, hlast⟩ := demL_last t3 t5
  have hl2 : (demL bks).length = bks.length := by rw [demL_map, List.length_map]
  obtain ⟨rid, k, c, r1, r2, r3⟩ := run_A8Rule (ds := demL ds) hok (by rw [hl2]; omega) (by rw [hl2]; omega) hlast
  obtain ⟨id, ck, cm, mn, pgs, p1, p2⟩ := run_A8Pool hok rid root k c r2
  obtain ⟨nm, n1, n2⟩ := run_A8Name hok
  have hbnd : 1 ≤ pgs ∧ pgs ≤ 16 := by unfold poolOk at p2; omega
  have g1 := run_PgOf (nm := nm) p2 n2
  have g2 := run_PgsIn p2
  have hsz : (nm.size : Int) ≤ 4611686018427387904 := by
    rw [size_list]
    simp only [nameOk, Bool.and_eq_true, decide_eq_true_eq] at n2
    omega
  have g3 := run_NameOk nm hsz
  rw [n2] at g3
  have g4 := run_PoolOk id ck cm mn pgs rid
  have hlp : (pgsL id 0 pgs.toNat).length = pgs.toNat := by simp [pgsL]
  have htn : ((pgs.toNat : Nat) : Int) = pgs := by omega
  have hm := mixOf_in (wordsOf nm.data.toList)
  have hno : 0 ≤ pgNo nm pgs ∧ pgNo nm pgs < pgs := ⟨Int.tmod_nonneg _ (by omega), Int.tmod_lt_of_pos _ (by omega)⟩
  have hn1 : ¬ pgNo nm pgs < 0 := by omega
  have hn2 : ¬ pgs ≤ pgNo nm pgs := by omega
  simp only [pgV] at g1
  simp (disch := first | omega | (simp; omega)) [pf_laws_FnPgs, hlen, t1, r1, p1, n1, g1, g2, g3, g4, p2, hlp, htn, hn1, hn2]
  generalize hE : EX CC _ pf_laws_FnPgs_l0 _ = E
  revert hE
  generalize hS : ({ t := _, m := _ } : St) = S
  intro hE
  obtain ⟨s', rfl, q2, q3, q4, q5⟩ : ∃ s', E = some (.exit 0, s') ∧ s'.t 4 = S.t 4 ∧ s'.t 5 = S.t 5 ∧ s'.t 6 = S.t 6 ∧ s'.m = S.m := by
    rw [← hE]
    exact FnPgs_loop rfl (n := pgs.toNat) (id := id) (k4 := 1) (c1 := .pv (.int .i64 ck)) (c2 := .pv (.int .i64 cm)) (c3 := .pv (.int .i64 mn)) (c4 := .pv (.int .i64 pgs)) (c5 := .pv (.int .i64 rid)) (by omega) pgs.toNat 0 S (by omega) (by omega) (by rw [← hS]; simp) (by rw [← hS]; exact ⟨_, _, rfl, by simp, by simp⟩) (by rw [← hS]; simp) (by rw [← hS]; simp) (by rw [← hS]; simp)
  rw [← hS] at q2 q3 q4 q5
  simp at q2 q3 q4
  have hsp := run_Split p2
  by_cases hmany : 16 < 2 * pgs
  · rw [if_pos hmany] at hsp
    simp (disch := first | omega | (simp; omega)) [q2, q3, q4, q5, hsp, hmany, IntWalk.i64_in]
  · rw [if_neg hmany] at hsp
    have p3 : poolOk id ck cm mn (pgs * 2) rid := by unfold poolOk codeOk at *; omega
    have g5 := run_PgOf (nm := nm) p3 n2
    simp only [pgV] at g5
    have e2 : pgs * 2 = 2 * pgs := by omega
    have hch : pgNo nm (pgs * 2) = pgNo nm pgs ∨ pgNo nm (pgs * 2) = pgNo nm pgs + pgs := mod_twice hm.1 hbnd.1
    have hw1 : IntKind.i64.wrap (2 * pgs) = pgs * 2 := by rw [IntWalk.i64_in _ (by omega)]; omega
    have hw2 : IntKind.i64.wrap (pgNo nm pgs + pgs) = pgNo nm pgs + pgs := IntWalk.i64_in _ (by omega)
    have hmany2 : ¬ 16 < pgs * 2 := by omega
    by_cases hc1 : pgNo nm (pgs * 2) = pgNo nm pgs
    · simp (disch := first | omega | (simp; omega)) [q2, q3, q4, q5, hsp, hmany, hmany2, hw1, hw2, g5, hc1]
    · have hc2 := hch.resolve_left hc1
      have hz : ¬ pgs = 0 := by omega
      have hz2 : ¬ pgNo nm pgs + pgs = pgNo nm pgs := by omega
      simp (disch := first | omega | (simp; omega)) [q2, q3, q4, q5, hsp, hmany, hmany2, hw1, hw2, g5, hc2, hz, hz2]
end Go.Proofs.Ytjifplkdfebilaa.Pv
