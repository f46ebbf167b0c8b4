/- For every pool: the program's PgsIn returns what the reference's returns; what it returns is new memory, and a second call leaves it as it was written. No condition. -/
import Derived.Test.YtjifplkdfebilaaRows
import Derived.Test.YtjifplkdfebilaaGenRow
import Derived.Test.YtjifplkdfebilaaPFnExactPgsInx4
namespace Go.Proofs.Ytjifplkdfebilaa.PgsIn
open Go.RowKit Go.ChangeShapes Go.WideShapes Go.Proofs.Ytjifplkdfebilaa.PFnExactPgsIn Go.Proofs.YtjifplkdfebilaaW.PrintWords

theorem wrap_id {n : Int} (h0 : -9223372036854775808 ≤ n) (h1 : n ≤ 9223372036854775807) : wrap64 n = n := by unfold wrap64; omega

def from_ (id : Int) : Nat → Int → List S48
  | 0, _ => []
  | d + 1, i => ⟨id, i⟩ :: from_ id d (i + 1)
theorem from_length (id : Int) : ∀ d i, (from_ id d i).length = d
  | 0, _ => rfl
  | d + 1, i => by simp [from_, from_length id d]

theorem spec_pgs (a b c e n f : Int) (hn : n ≤ 16) : ∀ (d k : Nat) (xs : List S48) (i : Int), 0 ≤ i → n - i = d → d < k → (xs.length : Int) = i →
    spec_l09Pgs.l0 k xs i a b c e n f = some (xs ++ from_ a d i) := by
  intro d
  induction d with
  | zero =>
    intro k xs i h0 hd hk hl
    obtain ⟨k, rfl⟩ : ∃ m, k = m + 1 := ⟨k - 1, by omega⟩
    simp only [spec_l09Pgs.l0]; rw [if_neg (by omega)]; simp [from_]
  | succ d ih =>
    intro k xs i h0 hd hk hl
    obtain ⟨k, rfl⟩ : ∃ m, k = m + 1 := ⟨k - 1, by omega⟩
    simp only [spec_l09Pgs.l0]; rw [if_pos (by omega), if_pos (by omega), wrap_id (by omega) (by omega), ih k _ (i + 1) (by omega) (by omega) (by omega) (by simp; omega)]
    simp [from_]

theorem impl_pgs (a b c e n f m : Int) (hn : m ≤ 16) : ∀ (d k : Nat) (xs : List S48) (i : Int), 0 ≤ i → m - i = d → d < k → (xs.length : Int) = i →
    impl_Pool_pgs.l0 k xs m i a b c e n f = some (xs ++ from_ a d i) := by
  intro d
  induction d with
  | zero =>
    intro k xs i h0 hd hk hl
    obtain ⟨k, rfl⟩ : ∃ m, k = m + 1 := ⟨k - 1, by omega⟩
    simp only [impl_Pool_pgs.l0]; rw [if_neg (by omega)]; simp [from_]
  | succ d ih =>
    intro k xs i h0 hd hk hl
    obtain ⟨k, rfl⟩ : ∃ m, k = m + 1 := ⟨k - 1, by omega⟩
    simp only [impl_Pool_pgs.l0]; rw [if_pos (by omega), if_pos (by omega), wrap_id (by omega) (by omega), ih k _ (i + 1) (by omega) (by omega) (by omega) (by simp; omega)]
    simp [from_]

theorem rd_at (xs ys : List S48) (y : S48) (i : Int) (h0 : 0 ≤ i) (h : (xs.length : Int) = i) : rd_T48 (xs ++ y :: ys) i = y := by
  have e : i.toNat = xs.length := by omega
  simp [rd_T48, List.getD_eq_getElem?_getD, e]

theorem set_at (xs ys : List S48) (y z : S48) (i : Int) (h0 : 0 ≤ i) (h : (xs.length : Int) = i) : (xs ++ y :: ys).set i.toNat z = xs ++ z :: ys := by
  have : i.toNat = xs.length := by omega
  rw [this]; simp

theorem eq_same : ∀ (ys xs : List S48) (k : Nat) (i : Int), 0 ≤ i → (xs.length : Int) = i → ys.length < k → xs.length + ys.length ≤ 16 →
    laws_eqPgS.l0 k (xs ++ ys) (xs ++ ys) i = some true := by
  intro ys
  induction ys with
  | nil =>
    intro xs k i h0 hl hk hm
    obtain ⟨k, rfl⟩ : ∃ m, k = m + 1 := ⟨k - 1, by omega⟩
    simp only [laws_eqPgS.l0]; rw [if_neg (by simp; omega)]
  | cons y ys ih =>
    intro xs k i h0 hl hk hm
    obtain ⟨k, rfl⟩ : ∃ m, k = m + 1 := ⟨k - 1, by omega⟩
    have hlt : i < ((xs ++ y :: ys).length : Int) := by simp; omega
    simp only [laws_eqPgS.l0]; rw [if_pos hlt, if_pos h0, if_pos hlt, rd_at _ _ _ _ h0 hl]
    simp only [laws_eqPg.f, if_true, Option.bind_some]
    rw [wrap_id (by omega) (by simp at hm; omega)]
    have := ih (xs ++ [y]) k (i + 1) (by omega) (by simp; omega) (by simp at hk; omega) (by simp at hm ⊢; omega)
    simpa using this

def marked : List S48 → Int → List S48
  | [], _ => []
  | _ :: xs, k => ⟨k, k + 1⟩ :: marked xs (k + 2)
theorem marked_length : ∀ xs k, (marked xs k).length = xs.length
  | [], _ => rfl
  | _ :: xs, k => by simp [marked, marked_length xs]

theorem mark_does : ∀ (ys xs : List S48) (k : Nat) (c i : Int), 0 ≤ i → (xs.length : Int) = i → ys.length < k → xs.length + ys.length ≤ 16 → 0 ≤ c → c + 2 * ys.length ≤ 1000 →
    laws_markPgS.l0 k (xs ++ ys) c i = some (c + 2 * ys.length, xs ++ marked ys c) := by
  intro ys
  induction ys with
  | nil =>
    intro xs k c i h0 hl hk hm _ _
    obtain ⟨k, rfl⟩ : ∃ m, k = m + 1 := ⟨k - 1, by omega⟩
    simp only [laws_markPgS.l0]; rw [if_neg (by simp; omega)]; simp [marked]
  | cons y ys ih =>
    intro xs k c i h0 hl hk hm hc hc2
    obtain ⟨k, rfl⟩ : ∃ m, k = m + 1 := ⟨k - 1, by omega⟩
    have hlt : i < ((xs ++ y :: ys).length : Int) := by simp; omega
    simp only [List.length_cons] at hc2 hk hm
    simp only [laws_markPgS.l0]; rw [if_pos hlt, if_pos h0, rd_at _ _ _ _ h0 hl, set_at _ _ _ _ _ h0 hl]
    simp only [Option.bind_some]
    rw [rd_at _ _ _ _ h0 hl, set_at _ _ _ _ _ h0 hl, wrap_id (n := c + 1) (by omega) (by omega), wrap_id (n := c + 1 + 1) (by omega) (by omega), wrap_id (by omega) (by omega)]
    have := ih (xs ++ [⟨c, c + 1⟩]) k (c + 1 + 1) (i + 1) (by omega) (by simp; omega) (by omega) (by simp; omega) (by omega) (by omega)
    simp only [List.append_assoc, List.singleton_append] at this
    rw [this]
    simp only [marked, List.length_cons]
    congr 1
    have e : c + 1 + 1 = c + 2 := by omega
    rw [e]
    simp; omega

theorem held_does : ∀ (ys xs : List S48) (k : Nat) (c i : Int), 0 ≤ i → (xs.length : Int) = i → ys.length < k → xs.length + ys.length ≤ 16 → 0 ≤ c → c + 2 * ys.length ≤ 1000 →
    laws_heldPgS.l0 k (xs ++ marked ys c) c i = some (c + 2 * ys.length) := by
  intro ys
  induction ys with
  | nil =>
    intro xs k c i h0 hl hk hm _ _
    obtain ⟨k, rfl⟩ : ∃ m, k = m + 1 := ⟨k - 1, by omega⟩
    rw [show marked ([] : List S48) c = [] from rfl]
    have hge : ¬ i < ((xs ++ ([] : List S48)).length : Int) := by simp; omega
    simp only [laws_heldPgS.l0]; rw [if_neg hge]; simp
  | cons y ys ih =>
    intro xs k c i h0 hl hk hm hc hc2
    obtain ⟨k, rfl⟩ : ∃ m, k = m + 1 := ⟨k - 1, by omega⟩
    simp only [List.length_cons] at hc2 hk hm
    simp only [marked]
    have hlt : i < ((xs ++ ⟨c, c + 1⟩ :: marked ys (c + 2)).length : Int) := by simp; omega
    simp only [laws_heldPgS.l0]; rw [if_pos hlt, if_pos h0, rd_at _ _ _ _ h0 hl]
    simp only [if_true]
    rw [wrap_id (n := c + 1) (by omega) (by omega), if_pos rfl, wrap_id (n := c + 1 + 1) (by omega) (by omega), wrap_id (by omega) (by omega)]
    have := ih (xs ++ [⟨c, c + 1⟩]) k (c + 2) (i + 1) (by omega) (by simp; omega) (by omega) (by simp; omega) (by omega) (by omega)
    simp only [List.append_assoc, List.singleton_append] at this
    have e : c + 1 + 1 = c + 2 := by omega
    rw [e, this]
    simp; omega

theorem ok_same (a b c d e f : Int) : spec_l09OK.f a b c d e f = impl_PoolOk.f a b c d e f := rfl

theorem between_is (a b c : Int) : impl_between.f a b c = some (decide (b ≤ a ∧ a ≤ c)) := by
  unfold impl_between.f
  by_cases h : a ≥ b
  · rw [if_pos h]; congr 1; simp [show b ≤ a from h]
  · rw [if_neg h]; congr 1; simp; omega

theorem ok_some (a b c d e f : Int) : ∃ r, impl_PoolOk.f a b c d e f = some r ∧ (r = true → 1 ≤ e ∧ e ≤ 16) := by
  unfold impl_PoolOk.f impl_CodeOk.f impl_Code_size.f
  simp only [between_is, Option.bind_some, decide_eq_true_eq]
  by_cases h1 : 1 ≤ a ∧ a ≤ 4
  · rw [if_pos h1]
    by_cases h2 : 1 ≤ b ∧ b ≤ 4
    · rw [if_pos h2]; simp only [Option.bind_some, decide_eq_true_eq]
      by_cases h3 : 0 ≤ c ∧ c ≤ 3
      · rw [if_pos h3]
        by_cases h4 : b ≤ d ∧ d ≤ wrap64 (b + c)
        · rw [if_pos h4]
          by_cases h5 : 1 ≤ e ∧ e ≤ 16
          · rw [if_pos h5]; exact ⟨_, rfl, fun _ => h5⟩
          · rw [if_neg h5]; exact ⟨_, rfl, by simp⟩
        · rw [if_neg h4]; exact ⟨_, rfl, by simp⟩
      · rw [if_neg h3]; exact ⟨_, rfl, by simp⟩
    · rw [if_neg h2]; exact ⟨_, rfl, by simp⟩
  · rw [if_neg h1]; exact ⟨_, rfl, by simp⟩

theorem PgsIn_both (a b c d e f : Int) : ∃ (xs : List S48) (r : Bool), xs.length ≤ 16 ∧ ∀ k, 17 ≤ k → spec_PgsIn.f k a b c d e f = some (xs, r) ∧ impl_PgsIn.f k a b c d e f = some (xs, r) := by
  obtain ⟨r, hr, hb⟩ := ok_some a b c d e f
  cases r with
  | false => exact ⟨[], false, by simp, fun k _ => ⟨by unfold spec_PgsIn.f; rw [ok_same, hr]; rfl, by unfold impl_PgsIn.f; rw [hr]; rfl⟩⟩
  | true =>
    obtain ⟨h1, h2⟩ := hb rfl
    refine ⟨from_ a e.toNat 0, true, by rw [from_length]; omega, fun k hk => ⟨?_, ?_⟩⟩
    · unfold spec_PgsIn.f spec_l09Pgs.f; rw [ok_same, hr]; simp only [Option.bind_some, if_true]
      rw [spec_pgs a b c d e f h2 e.toNat k [] 0 (by omega) (by omega) (by omega) rfl]; rfl
    · unfold impl_PgsIn.f impl_Pool_pgs.f; rw [hr]; simp only [Option.bind_some, if_true]
      rw [impl_pgs a b c d e f e h2 e.toNat k [] 0 (by omega) (by omega) (by omega) rfl]; rfl

theorem pure (a b c d e f : Int) : ∃ k, laws_FnExactPgsIn.f k a b c d e f = some true := by
  obtain ⟨xs, r, hx, hb⟩ := PgsIn_both a b c d e f
  have hto : laws_toPool.f a b c d e f = some (a, b, c, d, e, f) := rfl
  have he : ∀ k, 17 ≤ k → laws_eqPgS.f k xs xs = some true := fun k hk => by
    unfold laws_eqPgS.f; rw [if_pos rfl]
    exact eq_same xs [] k 0 (by omega) rfl (by omega) (by simpa using hx)
  have hm : ∀ k, 17 ≤ k → laws_markPgS.f k xs 1 = some (1 + 2 * (xs.length : Int), marked xs 1) := fun k hk =>
    mark_does xs [] k 1 0 (by omega) rfl (by omega) (by simpa using hx) (by omega) (by omega)
  have hh : ∀ k, 17 ≤ k → laws_heldPgS.f k (marked xs 1) 1 = some (1 + 2 * (xs.length : Int)) := fun k hk =>
    held_does xs [] k 1 0 (by omega) rfl (by omega) (by simpa using hx) (by omega) (by omega)
  obtain ⟨m, hm17⟩ : ∃ m, 17 ≤ m := ⟨17, by omega⟩
  refine ⟨m + 2, ?_⟩
  unfold laws_FnExactPgsIn.f
  rw [hto]; simp only [Option.bind_some]
  rw [(hb (m + 2) (by omega)).1]; simp only [Option.bind_some]
  rw [(hb (m + 2) (by omega)).2]; simp only [Option.bind_some]
  rw [he (m + 2) (by omega)]; simp only [Option.bind_some, if_true, bne_self_eq_false]
  rw [laws_FnExactPgsIn.j0]
  rw [if_neg (by decide), hm (m + 1) (by omega)]; simp only [Option.bind_some]
  rw [hh (m + 1) (by omega)]; simp only [Option.bind_some]
  rw [if_neg (by omega), if_pos trivial, hto]; simp only [Option.bind_some]
  rw [(hb (m + 1) (by omega)).2]; simp only [Option.bind_some]
  rw [he (m + 1) (by omega)]; simp only [Option.bind_some, if_true, bne_self_eq_false]
  rw [laws_FnExactPgsIn.j1]
  rw [if_neg (by decide), hh m (by omega)]; simp only [Option.bind_some]
  rw [if_neg (by omega), if_pos trivial]

theorem own : ownKnob Try.prog.godebug = none := by kernel_rfl
theorem laidOut : laidOutB Try.prog = true := by kernel_rfl

set_option maxRecDepth 100000 in
theorem cell_at {W : World} {base : Nat} {cs : Array Value} {n : Nat} {ts : List TypeId} (hc : ∀ i v, cs[i]? = some v → ∃ u, ts[i % ts.length]? = some u ∧ Cell.okWide Try.prog W .any base u v)
    (hsz : cs.size = n) (i : Nat) (hi : i < n) {u : TypeId} (hu : ts[i % ts.length]? = some u) (hk : Try.prog.underlying u = some (.int .i64)) : ∃ z, cs[i]? = some (.int .i64 z) := by
  obtain ⟨v, hv⟩ : ∃ v, cs[i]? = some v := ⟨cs[i]'(by omega), by simp [show i < cs.size by omega]⟩
  obtain ⟨u', hu', hok⟩ := hc i v hv
  rw [hu] at hu'
  obtain rfl := Option.some.inj hu'
  have h2 : Value.okWide Try.prog W .any base u v := by unfold Value.okWide; rw [hk]; exact hok
  obtain ⟨z, rfl⟩ := okWide_int hk h2
  exact ⟨z, hv⟩

set_option maxRecDepth 100000 in
theorem walk (W : World) (base : Nat) (args : Array Value) (hval : ∀ (j : Nat) t v, Try.f3.params[j]? = some t → args[j]? = some v → Value.okWide Try.prog W .any base t v) (hsz : args.size = 1) :
    Calls Try.prog 3 args W fun e w' => e = .returned (.bool true) ∧ Below W.heap.size W w' := by
  obtain ⟨v, rfl⟩ : ∃ v, args = #[v] := ⟨args[0], by apply Array.ext <;> simp [hsz]; rintro i rfl; rfl⟩
  have h := hval 0 25 v (by rw [Try.params3]; rfl) rfl
  unfold Value.okWide at h
  rw [Try.underlying25] at h
  obtain ⟨cs, rfl, hn, ts, hts, -, hc⟩ := h
  rw [show Try.prog.cellsOf 25 = 6 by kernel_rfl] at hn
  rw [show Try.prog.cellTypes Try.prog.depth 25 = some [2, 2, 2, 2, 2, 2] by kernel_rfl] at hts
  obtain rfl := Option.some.inj hts
  have hk : Try.prog.underlying 2 = some (.int .i64) := by kernel_rfl
  obtain ⟨a, ha⟩ := cell_at hc hn 0 (by omega) (u := 2) rfl hk
  obtain ⟨b, hb⟩ := cell_at hc hn 1 (by omega) (u := 2) rfl hk
  obtain ⟨c, hcc⟩ := cell_at hc hn 2 (by omega) (u := 2) rfl hk
  obtain ⟨d, hd⟩ := cell_at hc hn 3 (by omega) (u := 2) rfl hk
  obtain ⟨e, he⟩ := cell_at hc hn 4 (by omega) (u := 2) rfl hk
  obtain ⟨f, hf⟩ := cell_at hc hn 5 (by omega) (u := 2) rfl hk
  obtain rfl : cs = #[.int .i64 a, .int .i64 b, .int .i64 c, .int .i64 d, .int .i64 e, .int .i64 f] := by
    apply Array.ext
    · simpa using hn
    · intro i h1 h2
      have : i < 6 := by omega
      have hx : cs[i]? = some cs[i] := by simp [h1]
      match i, this with
      | 0, _ => rw [hx] at ha; exact Option.some.inj ha
      | 1, _ => rw [hx] at hb; exact Option.some.inj hb
      | 2, _ => rw [hx] at hcc; exact Option.some.inj hcc
      | 3, _ => rw [hx] at hd; exact Option.some.inj hd
      | 4, _ => rw [hx] at he; exact Option.some.inj he
      | 5, _ => rw [hx] at hf; exact Option.some.inj hf
  obtain ⟨k, hp⟩ := pure a b c d e f
  exact laws_FnExactPgsIn.calls k a b c d e f true W hp

set_option maxRecDepth 100000 in
theorem proved : Rows.FnExactPgsInSaid :=
  OpenClaim.holds_of_wide 3 Try.f3 rfl rfl rfl rfl rfl rfl rfl ⟨rfl, rfl, rfl, rfl, rfl⟩ rfl rfl rfl rfl rfl (by kernel_rfl) Try.func3 (by kernel_rfl)
    (of_decide_eq_true (by kernel_rfl)) (by unfold Func.isWrapper; first | (rw [if_pos (by decide +kernel)]; kernel_rfl) | (rw [if_neg (by decide +kernel)]; exact ⟨rfl, rfl⟩))
    (fun os started H enc _ => Gen.law_lifted (s := Rows.fnExactPgsInSpec) (tb := 4) os started enc own laidOut (by kernel_rfl) Try.func3 rfl (fun ds h => by
        match ds, h with
        | [d], _ => rfl) rfl (by kernel_rfl) (of_decide_eq_true (by kernel_rfl))
      (ChangeSpec.witness6 (enc := enc) (C := Try.checked) false ⟨#[], #[.agg #[.int .i64 0, .int .i64 0, .int .i64 0, .int .i64 0, .int .i64 0, .int .i64 0]], []⟩ 8 (by kernel_rfl) (by kernel_rfl) (by kernel_rfl) (by kernel_rfl))
      (fun W base args ds p hval hA _ => walk W base args hval (by
        have e : Try.f3.params.toList = [25] := by rw [Try.params3]
        rw [e] at hA
        obtain ⟨v, vs, d, ds', p, q, h1, rfl, rfl, _, h2⟩ := Go.ChangeShapes.trodAll_cons hA
        obtain ⟨rfl, _, _⟩ := Go.ChangeShapes.trodAll_nil h2
        have := congrArg List.length h1
        simpa using this)))
#print axioms proved
end Go.Proofs.Ytjifplkdfebilaa.PgsIn
namespace Go.Proofs.Ytjifplkdfebilaa
/-- The statement FnExactPgsIn, proved. -/
theorem pgsIn_holds : Rows.FnExactPgsInSaid := PgsIn.proved
end Go.Proofs.Ytjifplkdfebilaa
