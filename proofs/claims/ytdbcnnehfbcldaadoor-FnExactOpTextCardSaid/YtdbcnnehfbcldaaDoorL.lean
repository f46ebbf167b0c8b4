/- What the functions of a law compute, in the plain reading. No condition. -/
import Derived.Test.YtdbcnnehfbcldaaDoorPf
set_option linter.all false
set_option linter.unusedSimpArgs false
set_option linter.unusedVariables false
set_option linter.unnecessarySimpa false
/- Mirrors of a law's types and their helpers, printed by mir.py. No condition. -/
namespace Go.Proofs.YtdbcnnehfbcldaaDoor.Pv
open Go
set_option maxRecDepth 10000
set_option linter.unusedSimpArgs false
structure M.Op where
  kind : Int
  at_ : Int
  bytes : ByteArray
def M.opV (a : M.Op) : PV := .agg [.int .i64 a.kind, .int .i64 a.at_, .str a.bytes]
@[simp] theorem M.demL_opV : ∀ xs : List M.Op, demL (xs.map (M.opV)) = xs.map (M.opV)
  | [] => rfl
  | a :: xs => by simp [M.demL_opV xs, M.opV]
@[simp] theorem M.own_opV : ∀ xs : List M.Op, allOwnL (xs.map (M.opV)) = true
  | [] => rfl
  | a :: xs => by simp [M.own_opV xs, M.opV]
@[simp] theorem M.noRef_opV : ∀ xs : List M.Op, noRefL (xs.map (M.opV)) = true
  | [] => rfl
  | a :: xs => by simp [M.noRef_opV xs, M.opV]
@[simp] theorem M.flat_opV : ∀ xs : List M.Op, flatL (xs.map (M.opV)) = true
  | [] => rfl
  | a :: xs => by simp [M.flat_opV xs, M.opV, PV.flat]
def M.needOp (a : M.Op) : Nat := a.bytes.size
def M.okOp (a : M.Op) : Prop := In64 a.kind ∧ In64 a.at_ ∧ a.bytes.size ≤ 9223372036854775807
theorem run_toOp (a : M.Op) (hb : M.needOp a ≤ 1048576) : RUN CC fn_laws_toOp [M.opV a] = some ([M.opV a], []) := by
  rw [RUN_eq, prog_laws_toOp]
  simp [pf_laws_toOp, M.opV]
theorem run_szOp (a : M.Op) {left : Int} (h0 : 0 ≤ left) (h1 : left ≤ 4611686018427387904) (hb : M.okOp a) : RUN CC fn_laws_szOp [M.opV a, .int .i64 left] = some ([.int .i64 (szR left (M.needOp a))], []) := by
  have hN : M.needOp a = a.bytes.size := rfl
  have q0 : a.bytes.size ≤ 9223372036854775807 := by simp only [M.okOp] at hb; grind
  rw [hN]
  clear hN hb
  generalize e0 : a.bytes.size = n0 at *
  rw [RUN_eq, prog_laws_szOp]
  by_cases m0 : left < n0
  · have g0 : left - n0 < 0 := by omega
    rw [szR_lt (by omega)]
    simp (disch := omega) [pf_laws_szOp, M.opV, IntWalk.i64_in, e0, g0]
  · have g0 : ¬ left - n0 < 0 := by omega
    rw [szR_ge (by omega), show left - ((n0 : Nat) : Int) = left - n0 by omega]
    simp (disch := omega) [pf_laws_szOp, M.opV, IntWalk.i64_in, e0, g0]
def M.mkOp (a : M.Op) : Nat := 1 + 1 + 1
theorem has_int {p : PV} (h : (Ty.int .i64).has p) : ∃ n, p = .int .i64 n ∧ In64 n := by
  cases p <;> simp only [Ty.has] at h
  obtain ⟨rfl, h2, h3⟩ := h
  exact ⟨_, rfl, h2, h3⟩
theorem has_bool {p : PV} (h : Ty.bool.has p) : ∃ b, p = .bool b := by
  cases p <;> simp only [Ty.has] at h
  exact ⟨_, rfl⟩
theorem has_str {p : PV} (h : Ty.str.has p) : ∃ s, p = .str s ∧ s.size ≤ 9223372036854775807 := by
  cases p <;> simp only [Ty.has] at h
  exact ⟨_, rfl, h⟩
theorem has_list {α : Type} {t : Ty} {F : α → PV} {ok : α → Prop} (h : ∀ p, t.has p → ∃ a, p = F a ∧ ok a) : ∀ xs : List PV, (∀ x ∈ xs, t.has x) → ∃ l : List α, xs = l.map F ∧ ∀ a ∈ l, ok a
  | [], _ => ⟨[], rfl, by simp⟩
  | x :: xs, hx => by
    obtain ⟨a, rfl, h1⟩ := h x (hx x (by simp))
    obtain ⟨l, rfl, h2⟩ := has_list h xs fun y hy => hx y (by simp [hy])
    exact ⟨a :: l, rfl, by
      intro b hb
      rcases List.mem_cons.1 hb with rfl | hb
      · exact h1
      · exact h2 b hb⟩
theorem has_sl {α : Type} {e : TypeId} {t : Ty} {F : α → PV} {ok : α → Prop} (h : ∀ p, t.has p → ∃ a, p = F a ∧ ok a) {p : PV} (hp : (Ty.sl e t).has p) : ∃ l : List α, p = .sl 0 e (l.map F) ∧ l.length ≤ 9223372036854775807 ∧ ∀ a ∈ l, ok a := by
  cases p <;> simp only [Ty.has] at hp
  obtain ⟨rfl, rfl, h1, h2⟩ := hp
  obtain ⟨l, rfl, h3⟩ := has_list h _ h2
  exact ⟨l, rfl, by simpa [maxLen] using h1, h3⟩
def M.tpOp : Ty := .st [.int .i64, .int .i64, .str]
theorem M.has_Op {p : PV} (h : M.tpOp.has p) : ∃ a, p = M.opV a ∧ M.okOp a := by
  cases p <;> simp only [M.tpOp, Ty.has, hasL] at h
  obtain ⟨p0, r0, rfl, h0, p1, r1, rfl, h1, p2, r2, rfl, h2, rfl⟩ := h
  obtain ⟨x0, rfl, o0⟩ := has_int h0
  obtain ⟨x1, rfl, o1⟩ := has_int h1
  obtain ⟨x2, rfl, o2⟩ := has_str h2
  exact ⟨⟨x0, x1, x2⟩, by simp [M.opV, PV.cells], by simp only [M.okOp]; exact ⟨o0, o1, o2⟩⟩
end Go.Proofs.YtdbcnnehfbcldaaDoor.Pv
/- The text of an operation. No condition. -/
namespace Go.Proofs.YtdbcnnehfbcldaaDoor.Pv
open Go Go.Lib
set_option maxRecDepth 10000
set_option linter.unusedSimpArgs false
def txt (l : List UInt8) : ByteArray := ⟨l.toArray⟩
theorem txt_app (a b : List UInt8) : txt a ++ txt b = txt (a ++ b) := by
  apply ByteArray.ext
  simp [txt, ByteArray.data_append]
theorem txt_self (s : ByteArray) : txt s.data.toList = s := by cases s; rfl
theorem txt_size (l : List UInt8) : (txt l).size = l.length := by simp [txt, ByteArray.size]
theorem size_byte' (x : UInt8) : (ByteArray.mk #[x]).size = 1 := rfl
theorem txt_byte (x : UInt8) : (ByteArray.mk #[x]) = txt [x] := rfl
theorem txt_data (l : List UInt8) : (txt l).data.toList = l := by simp [txt]
def hexc (n : Nat) : UInt8 := UInt8.ofNat (if n < 10 then 48 + n else 87 + n)
def hexU (l : List UInt8) : List UInt8 := l.flatMap fun b => [hexc (b.toNat / 16), hexc (b.toNat % 16)]
theorem hexU_len : ∀ l : List UInt8, (hexU l).length = 2 * l.length
  | [] => rfl
  | b :: l => by
    have := hexU_len l
    simp only [hexU, List.flatMap_cons, List.length_append, List.length_cons, List.length_nil] at this ⊢
    omega
def byteP (b : UInt8) : PV := .int .u8 b.toNat
theorem bytesOf_byteP : ∀ l : List UInt8, bytesOf (l.map byteP) = some l
  | [] => rfl
  | b :: l => by simp [bytesOf, byteP, bytesOf_byteP l]
theorem hexAt : ∀ q, q < 16 → (([48, 49, 50, 51, 52, 53, 54, 55, 56, 57, 97, 98, 99, 100, 101, 102] : List UInt8)[q]?).getD 0 = hexc q := by decide
theorem size16 : (ByteArray.mk #[48, 49, 50, 51, 52, 53, 54, 55, 56, 57, 97, 98, 99, 100, 101, 102]).size = 16 := rfl
theorem size_toList' (s : ByteArray) : s.size = s.data.toList.length := Array.length_toList.symm
theorem run_PutHex (s : ByteArray) (hn : s.size ≤ 1000000) : RUN CC fn_impl_PutHex [.str s] = some ([.str (txt (hexU s.data.toList))], []) := by
  generalize hl : s.data.toList = l
  have hsz : s.size = l.length := by rw [size_toList', hl]
  rw [RUN_eq, prog_impl_PutHex]
  simp [pf_impl_PutHex]
  generalize hE : EX CC _ pf_impl_PutHex_l0 _ = E
  obtain ⟨x, s', rfl, h⟩ := list_loop hE l (fun _ _ => true) (fun i st => st.t 7 = .pv (.int .i64 i) ∧ st.t 6 = .pv (.int .i64 l.length) ∧ st.t 0 = .pv (.str s) ∧ ∃ k kn, st.t 3 = .rw ⟨.v 3, k, kn, []⟩ ∧ st.m.kr (.v 3) = k ∧ st.m.r 3 = some (.sl 2 ty_uint8 ((hexU (l.take i)).map byteP))) (.exit 0) (by simp) (fun i x st => False) (by simp [hsz, hexU])
    (by
      rintro st ⟨h7, h6, h0, k, kn, h3, hk, hr⟩
      simp [pf_impl_PutHex_lb0, h7, h6, h0, h3, hk]
      simpa using hr)
    (by
      rintro st i hi ⟨h7, h6, h0, k, kn, h3, hk, hr⟩
      have e2 : hexU (l.take (i + 1)) = hexU (l.take i) ++ [hexc (l[i].toNat / 16), hexc (l[i].toNat % 16)] := by
        rw [List.take_succ_eq_append_getElem hi]; simp only [hexU, List.flatMap_append, List.flatMap_cons, List.flatMap_nil, List.append_nil]
      have b1 : (hexU (l.take i)).length + 2 ≤ 140737488355328 ∧ (hexU (l.take i)).length + 2 ≤ 9223372036854775807 := by
        rw [hexU_len, List.length_take]; omega
      rw [e2]
      generalize hexU (l.take i) = A at hr b1
      have hb : l[i].toNat ≤ 255 := by have := l[i].toNat_lt; omega
      have q1 : IntKind.u8.wrap ((l[i].toNat : Int) / 16) = ((l[i].toNat / 16 : Nat) : Int) := by rw [IntWalk.u8_in _ (by omega)]; omega
      have q2 : (l[i].toNat : Int).tmod 16 = ((l[i].toNat % 16 : Nat) : Int) := by rw [Int.tmod_eq_emod_of_nonneg (by omega)]; omega
      have q3 := hexAt (l[i].toNat / 16) (by omega)
      have q4 := hexAt (l[i].toNat % 16) (by omega)
      have q5 := idxN (i := l[i].toNat / 16) (n := 16) (by omega)
      have q6 := idxN (i := l[i].toNat % 16) (n := 16) (by omega)
      generalize l[i].toNat / 16 = q at q1 q3 q5
      generalize l[i].toNat % 16 = r at q2 q4 q6
      simp (disch := omega) [pf_impl_PutHex_lb0, h7, h6, h0, h3, hk, hr, hi, hsz, hl, idxN, b1, q1, q2, q3, q4, q5, q6, size16, byteP, IntWalk.i64_in]
      )
  rcases h with ⟨rfl, ⟨_, _, _, k, kn, h3, hk, hr⟩, _⟩ | ⟨i, _, hf, _⟩
  case inr => cases hf
  rw [List.take_of_length_le (Nat.le_refl _)] at hr
  simp [h3, hk, hr, bytesOf_byteP, txt]
theorem run_l01Hex (s : ByteArray) (hn : s.size ≤ 1000000) : RUN CC fn_spec_l01Hex [.str s] = some ([.str (txt (hexU s.data.toList))], []) := by
  generalize hl : s.data.toList = l
  have hsz : s.size = l.length := by rw [size_toList', hl]
  rw [RUN_eq, prog_spec_l01Hex]
  simp [pf_spec_l01Hex]
  generalize hE : EX CC _ pf_spec_l01Hex_l0 _ = E
  obtain ⟨x, s', rfl, h⟩ := list_loop hE l (fun _ _ => true) (fun i st => st.t 4 = .pv (.int .i64 i) ∧ st.t 0 = .pv (.str s) ∧ ∃ k kn, st.t 3 = .rw ⟨.v 3, k, kn, []⟩ ∧ st.m.kr (.v 3) = k ∧ st.m.r 3 = some (.sl 2 ty_uint8 ((hexU (l.take i)).map byteP))) (.exit 0) (by simp) (fun i x st => False) (by simp [hexU])
    (by
      rintro st ⟨h7, h0, k, kn, h3, hk, hr⟩
      simp [pf_spec_l01Hex_lb0, h7, h0, h3, hk, hsz]
      simpa using hr)
    (by
      rintro st i hi ⟨h7, h0, k, kn, h3, hk, hr⟩
      have e2 : hexU (l.take (i + 1)) = hexU (l.take i) ++ [hexc (l[i].toNat / 16), hexc (l[i].toNat % 16)] := by
        rw [List.take_succ_eq_append_getElem hi]; simp only [hexU, List.flatMap_append, List.flatMap_cons, List.flatMap_nil, List.append_nil]
      have b1 : (hexU (l.take i)).length + 2 ≤ 140737488355328 ∧ (hexU (l.take i)).length + 2 ≤ 9223372036854775807 := by
        rw [hexU_len, List.length_take]; omega
      rw [e2]
      generalize hexU (l.take i) = A at hr b1
      have hb : l[i].toNat ≤ 255 := by have := l[i].toNat_lt; omega
      have q1 : IntKind.u8.wrap ((l[i].toNat : Int) / 16) = ((l[i].toNat / 16 : Nat) : Int) := by rw [IntWalk.u8_in _ (by omega)]; omega
      have q2 : (l[i].toNat : Int).tmod 16 = ((l[i].toNat % 16 : Nat) : Int) := by rw [Int.tmod_eq_emod_of_nonneg (by omega)]; omega
      have q3 := hexAt (l[i].toNat / 16) (by omega)
      have q4 := hexAt (l[i].toNat % 16) (by omega)
      have q5 := idxN (i := l[i].toNat / 16) (n := 16) (by omega)
      have q6 := idxN (i := l[i].toNat % 16) (n := 16) (by omega)
      generalize l[i].toNat / 16 = q at q1 q3 q5
      generalize l[i].toNat % 16 = r at q2 q4 q6
      simp (disch := omega) [pf_spec_l01Hex_lb0, h7, h0, h3, hk, hr, hi, hsz, hl, idxN, b1, q1, q2, q3, q4, q5, q6, size16, byteP, IntWalk.i64_in])
  rcases h with ⟨rfl, ⟨_, _, k, kn, h3, hk, hr⟩, _⟩ | ⟨i, _, hf, _⟩
  case inr => cases hf
  rw [List.take_of_length_le (Nat.le_refl _)] at hr
  simp [h3, hk, hr, bytesOf_byteP, txt]
theorem ba_beq' (a b : ByteArray) : (a.toList == b.toList) = decide (a = b) := by
  rw [Lib.toList_data, Lib.toList_data]
  by_cases h : a = b
  · simp [h]
  · have : ¬ a.data.toList = b.data.toList := fun e => h (by cases a; cases b; simpa [Array.toList_inj] using e)
    simp only [h, decide_false]
    simpa using this
def bodyU (s : ByteArray) : List UInt8 := if s.toList = [] then [45] else hexU s.data.toList
theorem run_bodyText (s : ByteArray) (hn : s.size ≤ 1000000) : RUN CC fn_impl_bodyText [.str s] = some ([.str (txt (bodyU s))], []) := by
  have h := run_PutHex s hn
  rw [RUN_eq, prog_impl_bodyText]
  by_cases c : s.toList = []
  · simp [pf_impl_bodyText, ba_beq', c, bodyU, txt]
  · simp [pf_impl_bodyText, ba_beq', c, bodyU, h]
theorem run_l33Body (s : ByteArray) (hn : s.size ≤ 1000000) : RUN CC fn_spec_l33Body [.str s] = some ([.str (txt (bodyU s))], []) := by
  have h := run_l01Hex s hn
  rw [RUN_eq, prog_spec_l33Body]
  by_cases c : s.toList = []
  · simp [pf_spec_l33Body, ba_beq', c, bodyU, txt]
  · simp [pf_spec_l33Body, ba_beq', c, bodyU, h]
theorem bodyU_len {s : ByteArray} (h : s.size ≤ 64) : (bodyU s).length ≤ 128 := by
  unfold bodyU
  split
  · simp
  · rw [hexU_len, ← size_toList']; omega
theorem digits_len : ∀ n : Nat, n < 100 → (decDigits n).length ≤ 2 := by
  intro n h
  rw [decDigits]
  split
  · simp
  · rw [decDigits, dif_pos (by omega)]
    simp
theorem run_l06Num : ∀ n : Nat, n < 100 → RUN CC fn_spec_l06Num [.int .i64 n] = some ([.str (txt (decDigits n))], []) := by
  have small : ∀ n : Nat, n < 10 → RUN CC fn_spec_l06Num [.int .i64 n] = some ([.str (txt (decDigits n))], []) := by
    intro n h
    have c1 : ¬ (n : Int) < 0 := by omega
    have c2 : (n : Int) < 10 := by omega
    have c3 : IntKind.u8.wrap (48 + (n : Int)) = 48 + (n : Int) := IntWalk.u8_in _ (by omega)
    have c4 : ((48 : Int) + (n : Int)).toNat = 48 + n := by omega
    rw [RUN_eq, prog_spec_l06Num, decDigits, dif_pos h]
    simp (disch := omega) [pf_spec_l06Num, c1, c2, c3, c4, bytesOf, txt, IntWalk.i64_in]
  intro n h
  by_cases c : n < 10
  · exact small n c
  · have h1 := small (n / 10) (by omega)
    have c1 : ¬ (n : Int) < 0 := by omega
    have c2 : ¬ (n : Int) < 10 := by omega
    have c3 : Int.tmod (n : Int) 10 = ((n % 10 : Nat) : Int) := by rw [Int.tmod_eq_emod_of_nonneg (by omega)]; omega
    have c5 : Int.tdiv (n : Int) 10 = ((n / 10 : Nat) : Int) := by rw [Int.tdiv_eq_ediv_of_nonneg (by omega)]; omega
    have c6 : n % 10 < 10 := by omega
    have hd := digits_len (n / 10) (by omega)
    rw [RUN_eq, prog_spec_l06Num, decDigits, dif_neg c]
    generalize hq : n / 10 = q at h1 c5 hd
    generalize hr : n % 10 = r at c3 c6
    have c7 : IntKind.u8.wrap (48 + (r : Int)) = 48 + (r : Int) := IntWalk.u8_in _ (by omega)
    have c4 : ((48 : Int) + (r : Int)).toNat = 48 + r := by omega
    have c8 : ¬ (9223372036854775807 : Int) < ((decDigits q).length : Int) + 1 := by omega
    have c9 : IntKind.i64.wrap (q : Int) = q := IntWalk.i64_in _ (by omega)
    simp (disch := omega) [pf_spec_l06Num, c1, c2, c3, c5, c7, c4, c8, c9, h1, bytesOf, txt_size, size_byte', IntWalk.i64_in]
    rw [txt_byte, txt_app]
theorem run_decimal (n : Int) (h : 0 ≤ n ∧ n < 100) : RUN CC fn_impl_decimal [.int .i64 n] = some ([.str (txt (decDigits n.toNat))], []) := by
  have h1 := run_strconv_FormatInt h
  rw [RUN_eq, prog_impl_decimal]
  simp [pf_impl_decimal, h1, txt]
def M.opB (o : M.Op) : Bool := if o.kind = 1 ∨ o.kind = 6 then decide (o.at_ = 0 ∧ o.bytes.toList = []) else if o.kind = 2 ∨ o.kind = 4 then decide (o.at_ = 0 ∧ o.bytes.size ≤ 64) else if o.kind = 3 then decide ((0 ≤ o.at_ ∧ o.at_ ≤ 64) ∧ o.bytes.size ≤ 64) else if o.kind = 5 then decide ((0 ≤ o.at_ ∧ o.at_ ≤ 64) ∧ o.bytes.toList = []) else false
@[simp] theorem run_betw (a b c : Int) : RUN CC fn_impl_between [.int .i64 a, .int .i64 b, .int .i64 c] = some ([.bool (decide (b ≤ a ∧ a ≤ c))], []) := by
  rw [RUN_eq, prog_impl_between]
  by_cases h : b ≤ a <;> by_cases h2 : a ≤ c <;> simp [pf_impl_between, h, h2]
@[simp] theorem run_l00I (a b c : Int) : RUN CC fn_spec_l00In [.int .i64 a, .int .i64 b, .int .i64 c] = some ([.bool (decide (b ≤ a ∧ a ≤ c))], []) := by
  rw [RUN_eq, prog_spec_l00In]
  by_cases h : b ≤ a <;> by_cases h2 : a ≤ c <;> simp [pf_spec_l00In, h, h2]
theorem run_CodeOk1 : RUN CC fn_impl_CodeOk [.agg [.int .i64 1, .int .i64 0]] = some ([.bool true], []) := by
  rw [RUN_eq, prog_impl_CodeOk]
  simp [pf_impl_CodeOk]
theorem run_sCodeOk1 : RUN CC fn_spec_CodeOk [.agg [.int .i64 1, .int .i64 0]] = some ([.bool true], []) := by
  have h : RUN CC fn_spec_l04Code [.agg [.int .i64 1, .int .i64 0]] = some ([.bool true], []) := by
    rw [RUN_eq, prog_spec_l04Code]
    simp [pf_spec_l04Code]
  rw [RUN_eq, prog_spec_CodeOk]
  simp [pf_spec_CodeOk, h]
set_option maxHeartbeats 4000000 in
theorem run_iOpOk (o : M.Op) (hn : o.bytes.size ≤ 1048576) : RUN CC fn_impl_OpOk [.agg [.int .i64 1, .int .i64 0], .agg [.int .i64 o.kind, .int .i64 o.at_, .str o.bytes]] = some ([.bool (M.opB o)], []) := by
  have h := run_CodeOk1
  obtain ⟨kind, at_, bytes⟩ := o
  simp only at hn ⊢
  rw [RUN_eq, prog_impl_OpOk]
  have hz : (bytes.size : Int) ≤ 64 ↔ bytes.size ≤ 64 := by omega
  by_cases k1 : kind = 1
  · subst k1
    by_cases a : at_ = 0 <;> by_cases b : bytes.toList = [] <;> simp [pf_impl_OpOk, h, M.opB, a, b]
  by_cases k6 : kind = 6
  · subst k6
    by_cases a : at_ = 0 <;> by_cases b : bytes.toList = [] <;> simp [pf_impl_OpOk, h, M.opB, a, b]
  by_cases k2 : kind = 2
  · subst k2
    by_cases a : at_ = 0 <;> simp [pf_impl_OpOk, h, M.opB, a, hz]
  by_cases k3 : kind = 3
  · subst k3
    by_cases a : 0 ≤ at_ ∧ at_ ≤ 64 <;> simp [pf_impl_OpOk, h, M.opB, a, hz]
  by_cases k4 : kind = 4
  · subst k4
    by_cases a : at_ = 0 <;> simp [pf_impl_OpOk, h, M.opB, a, hz]
  by_cases k5 : kind = 5
  · subst k5
    by_cases a : 0 ≤ at_ ∧ at_ ≤ 64 <;> by_cases b : bytes.toList = [] <;> simp [pf_impl_OpOk, h, M.opB, a, b]
  simp [pf_impl_OpOk, h, M.opB, k1, k2, k3, k4, k5, k6]
set_option maxHeartbeats 4000000 in
theorem run_sOpOk (o : M.Op) (hn : o.bytes.size ≤ 1048576) : RUN CC fn_spec_OpOk [.agg [.int .i64 1, .int .i64 0], .agg [.int .i64 o.kind, .int .i64 o.at_, .str o.bytes]] = some ([.bool (M.opB o)], []) := by
  have h := run_sCodeOk1
  obtain ⟨kind, at_, bytes⟩ := o
  simp only at hn ⊢
  rw [RUN_eq, prog_spec_OpOk]
  have hz : (bytes.size : Int) ≤ 64 ↔ bytes.size ≤ 64 := by omega
  by_cases k1 : kind = 1
  · subst k1
    by_cases a : at_ = 0 <;> by_cases b : bytes.toList = [] <;> simp [pf_spec_OpOk, h, M.opB, a, b]
  by_cases k6 : kind = 6
  · subst k6
    by_cases a : at_ = 0 <;> by_cases b : bytes.toList = [] <;> simp [pf_spec_OpOk, h, M.opB, a, b]
  by_cases k2 : kind = 2
  · subst k2
    by_cases a : at_ = 0 <;> simp [pf_spec_OpOk, h, M.opB, a, hz]
  by_cases k3 : kind = 3
  · subst k3
    by_cases a : 0 ≤ at_ ∧ at_ ≤ 64 <;> simp [pf_spec_OpOk, h, M.opB, a, hz]
  by_cases k4 : kind = 4
  · subst k4
    by_cases a : at_ = 0 <;> simp [pf_spec_OpOk, h, M.opB, a, hz]
  by_cases k5 : kind = 5
  · subst k5
    by_cases a : 0 ≤ at_ ∧ at_ ≤ 64 <;> by_cases b : bytes.toList = [] <;> simp [pf_spec_OpOk, h, M.opB, a, b]
  simp [pf_spec_OpOk, h, M.opB, k1, k2, k3, k4, k5, k6]
theorem run_plainCode : RUN CC fn_impl_plainCode [] = some ([.agg [.int .i64 1, .int .i64 0]], []) := by
  rw [RUN_eq, prog_impl_plainCode]
  simp [pf_impl_plainCode]
theorem run_l31Op (o : M.Op) (hn : o.bytes.size ≤ 1048576) : RUN CC fn_spec_l31Op [.agg [.int .i64 o.kind, .int .i64 o.at_, .str o.bytes]] = some ([.bool (M.opB o)], []) := by
  have h := run_sOpOk o hn
  rw [RUN_eq, prog_spec_l31Op]
  simp [pf_spec_l31Op, h]
end Go.Proofs.YtdbcnnehfbcldaaDoor.Pv
/- The law FnExactOpText. No condition. -/
namespace Go.Proofs.YtdbcnnehfbcldaaDoor.Pv
open Go Go.Lib
set_option maxRecDepth 10000
set_option linter.unusedSimpArgs false
def numU (n : Int) : List UInt8 := decDigits n.toNat
def M.opT (o : M.Op) : List UInt8 :=
  if o.kind = 1 then [114, 101, 97, 100] else if o.kind = 2 then [102, 117, 108, 108] ++ ([32] ++ bodyU o.bytes) else if o.kind = 3 then [119, 114, 105, 116, 101] ++ ([32] ++ numU o.at_) ++ ([32] ++ bodyU o.bytes)
  else if o.kind = 4 then [97, 112, 112, 101, 110, 100] ++ ([32] ++ bodyU o.bytes) else if o.kind = 5 then [99, 117, 116] ++ ([32] ++ numU o.at_) else [100, 101, 108, 101, 116, 101]
theorem joinT_txt (ls : List (List UInt8)) (sep : List UInt8) : joinT (ls.map txt) (txt sep) = txt (Lib.join ls sep) := by
  simp [joinT, txt_data, txt, Function.comp_def]
theorem run_Join2 {e : TypeId} {a b : List UInt8} (h : a.length ≤ 1000) (h2 : b.length ≤ 1000) : RUN CC fn_strings_Join [.sl 0 e [.str (txt a), .str (txt b)], .str (txt [32])] = some ([.str (txt (a ++ ([32] ++ b)))], []) := by
  have e1 : joinT ([a, b].map txt) (txt [32]) = txt (a ++ ([32] ++ b)) := by
    rw [joinT_txt]
    congr 1
    simp [Lib.join, List.intercalate]
  have := run_strings_Join (e := e) (l := [a, b].map txt) (sep := txt [32]) (by rw [e1, txt_size]; simp; omega)
  rw [e1] at this
  exact this
theorem run_Join3 {e : TypeId} {a b c : List UInt8} (h : a.length ≤ 1000) (h2 : b.length ≤ 1000) (h3 : c.length ≤ 1000) : RUN CC fn_strings_Join [.sl 0 e [.str (txt a), .str (txt b), .str (txt c)], .str (txt [32])] = some ([.str (txt (a ++ ([32] ++ b) ++ ([32] ++ c)))], []) := by
  have e1 : joinT ([a, b, c].map txt) (txt [32]) = txt (a ++ ([32] ++ b) ++ ([32] ++ c)) := by
    rw [joinT_txt]
    congr 1
    simp [Lib.join, List.intercalate]
  have := run_strings_Join (e := e) (l := [a, b, c].map txt) (sep := txt [32]) (by rw [e1, txt_size]; simp; omega)
  rw [e1] at this
  exact this
theorem run_Join1 {e : TypeId} {a : List UInt8} (h : a.length ≤ 1000) : RUN CC fn_strings_Join [.sl 0 e [.str (txt a)], .str (txt [32])] = some ([.str (txt a)], []) := by
  have e1 : joinT ([a].map txt) (txt [32]) = txt a := by
    rw [joinT_txt]
    congr 1
    simp [Lib.join, List.intercalate]
  have := run_strings_Join (e := e) (l := [a].map txt) (sep := txt [32]) (by rw [e1, txt_size]; simp; omega)
  rw [e1] at this
  exact this
theorem arr_txt (l : List UInt8) : (⟨l.toArray⟩ : ByteArray) = txt l := rfl
theorem t32 : (⟨#[32]⟩ : ByteArray) = txt [32] := rfl
theorem tRead : (⟨#[114, 101, 97, 100]⟩ : ByteArray) = txt [114, 101, 97, 100] := rfl
theorem tFull : (⟨#[102, 117, 108, 108]⟩ : ByteArray) = txt [102, 117, 108, 108] := rfl
theorem tWrite : (⟨#[119, 114, 105, 116, 101]⟩ : ByteArray) = txt [119, 114, 105, 116, 101] := rfl
theorem tAppend : (⟨#[97, 112, 112, 101, 110, 100]⟩ : ByteArray) = txt [97, 112, 112, 101, 110, 100] := rfl
theorem tCut : (⟨#[99, 117, 116]⟩ : ByteArray) = txt [99, 117, 116] := rfl
theorem tDelete : (⟨#[100, 101, 108, 101, 116, 101]⟩ : ByteArray) = txt [100, 101, 108, 101, 116, 101] := rfl
theorem numU_len {n : Int} (h : 0 ≤ n ∧ n < 100) : (numU n).length ≤ 2 := digits_len _ (by omega)
theorem M.opB_cases {o : M.Op} (h : M.opB o = true) : (o.kind = 1 ∨ o.kind = 6) ∨ (o.kind = 2 ∧ o.bytes.size ≤ 64) ∨ (o.kind = 4 ∧ o.bytes.size ≤ 64) ∨ (o.kind = 3 ∧ (0 ≤ o.at_ ∧ o.at_ < 100) ∧ o.bytes.size ≤ 64) ∨ (o.kind = 5 ∧ 0 ≤ o.at_ ∧ o.at_ < 100) := by
  unfold M.opB at h
  split at h
  · exact .inl (by assumption)
  · split at h
    · rename_i k
      have := of_decide_eq_true h
      rcases k with k | k
      · exact .inr (.inl ⟨k, this.2⟩)
      · exact .inr (.inr (.inl ⟨k, this.2⟩))
    · split at h
      · rename_i k
        have := of_decide_eq_true h
        exact .inr (.inr (.inr (.inl ⟨k, by omega, this.2⟩)))
      · split at h
        · rename_i k
          have := of_decide_eq_true h
          exact .inr (.inr (.inr (.inr ⟨k, by omega⟩)))
        · cases h
set_option maxHeartbeats 8000000 in
theorem run_iOpText (o : M.Op) (hn : o.bytes.size ≤ 1048576) : RUN CC fn_impl_OpText [.agg [.int .i64 o.kind, .int .i64 o.at_, .str o.bytes]] = some ([.str (if M.opB o then txt (M.opT o) else txt [])], []) := by
  have h := run_iOpOk o hn
  have hp := run_plainCode
  have e0 : (⟨#[]⟩ : ByteArray) = txt [] := rfl
  rw [RUN_eq, prog_impl_OpText]
  cases c : M.opB o
  · simp [pf_impl_OpText, hp, h, c, e0]
  rw [c] at h
  have k := M.opB_cases c
  simp only [if_true]
  obtain ⟨kind, at_, bytes⟩ := o
  simp only at hn h hp k ⊢
  have bt : bytes.size ≤ 64 → RUN CC fn_impl_bodyText [.str bytes] = some ([.str (txt (bodyU bytes))], []) := fun h => run_bodyText bytes (by omega)
  have bl : bytes.size ≤ 64 → (bodyU bytes).length ≤ 1000 := fun h => by have := bodyU_len h; omega
  rcases k with (rfl | rfl) | ⟨rfl, k⟩ | ⟨rfl, k⟩ | ⟨rfl, k, k2⟩ | ⟨rfl, k⟩
  · have w : RUN CC fn_impl_opWords [.agg [.int .i64 1, .int .i64 at_, .str bytes]] = some ([.sl 2 ty_string [.str (txt [114, 101, 97, 100])]], []) := by
      rw [RUN_eq, prog_impl_opWords]
      simp [pf_impl_opWords, tRead]
    have j := run_Join1 (e := ty_string) (a := [114, 101, 97, 100]) (by simp)
    simp [pf_impl_OpText, hp, h, w, t32, j, M.opT]
  · have w : RUN CC fn_impl_opWords [.agg [.int .i64 6, .int .i64 at_, .str bytes]] = some ([.sl 2 ty_string [.str (txt [100, 101, 108, 101, 116, 101])]], []) := by
      rw [RUN_eq, prog_impl_opWords]
      simp [pf_impl_opWords, tDelete]
    have j := run_Join1 (e := ty_string) (a := [100, 101, 108, 101, 116, 101]) (by simp)
    simp [pf_impl_OpText, hp, h, w, t32, j, M.opT]
  · have w : RUN CC fn_impl_opWords [.agg [.int .i64 2, .int .i64 at_, .str bytes]] = some ([.sl 2 ty_string [.str (txt [102, 117, 108, 108]), .str (txt (bodyU bytes))]], []) := by
      rw [RUN_eq, prog_impl_opWords]
      simp [pf_impl_opWords, tFull, bt k]
    have j := run_Join2 (e := ty_string) (a := [102, 117, 108, 108]) (b := bodyU bytes) (by simp) (bl k)
    simp only [List.cons_append, List.nil_append] at j
    simp [pf_impl_OpText, hp, h, w, t32, j, M.opT]
  · have w : RUN CC fn_impl_opWords [.agg [.int .i64 4, .int .i64 at_, .str bytes]] = some ([.sl 2 ty_string [.str (txt [97, 112, 112, 101, 110, 100]), .str (txt (bodyU bytes))]], []) := by
      rw [RUN_eq, prog_impl_opWords]
      simp [pf_impl_opWords, tAppend, bt k]
    have j := run_Join2 (e := ty_string) (a := [97, 112, 112, 101, 110, 100]) (b := bodyU bytes) (by simp) (bl k)
    simp only [List.cons_append, List.nil_append] at j
    simp [pf_impl_OpText, hp, h, w, t32, j, M.opT]
  · have d := run_decimal at_ k
    have w : RUN CC fn_impl_opWords [.agg [.int .i64 3, .int .i64 at_, .str bytes]] = some ([.sl 2 ty_string [.str (txt [119, 114, 105, 116, 101]), .str (txt (numU at_)), .str (txt (bodyU bytes))]], []) := by
      rw [RUN_eq, prog_impl_opWords]
      simp [pf_impl_opWords, tWrite, bt k2, d, numU]
    have j := run_Join3 (e := ty_string) (a := [119, 114, 105, 116, 101]) (b := numU at_) (c := bodyU bytes) (by simp) (by have := numU_len k; omega) (bl k2)
    simp only [List.cons_append, List.nil_append] at j
    simp [pf_impl_OpText, hp, h, w, t32, j, M.opT]
  · have d := run_decimal at_ k
    have w : RUN CC fn_impl_opWords [.agg [.int .i64 5, .int .i64 at_, .str bytes]] = some ([.sl 2 ty_string [.str (txt [99, 117, 116]), .str (txt (numU at_))]], []) := by
      rw [RUN_eq, prog_impl_opWords]
      simp [pf_impl_opWords, tCut, d, numU]
    have j := run_Join2 (e := ty_string) (a := [99, 117, 116]) (b := numU at_) (by simp) (by have := numU_len k; omega)
    simp only [List.cons_append, List.nil_append] at j
    simp [pf_impl_OpText, hp, h, w, t32, j, M.opT]
theorem run_l33Ops : RUN CC fn_spec_l33Ops [] = some ([.sl 2 ty_string [.str (txt [114, 101, 97, 100]), .str (txt [102, 117, 108, 108]), .str (txt [119, 114, 105, 116, 101]), .str (txt [97, 112, 112, 101, 110, 100]), .str (txt [99, 117, 116]), .str (txt [100, 101, 108, 101, 116, 101])]], []) := by
  rw [RUN_eq, prog_spec_l33Ops]
  simp [pf_spec_l33Ops, tRead, tFull, tWrite, tAppend, tCut, tDelete]
end Go.Proofs.YtdbcnnehfbcldaaDoor.Pv
/- The law FnExactOpText, the reference's side, and the law. No condition. -/
namespace Go.Proofs.YtdbcnnehfbcldaaDoor.Pv
open Go Go.Lib
set_option maxRecDepth 10000
set_option linter.unusedSimpArgs false
theorem run_l33Op (kind at_ : Int) (bytes : ByteArray) (k : (kind = 1 ∨ kind = 6) ∨ (kind = 2 ∧ bytes.size ≤ 64) ∨ (kind = 4 ∧ bytes.size ≤ 64) ∨ (kind = 3 ∧ (0 ≤ at_ ∧ at_ < 100) ∧ bytes.size ≤ 64) ∨ (kind = 5 ∧ 0 ≤ at_ ∧ at_ < 100)) : RUN CC fn_spec_l33Op [.agg [.int .i64 kind, .int .i64 at_, .str bytes]] = some ([.str (txt (M.opT ⟨kind, at_, bytes⟩))], []) := by
  have ops := run_l33Ops
  have bt : bytes.size ≤ 64 → RUN CC fn_spec_l33Body [.str bytes] = some ([.str (txt (bodyU bytes))], []) := fun h => run_l33Body bytes (by omega)
  have bl : bytes.size ≤ 64 → (bodyU bytes).length ≤ 128 := fun h => bodyU_len h
  have nt : (0 ≤ at_ ∧ at_ < 100) → RUN CC fn_spec_l06Num [.int .i64 at_] = some ([.str (txt (numU at_))], []) := fun h => by
    have := run_l06Num at_.toNat (by omega)
    rwa [Int.toNat_of_nonneg h.1] at this
  rw [RUN_eq, prog_spec_l33Op]
  rcases k with (rfl | rfl) | ⟨rfl, k⟩ | ⟨rfl, k⟩ | ⟨rfl, k, k2⟩ | ⟨rfl, k⟩
  · simp [pf_spec_l33Op, ops, idx, M.opT, IntWalk.i64_in]
  · simp [pf_spec_l33Op, ops, idx, M.opT, IntWalk.i64_in]
  · have b1 : ¬ (9223372036854775807 : Int) < 1 + ((bodyU bytes).length : Int) := by have := bl k; omega
    have b2 : ¬ (9223372036854775807 : Int) < 4 + (((bodyU bytes).length : Int) + 1) := by have := bl k; omega
    simp [pf_spec_l33Op, ops, idx, bt k, t32, txt_size, txt_app, b1, b2, M.opT, IntWalk.i64_in]
  · have b1 : ¬ (9223372036854775807 : Int) < 1 + ((bodyU bytes).length : Int) := by have := bl k; omega
    have b2 : ¬ (9223372036854775807 : Int) < 6 + (((bodyU bytes).length : Int) + 1) := by have := bl k; omega
    simp [pf_spec_l33Op, ops, idx, bt k, t32, txt_size, txt_app, b1, b2, M.opT, IntWalk.i64_in]
  · have nl := numU_len k
    have n1 : ¬ (9223372036854775807 : Int) < 1 + ((numU at_).length : Int) := by omega
    have n2 : ¬ (9223372036854775807 : Int) < 5 + (((numU at_).length : Int) + 1) := by omega
    have b1 : ¬ (9223372036854775807 : Int) < 1 + ((bodyU bytes).length : Int) := by have := bl k2; omega
    have b2 : ¬ (9223372036854775807 : Int) < 5 + (((numU at_).length : Int) + 1) + (((bodyU bytes).length : Int) + 1) := by have := bl k2; omega
    have b3 : ¬ (9223372036854775807 : Int) < ((numU at_).length : Int) + 1 + 1 + 1 + 1 + 1 + 1 + (((bodyU bytes).length : Int) + 1) := by have := bl k2; omega
    simp [pf_spec_l33Op, ops, idx, bt k2, nt k, t32, txt_size, txt_app, n1, n2, b1, b2, b3, M.opT, IntWalk.i64_in]
  · have nl := numU_len k
    have n1 : ¬ (9223372036854775807 : Int) < 1 + ((numU at_).length : Int) := by omega
    have n2 : ¬ (9223372036854775807 : Int) < 3 + (((numU at_).length : Int) + 1) := by omega
    simp [pf_spec_l33Op, ops, idx, nt k, t32, txt_size, txt_app, n1, n2, M.opT, IntWalk.i64_in]
theorem run_sOpText (o : M.Op) (hn : o.bytes.size ≤ 1048576) : RUN CC fn_spec_OpText [.agg [.int .i64 o.kind, .int .i64 o.at_, .str o.bytes]] = some ([.str (if M.opB o then txt (M.opT o) else txt [])], []) := by
  have h := run_l31Op o hn
  have e0 : (⟨#[]⟩ : ByteArray) = txt [] := rfl
  rw [RUN_eq, prog_spec_OpText]
  cases c : M.opB o
  · simp [pf_spec_OpText, h, c, e0]
  rw [c] at h
  have key := run_l33Op o.kind o.at_ o.bytes (M.opB_cases c)
  simp [pf_spec_OpText, h, key]
theorem run_FnExactOpText (o : M.Op) (ho : M.okOp o) : RUN CC fn_laws_FnExactOpText [M.opV o] = some ([.bool true], []) := by
  have h := run_szOp o (left := 1048576) (by omega) (by omega) ho
  have hN : M.needOp o = o.bytes.size := rfl
  rw [RUN_eq, prog_laws_FnExactOpText]
  by_cases c : szR 1048576 (M.needOp o) < 0
  · simp [pf_laws_FnExactOpText, h, c, M.opV]
    simp [M.opV] at h
    simp [h, c]
  · have hb : o.bytes.size ≤ 1048576 := by rw [hN] at c; simp only [szR] at c; split at c <;> omega
    have t := run_toOp o (by rw [hN]; exact hb)
    have i := run_iOpText o hb
    have s := run_sOpText o hb
    simp only [M.opV] at h t ⊢
    simp [pf_laws_FnExactOpText, h, c, t, i, s, ba_beq']
end Go.Proofs.YtdbcnnehfbcldaaDoor.Pv
