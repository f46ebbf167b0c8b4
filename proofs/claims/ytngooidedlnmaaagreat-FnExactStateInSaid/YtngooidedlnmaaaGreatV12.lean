/- A plain reading of Go code and its soundness, part 12. No condition. -/
import Derived.Test.YtngooidedlnmaaaGreatV11
import Derived.Deep.AppendSrc
import Derived.Laws.OwnMore
set_option linter.all false
set_option linter.unusedSimpArgs false
set_option linter.unusedVariables false
set_option linter.unnecessarySimpa false
/- The world changes where nothing but an operation's hand reaches: appends, made rows. No condition. -/
namespace Go.Proofs.YtngooidedlnmaaaGreat.Pv
open Go
section
variable {P : Program} {ar : Nat → Nat} {N : Nat} {E : Entry} {G G' : Gh} {s : St} {a : Act} {w w' : World} {m m' m2 : Mem} {F : List Nat} {as cs : List AV} {ρ : Operand → Value} {o : Oper} {d : Nat} {t' : Nat → AV}
theorem Sim.hand (h : Sim P ar N E G s a w) (hE : G'.E = G.E) (hβ : G'.β = G.β) (hhd : G'.hd = G.hd)
    (hst : ∀ b o, o ≠ .x → G.γ b = some o → G'.γ b = some o) (hn : ∀ b, b < w.heap.size → G.γ b = none → G'.γ b = none) (hlab : ∀ b, G'.γ b ≠ none → b < w'.heap.size)
    (hos : w'.os = w.os) (htp : w'.tape = w.tape) (hout : w'.output = w.output) (hsz : w.heap.size ≤ w'.heap.size) (hsame : ∀ b, b < w.heap.size → G.γ b ≠ some .x → w'.heap[b]? = w.heap[b]?) :
    Grow P G G' w w' s.m s.m ∧ Sim P ar N E G' s a w' := by
  have hlt : ∀ {b o}, G.γ b = some o → b < w.heap.size := fun hb => h.lab _ (by rw [hb]; simp)
  have hstay : ∀ o1, o1 ≠ .x → Stay G G' w w' o1 := fun o1 ho b hb => ⟨hst b o1 ho hb, hsame b (hlt hb) (by rw [hb]; simpa using ho)⟩
  have hcell : ∀ (o1 : Own), o1 ≠ .x → ∀ b off u, G.γ b = some o1 → w.cell? ⟨b, off, none⟩ = some u → w'.cell? ⟨b, off, none⟩ = some u := fun o1 ho b off u hb hu => cell_same (hstay o1 ho b hb).2 hu
  have hg : Grow P G G' w w' s.m s.m := {
    ent := hE
    ok := fun b hb hl => hn b hl hb
    size := hsz
    same := fun b hb hl => hsame b hl (by rw [hb]; simp)
    dead := fun _ h => h
    refs := fun r p v hr => by
      obtain ⟨h1, p0, v0, h2, h3, h4⟩ := hr
      refine refsOf (.inl ⟨h1, p0, v0, h2, ?_, h4.keep (fun b => hst b _ (by simp)) (hcell _ (by simp))⟩)
      cases hq : r.root with
      | v t => rw [hq] at h3; simp only [Hd, hhd] at h3 ⊢; exact h3
      | c o n =>
        rw [hq] at h2 h3
        simp only [Hd, hβ] at h3 ⊢
        simp only [Mem.at, Mem.cell] at h2
        cases hb : s.m.b o with
        | none => rw [hb] at h2; simp at h2
        | some cs =>
          obtain ⟨arr, ty, g1, g2, _⟩ := h.box o cs hb
          exact hcell (.b o) (by simp) _ _ _ g2 h3
    kb := fun _ => Nat.le_refl _
    beta := fun _ _ => by rw [hβ] }
  refine ⟨hg, {
    ent := hE.trans h.ent
    size := h.size
    defers := h.defers
    lab := hlab
    tmp := fun t v hv => (h.tmp t v hv).frame hg (hstay _ (by simp))
    nn := h.nn
    comp := h.comp
    whole := h.whole
    box := fun o cs hc => (h.box o cs hc).frame hg (by rw [hβ]) (hstay _ (by simp)) (fun _ => hstay _ (by simp))
    map := fun o es hc => (h.map o es hc).frame hg (by rw [hβ]) (hstay _ (by simp))
    row := fun t p hp => (h.row t p hp).frame hg (by rw [hhd]) (hstay _ (by simp))
    env := {
      mono := by rw [hE]; exact h.env.mono
      os := by rw [hE]; exact hos.trans h.env.os
      tape := by rw [hE]; exact htp.trans h.env.tape
      output := by rw [hE]; exact hout.trans h.env.output
      size := by rw [hE]; exact Nat.le_trans h.env.size hsz
      keep := by
        rw [hE]
        intro b h1 h2
        obtain ⟨k1, k2⟩ := h.env.keep b h1 h2
        have hl := Nat.lt_of_lt_of_le h1 h.env.size
        exact ⟨hn b hl k1, (hsame b hl (by rw [k1]; simp)).trans k2⟩
      lent := by
        rw [hE, hβ]
        intro o L hL
        obtain ⟨k1, ⟨arr, k2, k3⟩, k4⟩ := h.env.lent o L hL
        exact ⟨hst _ _ (by simp) k1, ⟨arr, by rw [(hstay _ (by simp) _ k1).2]; exact k2, k3⟩, k4⟩
      hd0 := by rw [hE, hhd]; exact h.env.hd0
      provlt := by rw [hE]; exact h.env.provlt
      prov := h.env.prov_next hE (fun _ hk => hk) (fun b i hb _ => hst b _ (by simp) hb) } }⟩
theorem run_append_room_src' (t u ty e : TypeId) (i : TypeInfo) (ht : P.underlying t = some (.slice e)) (hi : P.info? e = some i)
    (g sLen sCap : Nat) (cur : Array Value) (hg : w.heap[g]? = some (.cells cur e (0, 0))) (x : Value) (n : Nat) (news : List Value) (hs : Src P i.size u x n news w)
    (hroom : sLen + n ≤ sCap) (hfit : sLen * i.size + news.length ≤ cur.size) :
    (Builtin.append_ #[t, u] ty #[.slice (some ⟨g, 0, none⟩) sLen sCap, x]).run P w =
      .ok (.slice (some ⟨g, 0, none⟩) (sLen + n) sCap) (w.setRow g (cur.toList.take (sLen * i.size) ++ news ++ cur.toList.drop (sLen * i.size + news.length)).toArray) := by
  have hst := run_storeCells_at P g (sLen * i.size) e news 0 cur w hg (by simpa using hfit) hs.one
  simp only [Nat.add_zero] at hst
  rcases hs.kind with ⟨e', hk⟩ | hk <;> simp [Builtin.append_, run_underlying ht, run_underlying hk, sizeOf, typeInfo, hi, hs.len, hroom, hs.cells, Addr.add_lit, hst]
theorem run_append_own_src (base : Nat) (t u ty e : TypeId) (i : TypeInfo) (z : Value) (size bytes : Nat) (ht : P.underlying t = some (.slice e)) (hi : P.info? e = some i) (hz : i.zero = some z)
    (hsize : i.size = size) (hby : i.bytes = bytes) (hzs : z.cells.size = size)
    (v : Value) (n : Nat) (xs : List Value) (hown : w.ownsRow base e size v n xs) (x : Value) (m : Nat) (news : List Value) (hs : Src P size u x m news w)
    (h63 : n + m ≤ maxLen) (hbytes : (n + m) * bytes ≤ 140737488355328) (hbase : base ≤ w.heap.size) :
    ∃ v' w', (Builtin.append_ #[t, u] ty #[v, x]).run P w = .ok v' w' ∧ w'.ownsRow base e size v' (n + m) (xs ++ news) ∧ w.grownBy w' v.ownBlock ∧ (v'.ownBlock = v.ownBlock ∨ v'.ownBlock = some w.heap.size) := by
  subst hsize
  subst hby
  have hsmall : n + m ≤ 9223372036854775807 := by simp only [maxLen] at h63; omega
  have hl := hs.newsLen
  have hlen : (xs ++ news).length = (n + m) * i.size := by rw [List.length_append, hown.1, hl, Nat.add_mul]
  have grown : ∀ (old : Nat), old < n + m → ∀ (row : Option Nat),
      (w.drew.alloc (.cells ((xs ++ news).toArray ++ Builtin.zeroCells z.cells (grownCap w (n + m) old e - (n + m))) e)).ownsRow base e i.size
        (.slice (some ⟨w.heap.size, 0, none⟩) (n + m) (grownCap w (n + m) old e)) (n + m) (xs ++ news) ∧
      w.grownBy (w.drew.alloc (.cells ((xs ++ news).toArray ++ Builtin.zeroCells z.cells (grownCap w (n + m) old e - (n + m))) e)) row := by
    intro old ho row
    have hge := grownCap_ge w (n + m) old e
    have hcm : grownCap w (n + m) old e ≤ maxLen := grownCap_le_maxLen w (n + m) old e h63
    refine ⟨⟨hlen, .inr ⟨w.heap.size, _, _, rfl, hbase, heap_alloc_new w.drew _, hge, hcm, ?_, ?_⟩⟩, ⟨rfl, rfl, rfl, by simp, fun k hk _ => heap_alloc_old w.drew _ k hk⟩⟩
    · rw [Array.size_append, size_zeroCells, hzs]
      simp only [List.size_toArray, hlen, ← Nat.add_mul]
      congr 1
      omega
    · rw [Array.toList_append, ← hlen]
      exact List.take_left
  rcases hown.2 with ⟨rfl, rfl⟩ | ⟨g, cap, cur, rfl, hbg, hg, hnc, hcm, hcs, htake⟩
  · have hx : xs = [] := List.eq_nil_of_length_eq_zero (by simpa using hown.1)
    subst hx
    by_cases hm : m = 0
    · subst hm
      have hn : news = [] := List.eq_nil_of_length_eq_zero (by simpa using hl)
      subst hn
      refine ⟨.slice none 0 0, w, ?_, World.ownsRow_nil w base e i.size, ⟨rfl, rfl, rfl, Nat.le_refl _, fun _ _ _ => rfl⟩, .inl rfl⟩
      rcases hs.kind with ⟨e', hk⟩ | hk <;> simp [Builtin.append_, run_underlying ht, run_underlying hk, sizeOf, typeInfo, hi, hs.len, hs.cells]
    · have hold : (Builtin.firstCells i.size 0 (.slice none 0 0)).run P w.drew = .ok ([] : List Value).toArray w.drew := by simp [Builtin.firstCells]
      have hr := run_append_grow_src (P := P) w t u ty e i z ht hi hz none 0 0 [] hold x m news hs (by omega) (by omega) (growslice_fits (by omega) (by simpa using hbytes))
      have hgr := grown 0 (by omega) (Value.ownBlock (.slice none 0 0))
      simp only [Nat.zero_add, List.nil_append] at hgr hr ⊢
      exact ⟨_, _, hr, hgr.1, hgr.2, .inr rfl⟩
  · by_cases hroom : n + m ≤ cap
    · have hfit : n * i.size + news.length ≤ cur.size := by rw [hl, hcs, ← Nat.add_mul]; exact Nat.mul_le_mul_right _ hroom
      have hr := run_append_room_src' (P := P) (w := w) t u ty e i ht hi g n cap cur hg x m news hs hroom hfit
      refine ⟨_, _, hr, ⟨hlen, .inr ⟨g, cap, _, rfl, hbg, setRow_heap w g cur _ e _ hg, hroom, hcm, ?_, ?_⟩⟩, ⟨rfl, rfl, rfl, by simp, fun k _ hk => setRow_other w g k _ (fun e => hk (by simp [Value.ownBlock, e]))⟩, .inl rfl⟩
      · simp only [List.size_toArray, List.length_append, List.length_take, List.length_drop, Array.length_toList]
        omega
      · rw [htake, ← hlen]
        exact List.take_left
    · have holds : ∀ j u, xs[j]? = some u → w.cell? ((⟨g, 0, none⟩ : Addr).add j) = some u := hown.cells (g := g) rfl
      have hold : (Builtin.firstCells i.size n (.slice (some ⟨g, 0, none⟩) n cap)).run P w.drew = .ok xs.toArray w.drew := run_firstCells_some w.drew i.size n ⟨g, 0, none⟩ n cap xs hown.1 (by simpa using holds)
      have hr := run_append_grow_src (P := P) w t u ty e i z ht hi hz (some ⟨g, 0, none⟩) n cap xs hold x m news hs (by omega) (by omega) (growslice_fits (by omega) hbytes)
      have hgr := grown cap (by omega) (Value.ownBlock (.slice (some ⟨g, 0, none⟩) n cap))
      exact ⟨_, _, hr, hgr.1, hgr.2, .inr rfl⟩
end
end Go.Proofs.YtngooidedlnmaaaGreat.Pv
