/- A plain reading of Go code and its soundness, part 15. No condition. -/
import Derived.Test.YtngooidedlnmaaaGreatV14
set_option linter.all false
set_option linter.unusedSimpArgs false
set_option linter.unusedVariables false
set_option linter.unnecessarySimpa false
/- Less is known of the memory: boxes forgotten, roots hidden. No condition. -/
namespace Go.Proofs.YtngooidedlnmaaaGreat.Pv
open Go
structure Less (m m' : Mem) : Prop where
  kb : m'.kb = m.kb
  kr : m'.kr = m.kr
  kn : m'.kn = m.kn
  r : ∀ t, m'.r t = m.r t ∨ m'.r t = none
  mp : ∀ o, m'.mp o = m.mp o ∨ m'.mp o = none
  b : ∀ o, m'.b o = none ∨ ∃ cs cs', m.b o = some cs ∧ m'.b o = some cs' ∧ cs'.length = cs.length ∧ ∀ j : Nat, cs'[j]? = cs[j]? ∨ cs'[j]? = some AV.undef
theorem Less.refl (m : Mem) : Less m m := ⟨rfl, rfl, rfl, fun _ => .inl rfl, fun _ => .inl rfl, fun o => by
  cases h : m.b o with
  | none => exact .inl rfl
  | some cs => exact .inr ⟨cs, cs, rfl, rfl, rfl, fun _ => .inl rfl⟩⟩
theorem Less.trans {m m1 m2 : Mem} (h1 : Less m m1) (h2 : Less m1 m2) : Less m m2 where
  kb := h2.kb.trans h1.kb
  kr := h2.kr.trans h1.kr
  kn := h2.kn.trans h1.kn
  r := fun t => by
    rcases h2.r t with h | h
    · rw [h]; exact h1.r t
    · exact .inr h
  mp := fun t => by
    rcases h2.mp t with h | h
    · rw [h]; exact h1.mp t
    · exact .inr h
  b := fun o => by
    rcases h2.b o with h | ⟨cs1, cs2, k1, k2, k3, k4⟩
    · exact .inl h
    · rcases h1.b o with h | ⟨cs, cs1', j1, j2, j3, j4⟩
      · rw [h] at k1; cases k1
      · rw [k1] at j2
        obtain rfl := Option.some.inj j2
        refine .inr ⟨cs, cs2, j1, k2, k3.trans j3, fun j => ?_⟩
        rcases k4 j with h | h
        · rw [h]; exact j4 j
        · exact .inr h
theorem Less.at {m m' : Mem} (h : Less m m') (R : Root) : m'.at R = m.at R ∨ m'.at R = none := by
  cases R with
  | v t => exact h.r t
  | c o n =>
    simp only [Mem.at, Mem.cell]
    rcases h.b o with hb | ⟨cs, cs', h1, h2, h3, h4⟩
    · right; rw [hb]; rfl
    · rw [h1, h2]
      simp only [Option.bind_some]
      rcases h4 n with h5 | h5
      · rw [h5]; exact .inl rfl
      · rw [h5]; exact .inr rfl
section
variable {P : Program} {ar : Nat → Nat} {N : Nat} {E : Entry} {G G' : Gh} {s : St} {a : Act} {w w' : World} {m m' m2 : Mem} {F : List Nat} {as cs : List AV}
theorem Less.grow (hl : Less m m') : Grow P G G w w m m' where
  ent := rfl
  ok := fun _ h _ => h
  size := Nat.le_refl _
  same := fun _ _ _ => rfl
  dead := fun r hr => by
    unfold Dead at hr ⊢
    rw [hl.kr, hl.kn]
    rcases hr with h | h | ⟨h, h'⟩
    · exact .inl h
    · exact .inr (.inl h)
    · refine .inr (.inr ⟨?_, h'⟩)
      rcases hl.at r.root with h2 | h2
      · rw [h2]; exact h
      · exact h2
  refs := fun r p v hr => by
    obtain ⟨h1, p0, v0, h2, h3, h4⟩ := hr
    rcases hl.at r.root with h5 | h5
    · refine .inl ⟨p, ⟨?_, p0, v0, by rw [h5]; exact h2, h3, h4⟩, .inl rfl⟩
      unfold Ref.valid at h1 ⊢
      rw [hl.kr, hl.kn]; exact h1
    · refine .inr (.inr (.inr ⟨h5, ?_⟩))
      unfold Ref.valid at h1
      rw [Bool.and_eq_true, beq_iff_eq] at h1
      rw [hl.kr, h1.1]; exact Nat.le_refl _
  kb := fun o => by rw [hl.kb]; exact Nat.le_refl _
  beta := fun _ _ => rfl
theorem Sim.less (h : Sim P ar N E G s a w) (hl : Less s.m m') : Sim P ar N E G ⟨s.t, m'⟩ a w := by
  have hg : Grow P G G w w s.m m' := hl.grow
  have hst : ∀ o, Stay G G w w o := fun o b hb => ⟨hb, rfl⟩
  exact {
    ent := h.ent
    size := h.size
    defers := h.defers
    lab := h.lab
    tmp := fun t v hv => (h.tmp t v hv).frame hg (hst _)
    nn := h.nn
    comp := h.comp
    whole := h.whole
    box := fun o cs' hc => by
      rcases hl.b o with hb | ⟨cs, cs2, h1, h2, h3, h4⟩
      · rw [hb] at hc; cases hc
      · rw [h2] at hc
        obtain rfl := Option.some.inj hc
        obtain ⟨arr, ty, k1, k2, k3, k4⟩ := (h.box o cs h1).frame (m' := m') hg rfl (hst _) (fun _ => hst _)
        refine ⟨arr, ty, k1, k2, by rw [h3]; exact k3, fun j c hj => ?_⟩
        rcases h4 j with h5 | h5
        · rw [h5] at hj; exact k4 j c hj
        · rw [h5] at hj
          obtain rfl := Option.some.inj hj
          have hlt : j < cs.length := by
            have := (List.getElem?_eq_some_iff.1 h5).1
            omega
          obtain ⟨v, F, g1, _⟩ := k4 j cs[j] (List.getElem?_eq_getElem hlt)
          exact ⟨v, [], g1, .undef v, List.nodup_nil, by simp, by simp⟩
    map := fun o es hc => by
      rcases hl.mp o with h1 | h1
      · rw [h1] at hc; exact (h.map o es hc).frame hg rfl (hst _)
      · rw [h1] at hc; cases hc
    row := fun t p hp => by
      rcases hl.r t with h1 | h1
      · rw [h1] at hp; exact (h.row t p hp).frame hg rfl (hst _)
      · rw [h1] at hp; cases hp
    env := {
      mono := h.env.mono
      os := h.env.os
      tape := h.env.tape
      output := h.env.output
      size := h.env.size
      keep := h.env.keep
      lent := fun o L hL => by
        obtain ⟨k1, k2, k3, k4⟩ := h.env.lent o L hL
        refine ⟨k1, k2, fun hk => ?_, fun hk => k4 (by rw [hl.kb] at hk; exact hk)⟩
        rw [hl.kb] at hk
        obtain ⟨g1, g2⟩ := k3 hk
        refine ⟨g1, fun cs' hc => ?_⟩
        rcases hl.b o with hb | ⟨cs, cs2, h1, h2, h3, h4⟩
        · rw [hb] at hc; cases hc
        · rw [h2] at hc
          obtain rfl := Option.some.inj hc
          rw [h3]; exact g2 cs h1
      hd0 := fun t v hv hk => h.env.hd0 t v hv (by rw [hl.kr] at hk; exact hk)
      provlt := h.env.provlt
      prov := fun b i hb hk => h.env.prov b i hb (by rw [hl.kr] at hk; exact hk) } }
theorem less_forget (L : List Nat) (m : Mem) : Less m { m with b := fun o => if L.contains o then none else m.b o, mp := fun o => if L.contains o then none else m.mp o } := by
  refine ⟨rfl, rfl, rfl, fun _ => .inl rfl, fun o => ?_, fun o => ?_⟩
  · simp only
    split
    · exact .inr rfl
    · exact .inl rfl
  · simp only
    split
    · exact .inl rfl
    · cases h : m.b o with
      | none => exact .inl rfl
      | some cs => exact .inr ⟨cs, cs, rfl, rfl, rfl, fun _ => .inl rfl⟩
theorem Sim.forget (h : Sim P ar N E G s a w) (L : List Nat) : Sim P ar N E G (forget L s) a w := h.less (less_forget L s.m)
end
end Go.Proofs.YtngooidedlnmaaaGreat.Pv
