/- A plain reading of Go code and its soundness, part 31. No condition. -/
import Derived.Test.YtdbcnnehfbcldaaDoorV30
set_option linter.all false
set_option linter.unusedSimpArgs false
set_option linter.unusedVariables false
set_option linter.unnecessarySimpa false
/- Each operation, checked against the machine's. No condition. -/
namespace Go.Proofs.YtdbcnnehfbcldaaDoor.Pv
open Go
def Enters (P : Program) (R : Oracle) : Prop := ∀ f ps r, R f ps = some r → ∃ fn, P.funcs[f]? = some fn ∧ fn.body.isSome = true ∧ fn.name ≠ "runtime.NumGoroutine"
def cMov (op : Op) (y : Opd) : Bool := match op with
  | .move x => chkOpd x y
  | .assign x => chkOpd x y
  | _ => false
def cPick (op : Op) (c' a' b' : Opd) : Bool := match op with
  | .pick c a b => chkOpds [c, a, b] [c', a', b']
  | _ => false
def cAlloc (P : Program) (op : Op) (zs : List PV) : Bool := match op with
  | .alloc t => zeroB P t zs
  | _ => false
def cBox (op : Op) (y : Opd) : Bool := match op with
  | .box _ x => chkOpd x y
  | _ => false
def cBuild (P : Program) (op : Op) (zs : List PV) (qs : List (Nat × Nat)) (xs : List Opd) : Bool := match op with
  | .build t ps => buildB P t zs ps.toList qs && chkOpds (ps.toList.map (·.2)) xs
  | _ => false
def cLit (P : Program) (op : Op) (e : TypeId) (n : Nat) (xs : List Opd) : Bool := match op with
  | .buildSlice t len ps => litB P t e n len ps.toList && chkOpds (ps.toList.map (·.2)) xs
  | _ => false
def cLoad (P : Program) (op : Op) (n : Nat) (g : Bool) (y : Opd) : Bool := match op with
  | .load t x => varB P t n g && (g || n == 1) && chkOpd x y
  | _ => false
def cStore (P : Program) (op : Op) (n : Nat) (a v : Opd) : Bool := match op with
  | .store t x y => knownB P t && P.cellsOf t == n && decide (1 ≤ n) && chkOpds [x, y] [a, v]
  | _ => false
def cNil (op : Op) (y : Opd) : Bool := match op with
  | .nilCheck x => chkOpd x y
  | _ => false
def cBin (P : Program) (op : Op) (op' : BinOp) (k : Nat) (a b : Opd) : Bool := match op with
  | .binOp op t x y _ => op == op' && tagB P t k && chkOpds [x, y] [a, b]
  | _ => false
def eqKind : Nat → TypeDesc → Bool
  | 0, .int _ => true
  | 1, .bool => true
  | 2, .string => true
  | _, _ => false
def eqFlds (P : Program) : Nat → Nat → List Field → List Nat → Bool
  | 0, _, _, _ => false
  | _ + 1, _, [], ks => ks.isEmpty
  | n + 1, i, f :: fs, ks => f.name != "_" && f.offset == i && match P.underlying f.type with
    | some (.struct gs) => !P.stoodInHeld f.type && knownB P f.type && decide (P.cellsOf f.type ≤ ks.length) && eqFlds P n 0 gs.toList (ks.take (P.cellsOf f.type)) && eqFlds P n (i + P.cellsOf f.type) fs (ks.drop (P.cellsOf f.type))
    | some d => match ks with
      | k :: ks' => eqKind k d && eqFlds P n (i + 1) fs ks'
      | [] => false
    | none => false
def eqTy (P : Program) (t : TypeId) (ks : List Nat) : Bool := match P.underlying t with
  | some (.struct fs) => !P.stoodInHeld t && !P.eqGuardType P.depth t && eqFlds P 40 0 fs.toList ks
  | _ => false
def cEqs (P : Program) (op : Op) (ng : Bool) (ks : List Nat) (a b : Opd) : Bool := match op with
  | .binOp op t x y _ => (op == (if ng then .neq else .eql)) && eqTy P t ks && chkOpds [x, y] [a, b]
  | _ => false
def cUn (op : Op) (op' : UnOp) (a : Opd) : Bool := match op with
  | .unOp op _ x => op == op' && chkOpd x a
  | _ => false
def intB (P : Program) (t : TypeId) (k : IntKind) : Bool := match P.underlying t with
  | some (.int k') => k == k'
  | _ => false
def cConv (P : Program) (op : Op) (k : IntKind) (a : Opd) : Bool := match op with
  | .convert src dst x => (P.underlying src).isSome && intB P dst k && chkOpd x a
  | _ => false
def cB2s (P : Program) (op : Op) (a : Opd) : Bool := match op with
  | .convert src dst x => b2sB P src dst && chkOpd x a
  | _ => false
def cFld (P : Program) (op : Op) (off n : Nat) (g : Bool) (a : Opd) : Bool := match op with
  | .field t x f => fldB P t f == some (off, n, g) && chkOpd x a
  | _ => false
def offB (P : Program) (t : TypeId) (f off : Nat) : Bool := match fldB P t f with
  | some (off', n, _) => off == off' && n != 0
  | none => false
def cFlda (P : Program) (op : Op) (off : Nat) (a : Opd) : Bool := match op with
  | .fieldAddr t x f => offB P t f off && chkOpd x a
  | _ => false
def cIdxa (P : Program) (op : Op) (e : TypeId) (a b : Opd) : Bool := match op with
  | .indexAddr t x i => slB P t e && knownB P e && chkOpds [x, i] [a, b]
  | _ => false
def cIdxs (P : Program) (op : Op) (a b : Opd) : Bool := match op with
  | .index t x i => strB P t && chkOpds [x, i] [a, b]
  | _ => false
def slkB (P : Program) (t : TypeId) : Bool := match P.underlying t with
  | some (.slice e) => knownB P e
  | _ => false
def cSlc (P : Program) (op : Op) (e : Option TypeId) (a l h : Opd) : Bool := match op with
  | .slice t x lo hi none => (match e with
    | some e => slB P t e && knownB P e
    | none => strB P t) && hiB hi h && chkOpds [x, lo.getD (.const (.int .i64 0)), hi.getD (.const (.pointer none))] [a, l, h]
  | _ => false
def cTmv (op : Op) (t n : Nat) : Bool := match op with
  | .move (.tmp u) => u == t && decide (t < 1000000) && decide (2 ≤ n)
  | .assign (.tmp u) => u == t && decide (t < 1000000) && decide (2 ≤ n)
  | _ => false
def cMkm (op : Op) : Bool := match op with
  | .makeMap _ none => true
  | _ => false
def cMup (P : Program) (op : Op) (k : Nat) (a b c : Opd) : Bool := match op with
  | .mapUpdate t x y z => mapB P t k && chkOpds [x, y, z] [a, b, c]
  | _ => false
def cMdl (P : Program) (op : Op) (k : Nat) (a b : Opd) : Bool := match op with
  | .call ⟨.builtin .delete, ⟨[x, y]⟩, ⟨[t, _]⟩⟩ => mapB P t k && chkOpds [x, y] [a, b]
  | _ => false
def cMlk (P : Program) (op : Op) (k : Nat) (z : PV) (a b : Opd) : Bool := match op with
  | .lookup t x y false => mapB P t k && mapZB P t z && chkOpds [x, y] [a, b]
  | _ => false
def cLnm (P : Program) (op : Op) (a : Opd) : Bool := match op with
  | .call ⟨.builtin .len, ⟨[x]⟩, ⟨[t]⟩⟩ => mapTB P t && chkOpd x a
  | _ => false
def cSlv (P : Program) (op : Op) (e : TypeId) (a l h : Opd) : Bool := cSlc P op (some e) a l h
def cCut (P : Program) (op : Op) (e : TypeId) (a : Opd) : Bool := match op with
  | .slice t x lo (some (.const (.int k 0))) (some (.const (.int k2 0))) => slB P t e && knownB P e && (k == k2) && (match lo with
    | none => true
    | some (.const (.int _ 0)) => true
    | _ => false) && chkOpds [x] [a]
  | _ => false
def cExt (op : Op) (y : Opd) : Bool := match op, y with
  | .extract (.tmp t) i, .t u => u == t + 1000000 * (i + 1) && decide (t < 1000000)
  | _, _ => false
def cMkf (op : Op) (f' : FuncId) (os : List Opd) : Bool := match op with
  | .makeFunc (.func f) first xs => f == f' && first.isEmpty && chkOpds xs.toList os
  | _ => false
def cMks (P : Program) (op : Op) (e : TypeId) (z : PV) (bytes : Nat) (a : Opd) : Bool := match op with
  | .makeSlice t x y => mksB P t e z bytes && chkOpd x a && chkOpd y a
  | _ => false
def cApp (P : Program) (op : Op) (e : TypeId) (bytes : Nat) (a b : Opd) : Bool := match op with
  | .call ⟨.builtin .append, ⟨[x, y]⟩, ⟨[t, u]⟩⟩ => appB P t u e bytes && chkOpds [x, y] [a, b]
  | _ => false
def cLen (P : Program) (op : Op) (sl : Bool) (a : Opd) : Bool := match op with
  | .call ⟨.builtin .len, ⟨[x]⟩, ⟨[t]⟩⟩ => (if sl then slkB P t else strB P t) && chkOpd x a
  | _ => false
def cMin (op : Op) (a b : Opd) : Bool := match op with
  | .call ⟨.builtin .min, ⟨[x, y]⟩, _⟩ => chkOpds [x, y] [a, b]
  | _ => false
def cMax (op : Op) (a b : Opd) : Bool := match op with
  | .call ⟨.builtin .max, ⟨[x, y]⟩, _⟩ => chkOpds [x, y] [a, b]
  | _ => false
def cCall (op : Op) (f' : FuncId) (os : List Opd) : Bool := match op with
  | .call ⟨.value (.func f), xs, _⟩ => f == f' && chkOpds xs.toList os
  | _ => false
def cNewb (P : Program) (op : Op) (f' : FuncId) (zs : List PV) (x' : Opd) : Bool := match op with
  | .call ⟨.value (.func f), ⟨[x]⟩, _⟩ => f == f' && makerB P f zs && chkOpd x x'
  | _ => false
def cCallv (op : Op) (o : Opd) (os : List Opd) : Bool := match op with
  | .call ⟨.value (.tmp t), xs, _⟩ => chkOpds (.tmp t :: xs.toList) (o :: os)
  | _ => false
def chkOp (P : Program) (op : Op) : PO → Bool
  | .mov y => cMov op y
  | .pick c a b => cPick op c a b
  | .alloc zs => cAlloc P op zs
  | .box y _ => cBox op y
  | .build zs qs xs => cBuild P op zs qs xs
  | .lit e n xs => cLit P op e n xs
  | .load n g y => cLoad P op n g y
  | .store n a v => cStore P op n a v
  | .nilck y => cNil op y
  | .bin op' k a b => cBin P op op' k a b
  | .eqs ng ks a b => cEqs P op ng ks a b
  | .un op' a => cUn op op' a
  | .conv k a => cConv P op k a
  | .b2s a => cB2s P op a
  | .fld off n g a => cFld P op off n g a
  | .flda off a => cFlda P op off a
  | .idxa e a b => cIdxa P op e a b
  | .idxs a b => cIdxs P op a b
  | .slc e a l h => cSlc P op e a l h
  | .ext y => cExt op y
  | .mkf f os => cMkf op f os
  | .mks e z bytes a => cMks P op e z bytes a
  | .app e bytes a b => cApp P op e bytes a b
  | .len sl a => cLen P op sl a
  | .min2 a b => cMin op a b
  | .max2 a b => cMax op a b
  | .call f os => cCall op f os
  | .callv o os => cCallv op o os
  | .newb f zs x => cNewb P op f zs x
  | .slv e a l h => cSlv P op e a l h
  | .idv e a b => cIdxa P op e a b
  | .cut e a => cCut P op e a
  | .ldt n y => cLoad P op n true y
  | .tmv t n => cTmv op t n
  | .mkm => cMkm op
  | .lnm a => cLnm P op a
  | .mup k a b c => cMup P op k a b c
  | .mdl k a b => cMdl P op k a b
  | .mlk k z a b => cMlk P op k z a b
def isCallB : PO → Bool
  | .call _ _ => true
  | .callv _ _ => true
  | .newb _ _ _ => true
  | .slv _ _ _ _ => true
  | .idv _ _ _ => true
  | .tmv _ _ => true
  | _ => false
def chkOq (P : Program) (ar : Nat → Nat) (N : Nat) (o : Oper) (q : Oq) : Bool :=
  o.dst == q.dst && dstB ar N q.tup o.dst && chkOp P o.op q.po && (q.tup == 0 || (isCallB q.po && q.tup != 1))
section
variable {P : Program} {ar : Nat → Nat} {N : Nat} {E : Entry} {G G' : Gh} {s s' : St} {a : Act} {w w' : World} {m m' m2 : Mem} {t' : Nat → AV} {V : List Nat} {as cs : List AV} {F : List Nat} {ρ : Operand → Value} {o : Oper} {d : Nat}
def Gave (P : Program) (ar : Nat → Nat) (N : Nat) (E : Entry) (t' : Nat → AV) (a : Act) (as : List AV) (m2 : Mem) (r : Result Next) : Prop :=
  (∃ v w2, r = .ok (.value v) w2 ∧ Gives P ar N E 0 t' a as m2 v w2) ∨ ∃ w2, r = .ok .skip w2 ∧ Gives P ar N E 0 t' a as m2 undef w2
theorem Gave.plain {r : Result Next} (h : Sim P ar N E G ⟨t', m⟩ a w) (hF : ∀ b ∈ F, G.γ b = some .x) (hp : Plain P G w m m2 F as r) : Gave P ar N E t' a as m2 r := by
  obtain ⟨v, h1, h2⟩ := hp.gives h hF
  exact .inl ⟨v, w, h1, h2⟩
theorem sroot (h : Sim P ar N E G ⟨t', m⟩ a w) : ∀ r p v, RefAt P G w m r p v → ∃ F, Rep P w G.ok p v F := fun r p v hr => by
  obtain ⟨F, h1, _⟩ := h.root hr; exact ⟨F, h1⟩
theorem chk1 {x : Operand} {y : Opd} (h : chkOpd x y = true) : chkOpds [x] [y] = true := by simp [chkOpds, h]
theorem eval_const {v : Value} : a.eval (.const v) = v := rfl
theorem list_eq2 {α : Type} {x : Array α} {a b : α} (h : x.toList = [a, b]) : x = #[a, b] := by
  apply Array.ext'; simpa using h
section
variable {xs : List Operand}
theorem one_mov {y : Opd} (h : Sim P ar N E G s a w) (hc : cMov o.op y = true) (ht : takeT V s.t [y] = some t') (hs : semL d s.m (.mov y) [opd s y] = some (as, m2)) : Gave P ar N E t' a as m2 ((execOp a.eval o).run P w) := by
  generalize hop : o.op = op at hc
  unfold cMov at hc
  split at hc
  · obtain ⟨G1, F, h1, hr, hn, hF⟩ := h.read (chk1 hc) ht
    exact .plain h1 hF (plain_mov (y := y) (.inl hop) hn hr hs)
  · obtain ⟨G1, F, h1, hr, hn, hF⟩ := h.read (chk1 hc) ht
    exact .plain h1 hF (plain_mov (y := y) (.inr hop) hn hr hs)
  · cases hc
theorem one_pick {c' x' y' : Opd} (h : Sim P ar N E G s a w) (hc : cPick o.op c' x' y' = true) (ht : takeT V s.t [c', x', y'] = some t') (hs : semL d s.m (.pick c' x' y') [opd s c', opd s x', opd s y'] = some (as, m2)) : Gave P ar N E t' a as m2 ((execOp a.eval o).run P w) := by
  generalize hop : o.op = op at hc
  unfold cPick at hc
  split at hc
  · rename_i c x y
    obtain ⟨G1, F, h1, hr, hn, hF⟩ := h.read (xs := [c, x, y]) hc ht
    simp only [List.map_cons, List.map_nil] at hr
    obtain ⟨b, hb⟩ : ∃ b, opd s c' = .pv (.bool b) := by
      cases hx : opd s c' with
      | pv p => cases p <;> first | exact ⟨_, rfl⟩ | (rw [hx] at hs; simp [semL] at hs)
      | _ => rw [hx] at hs; simp [semL] at hs
    rw [hb] at hs hr
    exact .plain h1 hF (plain_pick hop hn hr hs)
  · cases hc
theorem one_alloc {zs : List PV} (h : Sim P ar N E G s a w) (hc : cAlloc P o.op zs = true) (ht : takeT V s.t [] = some t') (hs : semL d s.m (.alloc zs) [] = some (as, m2)) : Gave P ar N E t' a as m2 ((execOp a.eval o).run P w) := by
  generalize hop : o.op = op at hc
  unfold cAlloc at hc
  split at hc
  · obtain ⟨G1, F, h1, hr, hn, hF⟩ := h.read (xs := []) rfl ht
    exact .inl (gives_alloc h1 hc hop hs)
  · cases hc
theorem one_box {y : Opd} {n : Nat} (h : Sim P ar N E G s a w) (hc : cBox o.op y = true) (ht : takeT V s.t [y] = some t') (hs : semL d s.m (.box y n) [opd s y] = some (as, m2)) : Gave P ar N E t' a as m2 ((execOp a.eval o).run P w) := by
  generalize hop : o.op = op at hc
  unfold cBox at hc
  split at hc
  · obtain ⟨G1, F, h1, hr, hn, hF⟩ := h.read (chk1 hc) ht
    exact .inl (gives_box h1 hop hr hn hF hs)
  · cases hc
theorem one_build {zs : List PV} {qs : List (Nat × Nat)} {os : List Opd} (h : Sim P ar N E G s a w) (hc : cBuild P o.op zs qs os = true) (ht : takeT V s.t os = some t') (hs : semL d s.m (.build zs qs os) (os.map (opd s)) = some (as, m2)) : Gave P ar N E t' a as m2 ((execOp a.eval o).run P w) := by
  generalize hop : o.op = op at hc
  unfold cBuild at hc
  split at hc
  · simp only [Bool.and_eq_true] at hc
    obtain ⟨G1, F, h1, hr, hn, hF⟩ := h.read hc.2 ht
    rw [List.map_map] at hr
    exact .plain h1 hF (plain_build hc.1 hop hr hn hs)
  · cases hc
theorem one_lit {e : TypeId} {n : Nat} {os : List Opd} (h : Sim P ar N E G s a w) (hc : cLit P o.op e n os = true) (ht : takeT V s.t os = some t') (hs : semL d s.m (.lit e n os) (os.map (opd s)) = some (as, m2)) : Gave P ar N E t' a as m2 ((execOp a.eval o).run P w) := by
  generalize hop : o.op = op at hc
  unfold cLit at hc
  split at hc
  · simp only [Bool.and_eq_true] at hc
    obtain ⟨G1, F, h1, hr, hn, hF⟩ := h.read hc.2 ht
    rw [List.map_map] at hr
    exact .inl (gives_lit h1 hc.1 hop hr hn hF hs)
  · cases hc
theorem one_load {y : Opd} {n : Nat} {g : Bool} (h : Sim P ar N E G s a w) (hc : cLoad P o.op n g y = true) (ht : takeT V s.t [y] = some t') (hs : semL d s.m (.load n g y) [opd s y] = some (as, m2)) : Gave P ar N E t' a as m2 ((execOp a.eval o).run P w) := by
  generalize hop : o.op = op at hc
  unfold cLoad at hc
  split at hc
  · simp only [Bool.and_eq_true] at hc
    obtain ⟨G1, F, h1, hr, hn, hF⟩ := h.read (chk1 hc.2) ht
    simp only [List.map_cons, List.map_nil] at hr
    cases hy : opd s y with
    | ptr o k c => rw [hy] at hs hr; exact .plain h1 hF (plain_load_ptr (s := ⟨t', s.m⟩) h1 hc.1.1 hop hr hs)
    | ept r i f => rw [hy] at hs hr; exact .plain h1 hF (plain_load_ept (s := ⟨t', s.m⟩) h1 hc.1.1 hop hr hs)
    | pv p =>
      rw [hy] at hs hr
      cases p with
      | ref cs => exact .plain h1 hF (plain_load_ref hc.1.1 hop hr hs)
      | _ => simp [semL] at hs
    | _ => rw [hy] at hs; simp [semL] at hs
  · cases hc
theorem one_ldt {y : Opd} {n : Nat} (h : Sim P ar N E G s a w) (hc : cLoad P o.op n true y = true) (ht : takeT V s.t [y] = some t') (hs : semL d s.m (.ldt n y) [opd s y] = some (as, m2)) : Gave P ar N E t' a as m2 ((execOp a.eval o).run P w) := by
  generalize hop : o.op = op at hc
  unfold cLoad at hc
  split at hc
  · simp only [Bool.and_eq_true] at hc
    obtain ⟨G1, F, h1, hr, hn, hF⟩ := h.read (chk1 hc.2) ht
    simp only [List.map_cons, List.map_nil] at hr
    cases hy : opd s y with
    | ptr o k c => rw [hy] at hs hr; exact .inl (gives_ldt h1 hc.1.1 hop hr hs)
    | _ => rw [hy] at hs; simp [semL] at hs
  · cases hc
theorem one_lnm {u : Opd} (h : Sim P ar N E G s a w) (hc : cLnm P o.op u = true) (ht : takeT V s.t [u] = some t') (hs : semL d s.m (.lnm u) [opd s u] = some (as, m2)) : Gave P ar N E t' a as m2 ((execOp a.eval o).run P w) := by
  generalize hop : o.op = op at hc
  unfold cLnm at hc
  split at hc
  · simp only [Bool.and_eq_true] at hc
    obtain ⟨G1, F, h1, hr, hn, hF⟩ := h.read (chk1 hc.2) ht
    simp only [List.map_cons, List.map_nil] at hr
    cases hu : opd s u with
    | mp o k => rw [hu] at hs hr; exact .plain h1 hF (plain_lnm (s := ⟨t', s.m⟩) h1 hc.1 hop hr hs)
    | _ => rw [hu] at hs; simp [semL] at hs
  · cases hc
theorem one_mkm (h : Sim P ar N E G s a w) (hc : cMkm o.op = true) (ht : takeT V s.t [] = some t') (hs : semL d s.m .mkm [] = some (as, m2)) : Gave P ar N E t' a as m2 ((execOp a.eval o).run P w) := by
  generalize hop : o.op = op at hc
  unfold cMkm at hc
  split at hc
  · simp only [takeT, Option.some.injEq] at ht
    subst ht
    exact .inl (gives_mkm (m := s.m) (t' := s.t) h hop hs)
  · cases hc
theorem one_mup {k : Nat} {u v x : Opd} (h : Sim P ar N E G s a w) (hc : cMup P o.op k u v x = true) (ht : takeT V s.t [u, v, x] = some t') (hs : semL d s.m (.mup k u v x) [opd s u, opd s v, opd s x] = some (as, m2)) : Gave P ar N E t' a as m2 ((execOp a.eval o).run P w) := by
  generalize hop : o.op = op at hc
  unfold cMup at hc
  split at hc
  · rename_i t y1 y2 y3
    simp only [Bool.and_eq_true] at hc
    obtain ⟨G1, F, h1, hr, hn, hF⟩ := h.read (xs := [y1, y2, y3]) hc.2 ht
    simp only [List.map_cons, List.map_nil] at hr
    cases hu : opd s u with
    | mp o k =>
      cases hv : opd s v with
      | pv p =>
        cases hx : opd s x with
        | pv p2 => rw [hu, hv, hx] at hs hr; exact .inr (gives_mup h1 hc.1 hop hr hs)
        | _ => rw [hu, hv, hx] at hs; simp [semL] at hs
      | _ => rw [hu, hv] at hs; simp [semL] at hs
    | _ => rw [hu] at hs; simp [semL] at hs
  · cases hc
theorem one_mdl {k : Nat} {u v : Opd} (h : Sim P ar N E G s a w) (hc : cMdl P o.op k u v = true) (ht : takeT V s.t [u, v] = some t') (hs : semL d s.m (.mdl k u v) [opd s u, opd s v] = some (as, m2)) : Gave P ar N E t' a as m2 ((execOp a.eval o).run P w) := by
  generalize hop : o.op = op at hc
  unfold cMdl at hc
  split at hc
  · rename_i y1 y2 t y3
    simp only [Bool.and_eq_true] at hc
    obtain ⟨G1, F, h1, hr, hn, hF⟩ := h.read (xs := [y1, y2]) hc.2 ht
    simp only [List.map_cons, List.map_nil] at hr
    cases hu : opd s u with
    | mp o k =>
      cases hv : opd s v with
      | pv p => rw [hu, hv] at hs hr; exact .inl (gives_mdl h1 hc.1 hop hr hs)
      | _ => rw [hu, hv] at hs; simp [semL] at hs
    | _ => rw [hu] at hs; simp [semL] at hs
  · cases hc
theorem one_mlk {k : Nat} {z : PV} {u v : Opd} (h : Sim P ar N E G s a w) (hc : cMlk P o.op k z u v = true) (ht : takeT V s.t [u, v] = some t') (hs : semL d s.m (.mlk k z u v) [opd s u, opd s v] = some (as, m2)) : Gave P ar N E t' a as m2 ((execOp a.eval o).run P w) := by
  generalize hop : o.op = op at hc
  unfold cMlk at hc
  split at hc
  · rename_i t y1 y2
    simp only [Bool.and_eq_true] at hc
    obtain ⟨G1, F, h1, hr, hn, hF⟩ := h.read (xs := [y1, y2]) hc.2 ht
    simp only [List.map_cons, List.map_nil] at hr
    cases hu : opd s u with
    | mp o k =>
      cases hv : opd s v with
      | pv p => rw [hu, hv] at hs hr; exact .plain h1 hF (plain_mlk (s := ⟨t', s.m⟩) h1 hc.1.1 hc.1.2 hop hr hs)
      | _ => rw [hu, hv] at hs; simp [semL] at hs
    | _ => rw [hu] at hs; simp [semL] at hs
  · cases hc
theorem one_store {u v : Opd} {n : Nat} (h : Sim P ar N E G s a w) (hc : cStore P o.op n u v = true) (ht : takeT V s.t [u, v] = some t') (hs : semL d s.m (.store n u v) [opd s u, opd s v] = some (as, m2)) : Gave P ar N E t' a as m2 ((execOp a.eval o).run P w) := by
  generalize hop : o.op = op at hc
  unfold cStore at hc
  split at hc
  · rename_i t x y
    simp only [Bool.and_eq_true, beq_iff_eq, decide_eq_true_eq] at hc
    obtain ⟨G1, F, h1, hr, hn, hF⟩ := h.read (xs := [x, y]) hc.2 ht
    simp only [List.map_cons, List.map_nil] at hr
    cases hy : opd s u with
    | ptr o k c => rw [hy] at hs hr; exact .inr (gives_store_ptr h1 hc.1.1.1 hc.1.1.2 hop hr hn hF hs)
    | ept r i f => rw [hy] at hs hr; exact .inr (gives_store_ept h1 hc.1.1.1 hc.1.1.2 hc.1.2 hop hr hn hF hs)
    | _ => rw [hy] at hs; simp [semL] at hs
  · cases hc
theorem one_nil {y : Opd} (h : Sim P ar N E G s a w) (hc : cNil o.op y = true) (ht : takeT V s.t [y] = some t') (hs : semL d s.m (.nilck y) [opd s y] = some (as, m2)) : Gave P ar N E t' a as m2 ((execOp a.eval o).run P w) := by
  generalize hop : o.op = op at hc
  unfold cNil at hc
  split at hc
  · obtain ⟨G1, F, h1, hr, hn, hF⟩ := h.read (chk1 hc) ht
    simp only [List.map_cons, List.map_nil] at hr
    cases hy : opd s y with
    | ptr o k c => rw [hy] at hs hr; exact .plain h1 hF (plain_nilck_ptr hop hr hs)
    | ept r i f => rw [hy] at hs hr; exact .plain h1 hF (plain_nilck_ept hop hr hs)
    | pv p =>
      rw [hy] at hs hr
      cases p with
      | ref cs => exact .plain h1 hF (plain_nilck_ref hop hr hs)
      | _ => simp [semL] at hs
    | _ => rw [hy] at hs; simp [semL] at hs
  · cases hc
theorem one_bin {op' : BinOp} {k : Nat} {u v : Opd} (h : Sim P ar N E G s a w) (hc : cBin P o.op op' k u v = true) (ht : takeT V s.t [u, v] = some t') (hs : semL d s.m (.bin op' k u v) [opd s u, opd s v] = some (as, m2)) : Gave P ar N E t' a as m2 ((execOp a.eval o).run P w) := by
  generalize hop : o.op = op at hc
  unfold cBin at hc
  split at hc
  · rename_i op t x y t2
    simp only [Bool.and_eq_true, beq_iff_eq] at hc
    obtain ⟨⟨rfl, hk⟩, hx⟩ := hc
    obtain ⟨G1, F, h1, hr, hn, hF⟩ := h.read (xs := [x, y]) hx ht
    simp only [List.map_cons, List.map_nil] at hr
    cases hu : opd s u with
    | pv p =>
      cases hv : opd s v with
      | pv q => rw [hu, hv] at hs hr; exact .plain h1 hF (plain_bin hk hop hr hs)
      | _ => rw [hu, hv] at hs; simp [semL] at hs
    | _ => rw [hu] at hs; simp [semL] at hs
  · cases hc
theorem one_un {op' : UnOp} {u : Opd} (h : Sim P ar N E G s a w) (hc : cUn o.op op' u = true) (ht : takeT V s.t [u] = some t') (hs : semL d s.m (.un op' u) [opd s u] = some (as, m2)) : Gave P ar N E t' a as m2 ((execOp a.eval o).run P w) := by
  generalize hop : o.op = op at hc
  unfold cUn at hc
  split at hc
  · simp only [Bool.and_eq_true, beq_iff_eq] at hc
    obtain ⟨rfl, hx⟩ := hc
    obtain ⟨G1, F, h1, hr, hn, hF⟩ := h.read (chk1 hx) ht
    simp only [List.map_cons, List.map_nil] at hr
    cases hu : opd s u with
    | pv p => rw [hu] at hs hr; exact .plain h1 hF (plain_un hop hr hs)
    | _ => rw [hu] at hs; simp [semL] at hs
  · cases hc
theorem one_conv {k : IntKind} {u : Opd} (h : Sim P ar N E G s a w) (hc : cConv P o.op k u = true) (ht : takeT V s.t [u] = some t') (hs : semL d s.m (.conv k u) [opd s u] = some (as, m2)) : Gave P ar N E t' a as m2 ((execOp a.eval o).run P w) := by
  generalize hop : o.op = op at hc
  unfold cConv at hc
  split at hc
  · simp only [Bool.and_eq_true] at hc
    obtain ⟨⟨hsrc, hd⟩, hx⟩ := hc
    obtain ⟨G1, F, h1, hr, hn, hF⟩ := h.read (chk1 hx) ht
    simp only [List.map_cons, List.map_nil] at hr
    unfold intB at hd
    split at hd
    · rename_i k' hk'
      simp only [beq_iff_eq] at hd
      subst hd
      cases hu : opd s u with
      | pv p =>
        rw [hu] at hs hr
        cases p with
        | int k2 n => exact .plain h1 hF (plain_conv hsrc hk' hop hr hs)
        | _ => simp [semL] at hs
      | _ => rw [hu] at hs; simp [semL] at hs
    · cases hd
  · cases hc
theorem one_b2s {u : Opd} (h : Sim P ar N E G s a w) (hc : cB2s P o.op u = true) (ht : takeT V s.t [u] = some t') (hs : semL d s.m (.b2s u) [opd s u] = some (as, m2)) : Gave P ar N E t' a as m2 ((execOp a.eval o).run P w) := by
  generalize hop : o.op = op at hc
  unfold cB2s at hc
  split at hc
  · simp only [Bool.and_eq_true] at hc
    obtain ⟨G1, F, h1, hr, hn, hF⟩ := h.read (chk1 hc.2) ht
    exact .plain h1 hF (plain_b2s (sroot h1) hc.1 hop hr hs)
  · cases hc
theorem one_fld {off n : Nat} {g : Bool} {u : Opd} (h : Sim P ar N E G s a w) (hc : cFld P o.op off n g u = true) (ht : takeT V s.t [u] = some t') (hs : semL d s.m (.fld off n g u) [opd s u] = some (as, m2)) : Gave P ar N E t' a as m2 ((execOp a.eval o).run P w) := by
  generalize hop : o.op = op at hc
  unfold cFld at hc
  split at hc
  · simp only [Bool.and_eq_true, beq_iff_eq] at hc
    obtain ⟨G1, F, h1, hr, hn, hF⟩ := h.read (chk1 hc.2) ht
    simp only [List.map_cons, List.map_nil] at hr
    cases hu : opd s u with
    | agg cs => rw [hu] at hs hr; exact .plain h1 hF (plain_fld hc.1 hop hn hr hs)
    | _ => rw [hu] at hs; simp [semL] at hs
  · cases hc
theorem one_flda {off : Nat} {u : Opd} (h : Sim P ar N E G s a w) (hc : cFlda P o.op off u = true) (ht : takeT V s.t [u] = some t') (hs : semL d s.m (.flda off u) [opd s u] = some (as, m2)) : Gave P ar N E t' a as m2 ((execOp a.eval o).run P w) := by
  generalize hop : o.op = op at hc
  unfold cFlda at hc
  split at hc
  · simp only [Bool.and_eq_true] at hc
    obtain ⟨hf, hx⟩ := hc
    obtain ⟨G1, F, h1, hr, hn, hF⟩ := h.read (chk1 hx) ht
    simp only [List.map_cons, List.map_nil] at hr
    unfold offB at hf
    split at hf
    · rename_i off' n g hf2
      simp only [Bool.and_eq_true, beq_iff_eq, bne_iff_ne, ne_eq] at hf
      obtain ⟨rfl, hn0⟩ := hf
      cases hu : opd s u with
      | ptr o k c => rw [hu] at hs hr; exact .plain h1 hF (plain_flda_ptr hf2 hn0 hop hr hs)
      | ept r i j => rw [hu] at hs hr; exact .plain h1 hF (plain_flda_ept hf2 hn0 hop hr hs)
      | pv p =>
        rw [hu] at hs hr
        cases p with
        | ref cs => exact .plain h1 hF (plain_flda_ref hf2 hn0 hop hr hs)
        | _ => simp [semL] at hs
      | _ => rw [hu] at hs; simp [semL] at hs
    · cases hf
  · cases hc
theorem one_idxa {e : TypeId} {u v : Opd} (h : Sim P ar N E G s a w) (hc : cIdxa P o.op e u v = true) (ht : takeT V s.t [u, v] = some t') (hs : semL d s.m (.idxa e u v) [opd s u, opd s v] = some (as, m2)) : Gave P ar N E t' a as m2 ((execOp a.eval o).run P w) := by
  generalize hop : o.op = op at hc
  unfold cIdxa at hc
  split at hc
  · rename_i t x i
    simp only [Bool.and_eq_true] at hc
    obtain ⟨G1, F, h1, hr, hn, hF⟩ := h.read (xs := [x, i]) hc.2 ht
    simp only [List.map_cons, List.map_nil] at hr
    have hv : ∃ k n, opd s v = .pv (.int k n) := by
      cases hv : opd s v with
      | pv p =>
        cases p with
        | int k n => exact ⟨_, _, rfl⟩
        | _ => rw [hv] at hs; cases hu : opd s u <;> rw [hu] at hs <;> first | (simp [semL] at hs; done) | (rename_i q; cases q <;> simp [semL] at hs)
      | _ => rw [hv] at hs; cases hu : opd s u <;> rw [hu] at hs <;> first | (simp [semL] at hs; done) | (rename_i q; cases q <;> simp [semL] at hs)
    obtain ⟨k, n, hv⟩ := hv
    rw [hv] at hs hr
    cases hu : opd s u with
    | rw r => rw [hu] at hs hr; exact .plain h1 hF (plain_idxa_rw (sroot h1) (slB_iff hc.1.1) hc.1.2 hop hr hs)
    | pv p =>
      rw [hu] at hs hr
      cases p with
      | sl fl e' xs => exact .plain h1 hF (plain_idxa_sh h1.mono (slB_iff hc.1.1) hc.1.2 hop hr hs)
      | _ => simp [semL] at hs
    | _ => rw [hu] at hs; simp [semL] at hs
  · cases hc
theorem one_idxs {u v : Opd} (h : Sim P ar N E G s a w) (hc : cIdxs P o.op u v = true) (ht : takeT V s.t [u, v] = some t') (hs : semL d s.m (.idxs u v) [opd s u, opd s v] = some (as, m2)) : Gave P ar N E t' a as m2 ((execOp a.eval o).run P w) := by
  generalize hop : o.op = op at hc
  unfold cIdxs at hc
  split at hc
  · rename_i t x i
    simp only [Bool.and_eq_true] at hc
    obtain ⟨G1, F, h1, hr, hn, hF⟩ := h.read (xs := [x, i]) hc.2 ht
    simp only [List.map_cons, List.map_nil] at hr
    cases hu : opd s u with
    | pv p =>
      cases p with
      | str b =>
        cases hv : opd s v with
        | pv q =>
          cases q with
          | int k n => rw [hu, hv] at hs hr; exact .plain h1 hF (plain_idxs (strB_iff hc.1) hop hr hs)
          | _ => rw [hu, hv] at hs; simp [semL] at hs
        | _ => rw [hu, hv] at hs; simp [semL] at hs
      | _ => rw [hu] at hs; simp [semL] at hs
    | _ => rw [hu] at hs; simp [semL] at hs
  · cases hc
theorem slc_form {e : Option TypeId} {x l h : AV} {u lo hi : Opd} (hs : semL d m (.slc e u lo hi) [x, l, h] = some (as, m2)) : (∃ k n q, l = .pv (.int k n) ∧ h = .pv q) ∧ ((e = none ∧ ∃ b, x = .pv (.str b)) ∨ ∃ e0 fl e1 xs, e = some e0 ∧ x = .pv (.sl fl e1 xs) ∧ e0 = e1) := by
  cases x with
  | pv p =>
    cases l with
    | pv q =>
      cases h with
      | pv r =>
        cases q with
        | int k n =>
          refine ⟨⟨k, n, r, rfl, rfl⟩, ?_⟩
          cases e with
          | none =>
            cases p with
            | str b => exact .inl ⟨rfl, b, rfl⟩
            | _ => simp [semL] at hs
          | some e0 =>
            cases p with
            | sl fl e1 xs =>
              refine .inr ⟨e0, fl, e1, xs, rfl, rfl, ?_⟩
              simp only [semL] at hs
              split at hs
              · cases hs
              · rename_i hc; exact Decidable.byContradiction fun hx => hc (.inr hx)
            | _ => simp [semL] at hs
        | _ => cases e <;> cases p <;> simp [semL] at hs
      | _ => cases e <;> cases p <;> cases q <;> simp [semL] at hs
    | _ => cases e <;> cases p <;> simp [semL] at hs
  | _ => cases e <;> simp [semL] at hs
theorem one_slc {e : Option TypeId} {u l hO : Opd} (h : Sim P ar N E G s a w) (hc : cSlc P o.op e u l hO = true) (ht : takeT V s.t [u, l, hO] = some t') (hs : semL d s.m (.slc e u l hO) [opd s u, opd s l, opd s hO] = some (as, m2)) : Gave P ar N E t' a as m2 ((execOp a.eval o).run P w) := by
  generalize hop : o.op = op at hc
  unfold cSlc at hc
  split at hc
  · rename_i t x lo hi
    simp only [Bool.and_eq_true] at hc
    obtain ⟨⟨hty, hh⟩, hx⟩ := hc
    obtain ⟨G1, F, h1, hr, hn, hF⟩ := h.read (xs := [x, lo.getD (.const (.int .i64 0)), hi.getD (.const (.pointer none))]) hx ht
    simp only [List.map_cons, List.map_nil] at hr
    obtain ⟨⟨k, n, q, hl, hq⟩, hx2⟩ := slc_form hs
    rw [hl, hq] at hs hr
    rcases hx2 with ⟨rfl, b, hb⟩ | ⟨e0, fl, e1, ys, rfl, hb, rfl⟩
    · rw [hb] at hs hr
      exact .plain h1 hF (plain_slc_str (fun _ => rfl) hh (strB_iff hty) hop hr hs)
    · rw [hb] at hs hr
      simp only [Bool.and_eq_true] at hty
      exact .plain h1 hF (plain_slc_sl (e2 := e0) (fun _ => rfl) hh (slB_iff hty.1) hty.2 hop hr hs)
  · cases hc
theorem one_cut {e : TypeId} {u : Opd} (h : Sim P ar N E G s a w) (hc : cCut P o.op e u = true) (ht : takeT V s.t [u] = some t') (hs : semL d s.m (.cut e u) [opd s u] = some (as, m2)) : Gave P ar N E t' a as m2 ((execOp a.eval o).run P w) := by
  generalize hop : o.op = op at hc
  unfold cCut at hc
  split at hc
  · rename_i t x lo k k2
    simp only [Bool.and_eq_true, beq_iff_eq] at hc
    obtain ⟨⟨⟨⟨h1, h2⟩, rfl⟩, h3⟩, hx⟩ := hc
    obtain ⟨G1, F, h4, hr, hn, hF⟩ := h.read (xs := [x]) hx ht
    simp only [List.map_cons, List.map_nil] at hr
    refine .plain h4 hF (plain_cut (fun _ => rfl) (slB_iff h1) h2 ?_ hop hr hs)
    split at h3
    · exact .inl rfl
    · exact .inr ⟨_, rfl⟩
    · cases h3
  · cases hc
theorem one_ext {y : Opd} (h : Sim P ar N E G s a w) (hc : cExt o.op y = true) (ht : takeT V s.t [y] = some t') (hs : semL d s.m (.ext y) [opd s y] = some (as, m2)) : Gave P ar N E t' a as m2 ((execOp a.eval o).run P w) := by
  generalize hop : o.op = op at hc
  unfold cExt at hc
  split at hc
  · rename_i t i u
    simp only [Bool.and_eq_true, beq_iff_eq, decide_eq_true_eq] at hc
    obtain ⟨rfl, htl⟩ := hc
    simp only [opd] at hs
    obtain ⟨v, hv⟩ : ∃ v, conc a (t + 1000000 * (i + 1)) = some v := by
      cases hx : conc a (t + 1000000 * (i + 1)) with
      | some v => exact ⟨v, rfl⟩
      | none => rw [h.nn _ hx] at hs; simp [semL] at hs
    obtain ⟨G1, F, h1, h2, h3, h4, _⟩ := Sim.takes (ks := fun p v => repB p v = true) (fun p v G w h => repB_sound h) [.t (t + 1000000 * (i + 1))] G s.t [v] [] t' h ht rfl (fun j o' v' g1 g2 => by
      cases j with
      | zero => simp at g1 g2; subst g1; subst g2; exact hv
      | succ j => simp at g1) ⟨List.nodup_nil, by simp⟩
    have hrun := plain_ext (P := P) (w := w) hop htl hv
    simp only [List.map_cons, List.map_nil, opd] at h2
    obtain ⟨v', e1, e2⟩ := h2.inv1
    simp only [List.cons.injEq, and_true] at e1
    subst e1
    have hs' : as = [s.t (t + 1000000 * (i + 1))] ∧ m2 = s.m := by
      cases hx : s.t (t + 1000000 * (i + 1)) with
      | undef => rw [hx] at hs; simp [semL] at hs
      | void => rw [hx] at hs; simp [semL] at hs
      | _ => rw [hx] at hs; simp only [semL, Option.some.injEq, Prod.mk.injEq] at hs; exact ⟨hs.1.symm, hs.2.symm⟩
    obtain ⟨rfl, rfl⟩ := hs'
    exact .inl ⟨v, w, hrun, G1, F, h1, by simpa using h3, by simpa using h4, fun c hcc => by
      simp only [List.cons.injEq, and_true] at hcc; subst hcc; exact e2⟩
  · cases hc
theorem one_mkf {f' : FuncId} {os : List Opd} (h : Sim P ar N E G s a w) (hc : cMkf o.op f' os = true) (ht : takeT V s.t os = some t') (hs : semL d s.m (.mkf f' os) (os.map (opd s)) = some (as, m2)) : Gave P ar N E t' a as m2 ((execOp a.eval o).run P w) := by
  generalize hop : o.op = op at hc
  unfold cMkf at hc
  split at hc
  · simp only [Bool.and_eq_true, beq_iff_eq, Array.isEmpty_iff] at hc
    obtain ⟨⟨rfl, rfl⟩, hx⟩ := hc
    obtain ⟨G1, F, h1, hr, hn, hF⟩ := h.read hx ht
    exact .plain h1 hF (plain_mkf hop hr hs)
  · cases hc
theorem one_mks {e : TypeId} {z : PV} {bytes : Nat} {u : Opd} (h : Sim P ar N E G s a w) (hc : cMks P o.op e z bytes u = true) (ht : takeT V s.t [u] = some t') (hs : semL d s.m (.mks e z bytes u) [opd s u] = some (as, m2)) : Gave P ar N E t' a as m2 ((execOp a.eval o).run P w) := by
  generalize hop : o.op = op at hc
  unfold cMks at hc
  split at hc
  · rename_i t x y
    simp only [Bool.and_eq_true] at hc
    obtain ⟨⟨hm, hx⟩, hy⟩ := hc
    obtain ⟨G1, F, h1, hr, hn, hF⟩ := h.read (chk1 hx) ht
    simp only [List.map_cons, List.map_nil] at hr
    have hu : ∃ k n, opd s u = .pv (.int k n) := by
      cases hu : opd s u with
      | pv p => cases p <;> first | exact ⟨_, _, rfl⟩ | (rw [hu] at hs; simp [semL] at hs)
      | _ => rw [hu] at hs; simp [semL] at hs
    obtain ⟨k, n, hu⟩ := hu
    have hxy : a.eval x = a.eval y := by
      cases u with
      | t j =>
        cases x <;> simp [chkOpd] at hx
        cases y <;> simp [chkOpd] at hy
        rw [hx.1, hy.1]
      | k p =>
        have hp : p = .int k n := by simp only [opd] at hu; cases p <;> simp [ofPV] at hu; simp [hu]
        subst hp
        have one : ∀ z : Operand, chkOpd z (.k (.int k n)) = true → a.eval z = .int k n := by
          intro z hz
          cases z <;> simp [chkOpd] at hz
          rename_i v
          cases v <;> simp [repB] at hz
          simp [Act.eval, hz]
        rw [one x hx, one y hy]
    rw [hu] at hs hr
    exact .inl (gives_mks h1 hm hop hxy hr hs)
  · cases hc
theorem one_app {e : TypeId} {bytes : Nat} {u v : Opd} (h : Sim P ar N E G s a w) (hc : cApp P o.op e bytes u v = true) (ht : takeT V s.t [u, v] = some t') (hs : semL d s.m (.app e bytes u v) [opd s u, opd s v] = some (as, m2)) : Gave P ar N E t' a as m2 ((execOp a.eval o).run P w) := by
  generalize hop : o.op = op at hc
  unfold cApp at hc
  split at hc
  · rename_i x y t t2
    simp only [Bool.and_eq_true] at hc
    obtain ⟨G1, F, h1, hr, hn, hF⟩ := h.read (xs := [x, y]) hc.2 ht
    exact .inl (gives_app h1 hc.1 hop hr hn hF hs)
  · cases hc
theorem one_len {sl : Bool} {u : Opd} (h : Sim P ar N E G s a w) (hc : cLen P o.op sl u = true) (ht : takeT V s.t [u] = some t') (hs : semL d s.m (.len sl u) [opd s u] = some (as, m2)) : Gave P ar N E t' a as m2 ((execOp a.eval o).run P w) := by
  generalize hop : o.op = op at hc
  unfold cLen at hc
  split at hc
  · rename_i x t
    simp only [Bool.and_eq_true] at hc
    obtain ⟨G1, F, h1, hr, hn, hF⟩ := h.read (chk1 hc.2) ht
    simp only [List.map_cons, List.map_nil] at hr
    cases sl with
    | true =>
      have ht2 := hc.1
      simp only [if_true] at ht2
      unfold slkB at ht2
      split at ht2
      · rename_i e2 he2
        have hs2 := hs
        simp only [semL] at hs2
        split at hs2
        · rename_i fl e xs hrow
          exact .plain h1 hF (plain_len_sl (sroot h1) he2 hop hr hrow hs)
        · cases hs2
      · cases ht2
    | false =>
      have ht2 := hc.1
      simp only [Bool.false_eq_true, if_false] at ht2
      cases hu : opd s u with
      | pv p =>
        rw [hu] at hs hr
        cases p with
        | str b => exact .plain h1 hF (plain_len_str (strB_iff ht2) hop hr hs)
        | _ => simp [semL] at hs
      | _ => rw [hu] at hs; simp [semL] at hs
  · cases hc
theorem one_min {u v : Opd} (h : Sim P ar N E G s a w) (hc : cMin o.op u v = true) (ht : takeT V s.t [u, v] = some t') (hs : semL d s.m (.min2 u v) [opd s u, opd s v] = some (as, m2)) : Gave P ar N E t' a as m2 ((execOp a.eval o).run P w) := by
  generalize hop : o.op = op at hc
  unfold cMin at hc
  split at hc
  · rename_i x y ts
    obtain ⟨G1, F, h1, hr, hn, hF⟩ := h.read (xs := [x, y]) hc ht
    simp only [List.map_cons, List.map_nil] at hr
    cases hu : opd s u with
    | pv p =>
      cases hv : opd s v with
      | pv q =>
        rw [hu, hv] at hs hr
        cases p with
        | int k i =>
          cases q with
          | int k' j => exact .plain h1 hF (plain_min2 hop hr hs)
          | _ => simp [semL] at hs
        | _ => simp [semL] at hs
      | _ => rw [hu, hv] at hs; simp [semL] at hs
    | _ => rw [hu] at hs; simp [semL] at hs
  · cases hc
theorem one_max {u v : Opd} (h : Sim P ar N E G s a w) (hc : cMax o.op u v = true) (ht : takeT V s.t [u, v] = some t') (hs : semL d s.m (.max2 u v) [opd s u, opd s v] = some (as, m2)) : Gave P ar N E t' a as m2 ((execOp a.eval o).run P w) := by
  generalize hop : o.op = op at hc
  unfold cMax at hc
  split at hc
  · rename_i x y ts
    obtain ⟨G1, F, h1, hr, hn, hF⟩ := h.read (xs := [x, y]) hc ht
    simp only [List.map_cons, List.map_nil] at hr
    cases hu : opd s u with
    | pv p =>
      cases hv : opd s v with
      | pv q =>
        rw [hu, hv] at hs hr
        cases p with
        | int k i =>
          cases q with
          | int k' j => exact .plain h1 hF (plain_max2 hop hr hs)
          | _ => simp [semL] at hs
        | _ => simp [semL] at hs
      | _ => rw [hu, hv] at hs; simp [semL] at hs
    | _ => rw [hu] at hs; simp [semL] at hs
  · cases hc
end
end
end Go.Proofs.YtdbcnnehfbcldaaDoor.Pv
