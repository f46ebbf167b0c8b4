/- A plain reading of Go code and its soundness, part 43. No condition. -/
import Derived.Test.YtdbcnnehfbcldaaDoorV42
set_option linter.all false
set_option linter.unusedSimpArgs false
set_option linter.unusedVariables false
set_option linter.unnecessarySimpa false
/- Words by which a plain reading is evaluated. No condition. -/
namespace Go.Proofs.YtdbcnnehfbcldaaDoor.Pv
open Go
attribute [simp] enter s0 m0 ofPV EX_seq EX_regK regK steps stepsK stepG step sem semL PO.opds opd takeT ownP endStep putT EXK_normal EXK_ret EXK_exit EX_condK condK_bool binS unS single finishK finish resL resOf outs outOne outCell outCells backs EX_skip EX_ret EX_exit EX_block blockK_normal blockK_exit blockK_ret
attribute [simp] PV.cells Opd.isT AV.cells AV.isDef AV.isAgg one readCell readCells pvs given givens rowOf Opd.isNil fillCells elemCell elemCells
attribute [simp] doCall argsIn argsOut takesIn takeIn lendsIn lendIn valsIn ioBoxes apartB rowsOut iosOut vals outOwn outNoRef PV.allOwn allOwnL PV.noRef noRefL rowIn rowOut cellsOut cellsIn
attribute [simp] Mem.cell Mem.at Mem.setCells Mem.deref Ref.valid PV.sub Mem.take Mem.bumpR Mem.bumpN Mem.setRoot Mem.setRef PV.put Mem.undefCells Mem.freeze slvIn shareIn shareA shareC shareP putTs outBox rowBack flatL
attribute [simp] EX_any List.getElem?_cons_zero List.getElem?_cons_succ List.getElem?_nil
def newKr (kr : Root → Nat) (d : Nat) : Root → Nat := fun r => match r with
  | .c o j => if o = d then kr (.c o j) + 1 else kr (.c o j)
  | .v t => kr (.v t)
@[simp] theorem newKr_c (kr : Root → Nat) (d o j : Nat) : newKr kr d (.c o j) = if o = d then kr (.c o j) + 1 else kr (.c o j) := rfl
@[simp] theorem newKr_v (kr : Root → Nat) (d t : Nat) : newKr kr d (.v t) = kr (.v t) := rfl
@[simp] theorem setNew_eq (m : Mem) (d : Nat) (cs : List AV) : m.setNew d cs = { b := upd m.b d (some cs), r := m.r, mp := upd m.mp d none, kb := upd m.kb d (m.kb d + 1), kr := newKr m.kr d, kn := m.kn } := rfl
@[simp] theorem bumpFrom_c (kr : Root → Nat) (o c n o' j : Nat) : bumpFrom kr o c n (.c o' j) = if o' = o ∧ c ≤ j ∧ j < c + n then kr (.c o' j) + 1 else kr (.c o' j) := rfl
@[simp] theorem bumpFrom_v (kr : Root → Nat) (o c n t : Nat) : bumpFrom kr o c n (.v t) = kr (.v t) := rfl
def hideB {α : Type} (L : List Nat) (b : Nat → Option α) : Nat → Option α := fun o => if L.contains o then none else b o
@[simp] theorem hideB_app {α : Type} (L : List Nat) (b : Nat → Option α) (o : Nat) : hideB L b o = if L.contains o then none else b o := rfl
@[simp] theorem hideBoxes_eq (m : Mem) (L : List Nat) : m.hideBoxes L = { m with b := hideB L m.b } := rfl
@[simp] theorem forget_nil (s : St) : forget [] s = s := by simp [forget]
@[simp] theorem forget_cons (x : Nat) (L : List Nat) (s : St) : forget (x :: L) s = { s with m := { s.m with b := hideB (x :: L) s.m.b, mp := hideB (x :: L) s.m.mp } } := rfl
@[simp] theorem own_int (k : IntKind) (n : Int) : PV.own (.int k n) = false := rfl
@[simp] theorem own_bool (b : Bool) : PV.own (.bool b) = false := rfl
@[simp] theorem own_str (s : ByteArray) : PV.own (.str s) = false := rfl
@[simp] theorem own_nilp : PV.own .nilp = false := rfl
@[simp] theorem own_nili : PV.own .nili = false := rfl
@[simp] theorem own_ref (cs : List PV) : PV.own (.ref cs) = false := rfl
@[simp] theorem own_clo (f : FuncId) (cs : List PV) : PV.own (.clo f cs) = false := rfl
@[simp] theorem own_sl (fl : Nat) (e : TypeId) (xs : List PV) : PV.own (.sl fl e xs) = decide (1 ≤ fl) := rfl
@[simp] theorem own_agg (cs : List PV) : PV.own (.agg cs) = cs.any ownP := rfl
@[simp] theorem ownAV_pv (p : PV) : ownAV (.pv p) = p.own := rfl
@[simp] theorem ownAV_rw (r : Ref) : ownAV (.rw r) = false := rfl
@[simp] theorem ownAV_ptr (o k c : Nat) : ownAV (.ptr o k c) = false := rfl
@[simp] theorem ownAV_ept (r : Ref) (i f : Nat) : ownAV (.ept r i f) = false := rfl
@[simp] theorem ownAV_clo (f : FuncId) (cs : List AV) : ownAV (.clo f cs) = false := rfl
@[simp] theorem ownAV_undef : ownAV .undef = false := rfl
@[simp] theorem ownAV_void : ownAV .void = false := rfl
def ownC : AV → Bool
  | .pv p => p.own
  | _ => false
@[simp] theorem ownAV_agg (cs : List AV) : ownAV (.agg cs) = cs.any ownC := by unfold ownAV; congr 1
@[simp] theorem ownC_pv (p : PV) : ownC (.pv p) = p.own := rfl
@[simp] theorem ownC_rw (r : Ref) : ownC (.rw r) = false := rfl
@[simp] theorem ownC_ptr (o k c : Nat) : ownC (.ptr o k c) = false := rfl
@[simp] theorem ownC_undef : ownC .undef = false := rfl
@[simp] theorem tnt_pv (m : Mem) (n : Nat) (p : PV) : tnt m (n + 1) (.pv p) = p.own := rfl
@[simp] theorem tnt_rw (m : Mem) (n : Nat) (r : Ref) : tnt m (n + 1) (.rw r) = true := rfl
@[simp] theorem tnt_ept (m : Mem) (n : Nat) (r : Ref) (i f : Nat) : tnt m (n + 1) (.ept r i f) = true := rfl
@[simp] theorem tnt_ptr (m : Mem) (n o k c : Nat) : tnt m (n + 1) (.ptr o k c) = match m.b o with
    | some cs => (cs.drop c).any (tnt m n)
    | none => true := rfl
@[simp] theorem tnt_clo (m : Mem) (n : Nat) (f : FuncId) (cs : List AV) : tnt m (n + 1) (.clo f cs) = cs.any (tnt m n) := rfl
@[simp] theorem tnt_agg (m : Mem) (n : Nat) (cs : List AV) : tnt m (n + 1) (.agg cs) = cs.any (tnt m n) := rfl
@[simp] theorem tntP_pv (n : Nat) (p : PV) : tntP (n + 1) (.pv p) = p.own := rfl
@[simp] theorem tntP_rw (n : Nat) (r : Ref) : tntP (n + 1) (.rw r) = true := rfl
@[simp] theorem tntP_ept (n : Nat) (r : Ref) (i f : Nat) : tntP (n + 1) (.ept r i f) = true := rfl
@[simp] theorem tntP_ptr (n o k c : Nat) : tntP (n + 1) (.ptr o k c) = true := rfl
@[simp] theorem tntP_clo (n : Nat) (f : FuncId) (cs : List AV) : tntP (n + 1) (.clo f cs) = cs.any (tntP n) := rfl
@[simp] theorem tntP_agg (n : Nat) (cs : List AV) : tntP (n + 1) (.agg cs) = cs.any (tntP n) := rfl
@[simp] theorem toPV_pv (m : Mem) (n : Nat) (p : PV) : toPV m (n + 1) (.pv p) = some (if p.own then p.dem else p) := rfl
@[simp] theorem toPV_rw (m : Mem) (n : Nat) (r : Ref) : toPV m (n + 1) (.rw r) = (m.deref r).map PV.dem := rfl
@[simp] theorem toPV_ptr (m : Mem) (n o k c : Nat) : toPV m (n + 1) (.ptr o k c) = if m.kb o = k then ((m.b o).bind fun cs => (cs.drop c).mapM (toPV m n)).map PV.ref else none := rfl
@[simp] theorem toPV_clo (m : Mem) (n : Nat) (f : FuncId) (cs : List AV) : toPV m (n + 1) (.clo f cs) = (cs.mapM (toPV m n)).map (.clo f) := rfl
@[simp] theorem toPV_agg (m : Mem) (n : Nat) (cs : List AV) : toPV m (n + 1) (.agg cs) = (cs.mapM (toPV m n)).map .agg := rfl
@[simp] theorem dem_int (k : IntKind) (n : Int) : PV.dem (.int k n) = .int k n := by simp only [PV.dem]
@[simp] theorem dem_bool (b : Bool) : PV.dem (.bool b) = .bool b := by simp only [PV.dem]
@[simp] theorem dem_str (s : ByteArray) : PV.dem (.str s) = .str s := by simp only [PV.dem]
@[simp] theorem dem_sl' (fl : Nat) (e : TypeId) (xs : List PV) : PV.dem (.sl fl e xs) = .sl 0 e (demL xs) := by simp only [PV.dem]
@[simp] theorem dem_agg' (cs : List PV) : PV.dem (.agg cs) = .agg (demL cs) := by simp only [PV.dem]
attribute [simp] demL
theorem upd_lit {α : Type} (f : Nat → α) (d t : Nat) (v : α) : upd f d v t = if t = d then v else f t := rfl
attribute [simp] upd
@[simp] theorem range2 : List.range 2 = [0, 1] := rfl
@[simp] theorem range3 : List.range 3 = [0, 1, 2] := rfl
@[simp] theorem range4 : List.range 4 = [0, 1, 2, 3] := rfl
attribute [simp] tkCells stepsF stepsFK ftOf pcallB freeA freeC flatA flatAs PO.args Pm.isVal ftOK wantedQ quietQ addFt meetB wrF putL footA footL locOf callF PO.kind
@[simp] theorem stepsF_nil {R : Oracle} {modes : FuncId → List Pm} {V : List Nat} {D : List (Nat × List Nat)} {evs : List (Nat × Ft)} {s : St} : stepsF R modes V D evs [] s = some s := by cases D <;> simp [stepsF]
@[simp] theorem ftsOK_nil (d : List Nat) (e : Ft) : ftsOK d e [] = true := rfl
@[simp] theorem ftsOK_pure (d : List Nat) : ∀ l : List (Nat × Ft), ftsOK d .pure l = true
  | [] => rfl
  | (j, x) :: l => by
    simp only [ftsOK, ftsOK_pure d l, Bool.and_true]
    cases x <;> simp [ftOK]
@[simp] theorem ftsOK_cons (d : List Nat) (e x : Ft) (j : Nat) (l : List (Nat × Ft)) : ftsOK d e ((j, x) :: l) = ((if d.contains j = true then ftOK x e else true) && ftsOK d e l) := by
  simp only [ftsOK]
  congr 1
  split <;> simp_all
def calmO (V : List Nat) (o : Oq) : Bool := o.po.kind != 2 && match o.dst with
  | none => true
  | some d => !V.contains d
def calm (V : List Nat) (D : List (Nat × List Nat)) (os : List Oq) : Bool := decide (os.length ≤ D.length) && os.all (calmO V)
def softEv : Ft → Prop
  | .write _ => False
  | _ => True
theorem evsOK_soft {e : Ft} {d : List Nat} (he : softEv e) : ∀ {l : List (Nat × Ft)}, (∀ x ∈ l, softEv x.2) → ftsOK d e l = true
  | [], _ => rfl
  | (j, x) :: l, h => by
    rw [ftsOK_cons, evsOK_soft he (fun y hy => h y (by simp [hy])), Bool.and_true]
    have := h (j, x) (by simp)
    split
    · cases x <;> cases e <;> first | rfl | exact this.elim | exact he.elim
    · rfl
theorem evOf_soft {modes : FuncId → List Pm} {V : List Nat} {o : Oq} {s s' : St} (h : calmO V o = true) : softEv (ftOf modes V o s s') := by
  unfold calmO at h
  simp only [Bool.and_eq_true, bne_iff_ne, ne_eq] at h
  have hq : quietQ V o s' = true := by
    unfold quietQ
    split
    · rfl
    · rename_i d hd
      have := h.2
      rw [hd] at this
      simp only at this
      rw [this]
      rfl
  unfold ftOf
  have hk : (o.po.kind == 2) = false := by simpa using h.1
  rw [hq, hk]
  split
  · split
    · trivial
    simp only [Bool.not_true, Bool.or_false, Bool.false_eq_true, if_false]
    split <;> trivial
  · trivial
theorem stepsF_calm {R : Oracle} {modes : FuncId → List Pm} {V : List Nat} : ∀ {os : List Oq} {D : List (Nat × List Nat)} {evs : List (Nat × Ft)} {s : St}, os.length ≤ D.length → (∀ o ∈ os, calmO V o = true) → (∀ x ∈ evs, softEv x.2) → stepsF R modes V D evs os s = steps R modes V os s
  | [], D, evs, s, _, _, _ => by simp
  | o :: os, [], evs, s, h, _, _ => by simp at h
  | o :: os, x :: D, evs, s, h, hc, he => by
    simp only [stepsF, steps]
    cases hg : stepG R modes V o s with
    | none => simp only [stepsFK, stepsK]
    | some s' =>
      have hso := evOf_soft (modes := modes) (s := s) (s' := s') (hc o (by simp))
      simp only [stepsFK, stepsK, evsOK_soft hso he, if_true]
      refine stepsF_calm (by simpa using h) (fun o ho => hc o (by simp [ho])) ?_
      intro y hy
      unfold addFt at hy
      split at hy
      · exact he y hy
      · rcases List.mem_cons.1 hy with rfl | hy
        · exact hso
        · exact he y hy
theorem EX_calm {C : Code} {V : List Nat} {D : List (Nat × List Nat)} {os : List Oq} {s : St} (h : calm V D os = true) : EX C V (.any D os) s = EX C V (.reg os) s := by
  unfold calm at h
  simp only [Bool.and_eq_true, decide_eq_true_eq, List.all_eq_true] at h
  rw [EX_any, EX_reg, stepsF_calm h.1 h.2 (by simp)]
end Go.Proofs.YtdbcnnehfbcldaaDoor.Pv
