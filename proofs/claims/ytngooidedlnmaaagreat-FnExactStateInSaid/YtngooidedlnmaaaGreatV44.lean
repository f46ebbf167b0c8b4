/- A plain reading of Go code and its soundness, part 44. No condition. -/
import Derived.Test.YtngooidedlnmaaaGreatV43
import Derived.Laws.Cover3
set_option linter.all false
set_option linter.unusedSimpArgs false
set_option linter.unusedVariables false
set_option linter.unnecessarySimpa false
/- A slice copied by the library: a function known by its shape. No condition. -/
namespace Go.Proofs.YtngooidedlnmaaaGreat.Pv
open Go
def clq (d : Nat) (po : PO) : Oq := ⟨some d, po, none, 0⟩
def clone1 (e : TypeId) : PC := .reg [clq 2 (.mov (.k (.sl 2 e [])))]
def clone3 (e : TypeId) : PC := .seq (.reg [clq 2 (.mov (.k (.sl 2 e [])))]) .ret
def clone4 (e : TypeId) (n by_ : Nat) : PC := .seq (.reg [clq 5 (.lit e n []), clq 6 (.mov (.t 0)), clq 7 (.app e by_ (.t 5) (.t 6)), clq 2 (.mov (.t 7))]) .ret
def cloneF : PF := ⟨[.val], [0], .skip, [(2, none)]⟩
def clReg (P : Program) (N : Nat) (ops : Array Oper) (draw : Bool) (qs : List Oq) : Bool := !draw && chkOps P (fun _ => 0) N ops ops.toList qs
def clAny (_ : Array Oper) (_ : List (Nat × List Nat)) (_ : List Oq) : Bool := false
def nilB (P : Program) (o : Oper) : Bool := match o.op with
  | .binOp .eql t (.tmp 3) (.const (.slice none 0 0)) _ => match P.underlying t with
    | some (.slice _) => true
    | _ => false
  | _ => false
def clPair (P : Program) (N : Nat) (ops : Array Oper) : Bool := match ops with
  | ⟨[o3, o4]⟩ => chkOq P (fun _ => 0) N o3 (clq 3 (.mov (.t 0))) && o3.guard.isNone && o4.guard.isNone && o4.dst == some 4 && nilB P o4
  | _ => false
def chkClone (P : Program) (fn : Func) (e : TypeId) (n by_ : Nat) : Bool := match fn.body with
  | some (.seq c1 (.seq (.seq (.region _ ops false) (.cond (.tmp 4) c3 .skip)) c4)) => chkC (clReg P fn.ntmps) clAny c1 (clone1 e) && chkC (clReg P fn.ntmps) clAny c3 (clone3 e) && chkC (clReg P fn.ntmps) clAny c4 (clone4 e n by_) && clPair P fn.ntmps ops && resB P fn.results.toList [(2, none)] && decide (5 ≤ fn.ntmps) && decide (fn.ntmps ≤ 1000000) && fn.name != "runtime.NumGoroutine"
  | _ => false
section
variable {P : Program} {ar : Nat → Nat} {N : Nat} {G : Gh} {a : Act} {w w' : World}
theorem holds_by {f : FuncId} {fn : Func} {c : Go.Code} {pf : PF} {ps rs os : List PV} {s : St} (hfn : P.funcs[f]? = some fn) (hb : fn.body = some c) (hrl : fn.results.toList.length = pf.res.length) (hr : ∀ (i : Nat) rv r, fn.results.toList[i]? = some rv → pf.res[i]? = some r → resOK P rv r) (hres : (pf.res.map (·.1)).Nodup)
    (hlen : pf.params.length ≤ fn.ntmps) (hN : fn.ntmps ≤ 1000000) (har : ∀ i, i < pf.params.length → ar i = 0) (hsm : ∀ (k : Nat) (ks : List Bool), pf.params[k]? = some (Pm.rows ks) → ks.length ≤ 1000)
    (hex : ∀ (E : Entry) (G : Gh) (a : Act) (w : World), Sim P ar fn.ntmps E G s a w → c.wp P (fun e a w => ∃ r, finishK pf (some r) = some (rs, os) ∧ Post P ar fn.ntmps E r e a w) a w)
    (he : enter 0 pf.params ps s0 = some s) : Holds P pf.params f ps rs os := by
  intro w ok0 vs As Bs hm hA hn hok
  have hl := hA.length
  refine calls_of_wp hfn hb ?_
  have hsim := entry_sim (N := fn.ntmps) (ar := ar) hA hn hm hok he hlen hN har
  have e1 : (vs.toArray ++ Array.replicate (fn.ntmps - vs.toArray.size) undef) = vs.toArray ++ Array.replicate (fn.ntmps - vs.length) undef := by simp
  rw [e1]
  refine wp_mono (hex _ _ _ w hsim) fun e a' w' hp => ?_
  obtain ⟨r, hf, hp⟩ := hp
  have fin : finish pf r.2 = some (rs, os) → (∃ G, Sim P ar fn.ntmps (entryOf w ok0 pf.params vs As Bs) G r.2 a' w') → a'.defers = [] ∧ ∃ v, (results fn a'.tmps).run P w' = .ok v w' ∧ ∃ v', Ending.returned v = .returned v' ∧ Ends P w w' ok0 pf.params vs As Bs rs os v' := by
    rintro hf ⟨G, h⟩
    obtain ⟨cs, hcs⟩ : ∃ cs, resL r.2 pf.res = some cs := by
      cases hx : resL r.2 pf.res with
      | none => simp [finish, hx] at hf
      | some cs => exact ⟨cs, rfl⟩
    obtain ⟨us, u1, u2, u3⟩ := res_all h hrl hr hcs
    refine ⟨h.defers, _, run_results (by rw [u1, hrl]) u2, _, rfl, ?_⟩
    exact ends_of h hA hn (by omega) hsm rfl hres u1 u3 hf
  obtain ⟨e1, s1⟩ := r
  cases e with
  | normal => obtain ⟨rfl, h⟩ := hp; exact fin hf h
  | ret => obtain ⟨rfl, h⟩ := hp; exact fin hf h
  | exit id => obtain ⟨rfl, h⟩ := hp; simp [finishK] at hf
  | _ => exact hp.elim
theorem nilB_run {E : Entry} {s : St} {o : Oper} {e : TypeId} {xs : List PV} (h : Sim P ar N E G s a w) (hn : nilB P o = true) (ht : s.t 3 = .pv (.sl 0 e xs)) : ∃ b : Bool, (xs ≠ [] → b = false) ∧ (execOp a.eval o).run P w = .ok (.value (.bool b)) w := by
  unfold nilB at hn
  split at hn
  · rename_i t t2 ho
    split at hn
    · rename_i e2 hu
      have hg := chkOpds_get (a := a) (show chkOpds [.tmp 3] [.t 3] = true by rfl) 0 (.t 3) (a.eval (.tmp 3)) rfl rfl
      obtain ⟨F, k1, _⟩ := h.tmp 3 _ hg
      rw [ht] at k1
      have h2 := k1.of_pv
      rw [ex_bin ho]
      have hc : a.eval (.const (.slice none 0 0)) = .slice none 0 0 := rfl
      rw [hc]
      generalize a.eval (.tmp 3) = v at h2
      have key : ∀ (ad : Option Addr) (l c : Nat), v = .slice ad l c → (xs ≠ [] → ad.isNone = false) → ∃ b : Bool, (xs ≠ [] → b = false) ∧ (valOf (do eqGuard .eql t (.tmp 3) (.const (.slice none 0 0)) v (.slice none 0 0); binOp .eql t v (.slice none 0 0))).run P w = .ok (.value (.bool b)) w := by
        rintro ad l c rfl hb
        exact ⟨ad.isNone, hb, by simp [valOf, eqGuard, binOp, run_equal_slice_nil w t e2 ad l c hu]⟩
      cases h2 <;> first
        | exact key _ _ _ rfl (fun hx => absurd rfl hx)
        | exact key _ _ _ rfl (fun _ => rfl)
    · cases hn
  · cases hn
theorem clone_holds {f : FuncId} {fn : Func} {e : TypeId} {n by_ : Nat} (hf : P.funcs[f]? = some fn) (hc : chkClone P fn e n by_ = true) {xs : List PV} (hb : xs.length * by_ ≤ 140737488355328 ∧ xs.length ≤ 9223372036854775807) : Holds P [.val] f [.sl 0 e xs] [.sl 2 e xs] [] := by
  unfold chkClone at hc
  split at hc
  · rename_i c1 id ops c3 c4 hbody
    simp only [Bool.and_eq_true, decide_eq_true_eq] at hc
    obtain ⟨⟨⟨⟨⟨⟨⟨k1, k3⟩, k4⟩, kp⟩, kr⟩, kn⟩, kN⟩, _⟩ := hc
    unfold clPair at kp
    split at kp
    · rename_i o3 o4
      simp only [Bool.and_eq_true, Option.isNone_iff_eq_none, beq_iff_eq] at kp
      obtain ⟨⟨⟨⟨p1, p2⟩, p3⟩, p4⟩, p5⟩ := kp
      let R : Oracle := fun _ _ => none
      let modes : FuncId → List Pm := fun _ => []
      have hS : Sound P modes R := fun _ _ _ _ h => by cases h
      have hE : Enters P R := fun _ _ _ h => by cases h
      have hV : ∀ x ∈ [0], x < 1000000 := by simp
      let sA : St := ⟨upd (fun _ => .undef) 0 (.pv (.sl 0 e xs)), m0⟩
      let s1 : St := ⟨upd sA.t 2 (.pv (.sl 2 e [])), m0⟩
      let s2 : St := ⟨upd s1.t 3 (.pv (.sl 0 e xs)), m0⟩
      let s3 : Bool → St := fun b => ⟨upd s2.t 4 (.pv (.bool b)), m0⟩
      refine holds_by (pf := cloneF) (s := sA) (ar := fun _ => 0) hf hbody (resB_spec kr).1 (resB_spec kr).2 (by simp [cloneF]) (by simp [cloneF]; omega) kN (fun _ _ => rfl) (fun k ks hk => ?_) (fun E G a w h => ?_) (by simp [cloneF, sA])
      · cases k with
        | zero => simp [cloneF] at hk
        | succ k => simp [cloneF] at hk
      have hreg : ∀ (id : Nat) (ops : Array Oper) (draw : Bool) (qs : List Oq) (s s' : St) (G : Gh) (a : Act) (w : World), clReg P fn.ntmps ops draw qs = true → steps R modes [0] qs s = some s' → Sim P (fun _ => 0) fn.ntmps E G s a w → (Go.Code.region id ops draw).wp P (Post P (fun _ => 0) fn.ntmps E (.normal, s')) a w := by
        intro id ops draw qs s s' G a w hr hs h
        simp only [clReg, Bool.and_eq_true, Bool.not_eq_true'] at hr
        obtain ⟨rfl, hr⟩ := hr
        exact region_sound hS hE hV hr hs h
      have hany : ∀ (id : Nat) (ops : Array Oper) (D : List (Nat × List Nat)) (qs : List Oq) (s s' : St) (G : Gh) (a : Act) (w : World), clAny ops D qs = true → stepsF R modes [0] D [] qs s = some s' → Sim P (fun _ => 0) fn.ntmps E G s a w → (Go.Code.region id ops true).wp P (Post P (fun _ => 0) fn.ntmps E (.normal, s')) a w := fun _ _ _ _ _ _ _ _ _ h => by cases h
      have e1 : exec R modes [0] 3 (clone1 e) sA = some (.normal, s1) := by simp [clone1, exec, clq, sA, s1]
      refine wp_seq (wp_mono (exec_sound hreg hany 3 c1 _ _ _ k1 e1 G a w h) fun ex a' w' hp => ?_)
      obtain ⟨rfl, G1, h1⟩ := Post.normal (r := (.normal, s1)) hp
      refine wp_seq (wp_seq (wp_mono (Q := fun ex a w => ex = .normal ∧ ∃ b G, (xs ≠ [] → b = false) ∧ Sim P (fun _ => 0) fn.ntmps E G (s3 b) a w) (wp_region ?_) fun ex a'' w'' hp => ?_))
      · have l1 : List.range (Array.size ⟨[o3, o4]⟩) = [0, 1] := rfl
        rw [l1]
        unfold wpOps
        have w1 : Region.wanted o3 (yielded ⟨[o3, o4]⟩ a'.tmps) = true := by simp [Region.wanted, p2]
        show if Region.wanted o3 (yielded ⟨[o3, o4]⟩ a'.tmps) = true then _ else _
        rw [if_pos w1]
        refine .inl (step_sound (s' := s2) (R := R) (modes := modes) (V := [0]) hS hE hV h1 p1 (by simp [clq, sA, s1, s2]) fun G2 a2 w2 h2 => ?_)
        unfold wpOps
        have w2 : Region.wanted o4 (yielded ⟨[o3, o4]⟩ a2.tmps) = true := by simp [Region.wanted, p3]
        show if Region.wanted o4 (yielded ⟨[o3, o4]⟩ a2.tmps) = true then _ else _
        rw [if_pos w2]
        obtain ⟨b, hb1, hrun⟩ := nilB_run h2 p5 (e := e) (xs := xs) rfl
        refine .inl (Oper.wp_value (o := o4) (V := [0]) (tup := 0) (as := [.pv (.bool b)]) (t' := s2.t) (m2 := m0) (s' := s3 b) hV (by rw [p4]; simp [dstB]; omega) (by rw [p4]; simp [s2, s3]) hrun ⟨G2, [], h2, List.nodup_nil, by simp, ?_⟩ fun G3 a3 w3 h3 => ?_)
        · intro c hc
          simp only [List.cons.injEq, and_true] at hc
          subst hc
          exact .pv _ _ _ (by simp) (.bool b)
        · unfold wpOps
          exact ⟨rfl, b, G3, hb1, h3⟩
      · obtain ⟨rfl, b, G2, hb2, h2⟩ := hp
        refine wp_cond (t := b) (eval_opd (c := .tmp 4) (o := .t 4) h2 rfl rfl) ?_
        cases b with
        | true =>
          have hx : xs = [] := Decidable.byContradiction fun hx => by cases hb2 hx
          subst hx
          have e3 : exec R modes [0] 4 (clone3 e) (s3 true) = some (.ret, ⟨upd (s3 true).t 2 (.pv (.sl 2 e [])), m0⟩) := by simp [clone3, exec, execK, clq, sA, s1, s2, s3]
          simp only [if_true]
          refine wp_mono (exec_sound hreg hany 4 c3 _ _ _ k3 e3 G2 a'' w'' h2) fun ex a3 w3 hp => ?_
          cases ex with
          | ret => exact ⟨_, by simp [cloneF], hp⟩
          | _ => first | exact hp.elim | (exact absurd hp.1 (by simp))
        | false =>
          simp only [Bool.false_eq_true, if_false]
          refine wp_skip ?_
          obtain ⟨t4, e4, e5⟩ : ∃ t4 : Nat → AV, exec R modes [0] 4 (clone4 e n by_) (s3 false) = some (.ret, ⟨t4, m0⟩) ∧ t4 2 = .pv (.sl 2 e xs) := by
            simp [clone4, exec, execK, clq, sA, s1, s2, s3, hb]
          refine wp_mono (exec_sound hreg hany 4 c4 _ _ _ k4 e4 G2 a'' w'' h2) fun ex a3 w3 hp => ?_
          cases ex with
          | ret => exact ⟨_, by simp [cloneF, e5], hp⟩
          | _ => first | exact hp.elim | (exact absurd hp.1 (by simp))
    · cases kp
  · cases hc
def clonePrim (f : FuncId) (e : TypeId) (by_ : Nat) : Prim := ⟨f, [.val], fun
  | [.sl 0 e' xs] => if e' = e ∧ xs.length * by_ ≤ 140737488355328 ∧ xs.length ≤ 9223372036854775807 then some ([.sl 2 e xs], []) else none
  | _ => none⟩
theorem clonePrim_sem {f : FuncId} {e : TypeId} {by_ : Nat} {xs : List PV} (h : xs.length * by_ ≤ 140737488355328 ∧ xs.length ≤ 9223372036854775807) : (clonePrim f e by_).sem [.sl 0 e xs] = some ([.sl 2 e xs], []) := by simp [clonePrim, h]
theorem clonePrim_ok {f : FuncId} {fn : Func} {e : TypeId} {n by_ : Nat} (hf : P.funcs[f]? = some fn) (hc : chkClone P fn e n by_ = true) : PrimOk P (clonePrim f e by_) := by
  refine ⟨⟨fn, hf, ?_, ?_⟩, fun ps rs os h => ?_⟩
  · unfold chkClone at hc
    split at hc
    · rename_i hb
      rw [hb]; rfl
    · cases hc
  · unfold chkClone at hc
    split at hc
    · simp only [Bool.and_eq_true, bne_iff_ne] at hc
      exact hc.2
    · cases hc
  · simp only [clonePrim] at h
    split at h
    · rename_i e' xs
      split at h
      · rename_i hx
        obtain ⟨rfl, hx⟩ := hx
        simp only [Option.some.injEq, Prod.mk.injEq] at h
        obtain ⟨rfl, rfl⟩ := h
        exact clone_holds hf hc hx
      · cases h
    · cases h
end
end Go.Proofs.YtngooidedlnmaaaGreat.Pv
