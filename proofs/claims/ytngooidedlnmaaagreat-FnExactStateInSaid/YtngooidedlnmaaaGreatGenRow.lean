/- The row of a law out of its walk, once for all laws: where each call of the law's function returns true and changes nothing that was there, the given statement holds. Conditions: the parameters' types can be read, the function is no start-up function, the result is one bool. -/
import Derived.WalkKit
import Derived.ProofKit
import Derived.OpenShut
import Derived.ShutString
import Derived.ChangeOld
import Derived.Below
import Derived.SizedLaws
import Derived.WideLaws
import Derived.RowKit
import Derived.RowKit3
import Derived.Carry
namespace Go.Proofs.YtngooidedlnmaaaGreat.Gen
open Go.ChangeShapes Go.WideShapes Go.ChangeAt Go.RowKit

theorem trodAll_lt {H : Type} {enc : TypeId × Value → H} {P : Program} {w : World} {base : Nat} {spare : Nat → Bool} {held : Bool} :
    ∀ (ts : List TypeId) (vs : List Value) (ds : List (DataW H)) (ps : List MemPlace), DataW.TrodAll enc P w base spare held ts vs ds ps → ∀ x ∈ ps, x.block < w.heap.size
  | [], [], [], ps, h => by intro x hx; simp [DataW.TrodAll] at h; subst h; simp at hx
  | t :: ts, v :: vs, d :: ds, ps, h => by
    obtain ⟨p, q, ⟨m, hm⟩, hq, rfl⟩ := h
    intro x hx
    rcases List.mem_append.1 hx with hx | hx
    · exact DataW.trod_lt m _ _ _ hm x hx
    · exact trodAll_lt ts vs ds q hq x hx
  | [], _ :: _, _, _, h => by simp [DataW.TrodAll] at h
  | [], [], _ :: _, _, h => by simp [DataW.TrodAll] at h
  | _ :: _, [], _, _, h => by simp [DataW.TrodAll] at h
  | _ :: _, _ :: _, [], _, h => by simp [DataW.TrodAll] at h

theorem trodAll_after {H : Type} {enc : TypeId × Value → H} {P : Program} (hl : laidOutB P = true) {W W' : World} (hb : Below W.heap.size W W') :
    ∀ (ts : List TypeId) (_ : ∀ t ∈ ts, P.readableRec t = true ∧ t < P.types.size) (vs : List Value) (ds : List (DataW H)) (ps : List MemPlace),
      DataW.TrodAll enc P W 0 (fun _ => true) true ts vs ds ps → DataW.TrodAll enc P W' 0 (fun b => decide (b < W.heap.size)) true ts vs ds ps
  | [], _, [], [], ps, h => h
  | t :: ts, ht, v :: vs, d :: ds, ps, h => by
    obtain ⟨p, q, hm, hq, rfl⟩ := h
    have h1 := ht t (by simp)
    refine ⟨p, q, Below.trod hl h1.1 h1.2 hm hb ?_, trodAll_after hl hb ts (fun u hu => ht u (by simp [hu])) vs ds q hq, rfl⟩
    obtain ⟨m, hm⟩ := hm
    exact DataW.trod_lt m _ _ _ hm
  | [], _, _ :: _, _, _, h => by simp [DataW.TrodAll] at h
  | [], _, [], _ :: _, _, h => by simp [DataW.TrodAll] at h
  | _ :: _, _, [], _, _, h => by simp [DataW.TrodAll] at h
  | _ :: _, _, _ :: _, [], _, h => by simp [DataW.TrodAll] at h

theorem law_lifted {C : Checked} {n : FuncId} {fn : Func} {s : ChangeSpec} {tb : TypeId} {conds : List PathCond} (os : Os) (started : os.Started) {H : Type} (enc : TypeId × Value → H)
    (own : ownKnob C.prog.godebug = none) (laidOut : laidOutB C.prog = true) (noInit : C.prog.inits.idxOf? n = none) (hfn : C.prog.funcs[n]? = some fn)
    (hvars : s.vars = []) (hspec : ∀ ds : List (DataW H), ds.length = fn.params.size → s.fn H ds = { results := [.lit (.bool true)], args := ds })
    (hres : fn.resultTypes = #[tb]) (htb : C.prog.underlying tb = some .bool)
    (hpar : ∀ t ∈ fn.params.toList, C.prog.readableRec t = true ∧ t < C.prog.types.size)
    (witness : ∃ (w : World) (tape : Tape) (i : Input), w.os = os ∧ (w.forCall tape i).Shaped C.prog ∧ i.vars = [] ∧ Input.okWide C.prog (w.forCall tape i) .any w.heap.size n i ∧
      s.pre6 enc C.prog fn conds false (w.forCall tape i).memory i.args ∧ ({} : Assume).holds C.prog (lone (Frame.enter C.prog n i.args .normal) [] (w.forCall tape i)))
    (walk : ∀ (W : World) (base : Nat) (args : Array Value) (ds : List (DataW H)) (p : List MemPlace),
      (∀ (j : Nat) t v, fn.params[j]? = some t → args[j]? = some v → Value.okWide C.prog W .any base t v) →
      DataW.TrodAll enc C.prog W 0 (fun _ => true) true fn.params.toList args.toList ds p →
      (DataW.weightsEach C.prog (fn.params.toList ++ s.plain.varTypes C.prog) (ds ++ [])).all (· ≤ reachBytes) = true →
      Calls C.prog n args W fun e w' => e = .returned (.bool true) ∧ Below W.heap.size W w') :
    ReturnsInHanded {} C os n .any (s.pre6 enc C.prog fn conds false) (s.post enc C.prog fn false true false false) := by
  refine returnsInHanded_of_change_sized own started noInit hfn witness ?_
  intro W base args ds gs before hval hW hcnd hsz _
  have hW' := hW
  obtain ⟨p, q, hA, hV, rfl, hfz, hnd⟩ := hW
  rw [hvars] at hV
  obtain ⟨rfl, rfl⟩ := trodVars_none hV
  have hlen : ds.length = fn.params.size := by
    have : ∀ (ts : List TypeId) (vs : List Value) (ds : List (DataW H)) (ps : List MemPlace), DataW.TrodAll enc C.prog W 0 (fun _ => true) true ts vs ds ps → ds.length = ts.length := by
      intro ts
      induction ts with
      | nil => intro vs ds ps h; obtain ⟨_, rfl, _⟩ := trodAll_nil h; rfl
      | cons t ts ih =>
        intro vs ds ps h
        obtain ⟨v, vs', d, ds', p, q, rfl, rfl, rfl, _, h2⟩ := trodAll_cons h
        simp [ih _ _ _ h2]
    simpa using this _ _ _ _ hA
  refine (walk W base args ds p hval hA hsz).mono fun e W' ⟨he, bel⟩ => ?_
  subst he
  have hs := hspec ds hlen
  refine ⟨_, rfl, ds, [], _, [], p, [], hW', ?_, ?_, ?_, bel.frame _, fun h => by cases h⟩
  · rw [List.append_nil, hs, hres]
    exact trodAll_mk1 (shut_bool htb _)
  · rw [List.append_nil, hs]
    exact trodAll_after laidOut bel _ hpar _ _ _ hA
  · rw [List.append_nil, hs, hvars]
    rfl
end Go.Proofs.YtngooidedlnmaaaGreat.Gen
