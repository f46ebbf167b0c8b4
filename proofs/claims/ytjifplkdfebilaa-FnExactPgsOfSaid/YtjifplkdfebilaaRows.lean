/-
  No cell of these rows narrows 'for every input' (looked for: loops, veiled, ifaces, maps, wideKeys, modest, calm, conditions, laid).
  DERIVED. THE GIVEN ROWS OF THIS SEAT. 4 by the template 'for every input the law returns true; each argument reads behind the call as it read before'; 0 by the template 'total and deterministic' (their statements: YtjifplkdfebilaaTotals.lean).
  GIVEN WITH THE SEED: the statements are not yours to turn. If you find one false, say at which input.
  Laid BY PROGRAM, IN A SANDBOX (cutbox-rows.mjs): the forced cells as the released guide's own fill.sh prints them over the translation 3685ccb23f7406cc… (all of the seat's roots in one cut). By AI agents, Wed Nov 11 2026. No macro, syntax, notation, axiom, sorry.
-/
import Derived.Test.YtjifplkdfebilaaChecked
import GoSem.Claim
import GoSem.ClaimJoined
import GoSem.ClaimMapViews
import Derived.JoinedTies
import Derived.KernelRfl
namespace Go.Proofs.Ytjifplkdfebilaa
/- THE CELL 'sum', in the pinned program and in every row, IS THE sha256 OF THE DUMP (.gsa) THAT YtjifplkdfebilaaProg.lean LOADS. Nothing in Lean hashes anything: it is a label: what it is worth is what the hold of that sum in a sandbox is worth. -/
noncomputable def Try.pinned : Pinned := { name := "ytjifplkdfebilaa", sum := "3685ccb23f7406cc7fb32f2dbff578a404e30d4b4542e7b008a0f8dcf35583bf", checked := Try.checked }
namespace Rows
def none {H : Type} : Left H := { results := [], args := [] }

/-- 'laws.FnExactPgsIn': WHATEVER THE INPUT: true; the input reads as it did. -/
def fnExactPgsInSpec : ChangeSpec := { name := "fnExactPgsIn", fn := fun _ => fun
  | [d] => { results := [.lit (.bool true)], args := [d] }
  | _ => none }
def fnExactPgsInRow : OpenClaim := { program := "ytjifplkdfebilaa", sum := "3685ccb23f7406cc7fb32f2dbff578a404e30d4b4542e7b008a0f8dcf35583bf", func := "loop.example/g00849/laws.FnExactPgsIn", spec := "fnExactPgsIn", apart := false }
def FnExactPgsInSaid : Prop := fnExactPgsInRow.holds Try.pinned (OpenSpec.ofChange fnExactPgsInSpec)

/-- ITS FALSE NEIGHBOUR: 'it returns false'. Refute it at one input. -/
def fnExactPgsInWrong : ChangeSpec := { name := "fnExactPgsIn", fn := fun _ => fun
  | [d] => { results := [.lit (.bool false)], args := [d] }
  | _ => none }
def FnExactPgsInWrongFalsely : Prop := fnExactPgsInRow.holds Try.pinned (OpenSpec.ofChange fnExactPgsInWrong)

/-- 'laws.FnPgs': WHATEVER THE INPUT: true; the input reads as it did. -/
def fnPgsSpec : ChangeSpec := { name := "fnPgs", fn := fun _ => fun
  | [d] => { results := [.lit (.bool true)], args := [d] }
  | _ => none }
def fnPgsRow : OpenClaim := { program := "ytjifplkdfebilaa", sum := "3685ccb23f7406cc7fb32f2dbff578a404e30d4b4542e7b008a0f8dcf35583bf", func := "loop.example/g00849/laws.FnPgs", spec := "fnPgs", apart := false }
def FnPgsSaid : Prop := fnPgsRow.holds Try.pinned (OpenSpec.ofChange fnPgsSpec)

/-- ITS FALSE NEIGHBOUR: 'it returns false'. Refute it at one input. -/
def fnPgsWrong : ChangeSpec := { name := "fnPgs", fn := fun _ => fun
  | [d] => { results := [.lit (.bool false)], args := [d] }
  | _ => none }
def FnPgsWrongFalsely : Prop := fnPgsRow.holds Try.pinned (OpenSpec.ofChange fnPgsWrong)

/-- 'laws.FnExactPgsOf': WHATEVER THE INPUT: true; the input reads as it did. -/
def fnExactPgsOfSpec : ChangeSpec := { name := "fnExactPgsOf", fn := fun _ => fun
  | [d] => { results := [.lit (.bool true)], args := [d] }
  | _ => none }
def fnExactPgsOfRow : OpenClaim := { program := "ytjifplkdfebilaa", sum := "3685ccb23f7406cc7fb32f2dbff578a404e30d4b4542e7b008a0f8dcf35583bf", func := "loop.example/g00849/laws.FnExactPgsOf", spec := "fnExactPgsOf", unfollowed := true, recurses := true, apart := false }
def FnExactPgsOfSaid : Prop := fnExactPgsOfRow.holds Try.pinned (OpenSpec.ofChange fnExactPgsOfSpec)

/-- ITS FALSE NEIGHBOUR: 'it returns false'. Refute it at one input. -/
def fnExactPgsOfWrong : ChangeSpec := { name := "fnExactPgsOf", fn := fun _ => fun
  | [d] => { results := [.lit (.bool false)], args := [d] }
  | _ => none }
def FnExactPgsOfWrongFalsely : Prop := fnExactPgsOfRow.holds Try.pinned (OpenSpec.ofChange fnExactPgsOfWrong)

/-- 'laws.FnExactGetPgState': WHATEVER THE INPUT: true; the input reads as it did. -/
def fnExactGetPgStateSpec : ChangeSpec := { name := "fnExactGetPgState", fn := fun _ => fun
  | [d] => { results := [.lit (.bool true)], args := [d] }
  | _ => none }
def fnExactGetPgStateRow : OpenClaim := { program := "ytjifplkdfebilaa", sum := "3685ccb23f7406cc7fb32f2dbff578a404e30d4b4542e7b008a0f8dcf35583bf", func := "loop.example/g00849/laws.FnExactGetPgState", spec := "fnExactGetPgState", inPlace := ["internal/bytealg.abigen_runtime_cmpstring"], unfollowed := true, recurses := true, apart := false }
def FnExactGetPgStateSaid : Prop := fnExactGetPgStateRow.holds Try.pinned (OpenSpec.ofChange fnExactGetPgStateSpec)

/-- ITS FALSE NEIGHBOUR: 'it returns false'. Refute it at one input. -/
def fnExactGetPgStateWrong : ChangeSpec := { name := "fnExactGetPgState", fn := fun _ => fun
  | [d] => { results := [.lit (.bool false)], args := [d] }
  | _ => none }
def FnExactGetPgStateWrongFalsely : Prop := fnExactGetPgStateRow.holds Try.pinned (OpenSpec.ofChange fnExactGetPgStateWrong)

/- THE SECOND FORM. 'bulk': how many values and letters a reading holds, each counted each time it is reached (what is shared counts as often as it is met; a slice's spare places count too). A statement '..UptoSaid' is the law's where the arguments, and the package variables that the reading takes, are together of bulk at most 1048576: NARROWER than '..Said'. Prove '..Said' where nothing that the law and all that it calls make is longer than what came in: it says more and counts as full. Else prove '..UptoSaid'. A law counts once. -/
mutual
def uptoBulk {H : Type} : DataW H → Nat
  | .lit (.string bytes) => bytes.length + 1
  | .lit _ => 1
  | .nil => 1
  | .ptr d => uptoBulk d + 1
  | .slice elems spare => uptoBulkAll elems + uptoBulkAll spare + 1
  | .agg parts => uptoBulkAll parts + 1
  | .iface _ d => uptoBulk d + 1
  | .map entries => uptoBulkEntries entries + 1
  | .held _ => 1
def uptoBulkAll {H : Type} : List (DataW H) → Nat
  | [] => 0
  | d :: r => uptoBulk d + uptoBulkAll r
def uptoBulkEntries {H : Type} : List (Lit × DataW H) → Nat
  | [] => 0
  | x :: r => uptoBulkEntry x + uptoBulkEntries r
def uptoBulkEntry {H : Type} : Lit × DataW H → Nat
  | (.string bytes, d) => bytes.length + uptoBulk d + 1
  | (_, d) => uptoBulk d + 1
 end
def uptoSmall : (H : Type) → List (DataW H) → Bool := fun _ ds => decide (uptoBulkAll ds ≤ 1048576)
def OpenSpec.upto (s : _root_.Go.ChangeSpec) : _root_.Go.OpenSpec := { _root_.Go.OpenSpec.ofChange s with cond := some uptoSmall }

/-- 'laws.FnExactPgsIn', WHERE WHAT IT READS IS OF BULK AT MOST 1048576: true; the input reads as it did. -/
def fnExactPgsInUptoRow : OpenClaim := { program := "ytjifplkdfebilaa", sum := "3685ccb23f7406cc7fb32f2dbff578a404e30d4b4542e7b008a0f8dcf35583bf", func := "loop.example/g00849/laws.FnExactPgsIn", spec := "fnExactPgsIn", apart := false, narrowed := true }
def FnExactPgsInUptoSaid : Prop := fnExactPgsInUptoRow.holds Try.pinned (OpenSpec.upto fnExactPgsInSpec)

/-- 'laws.FnPgs', WHERE WHAT IT READS IS OF BULK AT MOST 1048576: true; the input reads as it did. -/
def fnPgsUptoRow : OpenClaim := { program := "ytjifplkdfebilaa", sum := "3685ccb23f7406cc7fb32f2dbff578a404e30d4b4542e7b008a0f8dcf35583bf", func := "loop.example/g00849/laws.FnPgs", spec := "fnPgs", apart := false, narrowed := true }
def FnPgsUptoSaid : Prop := fnPgsUptoRow.holds Try.pinned (OpenSpec.upto fnPgsSpec)

/-- 'laws.FnExactPgsOf', WHERE WHAT IT READS IS OF BULK AT MOST 1048576: true; the input reads as it did. -/
def fnExactPgsOfUptoRow : OpenClaim := { program := "ytjifplkdfebilaa", sum := "3685ccb23f7406cc7fb32f2dbff578a404e30d4b4542e7b008a0f8dcf35583bf", func := "loop.example/g00849/laws.FnExactPgsOf", spec := "fnExactPgsOf", unfollowed := true, recurses := true, apart := false, narrowed := true }
def FnExactPgsOfUptoSaid : Prop := fnExactPgsOfUptoRow.holds Try.pinned (OpenSpec.upto fnExactPgsOfSpec)

/-- 'laws.FnExactGetPgState', WHERE WHAT IT READS IS OF BULK AT MOST 1048576: true; the input reads as it did. -/
def fnExactGetPgStateUptoRow : OpenClaim := { program := "ytjifplkdfebilaa", sum := "3685ccb23f7406cc7fb32f2dbff578a404e30d4b4542e7b008a0f8dcf35583bf", func := "loop.example/g00849/laws.FnExactGetPgState", spec := "fnExactGetPgState", inPlace := ["internal/bytealg.abigen_runtime_cmpstring"], unfollowed := true, recurses := true, apart := false, narrowed := true }
def FnExactGetPgStateUptoSaid : Prop := fnExactGetPgStateUptoRow.holds Try.pinned (OpenSpec.upto fnExactGetPgStateSpec)

end Rows
end Go.Proofs.Ytjifplkdfebilaa
