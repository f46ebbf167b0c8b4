/-
  No cell of these rows narrows 'for every input' (looked for: loops, veiled, ifaces, maps, wideKeys, modest, calm, conditions, laid).
  DERIVED. THE GIVEN ROWS OF THIS SEAT. 6 by the template 'for every input the law returns true; each argument reads behind the call as it read before'; 0 by the template 'total and deterministic' (their statements: YtngooidedlnmaaaGreatTotals.lean).
  GIVEN WITH THE SEED: the statements are not yours to turn. If you find one false, say at which input.
  Laid BY PROGRAM, IN A SANDBOX (cutbox-rows.mjs): the forced cells as the released guide's own fill.sh prints them over the translation dec7bdf7801fa6f2… (all of the seat's roots in one cut). By AI agents, Wed Nov 11 2026. No macro, syntax, notation, axiom, sorry.
-/
import Derived.Test.YtngooidedlnmaaaGreatChecked
import GoSem.Claim
import GoSem.ClaimJoined
import GoSem.ClaimMapViews
import Derived.JoinedTies
import Derived.KernelRfl
namespace Go.Proofs.YtngooidedlnmaaaGreat
/- THE CELL 'sum', in the pinned program and in every row, IS THE sha256 OF THE DUMP (.gsa) THAT YtngooidedlnmaaaGreatProg.lean LOADS. Nothing in Lean hashes anything: it is a label: what it is worth is what the hold of that sum in a sandbox is worth. -/
noncomputable def Tryz.pinned : Pinned := { name := "ytngooidedlnmaaagreat", sum := "dec7bdf7801fa6f2ed7c9b7796b60b8eda8bbef6ebf8308a020ac3e8099842e2", checked := Tryz.checked }
namespace Rows
def none {H : Type} : Left H := { results := [], args := [] }

/-- 'laws.FnExactFlushStore': WHATEVER THE INPUT: true; the input reads as it did. -/
def fnExactFlushStoreSpec : ChangeSpec := { name := "fnExactFlushStore", fn := fun _ => fun
  | [d] => { results := [.lit (.bool true)], args := [d] }
  | _ => none }
def fnExactFlushStoreRow : OpenClaim := { program := "ytngooidedlnmaaagreat", sum := "dec7bdf7801fa6f2ed7c9b7796b60b8eda8bbef6ebf8308a020ac3e8099842e2", func := "loop.example/g00849/laws.FnExactFlushStore", spec := "fnExactFlushStore", inPlace := ["internal/bytealg.abigen_runtime_cmpstring"], apart := false }
def FnExactFlushStoreSaid : Prop := fnExactFlushStoreRow.holds Tryz.pinned (OpenSpec.ofChange fnExactFlushStoreSpec)

/-- ITS FALSE NEIGHBOUR: 'it returns false'. Refute it at one input. -/
def fnExactFlushStoreWrong : ChangeSpec := { name := "fnExactFlushStore", fn := fun _ => fun
  | [d] => { results := [.lit (.bool false)], args := [d] }
  | _ => none }
def FnExactFlushStoreWrongFalsely : Prop := fnExactFlushStoreRow.holds Tryz.pinned (OpenSpec.ofChange fnExactFlushStoreWrong)

/-- 'laws.FnExactHearReply': WHATEVER THE INPUT: true; the input reads as it did. -/
def fnExactHearReplySpec : ChangeSpec := { name := "fnExactHearReply", fn := fun _ => fun
  | [d1, d2] => { results := [.lit (.bool true)], args := [d1, d2] }
  | _ => none }
def fnExactHearReplyRow : OpenClaim := { program := "ytngooidedlnmaaagreat", sum := "dec7bdf7801fa6f2ed7c9b7796b60b8eda8bbef6ebf8308a020ac3e8099842e2", func := "loop.example/g00849/laws.FnExactHearReply", spec := "fnExactHearReply", inPlace := ["internal/bytealg.abigen_runtime_cmpstring"], apart := false }
def FnExactHearReplySaid : Prop := fnExactHearReplyRow.holds Tryz.pinned (OpenSpec.ofChange fnExactHearReplySpec)

/-- ITS FALSE NEIGHBOUR: 'it returns false'. Refute it at one input. -/
def fnExactHearReplyWrong : ChangeSpec := { name := "fnExactHearReply", fn := fun _ => fun
  | [d1, d2] => { results := [.lit (.bool false)], args := [d1, d2] }
  | _ => none }
def FnExactHearReplyWrongFalsely : Prop := fnExactHearReplyRow.holds Tryz.pinned (OpenSpec.ofChange fnExactHearReplyWrong)

/-- 'laws.FnExactStateIn': WHATEVER THE INPUT: true; the input reads as it did. -/
def fnExactStateInSpec : ChangeSpec := { name := "fnExactStateIn", fn := fun _ => fun
  | [d1, d2] => { results := [.lit (.bool true)], args := [d1, d2] }
  | _ => none }
def fnExactStateInRow : OpenClaim := { program := "ytngooidedlnmaaagreat", sum := "dec7bdf7801fa6f2ed7c9b7796b60b8eda8bbef6ebf8308a020ac3e8099842e2", func := "loop.example/g00849/laws.FnExactStateIn", spec := "fnExactStateIn", inPlace := ["internal/bytealg.abigen_runtime_cmpstring"], unfollowed := true, recurses := true, apart := false }
def FnExactStateInSaid : Prop := fnExactStateInRow.holds Tryz.pinned (OpenSpec.ofChange fnExactStateInSpec)

/-- ITS FALSE NEIGHBOUR: 'it returns false'. Refute it at one input. -/
def fnExactStateInWrong : ChangeSpec := { name := "fnExactStateIn", fn := fun _ => fun
  | [d1, d2] => { results := [.lit (.bool false)], args := [d1, d2] }
  | _ => none }
def FnExactStateInWrongFalsely : Prop := fnExactStateInRow.holds Tryz.pinned (OpenSpec.ofChange fnExactStateInWrong)

/-- 'laws.FnExactRotIn': WHATEVER THE INPUT: true; the input reads as it did. -/
def fnExactRotInSpec : ChangeSpec := { name := "fnExactRotIn", fn := fun _ => fun
  | [d1, d2, d3, d4, d5, d6, d7] => { results := [.lit (.bool true)], args := [d1, d2, d3, d4, d5, d6, d7] }
  | _ => none }
def fnExactRotInRow : OpenClaim := { program := "ytngooidedlnmaaagreat", sum := "dec7bdf7801fa6f2ed7c9b7796b60b8eda8bbef6ebf8308a020ac3e8099842e2", func := "loop.example/g00849/laws.FnExactRotIn", spec := "fnExactRotIn", inPlace := ["internal/bytealg.abigen_runtime_cmpstring"], unfollowed := true, recurses := true, apart := false }
def FnExactRotInSaid : Prop := fnExactRotInRow.holds Tryz.pinned (OpenSpec.ofChange fnExactRotInSpec)

/-- ITS FALSE NEIGHBOUR: 'it returns false'. Refute it at one input. -/
def fnExactRotInWrong : ChangeSpec := { name := "fnExactRotIn", fn := fun _ => fun
  | [d1, d2, d3, d4, d5, d6, d7] => { results := [.lit (.bool false)], args := [d1, d2, d3, d4, d5, d6, d7] }
  | _ => none }
def FnExactRotInWrongFalsely : Prop := fnExactRotInRow.holds Tryz.pinned (OpenSpec.ofChange fnExactRotInWrong)

/-- 'laws.FnExactDoubleAt': WHATEVER THE INPUT: true; the input reads as it did. -/
def fnExactDoubleAtSpec : ChangeSpec := { name := "fnExactDoubleAt", fn := fun _ => fun
  | [d1, d2] => { results := [.lit (.bool true)], args := [d1, d2] }
  | _ => none }
def fnExactDoubleAtRow : OpenClaim := { program := "ytngooidedlnmaaagreat", sum := "dec7bdf7801fa6f2ed7c9b7796b60b8eda8bbef6ebf8308a020ac3e8099842e2", func := "loop.example/g00849/laws.FnExactDoubleAt", spec := "fnExactDoubleAt", inPlace := ["internal/bytealg.abigen_runtime_cmpstring"], unfollowed := true, recurses := true, apart := false }
def FnExactDoubleAtSaid : Prop := fnExactDoubleAtRow.holds Tryz.pinned (OpenSpec.ofChange fnExactDoubleAtSpec)

/-- ITS FALSE NEIGHBOUR: 'it returns false'. Refute it at one input. -/
def fnExactDoubleAtWrong : ChangeSpec := { name := "fnExactDoubleAt", fn := fun _ => fun
  | [d1, d2] => { results := [.lit (.bool false)], args := [d1, d2] }
  | _ => none }
def FnExactDoubleAtWrongFalsely : Prop := fnExactDoubleAtRow.holds Tryz.pinned (OpenSpec.ofChange fnExactDoubleAtWrong)

/-- 'laws.FnExactSendAll': WHATEVER THE INPUT: true; the input reads as it did. -/
def fnExactSendAllSpec : ChangeSpec := { name := "fnExactSendAll", fn := fun _ => fun
  | [d1, d2] => { results := [.lit (.bool true)], args := [d1, d2] }
  | _ => none }
def fnExactSendAllRow : OpenClaim := { program := "ytngooidedlnmaaagreat", sum := "dec7bdf7801fa6f2ed7c9b7796b60b8eda8bbef6ebf8308a020ac3e8099842e2", func := "loop.example/g00849/laws.FnExactSendAll", spec := "fnExactSendAll", inPlace := ["internal/bytealg.abigen_runtime_cmpstring"], unfollowed := true, recurses := true, apart := false }
def FnExactSendAllSaid : Prop := fnExactSendAllRow.holds Tryz.pinned (OpenSpec.ofChange fnExactSendAllSpec)

/-- ITS FALSE NEIGHBOUR: 'it returns false'. Refute it at one input. -/
def fnExactSendAllWrong : ChangeSpec := { name := "fnExactSendAll", fn := fun _ => fun
  | [d1, d2] => { results := [.lit (.bool false)], args := [d1, d2] }
  | _ => none }
def FnExactSendAllWrongFalsely : Prop := fnExactSendAllRow.holds Tryz.pinned (OpenSpec.ofChange fnExactSendAllWrong)

/- THE SECOND FORM. 'bulk': how many values and letters a reading holds, each counted each time it is reached (what is shared counts as often as it is met; a slice's spare places count too). A statement '..UptoSaid' is the law's where the arguments, and the package variables that the reading takes, are together of bulk at most 1048576: NARROWER than '..Said'. Prove '..Said' where nothing that the law and all that it calls make is longer than what came in: it says more and counts as full. Else prove '..UptoSaid'. A law counts once. -/
mutual
def uptoBulk {H : Type} : DataW H → Nat
  | .lit (.string bytes) => bytes.length + 1
  | .lit _ => 1
  | .nil => 1
  | .ptr d => uptoBulk d + 1
  | .slice elems spare => uptoBulkAll elems + uptoBulkAll spare + 1
  | .agg parts => uptoBulkAll parts + 1
  | .iface _ d => uptoBulk d + 1
  | .map entries => uptoBulkEntries entries + 1
  | .held _ => 1
def uptoBulkAll {H : Type} : List (DataW H) → Nat
  | [] => 0
  | d :: r => uptoBulk d + uptoBulkAll r
def uptoBulkEntries {H : Type} : List (Lit × DataW H) → Nat
  | [] => 0
  | x :: r => uptoBulkEntry x + uptoBulkEntries r
def uptoBulkEntry {H : Type} : Lit × DataW H → Nat
  | (.string bytes, d) => bytes.length + uptoBulk d + 1
  | (_, d) => uptoBulk d + 1
 end
def uptoSmall : (H : Type) → List (DataW H) → Bool := fun _ ds => decide (uptoBulkAll ds ≤ 1048576)
def OpenSpec.upto (s : _root_.Go.ChangeSpec) : _root_.Go.OpenSpec := { _root_.Go.OpenSpec.ofChange s with cond := some uptoSmall }

/-- 'laws.FnExactFlushStore', WHERE WHAT IT READS IS OF BULK AT MOST 1048576: true; the input reads as it did. -/
def fnExactFlushStoreUptoRow : OpenClaim := { program := "ytngooidedlnmaaagreat", sum := "dec7bdf7801fa6f2ed7c9b7796b60b8eda8bbef6ebf8308a020ac3e8099842e2", func := "loop.example/g00849/laws.FnExactFlushStore", spec := "fnExactFlushStore", inPlace := ["internal/bytealg.abigen_runtime_cmpstring"], apart := false, narrowed := true }
def FnExactFlushStoreUptoSaid : Prop := fnExactFlushStoreUptoRow.holds Tryz.pinned (OpenSpec.upto fnExactFlushStoreSpec)

/-- 'laws.FnExactHearReply', WHERE WHAT IT READS IS OF BULK AT MOST 1048576: true; the input reads as it did. -/
def fnExactHearReplyUptoRow : OpenClaim := { program := "ytngooidedlnmaaagreat", sum := "dec7bdf7801fa6f2ed7c9b7796b60b8eda8bbef6ebf8308a020ac3e8099842e2", func := "loop.example/g00849/laws.FnExactHearReply", spec := "fnExactHearReply", inPlace := ["internal/bytealg.abigen_runtime_cmpstring"], apart := false, narrowed := true }
def FnExactHearReplyUptoSaid : Prop := fnExactHearReplyUptoRow.holds Tryz.pinned (OpenSpec.upto fnExactHearReplySpec)

/-- 'laws.FnExactStateIn', WHERE WHAT IT READS IS OF BULK AT MOST 1048576: true; the input reads as it did. -/
def fnExactStateInUptoRow : OpenClaim := { program := "ytngooidedlnmaaagreat", sum := "dec7bdf7801fa6f2ed7c9b7796b60b8eda8bbef6ebf8308a020ac3e8099842e2", func := "loop.example/g00849/laws.FnExactStateIn", spec := "fnExactStateIn", inPlace := ["internal/bytealg.abigen_runtime_cmpstring"], unfollowed := true, recurses := true, apart := false, narrowed := true }
def FnExactStateInUptoSaid : Prop := fnExactStateInUptoRow.holds Tryz.pinned (OpenSpec.upto fnExactStateInSpec)

/-- 'laws.FnExactRotIn', WHERE WHAT IT READS IS OF BULK AT MOST 1048576: true; the input reads as it did. -/
def fnExactRotInUptoRow : OpenClaim := { program := "ytngooidedlnmaaagreat", sum := "dec7bdf7801fa6f2ed7c9b7796b60b8eda8bbef6ebf8308a020ac3e8099842e2", func := "loop.example/g00849/laws.FnExactRotIn", spec := "fnExactRotIn", inPlace := ["internal/bytealg.abigen_runtime_cmpstring"], unfollowed := true, recurses := true, apart := false, narrowed := true }
def FnExactRotInUptoSaid : Prop := fnExactRotInUptoRow.holds Tryz.pinned (OpenSpec.upto fnExactRotInSpec)

/-- 'laws.FnExactDoubleAt', WHERE WHAT IT READS IS OF BULK AT MOST 1048576: true; the input reads as it did. -/
def fnExactDoubleAtUptoRow : OpenClaim := { program := "ytngooidedlnmaaagreat", sum := "dec7bdf7801fa6f2ed7c9b7796b60b8eda8bbef6ebf8308a020ac3e8099842e2", func := "loop.example/g00849/laws.FnExactDoubleAt", spec := "fnExactDoubleAt", inPlace := ["internal/bytealg.abigen_runtime_cmpstring"], unfollowed := true, recurses := true, apart := false, narrowed := true }
def FnExactDoubleAtUptoSaid : Prop := fnExactDoubleAtUptoRow.holds Tryz.pinned (OpenSpec.upto fnExactDoubleAtSpec)

/-- 'laws.FnExactSendAll', WHERE WHAT IT READS IS OF BULK AT MOST 1048576: true; the input reads as it did. -/
def fnExactSendAllUptoRow : OpenClaim := { program := "ytngooidedlnmaaagreat", sum := "dec7bdf7801fa6f2ed7c9b7796b60b8eda8bbef6ebf8308a020ac3e8099842e2", func := "loop.example/g00849/laws.FnExactSendAll", spec := "fnExactSendAll", inPlace := ["internal/bytealg.abigen_runtime_cmpstring"], unfollowed := true, recurses := true, apart := false, narrowed := true }
def FnExactSendAllUptoSaid : Prop := fnExactSendAllUptoRow.holds Tryz.pinned (OpenSpec.upto fnExactSendAllSpec)

end Rows
end Go.Proofs.YtngooidedlnmaaaGreat
