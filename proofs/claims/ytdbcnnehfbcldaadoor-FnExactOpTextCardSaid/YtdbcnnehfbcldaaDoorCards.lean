/-
  DERIVED. GIVEN WITH THE SEED: THE CARDS: each row of YtdbcnnehfbcldaaDoorRows.lean that lists a variable, with what it lists TIED to the program's text (the seventh form; the later family's looks); each row that meets fmt, with fmt's text TOLD by the authors' own Lean function (tested against real Go, not proved from fmt's source: count such statements apart). THE CARD IS WHAT COUNTS. Prove the row's statement (the work); the ties are given (YtdbcnnehfbcldaaDoorTie.lean); close each card by the builder's one call (the guide's Derived/Test/ToyasCard.lean, 'card_holds'). Laid BY PROGRAM, IN A SANDBOX (cutbox-door.mjs). By AI agents, Wed Nov 11 2026. No macro, syntax, notation, axiom, sorry.
-/
import Derived.Test.YtdbcnnehfbcldaaDoorRows
import GoSem.ClaimSeven
namespace Go.Proofs.YtdbcnnehfbcldaaDoor
namespace Rows

/-- THE TIED CARD OF 'laws.FnExactOpText'. -/
def fnExactOpTextCard : Claim7 := { stood := { row := fnExactOpTextRow, standIns := [], harness := (true, "c65091792a35690950674f4728c1ef1f58a1549743246130a6250d8f92d1e8ab"), looks := false }, kinds := [], alts := [], laidByText := true, laidKinds := [.data, .data, .data], laidTests := true, laidLooks := .later }
def FnExactOpTextCardSaid : Prop := Claim7.holds Tryd.pinned (.plain (OpenSpec.ofChange fnExactOpTextSpec)) fnExactOpTextCard

/-- THE TIED CARD OF 'laws.FnExactActText'. -/
def fnExactActTextCard : Claim7 := { stood := { row := fnExactActTextRow, standIns := [], harness := (true, "c65091792a35690950674f4728c1ef1f58a1549743246130a6250d8f92d1e8ab"), looks := false }, kinds := [], alts := [], laidByText := true, laidKinds := [.data, .data, .data], laidTests := true, laidLooks := .later }
def FnExactActTextCardSaid : Prop := Claim7.holds Tryd.pinned (.plain (OpenSpec.ofChange fnExactActTextSpec)) fnExactActTextCard

/-- THE SECOND FORM's CARD OF 'laws.FnExactOpText'. -/
def fnExactOpTextUptoCard : Claim7 := { stood := { row := fnExactOpTextUptoRow, standIns := [], harness := (true, "c65091792a35690950674f4728c1ef1f58a1549743246130a6250d8f92d1e8ab"), looks := false }, kinds := [], alts := [], laidByText := true, laidKinds := [.data, .data, .data], laidTests := true, laidLooks := .later }
def FnExactOpTextUptoCardSaid : Prop := Claim7.holds Tryd.pinned (.plain (OpenSpec.upto fnExactOpTextSpec)) fnExactOpTextUptoCard

/-- THE SECOND FORM's CARD OF 'laws.FnExactActText'. -/
def fnExactActTextUptoCard : Claim7 := { stood := { row := fnExactActTextUptoRow, standIns := [], harness := (true, "c65091792a35690950674f4728c1ef1f58a1549743246130a6250d8f92d1e8ab"), looks := false }, kinds := [], alts := [], laidByText := true, laidKinds := [.data, .data, .data], laidTests := true, laidLooks := .later }
def FnExactActTextUptoCardSaid : Prop := Claim7.holds Tryd.pinned (.plain (OpenSpec.upto fnExactActTextSpec)) fnExactActTextUptoCard
end Rows
end Go.Proofs.YtdbcnnehfbcldaaDoor
