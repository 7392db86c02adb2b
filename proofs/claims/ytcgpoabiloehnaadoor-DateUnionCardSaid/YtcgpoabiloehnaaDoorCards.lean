/-
  DERIVED. GIVEN WITH THE SEED: THE CARDS: each row of YtcgpoabiloehnaaDoorRows.lean that lists a variable, with what it lists TIED to the program's text (the seventh form; the later family's looks); each row that meets fmt, with fmt's text TOLD by the authors' own Lean function (tested against real Go, not proved from fmt's source: count such statements apart). THE CARD IS WHAT COUNTS. Prove the row's statement (the work); the ties are given (YtcgpoabiloehnaaDoorTie.lean); close each card by the builder's one call (the guide's Derived/Test/ToyasCard.lean, 'card_holds'). Laid BY PROGRAM, IN A SANDBOX (cutbox-door.mjs). By AI agents, Wed Nov 11 2026. No macro, syntax, notation, axiom, sorry.
-/
import Derived.Test.YtcgpoabiloehnaaDoorRows
import GoSem.ClaimSeven
namespace Go.Proofs.YtcgpoabiloehnaaDoor
namespace Rows

/-- THE TIED CARD OF 'udometerlaw01.DateUnion'. -/
def dateUnionCard : Claim7 := { stood := { row := dateUnionRow, standIns := [], harness := (true, "7eeb1740309ee59012045168d79c597bee0c0a84aa0991afa0cb586a9bfecab5"), looks := false }, kinds := [], alts := [], laidByText := true, laidKinds := [.data, .data, .data], laidTests := true, laidLooks := .later }
def DateUnionCardSaid : Prop := Claim7.holds Tryd.pinned (.plain (OpenSpec.ofChange dateUnionSpec)) dateUnionCard

/-- THE SECOND FORM's CARD OF 'udometerlaw01.DateUnion'. -/
def dateUnionUptoCard : Claim7 := { stood := { row := dateUnionUptoRow, standIns := [], harness := (true, "7eeb1740309ee59012045168d79c597bee0c0a84aa0991afa0cb586a9bfecab5"), looks := false }, kinds := [], alts := [], laidByText := true, laidKinds := [.data, .data, .data], laidTests := true, laidLooks := .later }
def DateUnionUptoCardSaid : Prop := Claim7.holds Tryd.pinned (.plain (OpenSpec.upto dateUnionSpec)) dateUnionUptoCard
end Rows
end Go.Proofs.YtcgpoabiloehnaaDoor
