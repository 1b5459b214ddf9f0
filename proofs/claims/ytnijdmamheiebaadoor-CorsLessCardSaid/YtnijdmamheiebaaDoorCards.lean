/-
  DERIVED. GIVEN WITH THE SEED: THE CARDS: each row of YtnijdmamheiebaaDoorRows.lean that lists a variable, with what it lists TIED to the program's text (the seventh form; the later family's looks); each row that meets fmt, with fmt's text TOLD by the authors' own Lean function (tested against real Go, not proved from fmt's source: count such statements apart). THE CARD IS WHAT COUNTS. Prove the row's statement (the work); the ties are given (YtnijdmamheiebaaDoorTie.lean); close each card by the builder's one call (the guide's Derived/Test/ToyasCard.lean, 'card_holds'). Laid BY PROGRAM, IN A SANDBOX (cutbox-door.mjs). By AI agents, Wed Nov 11 2026. No macro, syntax, notation, axiom, sorry.
-/
import Derived.Test.YtnijdmamheiebaaDoorRows
import GoSem.ClaimSeven
namespace Go.Proofs.YtnijdmamheiebaaDoor
namespace Rows

/-- THE TIED CARD OF 'ostiarylaw18.CorsLess'. -/
def corsLessCard : Claim7 := { stood := { row := corsLessRow, standIns := [], harness := (true, "16de3108050d149f9277ca5a3db9c0f4c38bf01ec905c9b2316a4b7d4ef507c9"), looks := false }, kinds := [], alts := [], laidByText := true, laidKinds := [.data, .data, .data], laidTests := true, laidLooks := .later }
def CorsLessCardSaid : Prop := Claim7.holds Tryd.pinned (.plain (OpenSpec.ofChange corsLessSpec)) corsLessCard

/-- THE SECOND FORM's CARD OF 'ostiarylaw18.CorsLess'. -/
def corsLessUptoCard : Claim7 := { stood := { row := corsLessUptoRow, standIns := [], harness := (true, "16de3108050d149f9277ca5a3db9c0f4c38bf01ec905c9b2316a4b7d4ef507c9"), looks := false }, kinds := [], alts := [], laidByText := true, laidKinds := [.data, .data, .data], laidTests := true, laidLooks := .later }
def CorsLessUptoCardSaid : Prop := Claim7.holds Tryd.pinned (.plain (OpenSpec.upto corsLessSpec)) corsLessUptoCard
end Rows
end Go.Proofs.YtnijdmamheiebaaDoor
