/-
  DERIVED. GIVEN WITH THE SEED: THE PROGRAM's TIES (one call each: nine closed facts by the kernel) AND EACH ROW's TIE, after the 31st guide's Derived/Test/Toyas{Tie, Card}.lean. No idea stands in it: it is a product of the set-up. Laid BY PROGRAM, IN A SANDBOX (cutbox-door.mjs). By AI agents, Wed Nov 11 2026. No macro, syntax, notation, axiom, sorry.
-/
import Derived.Test.YtbiimljinilefaaDoorRows
import Derived.LaidByTextLater
import Derived.SevenTiedAt
import Derived.LaidSub
import Derived.LaidOnce
namespace Go.Proofs.YtbiimljinilefaaDoor
open Go
set_option maxRecDepth 100000
theorem seatTie1 : Tryd.prog.laidByTextLater [("ostiary/digest.small", Rows.laid_ostiary_digest_small), ("ostiary/digest.large", Rows.laid_ostiary_digest_large), ("ostiary/digest.constants", Rows.laid_ostiary_digest_constants), ("ostiary/digest.start256", Rows.laid_ostiary_digest_start256), ("ostiary/digest.start384", Rows.laid_ostiary_digest_start384), ("ostiary/digest.start512", Rows.laid_ostiary_digest_start512)] [.data, .data, .data, .data, .data, .data] true :=
  Program.laidByTextLater_by_one 47 8 81 (by kernel_rfl) (by kernel_rfl) (by kernel_rfl) (by kernel_rfl) (by kernel_rfl) (by kernel_rfl) (fun _ _ => by kernel_rfl)
theorem noOwnUnsafe : Tryd.pinned.checked.prog.headLifts.contains "ownunsafe" = false := by kernel_rfl
theorem tie : Tryd.prog.laidByTextLater [("ostiary/digest.small", Rows.laid_ostiary_digest_small), ("ostiary/digest.large", Rows.laid_ostiary_digest_large), ("ostiary/digest.constants", Rows.laid_ostiary_digest_constants), ("ostiary/digest.start256", Rows.laid_ostiary_digest_start256), ("ostiary/digest.start384", Rows.laid_ostiary_digest_start384), ("ostiary/digest.start512", Rows.laid_ostiary_digest_start512)] [.data, .data, .data, .data, .data, .data] true :=
  Program.laidByTextLater.sub seatTie1 ["ostiary/digest.small", "ostiary/digest.large", "ostiary/digest.constants", "ostiary/digest.start256", "ostiary/digest.start384", "ostiary/digest.start512"] (by kernel_rfl) (by kernel_rfl)
theorem digestNumbers_row_tie : Rows.digestNumbersRow.laidByTextAt .later Tryd.pinned [.data, .data, .data, .data, .data, .data] true :=
  OpenClaim.laidByTextAt_later rfl rfl tie noOwnUnsafe
theorem digestSums_row_tie : Rows.digestSumsRow.laidByTextAt .later Tryd.pinned [.data, .data, .data, .data, .data, .data] true :=
  OpenClaim.laidByTextAt_later rfl rfl tie noOwnUnsafe
theorem digestEdges_row_tie : Rows.digestEdgesRow.laidByTextAt .later Tryd.pinned [.data, .data, .data, .data, .data, .data] true :=
  OpenClaim.laidByTextAt_later rfl rfl tie noOwnUnsafe
theorem digestKept_row_tie : Rows.digestKeptRow.laidByTextAt .later Tryd.pinned [.data, .data, .data, .data, .data, .data] true :=
  OpenClaim.laidByTextAt_later rfl rfl tie noOwnUnsafe
theorem digestNumbersUpto_row_tie : Rows.digestNumbersUptoRow.laidByTextAt .later Tryd.pinned [.data, .data, .data, .data, .data, .data] true :=
  OpenClaim.laidByTextAt_later rfl rfl tie noOwnUnsafe
theorem digestSumsUpto_row_tie : Rows.digestSumsUptoRow.laidByTextAt .later Tryd.pinned [.data, .data, .data, .data, .data, .data] true :=
  OpenClaim.laidByTextAt_later rfl rfl tie noOwnUnsafe
theorem digestEdgesUpto_row_tie : Rows.digestEdgesUptoRow.laidByTextAt .later Tryd.pinned [.data, .data, .data, .data, .data, .data] true :=
  OpenClaim.laidByTextAt_later rfl rfl tie noOwnUnsafe
theorem digestKeptUpto_row_tie : Rows.digestKeptUptoRow.laidByTextAt .later Tryd.pinned [.data, .data, .data, .data, .data, .data] true :=
  OpenClaim.laidByTextAt_later rfl rfl tie noOwnUnsafe
end Go.Proofs.YtbiimljinilefaaDoor
