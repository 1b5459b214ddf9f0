/-
  DERIVED. GIVEN WITH THE SEED: THE PROGRAM's TIES (one call each: nine closed facts by the kernel) AND EACH ROW's TIE, after the 31st guide's Derived/Test/Toyas{Tie, Card}.lean. No idea stands in it: it is a product of the set-up. Laid BY PROGRAM, IN A SANDBOX (cutbox-door.mjs). By AI agents, Wed Nov 11 2026. No macro, syntax, notation, axiom, sorry.
-/
import Derived.Test.YtejpgcemblankaaDoorRows
import Derived.LaidByTextLater
import Derived.SevenTiedAt
import Derived.LaidSub
import Derived.LaidOnce
namespace Go.Proofs.YtejpgcemblankaaDoor
open Go
set_option maxRecDepth 100000
theorem seatTie1 : Tryd.prog.laidByTextLater [("ostiary/digest.small", Rows.laid_ostiary_digest_small), ("ostiary/digest.large", Rows.laid_ostiary_digest_large), ("ostiary/digest.constants", Rows.laid_ostiary_digest_constants), ("ostiary/digest.start256", Rows.laid_ostiary_digest_start256), ("ostiary/digest.start384", Rows.laid_ostiary_digest_start384), ("ostiary/digest.start512", Rows.laid_ostiary_digest_start512)] [.data, .data, .data, .data, .data, .data] true :=
  Program.laidByTextLater_by_one 62 8 81 (by kernel_rfl) (by kernel_rfl) (by kernel_rfl) (by kernel_rfl) (by kernel_rfl) (by kernel_rfl) (fun _ _ => by kernel_rfl)
theorem seatTie2 : Tryd.prog.laidByTextLater [("math/bits.deBruijn32tab", Rows.laid_math_bits_deBruijn32tab), ("math/bits.deBruijn64tab", Rows.laid_math_bits_deBruijn64tab), ("internal/strconv.uint64pow10", Rows.laid_internal_strconv_uint64pow10), ("ostiary/digest.small", Rows.laid_ostiary_digest_small), ("ostiary/digest.large", Rows.laid_ostiary_digest_large), ("ostiary/digest.constants", Rows.laid_ostiary_digest_constants), ("ostiary/digest.start256", Rows.laid_ostiary_digest_start256), ("ostiary/digest.start384", Rows.laid_ostiary_digest_start384), ("ostiary/digest.start512", Rows.laid_ostiary_digest_start512)] [.data, .data, .data, .data, .data, .data, .data, .data, .data] true :=
  Program.laidByTextLater_by_one 62 8 81 (by kernel_rfl) (by kernel_rfl) (by kernel_rfl) (by kernel_rfl) (by kernel_rfl) (by kernel_rfl) (fun _ _ => by kernel_rfl)
theorem noOwnUnsafe : Tryd.pinned.checked.prog.headLifts.contains "ownunsafe" = false := by kernel_rfl
theorem tie : Tryd.prog.laidByTextLater [("ostiary/digest.small", Rows.laid_ostiary_digest_small), ("ostiary/digest.large", Rows.laid_ostiary_digest_large), ("ostiary/digest.constants", Rows.laid_ostiary_digest_constants), ("ostiary/digest.start256", Rows.laid_ostiary_digest_start256), ("ostiary/digest.start384", Rows.laid_ostiary_digest_start384), ("ostiary/digest.start512", Rows.laid_ostiary_digest_start512)] [.data, .data, .data, .data, .data, .data] true :=
  Program.laidByTextLater.sub seatTie1 ["ostiary/digest.small", "ostiary/digest.large", "ostiary/digest.constants", "ostiary/digest.start256", "ostiary/digest.start384", "ostiary/digest.start512"] (by kernel_rfl) (by kernel_rfl)
theorem integrityChecks_row_tie : Rows.integrityChecksRow.laidByTextAt .later Tryd.pinned [.data, .data, .data, .data, .data, .data] true :=
  OpenClaim.laidByTextAt_later rfl rfl tie noOwnUnsafe
theorem integrityKept_row_tie : Rows.integrityKeptRow.laidByTextAt .later Tryd.pinned [.data, .data, .data, .data, .data, .data] true :=
  OpenClaim.laidByTextAt_later rfl rfl tie noOwnUnsafe
theorem tie2 : Tryd.prog.laidByTextLater [("math/bits.deBruijn32tab", Rows.laid_math_bits_deBruijn32tab), ("math/bits.deBruijn64tab", Rows.laid_math_bits_deBruijn64tab), ("internal/strconv.uint64pow10", Rows.laid_internal_strconv_uint64pow10), ("ostiary/digest.small", Rows.laid_ostiary_digest_small), ("ostiary/digest.large", Rows.laid_ostiary_digest_large), ("ostiary/digest.constants", Rows.laid_ostiary_digest_constants), ("ostiary/digest.start256", Rows.laid_ostiary_digest_start256), ("ostiary/digest.start384", Rows.laid_ostiary_digest_start384), ("ostiary/digest.start512", Rows.laid_ostiary_digest_start512)] [.data, .data, .data, .data, .data, .data, .data, .data, .data] true :=
  Program.laidByTextLater.sub seatTie2 ["math/bits.deBruijn32tab", "math/bits.deBruijn64tab", "internal/strconv.uint64pow10", "ostiary/digest.small", "ostiary/digest.large", "ostiary/digest.constants", "ostiary/digest.start256", "ostiary/digest.start384", "ostiary/digest.start512"] (by kernel_rfl) (by kernel_rfl)
theorem integrityMakes_row_tie : Rows.integrityMakesRow.laidByTextAt .later Tryd.pinned [.data, .data, .data, .data, .data, .data, .data, .data, .data] true :=
  OpenClaim.laidByTextAt_later rfl rfl tie2 noOwnUnsafe
theorem integrityChecksUpto_row_tie : Rows.integrityChecksUptoRow.laidByTextAt .later Tryd.pinned [.data, .data, .data, .data, .data, .data] true :=
  OpenClaim.laidByTextAt_later rfl rfl tie noOwnUnsafe
theorem integrityKeptUpto_row_tie : Rows.integrityKeptUptoRow.laidByTextAt .later Tryd.pinned [.data, .data, .data, .data, .data, .data] true :=
  OpenClaim.laidByTextAt_later rfl rfl tie noOwnUnsafe
theorem integrityMakesUpto_row_tie : Rows.integrityMakesUptoRow.laidByTextAt .later Tryd.pinned [.data, .data, .data, .data, .data, .data, .data, .data, .data] true :=
  OpenClaim.laidByTextAt_later rfl rfl tie2 noOwnUnsafe
end Go.Proofs.YtejpgcemblankaaDoor
