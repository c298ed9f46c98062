/-
  DERIVED. GIVEN WITH THE SEED: THE PROGRAM's TIES (one call each: nine closed facts by the kernel) AND EACH ROW's TIE, after the 31st guide's Derived/Test/Toyas{Tie, Card}.lean. No idea stands in it: it is a product of the set-up. Laid BY PROGRAM, IN A SANDBOX (cutbox-door.mjs). By AI agents, Wed Nov 11 2026. No macro, syntax, notation, axiom, sorry.
-/
import Derived.Test.YtdeenhhfafeanaaDoorRows
import Derived.LaidByTextLater
import Derived.SevenTiedAt
import Derived.LaidSub
import Derived.LaidOnce
namespace Go.Proofs.YtdeenhhfafeanaaDoor
open Go
set_option maxRecDepth 100000
theorem seatTie1 : Tryd.prog.laidByTextLater [("ostiary/name.blanks", Rows.laid_ostiary_name_blanks), ("ostiary/name.nothing", Rows.laid_ostiary_name_nothing), ("ostiary/name.barred", Rows.laid_ostiary_name_barred), ("ostiary/name.forms", Rows.laid_ostiary_name_forms)] [.widerDeep, .widerDeep, .widerDeep, .data] true :=
  Program.laidByTextLater_by_one 53 8 19 (by kernel_rfl) (by kernel_rfl) (by kernel_rfl) (by kernel_rfl) (by kernel_rfl) (by kernel_rfl) (fun _ _ => by kernel_rfl)
theorem noOwnUnsafe : Tryd.pinned.checked.prog.headLifts.contains "ownunsafe" = false := by kernel_rfl
theorem tie : Tryd.prog.laidByTextLater [("ostiary/name.blanks", Rows.laid_ostiary_name_blanks), ("ostiary/name.nothing", Rows.laid_ostiary_name_nothing), ("ostiary/name.barred", Rows.laid_ostiary_name_barred), ("ostiary/name.forms", Rows.laid_ostiary_name_forms)] [.widerDeep, .widerDeep, .widerDeep, .data] true :=
  Program.laidByTextLater.sub seatTie1 ["ostiary/name.blanks", "ostiary/name.nothing", "ostiary/name.barred", "ostiary/name.forms"] (by kernel_rfl) (by kernel_rfl)
theorem nameRunes_row_tie : Rows.nameRunesRow.laidByTextAt .later Tryd.pinned [.widerDeep, .widerDeep, .widerDeep, .data] true :=
  OpenClaim.laidByTextAt_later rfl rfl tie noOwnUnsafe
theorem nameAppends_row_tie : Rows.nameAppendsRow.laidByTextAt .later Tryd.pinned [.widerDeep, .widerDeep, .widerDeep, .data] true :=
  OpenClaim.laidByTextAt_later rfl rfl tie noOwnUnsafe
theorem namePrepares_row_tie : Rows.namePreparesRow.laidByTextAt .later Tryd.pinned [.widerDeep, .widerDeep, .widerDeep, .data] true :=
  OpenClaim.laidByTextAt_later rfl rfl tie noOwnUnsafe
theorem nameJoins_row_tie : Rows.nameJoinsRow.laidByTextAt .later Tryd.pinned [.widerDeep, .widerDeep, .widerDeep, .data] true :=
  OpenClaim.laidByTextAt_later rfl rfl tie noOwnUnsafe
theorem nameSizes_row_tie : Rows.nameSizesRow.laidByTextAt .later Tryd.pinned [.widerDeep, .widerDeep, .widerDeep, .data] true :=
  OpenClaim.laidByTextAt_later rfl rfl tie noOwnUnsafe
theorem nameEscapes_row_tie : Rows.nameEscapesRow.laidByTextAt .later Tryd.pinned [.widerDeep, .widerDeep, .widerDeep, .data] true :=
  OpenClaim.laidByTextAt_later rfl rfl tie noOwnUnsafe
theorem nameRunesUpto_row_tie : Rows.nameRunesUptoRow.laidByTextAt .later Tryd.pinned [.widerDeep, .widerDeep, .widerDeep, .data] true :=
  OpenClaim.laidByTextAt_later rfl rfl tie noOwnUnsafe
theorem nameAppendsUpto_row_tie : Rows.nameAppendsUptoRow.laidByTextAt .later Tryd.pinned [.widerDeep, .widerDeep, .widerDeep, .data] true :=
  OpenClaim.laidByTextAt_later rfl rfl tie noOwnUnsafe
theorem namePreparesUpto_row_tie : Rows.namePreparesUptoRow.laidByTextAt .later Tryd.pinned [.widerDeep, .widerDeep, .widerDeep, .data] true :=
  OpenClaim.laidByTextAt_later rfl rfl tie noOwnUnsafe
theorem nameJoinsUpto_row_tie : Rows.nameJoinsUptoRow.laidByTextAt .later Tryd.pinned [.widerDeep, .widerDeep, .widerDeep, .data] true :=
  OpenClaim.laidByTextAt_later rfl rfl tie noOwnUnsafe
theorem nameSizesUpto_row_tie : Rows.nameSizesUptoRow.laidByTextAt .later Tryd.pinned [.widerDeep, .widerDeep, .widerDeep, .data] true :=
  OpenClaim.laidByTextAt_later rfl rfl tie noOwnUnsafe
theorem nameEscapesUpto_row_tie : Rows.nameEscapesUptoRow.laidByTextAt .later Tryd.pinned [.widerDeep, .widerDeep, .widerDeep, .data] true :=
  OpenClaim.laidByTextAt_later rfl rfl tie noOwnUnsafe
end Go.Proofs.YtdeenhhfafeanaaDoor
