/-
  DERIVED. GIVEN WITH THE SEED: THE PROGRAM's TIES (one call each: nine closed facts by the kernel) AND EACH ROW's TIE, after the 31st guide's Derived/Test/Toyas{Tie, Card}.lean. No idea stands in it: it is a product of the set-up. Laid BY PROGRAM, IN A SANDBOX (cutbox-door.mjs). By AI agents, Wed Nov 11 2026. No macro, syntax, notation, axiom, sorry.
-/
import Derived.Test.YtcklfboglnfepaaDoorRows
import Derived.LaidByTextLater
import Derived.SevenTiedAt
import Derived.LaidSub
import Derived.LaidOnce
namespace Go.Proofs.YtcklfboglnfepaaDoor
open Go
set_option maxRecDepth 100000
theorem seatTie1 : Tryd.prog.laidByTextLater [("math/bits.deBruijn32tab", Rows.laid_math_bits_deBruijn32tab), ("math/bits.deBruijn64tab", Rows.laid_math_bits_deBruijn64tab), ("internal/strconv.uint64pow10", Rows.laid_internal_strconv_uint64pow10), ("shoebox/figure.powers", Rows.laid_shoebox_figure_powers), ("shoebox/figure.slopes", Rows.laid_shoebox_figure_slopes), ("shoebox/figure.tenths", Rows.laid_shoebox_figure_tenths), ("shoebox/figure.decayKinds", Rows.laid_shoebox_figure_decayKinds)] [.data, .data, .data, .data, .data, .data, .data] true :=
  Program.laidByTextLater_by_one 47 8 65 (by kernel_rfl) (by kernel_rfl) (by kernel_rfl) (by kernel_rfl) (by kernel_rfl) (by kernel_rfl) (fun _ _ => by kernel_rfl)
theorem noOwnUnsafe : Tryd.pinned.checked.prog.headLifts.contains "ownunsafe" = false := by kernel_rfl
theorem tie : Tryd.prog.laidByTextLater [("math/bits.deBruijn32tab", Rows.laid_math_bits_deBruijn32tab), ("math/bits.deBruijn64tab", Rows.laid_math_bits_deBruijn64tab), ("internal/strconv.uint64pow10", Rows.laid_internal_strconv_uint64pow10), ("shoebox/figure.powers", Rows.laid_shoebox_figure_powers), ("shoebox/figure.slopes", Rows.laid_shoebox_figure_slopes), ("shoebox/figure.tenths", Rows.laid_shoebox_figure_tenths), ("shoebox/figure.decayKinds", Rows.laid_shoebox_figure_decayKinds)] [.data, .data, .data, .data, .data, .data, .data] true :=
  Program.laidByTextLater.sub seatTie1 ["math/bits.deBruijn32tab", "math/bits.deBruijn64tab", "internal/strconv.uint64pow10", "shoebox/figure.powers", "shoebox/figure.slopes", "shoebox/figure.tenths", "shoebox/figure.decayKinds"] (by kernel_rfl) (by kernel_rfl)
theorem figureLevels_row_tie : Rows.figureLevelsRow.laidByTextAt .later Tryd.pinned [.data, .data, .data, .data, .data, .data, .data] true :=
  OpenClaim.laidByTextAt_later rfl rfl tie noOwnUnsafe
theorem figureResponses_row_tie : Rows.figureResponsesRow.laidByTextAt .later Tryd.pinned [.data, .data, .data, .data, .data, .data, .data] true :=
  OpenClaim.laidByTextAt_later rfl rfl tie noOwnUnsafe
theorem figureWithin_row_tie : Rows.figureWithinRow.laidByTextAt .later Tryd.pinned [.data, .data, .data, .data, .data, .data, .data] true :=
  OpenClaim.laidByTextAt_later rfl rfl tie noOwnUnsafe
theorem figureScales_row_tie : Rows.figureScalesRow.laidByTextAt .later Tryd.pinned [.data, .data, .data, .data, .data, .data, .data] true :=
  OpenClaim.laidByTextAt_later rfl rfl tie noOwnUnsafe
theorem topLongerTail_row_tie : Rows.topLongerTailRow.laidByTextAt .later Tryd.pinned [.data, .data, .data, .data, .data, .data, .data] true :=
  OpenClaim.laidByTextAt_later rfl rfl tie noOwnUnsafe
theorem figureLevelsUpto_row_tie : Rows.figureLevelsUptoRow.laidByTextAt .later Tryd.pinned [.data, .data, .data, .data, .data, .data, .data] true :=
  OpenClaim.laidByTextAt_later rfl rfl tie noOwnUnsafe
theorem figureResponsesUpto_row_tie : Rows.figureResponsesUptoRow.laidByTextAt .later Tryd.pinned [.data, .data, .data, .data, .data, .data, .data] true :=
  OpenClaim.laidByTextAt_later rfl rfl tie noOwnUnsafe
theorem figureWithinUpto_row_tie : Rows.figureWithinUptoRow.laidByTextAt .later Tryd.pinned [.data, .data, .data, .data, .data, .data, .data] true :=
  OpenClaim.laidByTextAt_later rfl rfl tie noOwnUnsafe
theorem figureScalesUpto_row_tie : Rows.figureScalesUptoRow.laidByTextAt .later Tryd.pinned [.data, .data, .data, .data, .data, .data, .data] true :=
  OpenClaim.laidByTextAt_later rfl rfl tie noOwnUnsafe
theorem topLongerTailUpto_row_tie : Rows.topLongerTailUptoRow.laidByTextAt .later Tryd.pinned [.data, .data, .data, .data, .data, .data, .data] true :=
  OpenClaim.laidByTextAt_later rfl rfl tie noOwnUnsafe
end Go.Proofs.YtcklfboglnfepaaDoor
