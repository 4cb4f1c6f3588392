/-
  DERIVED. GIVEN WITH THE SEED: THE PROGRAM's TIES (one call each: nine closed facts by the kernel) AND EACH ROW's TIE, after the 31st guide's Derived/Test/Toyas{Tie, Card}.lean. No idea stands in it: it is a product of the set-up. Laid BY PROGRAM, IN A SANDBOX (cutbox-door.mjs). By AI agents, Wed Nov 11 2026. No macro, syntax, notation, axiom, sorry.
-/
import Derived.Test.YtlhpflilpdceiaaDoorRows
import Derived.LaidByTextLater
import Derived.SevenTiedAt
import Derived.LaidSub
import Derived.LaidOnce
namespace Go.Proofs.YtlhpflilpdceiaaDoor
open Go
set_option maxRecDepth 100000
theorem seatTie1 : Tryd.prog.laidByTextLater [("math/bits.deBruijn32tab", Rows.laid_math_bits_deBruijn32tab), ("math/bits.deBruijn64tab", Rows.laid_math_bits_deBruijn64tab), ("internal/strconv.uint64pow10", Rows.laid_internal_strconv_uint64pow10), ("patois/api.ErrLong", Rows.laid_patois_api_ErrLong), ("patois/api.ErrNest", Rows.laid_patois_api_ErrNest), ("patois/api.ErrQuote", Rows.laid_patois_api_ErrQuote), ("patois/api.ErrParen", Rows.laid_patois_api_ErrParen), ("patois/api.ErrBrace", Rows.laid_patois_api_ErrBrace), ("patois/api.ErrName", Rows.laid_patois_api_ErrName), ("patois/api.ErrToken", Rows.laid_patois_api_ErrToken), ("patois/api.ErrForm", Rows.laid_patois_api_ErrForm), ("patois/api.ErrEnd", Rows.laid_patois_api_ErrEnd), ("patois/api.ErrNode", Rows.laid_patois_api_ErrNode), ("patois/api.ErrMany", Rows.laid_patois_api_ErrMany), ("patois/api.ErrFuel", Rows.laid_patois_api_ErrFuel), ("patois/api.ErrDeep", Rows.laid_patois_api_ErrDeep), ("patois/api.ErrBig", Rows.laid_patois_api_ErrBig), ("patois/api.ErrSay", Rows.laid_patois_api_ErrSay), ("patois/api.ErrCode", Rows.laid_patois_api_ErrCode), ("patois/api.ErrNumber", Rows.laid_patois_api_ErrNumber)] [.data, .data, .data, .sentinel, .sentinel, .sentinel, .sentinel, .sentinel, .sentinel, .sentinel, .sentinel, .sentinel, .sentinel, .sentinel, .sentinel, .sentinel, .sentinel, .sentinel, .sentinel, .sentinel] true :=
  Program.laidByTextLater_by_one 347 8 65 (by kernel_rfl) (by kernel_rfl) (by kernel_rfl) (by kernel_rfl) (by kernel_rfl) (by kernel_rfl) (fun _ _ => by kernel_rfl)
theorem noOwnUnsafe : Tryd.pinned.checked.prog.headLifts.contains "ownunsafe" = false := by kernel_rfl
theorem tie : Tryd.prog.laidByTextLater [("patois/api.ErrLong", Rows.laid_patois_api_ErrLong), ("patois/api.ErrNest", Rows.laid_patois_api_ErrNest), ("patois/api.ErrQuote", Rows.laid_patois_api_ErrQuote), ("patois/api.ErrParen", Rows.laid_patois_api_ErrParen), ("patois/api.ErrBrace", Rows.laid_patois_api_ErrBrace), ("patois/api.ErrName", Rows.laid_patois_api_ErrName), ("patois/api.ErrToken", Rows.laid_patois_api_ErrToken), ("patois/api.ErrForm", Rows.laid_patois_api_ErrForm), ("patois/api.ErrEnd", Rows.laid_patois_api_ErrEnd), ("patois/api.ErrNode", Rows.laid_patois_api_ErrNode), ("patois/api.ErrMany", Rows.laid_patois_api_ErrMany), ("patois/api.ErrFuel", Rows.laid_patois_api_ErrFuel), ("patois/api.ErrDeep", Rows.laid_patois_api_ErrDeep), ("patois/api.ErrBig", Rows.laid_patois_api_ErrBig), ("patois/api.ErrSay", Rows.laid_patois_api_ErrSay), ("patois/api.ErrCode", Rows.laid_patois_api_ErrCode), ("patois/api.ErrNumber", Rows.laid_patois_api_ErrNumber)] [.sentinel, .sentinel, .sentinel, .sentinel, .sentinel, .sentinel, .sentinel, .sentinel, .sentinel, .sentinel, .sentinel, .sentinel, .sentinel, .sentinel, .sentinel, .sentinel, .sentinel] true :=
  Program.laidByTextLater.sub seatTie1 ["patois/api.ErrLong", "patois/api.ErrNest", "patois/api.ErrQuote", "patois/api.ErrParen", "patois/api.ErrBrace", "patois/api.ErrName", "patois/api.ErrToken", "patois/api.ErrForm", "patois/api.ErrEnd", "patois/api.ErrNode", "patois/api.ErrMany", "patois/api.ErrFuel", "patois/api.ErrDeep", "patois/api.ErrBig", "patois/api.ErrSay", "patois/api.ErrCode", "patois/api.ErrNumber"] (by kernel_rfl) (by kernel_rfl)
theorem cscanQuotes_row_tie : Rows.cscanQuotesRow.laidByTextAt .later Tryd.pinned [.sentinel, .sentinel, .sentinel, .sentinel, .sentinel, .sentinel, .sentinel, .sentinel, .sentinel, .sentinel, .sentinel, .sentinel, .sentinel, .sentinel, .sentinel, .sentinel, .sentinel] true :=
  OpenClaim.laidByTextAt_later rfl rfl tie noOwnUnsafe
theorem cscanParts_row_tie : Rows.cscanPartsRow.laidByTextAt .later Tryd.pinned [.sentinel, .sentinel, .sentinel, .sentinel, .sentinel, .sentinel, .sentinel, .sentinel, .sentinel, .sentinel, .sentinel, .sentinel, .sentinel, .sentinel, .sentinel, .sentinel, .sentinel] true :=
  OpenClaim.laidByTextAt_later rfl rfl tie noOwnUnsafe
theorem cscanBraces_row_tie : Rows.cscanBracesRow.laidByTextAt .later Tryd.pinned [.sentinel, .sentinel, .sentinel, .sentinel, .sentinel, .sentinel, .sentinel, .sentinel, .sentinel, .sentinel, .sentinel, .sentinel, .sentinel, .sentinel, .sentinel, .sentinel, .sentinel] true :=
  OpenClaim.laidByTextAt_later rfl rfl tie noOwnUnsafe
theorem tie2 : Tryd.prog.laidByTextLater [("math/bits.deBruijn32tab", Rows.laid_math_bits_deBruijn32tab), ("math/bits.deBruijn64tab", Rows.laid_math_bits_deBruijn64tab), ("internal/strconv.uint64pow10", Rows.laid_internal_strconv_uint64pow10)] [.data, .data, .data] true :=
  Program.laidByTextLater.sub seatTie1 ["math/bits.deBruijn32tab", "math/bits.deBruijn64tab", "internal/strconv.uint64pow10"] (by kernel_rfl) (by kernel_rfl)
theorem builtinReads_row_tie : Rows.builtinReadsRow.laidByTextAt .later Tryd.pinned [.data, .data, .data] true :=
  OpenClaim.laidByTextAt_later rfl rfl tie2 noOwnUnsafe
theorem builtinCounts_row_tie : Rows.builtinCountsRow.laidByTextAt .later Tryd.pinned [.data, .data, .data] true :=
  OpenClaim.laidByTextAt_later rfl rfl tie2 noOwnUnsafe
theorem builtinSays_row_tie : Rows.builtinSaysRow.laidByTextAt .later Tryd.pinned [.data, .data, .data] true :=
  OpenClaim.laidByTextAt_later rfl rfl tie2 noOwnUnsafe
theorem builtinTests_row_tie : Rows.builtinTestsRow.laidByTextAt .later Tryd.pinned [.data, .data, .data] true :=
  OpenClaim.laidByTextAt_later rfl rfl tie2 noOwnUnsafe
theorem cscanQuotesUpto_row_tie : Rows.cscanQuotesUptoRow.laidByTextAt .later Tryd.pinned [.sentinel, .sentinel, .sentinel, .sentinel, .sentinel, .sentinel, .sentinel, .sentinel, .sentinel, .sentinel, .sentinel, .sentinel, .sentinel, .sentinel, .sentinel, .sentinel, .sentinel] true :=
  OpenClaim.laidByTextAt_later rfl rfl tie noOwnUnsafe
theorem cscanPartsUpto_row_tie : Rows.cscanPartsUptoRow.laidByTextAt .later Tryd.pinned [.sentinel, .sentinel, .sentinel, .sentinel, .sentinel, .sentinel, .sentinel, .sentinel, .sentinel, .sentinel, .sentinel, .sentinel, .sentinel, .sentinel, .sentinel, .sentinel, .sentinel] true :=
  OpenClaim.laidByTextAt_later rfl rfl tie noOwnUnsafe
theorem cscanBracesUpto_row_tie : Rows.cscanBracesUptoRow.laidByTextAt .later Tryd.pinned [.sentinel, .sentinel, .sentinel, .sentinel, .sentinel, .sentinel, .sentinel, .sentinel, .sentinel, .sentinel, .sentinel, .sentinel, .sentinel, .sentinel, .sentinel, .sentinel, .sentinel] true :=
  OpenClaim.laidByTextAt_later rfl rfl tie noOwnUnsafe
theorem builtinReadsUpto_row_tie : Rows.builtinReadsUptoRow.laidByTextAt .later Tryd.pinned [.data, .data, .data] true :=
  OpenClaim.laidByTextAt_later rfl rfl tie2 noOwnUnsafe
theorem builtinCountsUpto_row_tie : Rows.builtinCountsUptoRow.laidByTextAt .later Tryd.pinned [.data, .data, .data] true :=
  OpenClaim.laidByTextAt_later rfl rfl tie2 noOwnUnsafe
theorem builtinSaysUpto_row_tie : Rows.builtinSaysUptoRow.laidByTextAt .later Tryd.pinned [.data, .data, .data] true :=
  OpenClaim.laidByTextAt_later rfl rfl tie2 noOwnUnsafe
theorem builtinTestsUpto_row_tie : Rows.builtinTestsUptoRow.laidByTextAt .later Tryd.pinned [.data, .data, .data] true :=
  OpenClaim.laidByTextAt_later rfl rfl tie2 noOwnUnsafe
end Go.Proofs.YtlhpflilpdceiaaDoor
