/-
  NARROWER THAN 'FOR EVERY INPUT', by the rows' own cells (each row's printed sentence says how): CscanQuotes: laid · CscanParts: laid · CscanBraces: laid · BuiltinReads: laid · BuiltinCounts: laid · BuiltinSays: laid · BuiltinTests: laid.
  DERIVED. THE GIVEN ROWS OF THIS SEAT. 7 by the template 'for every input the law returns true; each argument reads behind the call as it read before'; 0 by the template 'total and deterministic' (their statements: YtlhpflilpdceiaaDoorTotals.lean).
  GIVEN WITH THE SEED: the statements are not yours to turn. If you find one false, say at which input.
  Laid BY PROGRAM, IN A SANDBOX (cutbox-rows.mjs): the forced cells as the released guide's own fill.sh prints them over the translation ec9102dc738a422b… (all of the seat's roots in one cut). By AI agents, Wed Nov 11 2026. No macro, syntax, notation, axiom, sorry.
-/
import Derived.Test.YtlhpflilpdceiaaDoorChecked
import GoSem.Claim
import GoSem.ClaimJoined
import GoSem.ClaimMapViews
import Derived.JoinedTies
import Derived.KernelRfl
namespace Go.Proofs.YtlhpflilpdceiaaDoor
/- THE CELL 'sum', in the pinned program and in every row, IS THE sha256 OF THE DUMP (.gsa) THAT YtlhpflilpdceiaaDoorProg.lean LOADS. Nothing in Lean hashes anything: it is a label: what it is worth is what the hold of that sum in a sandbox is worth. -/
noncomputable def Tryd.pinned : Pinned := { name := "ytlhpflilpdceiaadoor", sum := "ec9102dc738a422bb2b42d16ea9f5a8946fd6cf9d792b14ebeff94075973f22f", checked := Tryd.checked }
namespace Rows
def none {H : Type} : Left H := { results := [], args := [] }

/- WHAT THE LISTED PACKAGE-LEVEL VARIABLES READ AS WHEN THE CALL BEGINS. Each datum BY PROGRAM (the guide's laid-datum.mjs) off the statement by which the dump's own 'gosem.cut.vars' lays the variable. In a bare row this is a premise. The card (YtlhpflilpdceiaaDoorCards.lean) ties it to the program's text. -/
def laid_patois_api_ErrLong {H : Type} : DataW H := .iface "*errors.errorString" (.ptr (.agg [.lit (.string [116, 111, 111, 32, 108, 111, 110, 103])]))
def laid_patois_api_ErrNest {H : Type} : DataW H := .iface "*errors.errorString" (.ptr (.agg [.lit (.string [110, 101, 115, 116, 101, 100, 32, 116, 111, 111, 32, 100, 101, 101, 112])]))
def laid_patois_api_ErrQuote {H : Type} : DataW H := .iface "*errors.errorString" (.ptr (.agg [.lit (.string [97, 32, 113, 117, 111, 116, 101, 32, 116, 104, 97, 116, 32, 100, 111, 101, 115, 32, 110, 111, 116, 32, 101, 110, 100])]))
def laid_patois_api_ErrParen {H : Type} : DataW H := .iface "*errors.errorString" (.ptr (.agg [.lit (.string [97, 32, 98, 114, 97, 99, 107, 101, 116, 32, 116, 104, 97, 116, 32, 100, 111, 101, 115, 32, 110, 111, 116, 32, 101, 110, 100])]))
def laid_patois_api_ErrBrace {H : Type} : DataW H := .iface "*errors.errorString" (.ptr (.agg [.lit (.string [97, 32, 98, 114, 97, 99, 101, 32, 116, 104, 97, 116, 32, 100, 111, 101, 115, 32, 110, 111, 116, 32, 101, 110, 100])]))
def laid_patois_api_ErrName {H : Type} : DataW H := .iface "*errors.errorString" (.ptr (.agg [.lit (.string [110, 111, 32, 110, 97, 109, 101])]))
def laid_patois_api_ErrToken {H : Type} : DataW H := .iface "*errors.errorString" (.ptr (.agg [.lit (.string [110, 111, 32, 116, 111, 107, 101, 110])]))
def laid_patois_api_ErrForm {H : Type} : DataW H := .iface "*errors.errorString" (.ptr (.agg [.lit (.string [105, 116, 32, 100, 111, 101, 115, 32, 110, 111, 116, 32, 115, 116, 97, 110, 100, 32, 104, 101, 114, 101])]))
def laid_patois_api_ErrEnd {H : Type} : DataW H := .iface "*errors.errorString" (.ptr (.agg [.lit (.string [105, 116, 32, 101, 110, 100, 115, 32, 116, 111, 111, 32, 101, 97, 114, 108, 121])]))
def laid_patois_api_ErrNode {H : Type} : DataW H := .iface "*errors.errorString" (.ptr (.agg [.lit (.string [110, 111, 32, 112, 114, 111, 103, 114, 97, 109])]))
def laid_patois_api_ErrMany {H : Type} : DataW H := .iface "*errors.errorString" (.ptr (.agg [.lit (.string [116, 111, 111, 32, 109, 97, 110, 121])]))
def laid_patois_api_ErrFuel {H : Type} : DataW H := .iface "*errors.errorString" (.ptr (.agg [.lit (.string [116, 111, 111, 32, 109, 97, 110, 121, 32, 115, 116, 101, 112, 115])]))
def laid_patois_api_ErrDeep {H : Type} : DataW H := .iface "*errors.errorString" (.ptr (.agg [.lit (.string [99, 97, 108, 108, 101, 100, 32, 116, 111, 111, 32, 100, 101, 101, 112])]))
def laid_patois_api_ErrBig {H : Type} : DataW H := .iface "*errors.errorString" (.ptr (.agg [.lit (.string [116, 111, 111, 32, 98, 105, 103])]))
def laid_patois_api_ErrSay {H : Type} : DataW H := .iface "*errors.errorString" (.ptr (.agg [.lit (.string [105, 116, 32, 99, 97, 110, 110, 111, 116, 32, 98, 101, 32, 115, 97, 105, 100])]))
def laid_patois_api_ErrCode {H : Type} : DataW H := .iface "*errors.errorString" (.ptr (.agg [.lit (.string [110, 111, 32, 99, 111, 100, 101])]))
def laid_patois_api_ErrNumber {H : Type} : DataW H := .iface "*errors.errorString" (.ptr (.agg [.lit (.string [110, 111, 32, 115, 117, 99, 104, 32, 110, 117, 109, 98, 101, 114])]))
def laid_math_bits_deBruijn32tab {H : Type} : DataW H := .agg [.lit (.int .u8 0), .lit (.int .u8 1), .lit (.int .u8 28), .lit (.int .u8 2), .lit (.int .u8 29), .lit (.int .u8 14), .lit (.int .u8 24), .lit (.int .u8 3), .lit (.int .u8 30), .lit (.int .u8 22), .lit (.int .u8 20), .lit (.int .u8 15), .lit (.int .u8 25), .lit (.int .u8 17), .lit (.int .u8 4), .lit (.int .u8 8), .lit (.int .u8 31), .lit (.int .u8 27), .lit (.int .u8 13), .lit (.int .u8 23), .lit (.int .u8 21), .lit (.int .u8 19), .lit (.int .u8 16), .lit (.int .u8 7), .lit (.int .u8 26), .lit (.int .u8 12), .lit (.int .u8 18), .lit (.int .u8 6), .lit (.int .u8 11), .lit (.int .u8 5), .lit (.int .u8 10), .lit (.int .u8 9)]
def laid_math_bits_deBruijn64tab {H : Type} : DataW H := .agg [.lit (.int .u8 0), .lit (.int .u8 1), .lit (.int .u8 56), .lit (.int .u8 2), .lit (.int .u8 57), .lit (.int .u8 49), .lit (.int .u8 28), .lit (.int .u8 3), .lit (.int .u8 61), .lit (.int .u8 58), .lit (.int .u8 42), .lit (.int .u8 50), .lit (.int .u8 38), .lit (.int .u8 29), .lit (.int .u8 17), .lit (.int .u8 4), .lit (.int .u8 62), .lit (.int .u8 47), .lit (.int .u8 59), .lit (.int .u8 36), .lit (.int .u8 45), .lit (.int .u8 43), .lit (.int .u8 51), .lit (.int .u8 22), .lit (.int .u8 53), .lit (.int .u8 39), .lit (.int .u8 33), .lit (.int .u8 30), .lit (.int .u8 24), .lit (.int .u8 18), .lit (.int .u8 12), .lit (.int .u8 5), .lit (.int .u8 63), .lit (.int .u8 55), .lit (.int .u8 48), .lit (.int .u8 27), .lit (.int .u8 60), .lit (.int .u8 41), .lit (.int .u8 37), .lit (.int .u8 16), .lit (.int .u8 46), .lit (.int .u8 35), .lit (.int .u8 44), .lit (.int .u8 21), .lit (.int .u8 52), .lit (.int .u8 32), .lit (.int .u8 23), .lit (.int .u8 11), .lit (.int .u8 54), .lit (.int .u8 26), .lit (.int .u8 40), .lit (.int .u8 15), .lit (.int .u8 34), .lit (.int .u8 20), .lit (.int .u8 31), .lit (.int .u8 10), .lit (.int .u8 25), .lit (.int .u8 14), .lit (.int .u8 19), .lit (.int .u8 9), .lit (.int .u8 13), .lit (.int .u8 8), .lit (.int .u8 7), .lit (.int .u8 6)]
def laid_internal_strconv_uint64pow10 {H : Type} : DataW H := .agg [.lit (.int .u64 1), .lit (.int .u64 10), .lit (.int .u64 100), .lit (.int .u64 1000), .lit (.int .u64 10000), .lit (.int .u64 100000), .lit (.int .u64 1000000), .lit (.int .u64 10000000), .lit (.int .u64 100000000), .lit (.int .u64 1000000000), .lit (.int .u64 10000000000), .lit (.int .u64 100000000000), .lit (.int .u64 1000000000000), .lit (.int .u64 10000000000000), .lit (.int .u64 100000000000000), .lit (.int .u64 1000000000000000), .lit (.int .u64 10000000000000000), .lit (.int .u64 100000000000000000), .lit (.int .u64 1000000000000000000), .lit (.int .u64 10000000000000000000)]

/-- 'patoislaw14.CscanQuotes': WHATEVER THE INPUT: true; the input reads as it did. -/
def cscanQuotesSpec : ChangeSpec := { name := "cscanQuotes", fn := fun _ => fun
  | [d1, d2] => { results := [.lit (.bool true)], args := [d1, d2] }
  | _ => none }
def cscanQuotesRow : OpenClaim := { program := "ytlhpflilpdceiaadoor", sum := "ec9102dc738a422bb2b42d16ea9f5a8946fd6cf9d792b14ebeff94075973f22f", func := "patois/patoislaw14.CscanQuotes", spec := "cscanQuotes", inPlace := ["internal/bytealg.IndexByteString", "internal/abi.NoEscape"], unfollowed := true, recurses := true, named := ["patois/api.ErrLong", "patois/api.ErrBrace", "patois/api.ErrToken", "patois/api.ErrQuote", "patois/api.ErrParen", "patois/api.ErrName", "patois/api.ErrNest", "patois/api.ErrForm", "patois/api.ErrEnd", "patois/api.ErrNode", "patois/api.ErrMany", "patois/api.ErrFuel", "patois/api.ErrDeep", "patois/api.ErrBig", "patois/api.ErrSay", "patois/api.ErrCode", "patois/api.ErrNumber"], apart := false, laid := [("patois/api.ErrLong", laid_patois_api_ErrLong), ("patois/api.ErrNest", laid_patois_api_ErrNest), ("patois/api.ErrQuote", laid_patois_api_ErrQuote), ("patois/api.ErrParen", laid_patois_api_ErrParen), ("patois/api.ErrBrace", laid_patois_api_ErrBrace), ("patois/api.ErrName", laid_patois_api_ErrName), ("patois/api.ErrToken", laid_patois_api_ErrToken), ("patois/api.ErrForm", laid_patois_api_ErrForm), ("patois/api.ErrEnd", laid_patois_api_ErrEnd), ("patois/api.ErrNode", laid_patois_api_ErrNode), ("patois/api.ErrMany", laid_patois_api_ErrMany), ("patois/api.ErrFuel", laid_patois_api_ErrFuel), ("patois/api.ErrDeep", laid_patois_api_ErrDeep), ("patois/api.ErrBig", laid_patois_api_ErrBig), ("patois/api.ErrSay", laid_patois_api_ErrSay), ("patois/api.ErrCode", laid_patois_api_ErrCode), ("patois/api.ErrNumber", laid_patois_api_ErrNumber)] }
def CscanQuotesSaid : Prop := cscanQuotesRow.holds Tryd.pinned (OpenSpec.ofChange cscanQuotesSpec)

/-- ITS FALSE NEIGHBOUR: 'it returns false'. Refute it at one input. -/
def cscanQuotesWrong : ChangeSpec := { name := "cscanQuotes", fn := fun _ => fun
  | [d1, d2] => { results := [.lit (.bool false)], args := [d1, d2] }
  | _ => none }
def CscanQuotesWrongFalsely : Prop := cscanQuotesRow.holds Tryd.pinned (OpenSpec.ofChange cscanQuotesWrong)

/-- 'patoislaw14.CscanParts': WHATEVER THE INPUT: true; the input reads as it did. -/
def cscanPartsSpec : ChangeSpec := { name := "cscanParts", fn := fun _ => fun
  | [d1, d2, d3] => { results := [.lit (.bool true)], args := [d1, d2, d3] }
  | _ => none }
def cscanPartsRow : OpenClaim := { program := "ytlhpflilpdceiaadoor", sum := "ec9102dc738a422bb2b42d16ea9f5a8946fd6cf9d792b14ebeff94075973f22f", func := "patois/patoislaw14.CscanParts", spec := "cscanParts", inPlace := ["internal/bytealg.IndexByteString", "internal/abi.NoEscape"], unfollowed := true, recurses := true, named := ["patois/api.ErrLong", "patois/api.ErrBrace", "patois/api.ErrToken", "patois/api.ErrQuote", "patois/api.ErrParen", "patois/api.ErrName", "patois/api.ErrNest", "patois/api.ErrForm", "patois/api.ErrEnd", "patois/api.ErrNode", "patois/api.ErrMany", "patois/api.ErrFuel", "patois/api.ErrDeep", "patois/api.ErrBig", "patois/api.ErrSay", "patois/api.ErrCode", "patois/api.ErrNumber"], apart := false, laid := [("patois/api.ErrLong", laid_patois_api_ErrLong), ("patois/api.ErrNest", laid_patois_api_ErrNest), ("patois/api.ErrQuote", laid_patois_api_ErrQuote), ("patois/api.ErrParen", laid_patois_api_ErrParen), ("patois/api.ErrBrace", laid_patois_api_ErrBrace), ("patois/api.ErrName", laid_patois_api_ErrName), ("patois/api.ErrToken", laid_patois_api_ErrToken), ("patois/api.ErrForm", laid_patois_api_ErrForm), ("patois/api.ErrEnd", laid_patois_api_ErrEnd), ("patois/api.ErrNode", laid_patois_api_ErrNode), ("patois/api.ErrMany", laid_patois_api_ErrMany), ("patois/api.ErrFuel", laid_patois_api_ErrFuel), ("patois/api.ErrDeep", laid_patois_api_ErrDeep), ("patois/api.ErrBig", laid_patois_api_ErrBig), ("patois/api.ErrSay", laid_patois_api_ErrSay), ("patois/api.ErrCode", laid_patois_api_ErrCode), ("patois/api.ErrNumber", laid_patois_api_ErrNumber)] }
def CscanPartsSaid : Prop := cscanPartsRow.holds Tryd.pinned (OpenSpec.ofChange cscanPartsSpec)

/-- ITS FALSE NEIGHBOUR: 'it returns false'. Refute it at one input. -/
def cscanPartsWrong : ChangeSpec := { name := "cscanParts", fn := fun _ => fun
  | [d1, d2, d3] => { results := [.lit (.bool false)], args := [d1, d2, d3] }
  | _ => none }
def CscanPartsWrongFalsely : Prop := cscanPartsRow.holds Tryd.pinned (OpenSpec.ofChange cscanPartsWrong)

/-- 'patoislaw14.CscanBraces': WHATEVER THE INPUT: true; the input reads as it did. -/
def cscanBracesSpec : ChangeSpec := { name := "cscanBraces", fn := fun _ => fun
  | [d1, d2] => { results := [.lit (.bool true)], args := [d1, d2] }
  | _ => none }
def cscanBracesRow : OpenClaim := { program := "ytlhpflilpdceiaadoor", sum := "ec9102dc738a422bb2b42d16ea9f5a8946fd6cf9d792b14ebeff94075973f22f", func := "patois/patoislaw14.CscanBraces", spec := "cscanBraces", inPlace := ["internal/bytealg.IndexByteString", "internal/abi.NoEscape"], unfollowed := true, recurses := true, named := ["patois/api.ErrLong", "patois/api.ErrBrace", "patois/api.ErrToken", "patois/api.ErrQuote", "patois/api.ErrParen", "patois/api.ErrName", "patois/api.ErrNest", "patois/api.ErrForm", "patois/api.ErrEnd", "patois/api.ErrNode", "patois/api.ErrMany", "patois/api.ErrFuel", "patois/api.ErrDeep", "patois/api.ErrBig", "patois/api.ErrSay", "patois/api.ErrCode", "patois/api.ErrNumber"], apart := false, laid := [("patois/api.ErrLong", laid_patois_api_ErrLong), ("patois/api.ErrNest", laid_patois_api_ErrNest), ("patois/api.ErrQuote", laid_patois_api_ErrQuote), ("patois/api.ErrParen", laid_patois_api_ErrParen), ("patois/api.ErrBrace", laid_patois_api_ErrBrace), ("patois/api.ErrName", laid_patois_api_ErrName), ("patois/api.ErrToken", laid_patois_api_ErrToken), ("patois/api.ErrForm", laid_patois_api_ErrForm), ("patois/api.ErrEnd", laid_patois_api_ErrEnd), ("patois/api.ErrNode", laid_patois_api_ErrNode), ("patois/api.ErrMany", laid_patois_api_ErrMany), ("patois/api.ErrFuel", laid_patois_api_ErrFuel), ("patois/api.ErrDeep", laid_patois_api_ErrDeep), ("patois/api.ErrBig", laid_patois_api_ErrBig), ("patois/api.ErrSay", laid_patois_api_ErrSay), ("patois/api.ErrCode", laid_patois_api_ErrCode), ("patois/api.ErrNumber", laid_patois_api_ErrNumber)] }
def CscanBracesSaid : Prop := cscanBracesRow.holds Tryd.pinned (OpenSpec.ofChange cscanBracesSpec)

/-- ITS FALSE NEIGHBOUR: 'it returns false'. Refute it at one input. -/
def cscanBracesWrong : ChangeSpec := { name := "cscanBraces", fn := fun _ => fun
  | [d1, d2] => { results := [.lit (.bool false)], args := [d1, d2] }
  | _ => none }
def CscanBracesWrongFalsely : Prop := cscanBracesRow.holds Tryd.pinned (OpenSpec.ofChange cscanBracesWrong)

/-- 'patoislaw8.BuiltinReads': WHATEVER THE INPUT: true; the input reads as it did. -/
def builtinReadsSpec : ChangeSpec := { name := "builtinReads", fn := fun _ => fun
  | [d] => { results := [.lit (.bool true)], args := [d] }
  | _ => none }
def builtinReadsRow : OpenClaim := { program := "ytlhpflilpdceiaadoor", sum := "ec9102dc738a422bb2b42d16ea9f5a8946fd6cf9d792b14ebeff94075973f22f", func := "patois/patoislaw8.BuiltinReads", spec := "builtinReads", inPlace := ["internal/abi.NoEscape", "internal/bytealg.MakeNoZero", "internal/bytealg.IndexByteString", "internal/bytealg.IndexString"], unfollowed := true, recurses := true, named := ["internal/strconv.uint64pow10", "math/bits.deBruijn32tab", "math/bits.deBruijn64tab", "internal/bytealg.MaxLen"], apart := false, laid := [("math/bits.deBruijn32tab", laid_math_bits_deBruijn32tab), ("math/bits.deBruijn64tab", laid_math_bits_deBruijn64tab), ("internal/strconv.uint64pow10", laid_internal_strconv_uint64pow10)] }
def BuiltinReadsSaid : Prop := builtinReadsRow.holds Tryd.pinned (OpenSpec.ofChange builtinReadsSpec)

/-- ITS FALSE NEIGHBOUR: 'it returns false'. Refute it at one input. -/
def builtinReadsWrong : ChangeSpec := { name := "builtinReads", fn := fun _ => fun
  | [d] => { results := [.lit (.bool false)], args := [d] }
  | _ => none }
def BuiltinReadsWrongFalsely : Prop := builtinReadsRow.holds Tryd.pinned (OpenSpec.ofChange builtinReadsWrong)

/-- 'patoislaw8.BuiltinCounts': WHATEVER THE INPUT: true; the input reads as it did. -/
def builtinCountsSpec : ChangeSpec := { name := "builtinCounts", fn := fun _ => fun
  | [d1, d2] => { results := [.lit (.bool true)], args := [d1, d2] }
  | _ => none }
def builtinCountsRow : OpenClaim := { program := "ytlhpflilpdceiaadoor", sum := "ec9102dc738a422bb2b42d16ea9f5a8946fd6cf9d792b14ebeff94075973f22f", func := "patois/patoislaw8.BuiltinCounts", spec := "builtinCounts", inPlace := ["internal/abi.NoEscape", "internal/bytealg.MakeNoZero", "internal/bytealg.IndexByteString", "internal/bytealg.IndexString"], unfollowed := true, recurses := true, named := ["internal/strconv.uint64pow10", "math/bits.deBruijn32tab", "math/bits.deBruijn64tab", "internal/bytealg.MaxLen"], apart := false, laid := [("math/bits.deBruijn32tab", laid_math_bits_deBruijn32tab), ("math/bits.deBruijn64tab", laid_math_bits_deBruijn64tab), ("internal/strconv.uint64pow10", laid_internal_strconv_uint64pow10)] }
def BuiltinCountsSaid : Prop := builtinCountsRow.holds Tryd.pinned (OpenSpec.ofChange builtinCountsSpec)

/-- ITS FALSE NEIGHBOUR: 'it returns false'. Refute it at one input. -/
def builtinCountsWrong : ChangeSpec := { name := "builtinCounts", fn := fun _ => fun
  | [d1, d2] => { results := [.lit (.bool false)], args := [d1, d2] }
  | _ => none }
def BuiltinCountsWrongFalsely : Prop := builtinCountsRow.holds Tryd.pinned (OpenSpec.ofChange builtinCountsWrong)

/-- 'patoislaw8.BuiltinSays': WHATEVER THE INPUT: true; the input reads as it did. -/
def builtinSaysSpec : ChangeSpec := { name := "builtinSays", fn := fun _ => fun
  | [d1, d2] => { results := [.lit (.bool true)], args := [d1, d2] }
  | _ => none }
def builtinSaysRow : OpenClaim := { program := "ytlhpflilpdceiaadoor", sum := "ec9102dc738a422bb2b42d16ea9f5a8946fd6cf9d792b14ebeff94075973f22f", func := "patois/patoislaw8.BuiltinSays", spec := "builtinSays", inPlace := ["internal/abi.NoEscape", "internal/bytealg.MakeNoZero", "internal/bytealg.IndexByteString", "internal/bytealg.IndexString"], unfollowed := true, recurses := true, named := ["internal/strconv.uint64pow10", "math/bits.deBruijn32tab", "math/bits.deBruijn64tab", "internal/bytealg.MaxLen"], apart := false, laid := [("math/bits.deBruijn32tab", laid_math_bits_deBruijn32tab), ("math/bits.deBruijn64tab", laid_math_bits_deBruijn64tab), ("internal/strconv.uint64pow10", laid_internal_strconv_uint64pow10)] }
def BuiltinSaysSaid : Prop := builtinSaysRow.holds Tryd.pinned (OpenSpec.ofChange builtinSaysSpec)

/-- ITS FALSE NEIGHBOUR: 'it returns false'. Refute it at one input. -/
def builtinSaysWrong : ChangeSpec := { name := "builtinSays", fn := fun _ => fun
  | [d1, d2] => { results := [.lit (.bool false)], args := [d1, d2] }
  | _ => none }
def BuiltinSaysWrongFalsely : Prop := builtinSaysRow.holds Tryd.pinned (OpenSpec.ofChange builtinSaysWrong)

/-- 'patoislaw8.BuiltinTests': WHATEVER THE INPUT: true; the input reads as it did. -/
def builtinTestsSpec : ChangeSpec := { name := "builtinTests", fn := fun _ => fun
  | [d] => { results := [.lit (.bool true)], args := [d] }
  | _ => none }
def builtinTestsRow : OpenClaim := { program := "ytlhpflilpdceiaadoor", sum := "ec9102dc738a422bb2b42d16ea9f5a8946fd6cf9d792b14ebeff94075973f22f", func := "patois/patoislaw8.BuiltinTests", spec := "builtinTests", inPlace := ["internal/abi.NoEscape", "internal/bytealg.MakeNoZero", "internal/bytealg.IndexByteString", "internal/bytealg.IndexString"], unfollowed := true, recurses := true, named := ["internal/strconv.uint64pow10", "math/bits.deBruijn32tab", "math/bits.deBruijn64tab", "internal/bytealg.MaxLen"], apart := false, laid := [("math/bits.deBruijn32tab", laid_math_bits_deBruijn32tab), ("math/bits.deBruijn64tab", laid_math_bits_deBruijn64tab), ("internal/strconv.uint64pow10", laid_internal_strconv_uint64pow10)] }
def BuiltinTestsSaid : Prop := builtinTestsRow.holds Tryd.pinned (OpenSpec.ofChange builtinTestsSpec)

/-- ITS FALSE NEIGHBOUR: 'it returns false'. Refute it at one input. -/
def builtinTestsWrong : ChangeSpec := { name := "builtinTests", fn := fun _ => fun
  | [d] => { results := [.lit (.bool false)], args := [d] }
  | _ => none }
def BuiltinTestsWrongFalsely : Prop := builtinTestsRow.holds Tryd.pinned (OpenSpec.ofChange builtinTestsWrong)

/- THE SECOND FORM. 'bulk': how many values and letters a reading holds, each counted each time it is reached (what is shared counts as often as it is met; a slice's spare places count too). A statement '..UptoSaid' is the law's where the arguments, and the package variables that the reading takes, are together of bulk at most 1048576: NARROWER than '..Said'. Prove '..Said' where nothing that the law and all that it calls make is longer than what came in: it says more and counts as full. Else prove '..UptoSaid'. A law counts once. -/
mutual
def uptoBulk {H : Type} : DataW H → Nat
  | .lit (.string bytes) => bytes.length + 1
  | .lit _ => 1
  | .nil => 1
  | .ptr d => uptoBulk d + 1
  | .slice elems spare => uptoBulkAll elems + uptoBulkAll spare + 1
  | .agg parts => uptoBulkAll parts + 1
  | .iface _ d => uptoBulk d + 1
  | .map entries => uptoBulkEntries entries + 1
  | .held _ => 1
def uptoBulkAll {H : Type} : List (DataW H) → Nat
  | [] => 0
  | d :: r => uptoBulk d + uptoBulkAll r
def uptoBulkEntries {H : Type} : List (Lit × DataW H) → Nat
  | [] => 0
  | x :: r => uptoBulkEntry x + uptoBulkEntries r
def uptoBulkEntry {H : Type} : Lit × DataW H → Nat
  | (.string bytes, d) => bytes.length + uptoBulk d + 1
  | (_, d) => uptoBulk d + 1
 end
def uptoSmall : (H : Type) → List (DataW H) → Bool := fun _ ds => decide (uptoBulkAll ds ≤ 1048576)
def OpenSpec.upto (s : _root_.Go.ChangeSpec) : _root_.Go.OpenSpec := { _root_.Go.OpenSpec.ofChange s with cond := some uptoSmall }

/-- 'patoislaw14.CscanQuotes', WHERE WHAT IT READS IS OF BULK AT MOST 1048576: true; the input reads as it did. -/
def cscanQuotesUptoRow : OpenClaim := { program := "ytlhpflilpdceiaadoor", sum := "ec9102dc738a422bb2b42d16ea9f5a8946fd6cf9d792b14ebeff94075973f22f", func := "patois/patoislaw14.CscanQuotes", spec := "cscanQuotes", inPlace := ["internal/bytealg.IndexByteString", "internal/abi.NoEscape"], unfollowed := true, recurses := true, named := ["patois/api.ErrLong", "patois/api.ErrBrace", "patois/api.ErrToken", "patois/api.ErrQuote", "patois/api.ErrParen", "patois/api.ErrName", "patois/api.ErrNest", "patois/api.ErrForm", "patois/api.ErrEnd", "patois/api.ErrNode", "patois/api.ErrMany", "patois/api.ErrFuel", "patois/api.ErrDeep", "patois/api.ErrBig", "patois/api.ErrSay", "patois/api.ErrCode", "patois/api.ErrNumber"], apart := false, laid := [("patois/api.ErrLong", laid_patois_api_ErrLong), ("patois/api.ErrNest", laid_patois_api_ErrNest), ("patois/api.ErrQuote", laid_patois_api_ErrQuote), ("patois/api.ErrParen", laid_patois_api_ErrParen), ("patois/api.ErrBrace", laid_patois_api_ErrBrace), ("patois/api.ErrName", laid_patois_api_ErrName), ("patois/api.ErrToken", laid_patois_api_ErrToken), ("patois/api.ErrForm", laid_patois_api_ErrForm), ("patois/api.ErrEnd", laid_patois_api_ErrEnd), ("patois/api.ErrNode", laid_patois_api_ErrNode), ("patois/api.ErrMany", laid_patois_api_ErrMany), ("patois/api.ErrFuel", laid_patois_api_ErrFuel), ("patois/api.ErrDeep", laid_patois_api_ErrDeep), ("patois/api.ErrBig", laid_patois_api_ErrBig), ("patois/api.ErrSay", laid_patois_api_ErrSay), ("patois/api.ErrCode", laid_patois_api_ErrCode), ("patois/api.ErrNumber", laid_patois_api_ErrNumber)], narrowed := true }
def CscanQuotesUptoSaid : Prop := cscanQuotesUptoRow.holds Tryd.pinned (OpenSpec.upto cscanQuotesSpec)

/-- 'patoislaw14.CscanParts', WHERE WHAT IT READS IS OF BULK AT MOST 1048576: true; the input reads as it did. -/
def cscanPartsUptoRow : OpenClaim := { program := "ytlhpflilpdceiaadoor", sum := "ec9102dc738a422bb2b42d16ea9f5a8946fd6cf9d792b14ebeff94075973f22f", func := "patois/patoislaw14.CscanParts", spec := "cscanParts", inPlace := ["internal/bytealg.IndexByteString", "internal/abi.NoEscape"], unfollowed := true, recurses := true, named := ["patois/api.ErrLong", "patois/api.ErrBrace", "patois/api.ErrToken", "patois/api.ErrQuote", "patois/api.ErrParen", "patois/api.ErrName", "patois/api.ErrNest", "patois/api.ErrForm", "patois/api.ErrEnd", "patois/api.ErrNode", "patois/api.ErrMany", "patois/api.ErrFuel", "patois/api.ErrDeep", "patois/api.ErrBig", "patois/api.ErrSay", "patois/api.ErrCode", "patois/api.ErrNumber"], apart := false, laid := [("patois/api.ErrLong", laid_patois_api_ErrLong), ("patois/api.ErrNest", laid_patois_api_ErrNest), ("patois/api.ErrQuote", laid_patois_api_ErrQuote), ("patois/api.ErrParen", laid_patois_api_ErrParen), ("patois/api.ErrBrace", laid_patois_api_ErrBrace), ("patois/api.ErrName", laid_patois_api_ErrName), ("patois/api.ErrToken", laid_patois_api_ErrToken), ("patois/api.ErrForm", laid_patois_api_ErrForm), ("patois/api.ErrEnd", laid_patois_api_ErrEnd), ("patois/api.ErrNode", laid_patois_api_ErrNode), ("patois/api.ErrMany", laid_patois_api_ErrMany), ("patois/api.ErrFuel", laid_patois_api_ErrFuel), ("patois/api.ErrDeep", laid_patois_api_ErrDeep), ("patois/api.ErrBig", laid_patois_api_ErrBig), ("patois/api.ErrSay", laid_patois_api_ErrSay), ("patois/api.ErrCode", laid_patois_api_ErrCode), ("patois/api.ErrNumber", laid_patois_api_ErrNumber)], narrowed := true }
def CscanPartsUptoSaid : Prop := cscanPartsUptoRow.holds Tryd.pinned (OpenSpec.upto cscanPartsSpec)

/-- 'patoislaw14.CscanBraces', WHERE WHAT IT READS IS OF BULK AT MOST 1048576: true; the input reads as it did. -/
def cscanBracesUptoRow : OpenClaim := { program := "ytlhpflilpdceiaadoor", sum := "ec9102dc738a422bb2b42d16ea9f5a8946fd6cf9d792b14ebeff94075973f22f", func := "patois/patoislaw14.CscanBraces", spec := "cscanBraces", inPlace := ["internal/bytealg.IndexByteString", "internal/abi.NoEscape"], unfollowed := true, recurses := true, named := ["patois/api.ErrLong", "patois/api.ErrBrace", "patois/api.ErrToken", "patois/api.ErrQuote", "patois/api.ErrParen", "patois/api.ErrName", "patois/api.ErrNest", "patois/api.ErrForm", "patois/api.ErrEnd", "patois/api.ErrNode", "patois/api.ErrMany", "patois/api.ErrFuel", "patois/api.ErrDeep", "patois/api.ErrBig", "patois/api.ErrSay", "patois/api.ErrCode", "patois/api.ErrNumber"], apart := false, laid := [("patois/api.ErrLong", laid_patois_api_ErrLong), ("patois/api.ErrNest", laid_patois_api_ErrNest), ("patois/api.ErrQuote", laid_patois_api_ErrQuote), ("patois/api.ErrParen", laid_patois_api_ErrParen), ("patois/api.ErrBrace", laid_patois_api_ErrBrace), ("patois/api.ErrName", laid_patois_api_ErrName), ("patois/api.ErrToken", laid_patois_api_ErrToken), ("patois/api.ErrForm", laid_patois_api_ErrForm), ("patois/api.ErrEnd", laid_patois_api_ErrEnd), ("patois/api.ErrNode", laid_patois_api_ErrNode), ("patois/api.ErrMany", laid_patois_api_ErrMany), ("patois/api.ErrFuel", laid_patois_api_ErrFuel), ("patois/api.ErrDeep", laid_patois_api_ErrDeep), ("patois/api.ErrBig", laid_patois_api_ErrBig), ("patois/api.ErrSay", laid_patois_api_ErrSay), ("patois/api.ErrCode", laid_patois_api_ErrCode), ("patois/api.ErrNumber", laid_patois_api_ErrNumber)], narrowed := true }
def CscanBracesUptoSaid : Prop := cscanBracesUptoRow.holds Tryd.pinned (OpenSpec.upto cscanBracesSpec)

/-- 'patoislaw8.BuiltinReads', WHERE WHAT IT READS IS OF BULK AT MOST 1048576: true; the input reads as it did. -/
def builtinReadsUptoRow : OpenClaim := { program := "ytlhpflilpdceiaadoor", sum := "ec9102dc738a422bb2b42d16ea9f5a8946fd6cf9d792b14ebeff94075973f22f", func := "patois/patoislaw8.BuiltinReads", spec := "builtinReads", inPlace := ["internal/abi.NoEscape", "internal/bytealg.MakeNoZero", "internal/bytealg.IndexByteString", "internal/bytealg.IndexString"], unfollowed := true, recurses := true, named := ["internal/strconv.uint64pow10", "math/bits.deBruijn32tab", "math/bits.deBruijn64tab", "internal/bytealg.MaxLen"], apart := false, laid := [("math/bits.deBruijn32tab", laid_math_bits_deBruijn32tab), ("math/bits.deBruijn64tab", laid_math_bits_deBruijn64tab), ("internal/strconv.uint64pow10", laid_internal_strconv_uint64pow10)], narrowed := true }
def BuiltinReadsUptoSaid : Prop := builtinReadsUptoRow.holds Tryd.pinned (OpenSpec.upto builtinReadsSpec)

/-- 'patoislaw8.BuiltinCounts', WHERE WHAT IT READS IS OF BULK AT MOST 1048576: true; the input reads as it did. -/
def builtinCountsUptoRow : OpenClaim := { program := "ytlhpflilpdceiaadoor", sum := "ec9102dc738a422bb2b42d16ea9f5a8946fd6cf9d792b14ebeff94075973f22f", func := "patois/patoislaw8.BuiltinCounts", spec := "builtinCounts", inPlace := ["internal/abi.NoEscape", "internal/bytealg.MakeNoZero", "internal/bytealg.IndexByteString", "internal/bytealg.IndexString"], unfollowed := true, recurses := true, named := ["internal/strconv.uint64pow10", "math/bits.deBruijn32tab", "math/bits.deBruijn64tab", "internal/bytealg.MaxLen"], apart := false, laid := [("math/bits.deBruijn32tab", laid_math_bits_deBruijn32tab), ("math/bits.deBruijn64tab", laid_math_bits_deBruijn64tab), ("internal/strconv.uint64pow10", laid_internal_strconv_uint64pow10)], narrowed := true }
def BuiltinCountsUptoSaid : Prop := builtinCountsUptoRow.holds Tryd.pinned (OpenSpec.upto builtinCountsSpec)

/-- 'patoislaw8.BuiltinSays', WHERE WHAT IT READS IS OF BULK AT MOST 1048576: true; the input reads as it did. -/
def builtinSaysUptoRow : OpenClaim := { program := "ytlhpflilpdceiaadoor", sum := "ec9102dc738a422bb2b42d16ea9f5a8946fd6cf9d792b14ebeff94075973f22f", func := "patois/patoislaw8.BuiltinSays", spec := "builtinSays", inPlace := ["internal/abi.NoEscape", "internal/bytealg.MakeNoZero", "internal/bytealg.IndexByteString", "internal/bytealg.IndexString"], unfollowed := true, recurses := true, named := ["internal/strconv.uint64pow10", "math/bits.deBruijn32tab", "math/bits.deBruijn64tab", "internal/bytealg.MaxLen"], apart := false, laid := [("math/bits.deBruijn32tab", laid_math_bits_deBruijn32tab), ("math/bits.deBruijn64tab", laid_math_bits_deBruijn64tab), ("internal/strconv.uint64pow10", laid_internal_strconv_uint64pow10)], narrowed := true }
def BuiltinSaysUptoSaid : Prop := builtinSaysUptoRow.holds Tryd.pinned (OpenSpec.upto builtinSaysSpec)

/-- 'patoislaw8.BuiltinTests', WHERE WHAT IT READS IS OF BULK AT MOST 1048576: true; the input reads as it did. -/
def builtinTestsUptoRow : OpenClaim := { program := "ytlhpflilpdceiaadoor", sum := "ec9102dc738a422bb2b42d16ea9f5a8946fd6cf9d792b14ebeff94075973f22f", func := "patois/patoislaw8.BuiltinTests", spec := "builtinTests", inPlace := ["internal/abi.NoEscape", "internal/bytealg.MakeNoZero", "internal/bytealg.IndexByteString", "internal/bytealg.IndexString"], unfollowed := true, recurses := true, named := ["internal/strconv.uint64pow10", "math/bits.deBruijn32tab", "math/bits.deBruijn64tab", "internal/bytealg.MaxLen"], apart := false, laid := [("math/bits.deBruijn32tab", laid_math_bits_deBruijn32tab), ("math/bits.deBruijn64tab", laid_math_bits_deBruijn64tab), ("internal/strconv.uint64pow10", laid_internal_strconv_uint64pow10)], narrowed := true }
def BuiltinTestsUptoSaid : Prop := builtinTestsUptoRow.holds Tryd.pinned (OpenSpec.upto builtinTestsSpec)

end Rows
end Go.Proofs.YtlhpflilpdceiaaDoor
