/-
  NARROWER THAN 'FOR EVERY INPUT', by the rows' own cells (each row's printed sentence says how): ThreadKeeps: laid · ThreadJumps: laid · ThreadReach: laid · PassesParts: laid · CodeChecks: laid.
  DERIVED. THE GIVEN ROWS OF THIS SEAT. 5 by the template 'for every input the law returns true; each argument reads behind the call as it read before'; 0 by the template 'total and deterministic' (their statements: YtpogngdddendiaaDoorTotals.lean).
  GIVEN WITH THE SEED: the statements are not yours to turn. If you find one false, say at which input.
  Laid BY PROGRAM, IN A SANDBOX (cutbox-rows.mjs): the forced cells as the released guide's own fill.sh prints them over the translation 0440bd196352d39a… (all of the seat's roots in one cut). By AI agents, Wed Nov 11 2026. No macro, syntax, notation, axiom, sorry.
-/
import Derived.Test.YtpogngdddendiaaDoorChecked
import GoSem.Claim
import GoSem.ClaimJoined
import GoSem.ClaimMapViews
import Derived.JoinedTies
import Derived.KernelRfl
namespace Go.Proofs.YtpogngdddendiaaDoor
/- THE CELL 'sum', in the pinned program and in every row, IS THE sha256 OF THE DUMP (.gsa) THAT YtpogngdddendiaaDoorProg.lean LOADS. Nothing in Lean hashes anything: it is a label: what it is worth is what the hold of that sum in a sandbox is worth. -/
noncomputable def Tryd.pinned : Pinned := { name := "ytpogngdddendiaadoor", sum := "0440bd196352d39abc4c1ece7c8fe53cfbb97553a36235eb402af8af8b35db7a", checked := Tryd.checked }
namespace Rows
def none {H : Type} : Left H := { results := [], args := [] }

/- WHAT THE LISTED PACKAGE-LEVEL VARIABLES READ AS WHEN THE CALL BEGINS. Each datum BY PROGRAM (the guide's laid-datum.mjs) off the statement by which the dump's own 'gosem.cut.vars' lays the variable. In a bare row this is a premise. The card (YtpogngdddendiaaDoorCards.lean) ties it to the program's text. -/
def laid_patois_api_ErrNest {H : Type} : DataW H := .iface "*errors.errorString" (.ptr (.agg [.lit (.string [110, 101, 115, 116, 101, 100, 32, 116, 111, 111, 32, 100, 101, 101, 112])]))
def laid_patois_api_ErrNode {H : Type} : DataW H := .iface "*errors.errorString" (.ptr (.agg [.lit (.string [110, 111, 32, 112, 114, 111, 103, 114, 97, 109])]))
def laid_patois_api_ErrMany {H : Type} : DataW H := .iface "*errors.errorString" (.ptr (.agg [.lit (.string [116, 111, 111, 32, 109, 97, 110, 121])]))
def laid_patois_api_ErrCode {H : Type} : DataW H := .iface "*errors.errorString" (.ptr (.agg [.lit (.string [110, 111, 32, 99, 111, 100, 101])]))
def laid_patois_api_ErrLong {H : Type} : DataW H := .iface "*errors.errorString" (.ptr (.agg [.lit (.string [116, 111, 111, 32, 108, 111, 110, 103])]))
def laid_patois_api_ErrQuote {H : Type} : DataW H := .iface "*errors.errorString" (.ptr (.agg [.lit (.string [97, 32, 113, 117, 111, 116, 101, 32, 116, 104, 97, 116, 32, 100, 111, 101, 115, 32, 110, 111, 116, 32, 101, 110, 100])]))
def laid_patois_api_ErrParen {H : Type} : DataW H := .iface "*errors.errorString" (.ptr (.agg [.lit (.string [97, 32, 98, 114, 97, 99, 107, 101, 116, 32, 116, 104, 97, 116, 32, 100, 111, 101, 115, 32, 110, 111, 116, 32, 101, 110, 100])]))
def laid_patois_api_ErrBrace {H : Type} : DataW H := .iface "*errors.errorString" (.ptr (.agg [.lit (.string [97, 32, 98, 114, 97, 99, 101, 32, 116, 104, 97, 116, 32, 100, 111, 101, 115, 32, 110, 111, 116, 32, 101, 110, 100])]))
def laid_patois_api_ErrName {H : Type} : DataW H := .iface "*errors.errorString" (.ptr (.agg [.lit (.string [110, 111, 32, 110, 97, 109, 101])]))
def laid_patois_api_ErrToken {H : Type} : DataW H := .iface "*errors.errorString" (.ptr (.agg [.lit (.string [110, 111, 32, 116, 111, 107, 101, 110])]))
def laid_patois_api_ErrForm {H : Type} : DataW H := .iface "*errors.errorString" (.ptr (.agg [.lit (.string [105, 116, 32, 100, 111, 101, 115, 32, 110, 111, 116, 32, 115, 116, 97, 110, 100, 32, 104, 101, 114, 101])]))
def laid_patois_api_ErrEnd {H : Type} : DataW H := .iface "*errors.errorString" (.ptr (.agg [.lit (.string [105, 116, 32, 101, 110, 100, 115, 32, 116, 111, 111, 32, 101, 97, 114, 108, 121])]))
def laid_patois_api_ErrFuel {H : Type} : DataW H := .iface "*errors.errorString" (.ptr (.agg [.lit (.string [116, 111, 111, 32, 109, 97, 110, 121, 32, 115, 116, 101, 112, 115])]))
def laid_patois_api_ErrDeep {H : Type} : DataW H := .iface "*errors.errorString" (.ptr (.agg [.lit (.string [99, 97, 108, 108, 101, 100, 32, 116, 111, 111, 32, 100, 101, 101, 112])]))
def laid_patois_api_ErrBig {H : Type} : DataW H := .iface "*errors.errorString" (.ptr (.agg [.lit (.string [116, 111, 111, 32, 98, 105, 103])]))
def laid_patois_api_ErrSay {H : Type} : DataW H := .iface "*errors.errorString" (.ptr (.agg [.lit (.string [105, 116, 32, 99, 97, 110, 110, 111, 116, 32, 98, 101, 32, 115, 97, 105, 100])]))
def laid_patois_api_ErrNumber {H : Type} : DataW H := .iface "*errors.errorString" (.ptr (.agg [.lit (.string [110, 111, 32, 115, 117, 99, 104, 32, 110, 117, 109, 98, 101, 114])]))
def laid_math_bits_deBruijn32tab {H : Type} : DataW H := .agg [.lit (.int .u8 0), .lit (.int .u8 1), .lit (.int .u8 28), .lit (.int .u8 2), .lit (.int .u8 29), .lit (.int .u8 14), .lit (.int .u8 24), .lit (.int .u8 3), .lit (.int .u8 30), .lit (.int .u8 22), .lit (.int .u8 20), .lit (.int .u8 15), .lit (.int .u8 25), .lit (.int .u8 17), .lit (.int .u8 4), .lit (.int .u8 8), .lit (.int .u8 31), .lit (.int .u8 27), .lit (.int .u8 13), .lit (.int .u8 23), .lit (.int .u8 21), .lit (.int .u8 19), .lit (.int .u8 16), .lit (.int .u8 7), .lit (.int .u8 26), .lit (.int .u8 12), .lit (.int .u8 18), .lit (.int .u8 6), .lit (.int .u8 11), .lit (.int .u8 5), .lit (.int .u8 10), .lit (.int .u8 9)]
def laid_math_bits_deBruijn64tab {H : Type} : DataW H := .agg [.lit (.int .u8 0), .lit (.int .u8 1), .lit (.int .u8 56), .lit (.int .u8 2), .lit (.int .u8 57), .lit (.int .u8 49), .lit (.int .u8 28), .lit (.int .u8 3), .lit (.int .u8 61), .lit (.int .u8 58), .lit (.int .u8 42), .lit (.int .u8 50), .lit (.int .u8 38), .lit (.int .u8 29), .lit (.int .u8 17), .lit (.int .u8 4), .lit (.int .u8 62), .lit (.int .u8 47), .lit (.int .u8 59), .lit (.int .u8 36), .lit (.int .u8 45), .lit (.int .u8 43), .lit (.int .u8 51), .lit (.int .u8 22), .lit (.int .u8 53), .lit (.int .u8 39), .lit (.int .u8 33), .lit (.int .u8 30), .lit (.int .u8 24), .lit (.int .u8 18), .lit (.int .u8 12), .lit (.int .u8 5), .lit (.int .u8 63), .lit (.int .u8 55), .lit (.int .u8 48), .lit (.int .u8 27), .lit (.int .u8 60), .lit (.int .u8 41), .lit (.int .u8 37), .lit (.int .u8 16), .lit (.int .u8 46), .lit (.int .u8 35), .lit (.int .u8 44), .lit (.int .u8 21), .lit (.int .u8 52), .lit (.int .u8 32), .lit (.int .u8 23), .lit (.int .u8 11), .lit (.int .u8 54), .lit (.int .u8 26), .lit (.int .u8 40), .lit (.int .u8 15), .lit (.int .u8 34), .lit (.int .u8 20), .lit (.int .u8 31), .lit (.int .u8 10), .lit (.int .u8 25), .lit (.int .u8 14), .lit (.int .u8 19), .lit (.int .u8 9), .lit (.int .u8 13), .lit (.int .u8 8), .lit (.int .u8 7), .lit (.int .u8 6)]
def laid_internal_strconv_uint64pow10 {H : Type} : DataW H := .agg [.lit (.int .u64 1), .lit (.int .u64 10), .lit (.int .u64 100), .lit (.int .u64 1000), .lit (.int .u64 10000), .lit (.int .u64 100000), .lit (.int .u64 1000000), .lit (.int .u64 10000000), .lit (.int .u64 100000000), .lit (.int .u64 1000000000), .lit (.int .u64 10000000000), .lit (.int .u64 100000000000), .lit (.int .u64 1000000000000), .lit (.int .u64 10000000000000), .lit (.int .u64 100000000000000), .lit (.int .u64 1000000000000000), .lit (.int .u64 10000000000000000), .lit (.int .u64 100000000000000000), .lit (.int .u64 1000000000000000000), .lit (.int .u64 10000000000000000000)]

/-- 'patoislaw24.ThreadKeeps': WHATEVER THE INPUT: true; the input reads as it did. -/
def threadKeepsSpec : ChangeSpec := { name := "threadKeeps", fn := fun _ => fun
  | [d] => { results := [.lit (.bool true)], args := [d] }
  | _ => none }
def threadKeepsRow : OpenClaim := { program := "ytpogngdddendiaadoor", sum := "0440bd196352d39abc4c1ece7c8fe53cfbb97553a36235eb402af8af8b35db7a", func := "patois/patoislaw24.ThreadKeeps", spec := "threadKeeps", unfollowed := true, recurses := true, named := ["patois/api.ErrMany", "patois/api.ErrCode", "patois/api.ErrNode", "patois/api.ErrNest"], apart := false, laid := [("patois/api.ErrNest", laid_patois_api_ErrNest), ("patois/api.ErrNode", laid_patois_api_ErrNode), ("patois/api.ErrMany", laid_patois_api_ErrMany), ("patois/api.ErrCode", laid_patois_api_ErrCode)] }
def ThreadKeepsSaid : Prop := threadKeepsRow.holds Tryd.pinned (OpenSpec.ofChange threadKeepsSpec)

/-- ITS FALSE NEIGHBOUR: 'it returns false'. Refute it at one input. -/
def threadKeepsWrong : ChangeSpec := { name := "threadKeeps", fn := fun _ => fun
  | [d] => { results := [.lit (.bool false)], args := [d] }
  | _ => none }
def ThreadKeepsWrongFalsely : Prop := threadKeepsRow.holds Tryd.pinned (OpenSpec.ofChange threadKeepsWrong)

/-- 'patoislaw24.ThreadJumps': WHATEVER THE INPUT: true; the input reads as it did. -/
def threadJumpsSpec : ChangeSpec := { name := "threadJumps", fn := fun _ => fun
  | [d] => { results := [.lit (.bool true)], args := [d] }
  | _ => none }
def threadJumpsRow : OpenClaim := { program := "ytpogngdddendiaadoor", sum := "0440bd196352d39abc4c1ece7c8fe53cfbb97553a36235eb402af8af8b35db7a", func := "patois/patoislaw24.ThreadJumps", spec := "threadJumps", unfollowed := true, recurses := true, named := ["patois/api.ErrMany", "patois/api.ErrCode"], apart := false, laid := [("patois/api.ErrMany", laid_patois_api_ErrMany), ("patois/api.ErrCode", laid_patois_api_ErrCode)] }
def ThreadJumpsSaid : Prop := threadJumpsRow.holds Tryd.pinned (OpenSpec.ofChange threadJumpsSpec)

/-- ITS FALSE NEIGHBOUR: 'it returns false'. Refute it at one input. -/
def threadJumpsWrong : ChangeSpec := { name := "threadJumps", fn := fun _ => fun
  | [d] => { results := [.lit (.bool false)], args := [d] }
  | _ => none }
def ThreadJumpsWrongFalsely : Prop := threadJumpsRow.holds Tryd.pinned (OpenSpec.ofChange threadJumpsWrong)

/-- 'patoislaw24.ThreadReach': WHATEVER THE INPUT: true; the input reads as it did. -/
def threadReachSpec : ChangeSpec := { name := "threadReach", fn := fun _ => fun
  | [d1, d2] => { results := [.lit (.bool true)], args := [d1, d2] }
  | _ => none }
def threadReachRow : OpenClaim := { program := "ytpogngdddendiaadoor", sum := "0440bd196352d39abc4c1ece7c8fe53cfbb97553a36235eb402af8af8b35db7a", func := "patois/patoislaw24.ThreadReach", spec := "threadReach", unfollowed := true, recurses := true, named := ["patois/api.ErrMany", "patois/api.ErrCode"], apart := false, laid := [("patois/api.ErrMany", laid_patois_api_ErrMany), ("patois/api.ErrCode", laid_patois_api_ErrCode)] }
def ThreadReachSaid : Prop := threadReachRow.holds Tryd.pinned (OpenSpec.ofChange threadReachSpec)

/-- ITS FALSE NEIGHBOUR: 'it returns false'. Refute it at one input. -/
def threadReachWrong : ChangeSpec := { name := "threadReach", fn := fun _ => fun
  | [d1, d2] => { results := [.lit (.bool false)], args := [d1, d2] }
  | _ => none }
def ThreadReachWrongFalsely : Prop := threadReachRow.holds Tryd.pinned (OpenSpec.ofChange threadReachWrong)

/-- 'patoislaw21.PassesParts': WHATEVER THE INPUT: true; the input reads as it did. -/
def passesPartsSpec : ChangeSpec := { name := "passesParts", fn := fun _ => fun
  | [d1, d2, d3] => { results := [.lit (.bool true)], args := [d1, d2, d3] }
  | _ => none }
def passesPartsRow : OpenClaim := { program := "ytpogngdddendiaadoor", sum := "0440bd196352d39abc4c1ece7c8fe53cfbb97553a36235eb402af8af8b35db7a", func := "patois/patoislaw21.PassesParts", spec := "passesParts", inPlace := ["internal/bytealg.IndexByteString", "internal/abi.NoEscape"], unfollowed := true, recurses := true, named := ["patois/api.ErrMany", "patois/api.ErrNumber", "patois/api.ErrNode", "patois/api.ErrNest", "patois/api.ErrLong", "patois/api.ErrQuote", "patois/api.ErrParen", "patois/api.ErrBrace", "patois/api.ErrName", "patois/api.ErrToken", "patois/api.ErrForm", "patois/api.ErrEnd", "patois/api.ErrFuel", "patois/api.ErrDeep", "patois/api.ErrBig", "patois/api.ErrSay", "patois/api.ErrCode"], apart := false, laid := [("patois/api.ErrLong", laid_patois_api_ErrLong), ("patois/api.ErrNest", laid_patois_api_ErrNest), ("patois/api.ErrQuote", laid_patois_api_ErrQuote), ("patois/api.ErrParen", laid_patois_api_ErrParen), ("patois/api.ErrBrace", laid_patois_api_ErrBrace), ("patois/api.ErrName", laid_patois_api_ErrName), ("patois/api.ErrToken", laid_patois_api_ErrToken), ("patois/api.ErrForm", laid_patois_api_ErrForm), ("patois/api.ErrEnd", laid_patois_api_ErrEnd), ("patois/api.ErrNode", laid_patois_api_ErrNode), ("patois/api.ErrMany", laid_patois_api_ErrMany), ("patois/api.ErrFuel", laid_patois_api_ErrFuel), ("patois/api.ErrDeep", laid_patois_api_ErrDeep), ("patois/api.ErrBig", laid_patois_api_ErrBig), ("patois/api.ErrSay", laid_patois_api_ErrSay), ("patois/api.ErrCode", laid_patois_api_ErrCode), ("patois/api.ErrNumber", laid_patois_api_ErrNumber)] }
def PassesPartsSaid : Prop := passesPartsRow.holds Tryd.pinned (OpenSpec.ofChange passesPartsSpec)

/-- ITS FALSE NEIGHBOUR: 'it returns false'. Refute it at one input. -/
def passesPartsWrong : ChangeSpec := { name := "passesParts", fn := fun _ => fun
  | [d1, d2, d3] => { results := [.lit (.bool false)], args := [d1, d2, d3] }
  | _ => none }
def PassesPartsWrongFalsely : Prop := passesPartsRow.holds Tryd.pinned (OpenSpec.ofChange passesPartsWrong)

/-- 'patoislaw22.CodeChecks': WHATEVER THE INPUT: true; the input reads as it did. -/
def codeChecksSpec : ChangeSpec := { name := "codeChecks", fn := fun _ => fun
  | [d1, d2, d3, d4, d5] => { results := [.lit (.bool true)], args := [d1, d2, d3, d4, d5] }
  | _ => none }
def codeChecksRow : OpenClaim := { program := "ytpogngdddendiaadoor", sum := "0440bd196352d39abc4c1ece7c8fe53cfbb97553a36235eb402af8af8b35db7a", func := "patois/patoislaw22.CodeChecks", spec := "codeChecks", inPlace := ["internal/abi.NoEscape"], unfollowed := true, recurses := true, named := ["patois/api.ErrMany", "patois/api.ErrCode", "internal/strconv.uint64pow10", "math/bits.deBruijn32tab", "math/bits.deBruijn64tab", "patois/api.ErrLong", "patois/api.ErrNest", "patois/api.ErrQuote", "patois/api.ErrParen", "patois/api.ErrBrace", "patois/api.ErrName", "patois/api.ErrToken", "patois/api.ErrForm", "patois/api.ErrEnd", "patois/api.ErrNode", "patois/api.ErrFuel", "patois/api.ErrDeep", "patois/api.ErrBig", "patois/api.ErrSay", "patois/api.ErrNumber"], apart := false, laid := [("math/bits.deBruijn32tab", laid_math_bits_deBruijn32tab), ("math/bits.deBruijn64tab", laid_math_bits_deBruijn64tab), ("internal/strconv.uint64pow10", laid_internal_strconv_uint64pow10), ("patois/api.ErrLong", laid_patois_api_ErrLong), ("patois/api.ErrNest", laid_patois_api_ErrNest), ("patois/api.ErrQuote", laid_patois_api_ErrQuote), ("patois/api.ErrParen", laid_patois_api_ErrParen), ("patois/api.ErrBrace", laid_patois_api_ErrBrace), ("patois/api.ErrName", laid_patois_api_ErrName), ("patois/api.ErrToken", laid_patois_api_ErrToken), ("patois/api.ErrForm", laid_patois_api_ErrForm), ("patois/api.ErrEnd", laid_patois_api_ErrEnd), ("patois/api.ErrNode", laid_patois_api_ErrNode), ("patois/api.ErrMany", laid_patois_api_ErrMany), ("patois/api.ErrFuel", laid_patois_api_ErrFuel), ("patois/api.ErrDeep", laid_patois_api_ErrDeep), ("patois/api.ErrBig", laid_patois_api_ErrBig), ("patois/api.ErrSay", laid_patois_api_ErrSay), ("patois/api.ErrCode", laid_patois_api_ErrCode), ("patois/api.ErrNumber", laid_patois_api_ErrNumber)] }
def CodeChecksSaid : Prop := codeChecksRow.holds Tryd.pinned (OpenSpec.ofChange codeChecksSpec)

/-- ITS FALSE NEIGHBOUR: 'it returns false'. Refute it at one input. -/
def codeChecksWrong : ChangeSpec := { name := "codeChecks", fn := fun _ => fun
  | [d1, d2, d3, d4, d5] => { results := [.lit (.bool false)], args := [d1, d2, d3, d4, d5] }
  | _ => none }
def CodeChecksWrongFalsely : Prop := codeChecksRow.holds Tryd.pinned (OpenSpec.ofChange codeChecksWrong)

/- THE SECOND FORM. 'bulk': how many values and letters a reading holds, each counted each time it is reached (what is shared counts as often as it is met; a slice's spare places count too). A statement '..UptoSaid' is the law's where the arguments, and the package variables that the reading takes, are together of bulk at most 1048576: NARROWER than '..Said'. Prove '..Said' where nothing that the law and all that it calls make is longer than what came in: it says more and counts as full. Else prove '..UptoSaid'. A law counts once. -/
mutual
def uptoBulk {H : Type} : DataW H → Nat
  | .lit (.string bytes) => bytes.length + 1
  | .lit _ => 1
  | .nil => 1
  | .ptr d => uptoBulk d + 1
  | .slice elems spare => uptoBulkAll elems + uptoBulkAll spare + 1
  | .agg parts => uptoBulkAll parts + 1
  | .iface _ d => uptoBulk d + 1
  | .map entries => uptoBulkEntries entries + 1
  | .held _ => 1
def uptoBulkAll {H : Type} : List (DataW H) → Nat
  | [] => 0
  | d :: r => uptoBulk d + uptoBulkAll r
def uptoBulkEntries {H : Type} : List (Lit × DataW H) → Nat
  | [] => 0
  | x :: r => uptoBulkEntry x + uptoBulkEntries r
def uptoBulkEntry {H : Type} : Lit × DataW H → Nat
  | (.string bytes, d) => bytes.length + uptoBulk d + 1
  | (_, d) => uptoBulk d + 1
 end
def uptoSmall : (H : Type) → List (DataW H) → Bool := fun _ ds => decide (uptoBulkAll ds ≤ 1048576)
def OpenSpec.upto (s : _root_.Go.ChangeSpec) : _root_.Go.OpenSpec := { _root_.Go.OpenSpec.ofChange s with cond := some uptoSmall }

/-- 'patoislaw24.ThreadKeeps', WHERE WHAT IT READS IS OF BULK AT MOST 1048576: true; the input reads as it did. -/
def threadKeepsUptoRow : OpenClaim := { program := "ytpogngdddendiaadoor", sum := "0440bd196352d39abc4c1ece7c8fe53cfbb97553a36235eb402af8af8b35db7a", func := "patois/patoislaw24.ThreadKeeps", spec := "threadKeeps", unfollowed := true, recurses := true, named := ["patois/api.ErrMany", "patois/api.ErrCode", "patois/api.ErrNode", "patois/api.ErrNest"], apart := false, laid := [("patois/api.ErrNest", laid_patois_api_ErrNest), ("patois/api.ErrNode", laid_patois_api_ErrNode), ("patois/api.ErrMany", laid_patois_api_ErrMany), ("patois/api.ErrCode", laid_patois_api_ErrCode)], narrowed := true }
def ThreadKeepsUptoSaid : Prop := threadKeepsUptoRow.holds Tryd.pinned (OpenSpec.upto threadKeepsSpec)

/-- 'patoislaw24.ThreadJumps', WHERE WHAT IT READS IS OF BULK AT MOST 1048576: true; the input reads as it did. -/
def threadJumpsUptoRow : OpenClaim := { program := "ytpogngdddendiaadoor", sum := "0440bd196352d39abc4c1ece7c8fe53cfbb97553a36235eb402af8af8b35db7a", func := "patois/patoislaw24.ThreadJumps", spec := "threadJumps", unfollowed := true, recurses := true, named := ["patois/api.ErrMany", "patois/api.ErrCode"], apart := false, laid := [("patois/api.ErrMany", laid_patois_api_ErrMany), ("patois/api.ErrCode", laid_patois_api_ErrCode)], narrowed := true }
def ThreadJumpsUptoSaid : Prop := threadJumpsUptoRow.holds Tryd.pinned (OpenSpec.upto threadJumpsSpec)

/-- 'patoislaw24.ThreadReach', WHERE WHAT IT READS IS OF BULK AT MOST 1048576: true; the input reads as it did. -/
def threadReachUptoRow : OpenClaim := { program := "ytpogngdddendiaadoor", sum := "0440bd196352d39abc4c1ece7c8fe53cfbb97553a36235eb402af8af8b35db7a", func := "patois/patoislaw24.ThreadReach", spec := "threadReach", unfollowed := true, recurses := true, named := ["patois/api.ErrMany", "patois/api.ErrCode"], apart := false, laid := [("patois/api.ErrMany", laid_patois_api_ErrMany), ("patois/api.ErrCode", laid_patois_api_ErrCode)], narrowed := true }
def ThreadReachUptoSaid : Prop := threadReachUptoRow.holds Tryd.pinned (OpenSpec.upto threadReachSpec)

/-- 'patoislaw21.PassesParts', WHERE WHAT IT READS IS OF BULK AT MOST 1048576: true; the input reads as it did. -/
def passesPartsUptoRow : OpenClaim := { program := "ytpogngdddendiaadoor", sum := "0440bd196352d39abc4c1ece7c8fe53cfbb97553a36235eb402af8af8b35db7a", func := "patois/patoislaw21.PassesParts", spec := "passesParts", inPlace := ["internal/bytealg.IndexByteString", "internal/abi.NoEscape"], unfollowed := true, recurses := true, named := ["patois/api.ErrMany", "patois/api.ErrNumber", "patois/api.ErrNode", "patois/api.ErrNest", "patois/api.ErrLong", "patois/api.ErrQuote", "patois/api.ErrParen", "patois/api.ErrBrace", "patois/api.ErrName", "patois/api.ErrToken", "patois/api.ErrForm", "patois/api.ErrEnd", "patois/api.ErrFuel", "patois/api.ErrDeep", "patois/api.ErrBig", "patois/api.ErrSay", "patois/api.ErrCode"], apart := false, laid := [("patois/api.ErrLong", laid_patois_api_ErrLong), ("patois/api.ErrNest", laid_patois_api_ErrNest), ("patois/api.ErrQuote", laid_patois_api_ErrQuote), ("patois/api.ErrParen", laid_patois_api_ErrParen), ("patois/api.ErrBrace", laid_patois_api_ErrBrace), ("patois/api.ErrName", laid_patois_api_ErrName), ("patois/api.ErrToken", laid_patois_api_ErrToken), ("patois/api.ErrForm", laid_patois_api_ErrForm), ("patois/api.ErrEnd", laid_patois_api_ErrEnd), ("patois/api.ErrNode", laid_patois_api_ErrNode), ("patois/api.ErrMany", laid_patois_api_ErrMany), ("patois/api.ErrFuel", laid_patois_api_ErrFuel), ("patois/api.ErrDeep", laid_patois_api_ErrDeep), ("patois/api.ErrBig", laid_patois_api_ErrBig), ("patois/api.ErrSay", laid_patois_api_ErrSay), ("patois/api.ErrCode", laid_patois_api_ErrCode), ("patois/api.ErrNumber", laid_patois_api_ErrNumber)], narrowed := true }
def PassesPartsUptoSaid : Prop := passesPartsUptoRow.holds Tryd.pinned (OpenSpec.upto passesPartsSpec)

/-- 'patoislaw22.CodeChecks', WHERE WHAT IT READS IS OF BULK AT MOST 1048576: true; the input reads as it did. -/
def codeChecksUptoRow : OpenClaim := { program := "ytpogngdddendiaadoor", sum := "0440bd196352d39abc4c1ece7c8fe53cfbb97553a36235eb402af8af8b35db7a", func := "patois/patoislaw22.CodeChecks", spec := "codeChecks", inPlace := ["internal/abi.NoEscape"], unfollowed := true, recurses := true, named := ["patois/api.ErrMany", "patois/api.ErrCode", "internal/strconv.uint64pow10", "math/bits.deBruijn32tab", "math/bits.deBruijn64tab", "patois/api.ErrLong", "patois/api.ErrNest", "patois/api.ErrQuote", "patois/api.ErrParen", "patois/api.ErrBrace", "patois/api.ErrName", "patois/api.ErrToken", "patois/api.ErrForm", "patois/api.ErrEnd", "patois/api.ErrNode", "patois/api.ErrFuel", "patois/api.ErrDeep", "patois/api.ErrBig", "patois/api.ErrSay", "patois/api.ErrNumber"], apart := false, laid := [("math/bits.deBruijn32tab", laid_math_bits_deBruijn32tab), ("math/bits.deBruijn64tab", laid_math_bits_deBruijn64tab), ("internal/strconv.uint64pow10", laid_internal_strconv_uint64pow10), ("patois/api.ErrLong", laid_patois_api_ErrLong), ("patois/api.ErrNest", laid_patois_api_ErrNest), ("patois/api.ErrQuote", laid_patois_api_ErrQuote), ("patois/api.ErrParen", laid_patois_api_ErrParen), ("patois/api.ErrBrace", laid_patois_api_ErrBrace), ("patois/api.ErrName", laid_patois_api_ErrName), ("patois/api.ErrToken", laid_patois_api_ErrToken), ("patois/api.ErrForm", laid_patois_api_ErrForm), ("patois/api.ErrEnd", laid_patois_api_ErrEnd), ("patois/api.ErrNode", laid_patois_api_ErrNode), ("patois/api.ErrMany", laid_patois_api_ErrMany), ("patois/api.ErrFuel", laid_patois_api_ErrFuel), ("patois/api.ErrDeep", laid_patois_api_ErrDeep), ("patois/api.ErrBig", laid_patois_api_ErrBig), ("patois/api.ErrSay", laid_patois_api_ErrSay), ("patois/api.ErrCode", laid_patois_api_ErrCode), ("patois/api.ErrNumber", laid_patois_api_ErrNumber)], narrowed := true }
def CodeChecksUptoSaid : Prop := codeChecksUptoRow.holds Tryd.pinned (OpenSpec.upto codeChecksSpec)

end Rows
end Go.Proofs.YtpogngdddendiaaDoor
