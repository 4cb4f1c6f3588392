/-
  NARROWER THAN 'FOR EVERY INPUT', by the rows' own cells (each row's printed sentence says how): CoreKinds: laid · CoreMany: laid · CoreNests: laid · CoreMakes: laid · CoreAgain: laid · FuseOwn: laid · FuseFlat: laid · FuseMany: laid · DeadOwn: laid · DeadAgain: laid · DeadKeeps: laid · DeadSilent: laid.
  DERIVED. THE GIVEN ROWS OF THIS SEAT. 12 by the template 'for every input the law returns true; each argument reads behind the call as it read before'; 0 by the template 'total and deterministic' (their statements: YtjhgljfmheopmaaDoorTotals.lean).
  GIVEN WITH THE SEED: the statements are not yours to turn. If you find one false, say at which input.
  Laid BY PROGRAM, IN A SANDBOX (cutbox-rows.mjs): the forced cells as the released guide's own fill.sh prints them over the translation 391a61449b237020… (all of the seat's roots in one cut). By AI agents, Wed Nov 11 2026. No macro, syntax, notation, axiom, sorry.
-/
import Derived.Test.YtjhgljfmheopmaaDoorChecked
import GoSem.Claim
import GoSem.ClaimJoined
import GoSem.ClaimMapViews
import Derived.JoinedTies
import Derived.KernelRfl
namespace Go.Proofs.YtjhgljfmheopmaaDoor
/- THE CELL 'sum', in the pinned program and in every row, IS THE sha256 OF THE DUMP (.gsa) THAT YtjhgljfmheopmaaDoorProg.lean LOADS. Nothing in Lean hashes anything: it is a label: what it is worth is what the hold of that sum in a sandbox is worth. -/
noncomputable def Tryd.pinned : Pinned := { name := "ytjhgljfmheopmaadoor", sum := "391a61449b237020896b0d2f4df0679306ad9bb1d251dfc75ed80793b27cfe2e", checked := Tryd.checked }
namespace Rows
def none {H : Type} : Left H := { results := [], args := [] }

/- WHAT THE LISTED PACKAGE-LEVEL VARIABLES READ AS WHEN THE CALL BEGINS. Each datum BY PROGRAM (the guide's laid-datum.mjs) off the statement by which the dump's own 'gosem.cut.vars' lays the variable. In a bare row this is a premise. The card (YtjhgljfmheopmaaDoorCards.lean) ties it to the program's text. -/
def laid_patois_api_ErrLong {H : Type} : DataW H := .iface "*errors.errorString" (.ptr (.agg [.lit (.string [116, 111, 111, 32, 108, 111, 110, 103])]))
def laid_patois_api_ErrNest {H : Type} : DataW H := .iface "*errors.errorString" (.ptr (.agg [.lit (.string [110, 101, 115, 116, 101, 100, 32, 116, 111, 111, 32, 100, 101, 101, 112])]))
def laid_patois_api_ErrQuote {H : Type} : DataW H := .iface "*errors.errorString" (.ptr (.agg [.lit (.string [97, 32, 113, 117, 111, 116, 101, 32, 116, 104, 97, 116, 32, 100, 111, 101, 115, 32, 110, 111, 116, 32, 101, 110, 100])]))
def laid_patois_api_ErrParen {H : Type} : DataW H := .iface "*errors.errorString" (.ptr (.agg [.lit (.string [97, 32, 98, 114, 97, 99, 107, 101, 116, 32, 116, 104, 97, 116, 32, 100, 111, 101, 115, 32, 110, 111, 116, 32, 101, 110, 100])]))
def laid_patois_api_ErrBrace {H : Type} : DataW H := .iface "*errors.errorString" (.ptr (.agg [.lit (.string [97, 32, 98, 114, 97, 99, 101, 32, 116, 104, 97, 116, 32, 100, 111, 101, 115, 32, 110, 111, 116, 32, 101, 110, 100])]))
def laid_patois_api_ErrName {H : Type} : DataW H := .iface "*errors.errorString" (.ptr (.agg [.lit (.string [110, 111, 32, 110, 97, 109, 101])]))
def laid_patois_api_ErrToken {H : Type} : DataW H := .iface "*errors.errorString" (.ptr (.agg [.lit (.string [110, 111, 32, 116, 111, 107, 101, 110])]))
def laid_patois_api_ErrForm {H : Type} : DataW H := .iface "*errors.errorString" (.ptr (.agg [.lit (.string [105, 116, 32, 100, 111, 101, 115, 32, 110, 111, 116, 32, 115, 116, 97, 110, 100, 32, 104, 101, 114, 101])]))
def laid_patois_api_ErrEnd {H : Type} : DataW H := .iface "*errors.errorString" (.ptr (.agg [.lit (.string [105, 116, 32, 101, 110, 100, 115, 32, 116, 111, 111, 32, 101, 97, 114, 108, 121])]))
def laid_patois_api_ErrNode {H : Type} : DataW H := .iface "*errors.errorString" (.ptr (.agg [.lit (.string [110, 111, 32, 112, 114, 111, 103, 114, 97, 109])]))
def laid_patois_api_ErrMany {H : Type} : DataW H := .iface "*errors.errorString" (.ptr (.agg [.lit (.string [116, 111, 111, 32, 109, 97, 110, 121])]))
def laid_patois_api_ErrFuel {H : Type} : DataW H := .iface "*errors.errorString" (.ptr (.agg [.lit (.string [116, 111, 111, 32, 109, 97, 110, 121, 32, 115, 116, 101, 112, 115])]))
def laid_patois_api_ErrDeep {H : Type} : DataW H := .iface "*errors.errorString" (.ptr (.agg [.lit (.string [99, 97, 108, 108, 101, 100, 32, 116, 111, 111, 32, 100, 101, 101, 112])]))
def laid_patois_api_ErrBig {H : Type} : DataW H := .iface "*errors.errorString" (.ptr (.agg [.lit (.string [116, 111, 111, 32, 98, 105, 103])]))
def laid_patois_api_ErrSay {H : Type} : DataW H := .iface "*errors.errorString" (.ptr (.agg [.lit (.string [105, 116, 32, 99, 97, 110, 110, 111, 116, 32, 98, 101, 32, 115, 97, 105, 100])]))
def laid_patois_api_ErrCode {H : Type} : DataW H := .iface "*errors.errorString" (.ptr (.agg [.lit (.string [110, 111, 32, 99, 111, 100, 101])]))
def laid_patois_api_ErrNumber {H : Type} : DataW H := .iface "*errors.errorString" (.ptr (.agg [.lit (.string [110, 111, 32, 115, 117, 99, 104, 32, 110, 117, 109, 98, 101, 114])]))

/-- 'patoislaw5.CoreKinds': WHATEVER THE INPUT: true; the input reads as it did. -/
def coreKindsSpec : ChangeSpec := { name := "coreKinds", fn := fun _ => fun
  | [d1, d2, d3, d4] => { results := [.lit (.bool true)], args := [d1, d2, d3, d4] }
  | _ => none }
def coreKindsRow : OpenClaim := { program := "ytjhgljfmheopmaadoor", sum := "391a61449b237020896b0d2f4df0679306ad9bb1d251dfc75ed80793b27cfe2e", func := "patois/patoislaw5.CoreKinds", spec := "coreKinds", recurses := true, named := ["patois/api.ErrMany", "patois/api.ErrNode", "patois/api.ErrNest", "patois/api.ErrLong", "patois/api.ErrQuote", "patois/api.ErrParen", "patois/api.ErrBrace", "patois/api.ErrName", "patois/api.ErrToken", "patois/api.ErrForm", "patois/api.ErrEnd", "patois/api.ErrFuel", "patois/api.ErrDeep", "patois/api.ErrBig", "patois/api.ErrSay", "patois/api.ErrCode", "patois/api.ErrNumber"], apart := false, laid := [("patois/api.ErrLong", laid_patois_api_ErrLong), ("patois/api.ErrNest", laid_patois_api_ErrNest), ("patois/api.ErrQuote", laid_patois_api_ErrQuote), ("patois/api.ErrParen", laid_patois_api_ErrParen), ("patois/api.ErrBrace", laid_patois_api_ErrBrace), ("patois/api.ErrName", laid_patois_api_ErrName), ("patois/api.ErrToken", laid_patois_api_ErrToken), ("patois/api.ErrForm", laid_patois_api_ErrForm), ("patois/api.ErrEnd", laid_patois_api_ErrEnd), ("patois/api.ErrNode", laid_patois_api_ErrNode), ("patois/api.ErrMany", laid_patois_api_ErrMany), ("patois/api.ErrFuel", laid_patois_api_ErrFuel), ("patois/api.ErrDeep", laid_patois_api_ErrDeep), ("patois/api.ErrBig", laid_patois_api_ErrBig), ("patois/api.ErrSay", laid_patois_api_ErrSay), ("patois/api.ErrCode", laid_patois_api_ErrCode), ("patois/api.ErrNumber", laid_patois_api_ErrNumber)] }
def CoreKindsSaid : Prop := coreKindsRow.holds Tryd.pinned (OpenSpec.ofChange coreKindsSpec)

/-- ITS FALSE NEIGHBOUR: 'it returns false'. Refute it at one input. -/
def coreKindsWrong : ChangeSpec := { name := "coreKinds", fn := fun _ => fun
  | [d1, d2, d3, d4] => { results := [.lit (.bool false)], args := [d1, d2, d3, d4] }
  | _ => none }
def CoreKindsWrongFalsely : Prop := coreKindsRow.holds Tryd.pinned (OpenSpec.ofChange coreKindsWrong)

/-- 'patoislaw5.CoreMany': WHATEVER THE INPUT: true; the input reads as it did. -/
def coreManySpec : ChangeSpec := { name := "coreMany", fn := fun _ => fun
  | [d] => { results := [.lit (.bool true)], args := [d] }
  | _ => none }
def coreManyRow : OpenClaim := { program := "ytjhgljfmheopmaadoor", sum := "391a61449b237020896b0d2f4df0679306ad9bb1d251dfc75ed80793b27cfe2e", func := "patois/patoislaw5.CoreMany", spec := "coreMany", recurses := true, named := ["patois/api.ErrMany", "patois/api.ErrNode", "patois/api.ErrNest", "patois/api.ErrLong", "patois/api.ErrQuote", "patois/api.ErrParen", "patois/api.ErrBrace", "patois/api.ErrName", "patois/api.ErrToken", "patois/api.ErrForm", "patois/api.ErrEnd", "patois/api.ErrFuel", "patois/api.ErrDeep", "patois/api.ErrBig", "patois/api.ErrSay", "patois/api.ErrCode", "patois/api.ErrNumber"], apart := false, laid := [("patois/api.ErrLong", laid_patois_api_ErrLong), ("patois/api.ErrNest", laid_patois_api_ErrNest), ("patois/api.ErrQuote", laid_patois_api_ErrQuote), ("patois/api.ErrParen", laid_patois_api_ErrParen), ("patois/api.ErrBrace", laid_patois_api_ErrBrace), ("patois/api.ErrName", laid_patois_api_ErrName), ("patois/api.ErrToken", laid_patois_api_ErrToken), ("patois/api.ErrForm", laid_patois_api_ErrForm), ("patois/api.ErrEnd", laid_patois_api_ErrEnd), ("patois/api.ErrNode", laid_patois_api_ErrNode), ("patois/api.ErrMany", laid_patois_api_ErrMany), ("patois/api.ErrFuel", laid_patois_api_ErrFuel), ("patois/api.ErrDeep", laid_patois_api_ErrDeep), ("patois/api.ErrBig", laid_patois_api_ErrBig), ("patois/api.ErrSay", laid_patois_api_ErrSay), ("patois/api.ErrCode", laid_patois_api_ErrCode), ("patois/api.ErrNumber", laid_patois_api_ErrNumber)] }
def CoreManySaid : Prop := coreManyRow.holds Tryd.pinned (OpenSpec.ofChange coreManySpec)

/-- ITS FALSE NEIGHBOUR: 'it returns false'. Refute it at one input. -/
def coreManyWrong : ChangeSpec := { name := "coreMany", fn := fun _ => fun
  | [d] => { results := [.lit (.bool false)], args := [d] }
  | _ => none }
def CoreManyWrongFalsely : Prop := coreManyRow.holds Tryd.pinned (OpenSpec.ofChange coreManyWrong)

/-- 'patoislaw5.CoreNests': WHATEVER THE INPUT: true; the input reads as it did. -/
def coreNestsSpec : ChangeSpec := { name := "coreNests", fn := fun _ => fun
  | [d1, d2] => { results := [.lit (.bool true)], args := [d1, d2] }
  | _ => none }
def coreNestsRow : OpenClaim := { program := "ytjhgljfmheopmaadoor", sum := "391a61449b237020896b0d2f4df0679306ad9bb1d251dfc75ed80793b27cfe2e", func := "patois/patoislaw5.CoreNests", spec := "coreNests", recurses := true, named := ["patois/api.ErrMany", "patois/api.ErrNode", "patois/api.ErrNest", "patois/api.ErrLong", "patois/api.ErrQuote", "patois/api.ErrParen", "patois/api.ErrBrace", "patois/api.ErrName", "patois/api.ErrToken", "patois/api.ErrForm", "patois/api.ErrEnd", "patois/api.ErrFuel", "patois/api.ErrDeep", "patois/api.ErrBig", "patois/api.ErrSay", "patois/api.ErrCode", "patois/api.ErrNumber"], apart := false, laid := [("patois/api.ErrLong", laid_patois_api_ErrLong), ("patois/api.ErrNest", laid_patois_api_ErrNest), ("patois/api.ErrQuote", laid_patois_api_ErrQuote), ("patois/api.ErrParen", laid_patois_api_ErrParen), ("patois/api.ErrBrace", laid_patois_api_ErrBrace), ("patois/api.ErrName", laid_patois_api_ErrName), ("patois/api.ErrToken", laid_patois_api_ErrToken), ("patois/api.ErrForm", laid_patois_api_ErrForm), ("patois/api.ErrEnd", laid_patois_api_ErrEnd), ("patois/api.ErrNode", laid_patois_api_ErrNode), ("patois/api.ErrMany", laid_patois_api_ErrMany), ("patois/api.ErrFuel", laid_patois_api_ErrFuel), ("patois/api.ErrDeep", laid_patois_api_ErrDeep), ("patois/api.ErrBig", laid_patois_api_ErrBig), ("patois/api.ErrSay", laid_patois_api_ErrSay), ("patois/api.ErrCode", laid_patois_api_ErrCode), ("patois/api.ErrNumber", laid_patois_api_ErrNumber)] }
def CoreNestsSaid : Prop := coreNestsRow.holds Tryd.pinned (OpenSpec.ofChange coreNestsSpec)

/-- ITS FALSE NEIGHBOUR: 'it returns false'. Refute it at one input. -/
def coreNestsWrong : ChangeSpec := { name := "coreNests", fn := fun _ => fun
  | [d1, d2] => { results := [.lit (.bool false)], args := [d1, d2] }
  | _ => none }
def CoreNestsWrongFalsely : Prop := coreNestsRow.holds Tryd.pinned (OpenSpec.ofChange coreNestsWrong)

/-- 'patoislaw5.CoreMakes': WHATEVER THE INPUT: true; the input reads as it did. -/
def coreMakesSpec : ChangeSpec := { name := "coreMakes", fn := fun _ => fun
  | [d1, d2, d3, d4] => { results := [.lit (.bool true)], args := [d1, d2, d3, d4] }
  | _ => none }
def coreMakesRow : OpenClaim := { program := "ytjhgljfmheopmaadoor", sum := "391a61449b237020896b0d2f4df0679306ad9bb1d251dfc75ed80793b27cfe2e", func := "patois/patoislaw5.CoreMakes", spec := "coreMakes", recurses := true, named := ["patois/api.ErrMany", "patois/api.ErrNode", "patois/api.ErrNest", "patois/api.ErrLong", "patois/api.ErrQuote", "patois/api.ErrParen", "patois/api.ErrBrace", "patois/api.ErrName", "patois/api.ErrToken", "patois/api.ErrForm", "patois/api.ErrEnd", "patois/api.ErrFuel", "patois/api.ErrDeep", "patois/api.ErrBig", "patois/api.ErrSay", "patois/api.ErrCode", "patois/api.ErrNumber"], apart := false, laid := [("patois/api.ErrLong", laid_patois_api_ErrLong), ("patois/api.ErrNest", laid_patois_api_ErrNest), ("patois/api.ErrQuote", laid_patois_api_ErrQuote), ("patois/api.ErrParen", laid_patois_api_ErrParen), ("patois/api.ErrBrace", laid_patois_api_ErrBrace), ("patois/api.ErrName", laid_patois_api_ErrName), ("patois/api.ErrToken", laid_patois_api_ErrToken), ("patois/api.ErrForm", laid_patois_api_ErrForm), ("patois/api.ErrEnd", laid_patois_api_ErrEnd), ("patois/api.ErrNode", laid_patois_api_ErrNode), ("patois/api.ErrMany", laid_patois_api_ErrMany), ("patois/api.ErrFuel", laid_patois_api_ErrFuel), ("patois/api.ErrDeep", laid_patois_api_ErrDeep), ("patois/api.ErrBig", laid_patois_api_ErrBig), ("patois/api.ErrSay", laid_patois_api_ErrSay), ("patois/api.ErrCode", laid_patois_api_ErrCode), ("patois/api.ErrNumber", laid_patois_api_ErrNumber)] }
def CoreMakesSaid : Prop := coreMakesRow.holds Tryd.pinned (OpenSpec.ofChange coreMakesSpec)

/-- ITS FALSE NEIGHBOUR: 'it returns false'. Refute it at one input. -/
def coreMakesWrong : ChangeSpec := { name := "coreMakes", fn := fun _ => fun
  | [d1, d2, d3, d4] => { results := [.lit (.bool false)], args := [d1, d2, d3, d4] }
  | _ => none }
def CoreMakesWrongFalsely : Prop := coreMakesRow.holds Tryd.pinned (OpenSpec.ofChange coreMakesWrong)

/-- 'patoislaw5.CoreAgain': WHATEVER THE INPUT: true; the input reads as it did. -/
def coreAgainSpec : ChangeSpec := { name := "coreAgain", fn := fun _ => fun
  | [d] => { results := [.lit (.bool true)], args := [d] }
  | _ => none }
def coreAgainRow : OpenClaim := { program := "ytjhgljfmheopmaadoor", sum := "391a61449b237020896b0d2f4df0679306ad9bb1d251dfc75ed80793b27cfe2e", func := "patois/patoislaw5.CoreAgain", spec := "coreAgain", recurses := true, named := ["patois/api.ErrMany", "patois/api.ErrNode", "patois/api.ErrNest", "patois/api.ErrLong", "patois/api.ErrQuote", "patois/api.ErrParen", "patois/api.ErrBrace", "patois/api.ErrName", "patois/api.ErrToken", "patois/api.ErrForm", "patois/api.ErrEnd", "patois/api.ErrFuel", "patois/api.ErrDeep", "patois/api.ErrBig", "patois/api.ErrSay", "patois/api.ErrCode", "patois/api.ErrNumber"], apart := false, laid := [("patois/api.ErrLong", laid_patois_api_ErrLong), ("patois/api.ErrNest", laid_patois_api_ErrNest), ("patois/api.ErrQuote", laid_patois_api_ErrQuote), ("patois/api.ErrParen", laid_patois_api_ErrParen), ("patois/api.ErrBrace", laid_patois_api_ErrBrace), ("patois/api.ErrName", laid_patois_api_ErrName), ("patois/api.ErrToken", laid_patois_api_ErrToken), ("patois/api.ErrForm", laid_patois_api_ErrForm), ("patois/api.ErrEnd", laid_patois_api_ErrEnd), ("patois/api.ErrNode", laid_patois_api_ErrNode), ("patois/api.ErrMany", laid_patois_api_ErrMany), ("patois/api.ErrFuel", laid_patois_api_ErrFuel), ("patois/api.ErrDeep", laid_patois_api_ErrDeep), ("patois/api.ErrBig", laid_patois_api_ErrBig), ("patois/api.ErrSay", laid_patois_api_ErrSay), ("patois/api.ErrCode", laid_patois_api_ErrCode), ("patois/api.ErrNumber", laid_patois_api_ErrNumber)] }
def CoreAgainSaid : Prop := coreAgainRow.holds Tryd.pinned (OpenSpec.ofChange coreAgainSpec)

/-- ITS FALSE NEIGHBOUR: 'it returns false'. Refute it at one input. -/
def coreAgainWrong : ChangeSpec := { name := "coreAgain", fn := fun _ => fun
  | [d] => { results := [.lit (.bool false)], args := [d] }
  | _ => none }
def CoreAgainWrongFalsely : Prop := coreAgainRow.holds Tryd.pinned (OpenSpec.ofChange coreAgainWrong)

/-- 'patoislaw20.FuseOwn': WHATEVER THE INPUT: true; the input reads as it did. -/
def fuseOwnSpec : ChangeSpec := { name := "fuseOwn", fn := fun _ => fun
  | [d] => { results := [.lit (.bool true)], args := [d] }
  | _ => none }
def fuseOwnRow : OpenClaim := { program := "ytjhgljfmheopmaadoor", sum := "391a61449b237020896b0d2f4df0679306ad9bb1d251dfc75ed80793b27cfe2e", func := "patois/patoislaw20.FuseOwn", spec := "fuseOwn", recurses := true, named := ["patois/api.ErrMany", "patois/api.ErrNode", "patois/api.ErrNest"], apart := false, laid := [("patois/api.ErrNest", laid_patois_api_ErrNest), ("patois/api.ErrNode", laid_patois_api_ErrNode), ("patois/api.ErrMany", laid_patois_api_ErrMany)] }
def FuseOwnSaid : Prop := fuseOwnRow.holds Tryd.pinned (OpenSpec.ofChange fuseOwnSpec)

/-- ITS FALSE NEIGHBOUR: 'it returns false'. Refute it at one input. -/
def fuseOwnWrong : ChangeSpec := { name := "fuseOwn", fn := fun _ => fun
  | [d] => { results := [.lit (.bool false)], args := [d] }
  | _ => none }
def FuseOwnWrongFalsely : Prop := fuseOwnRow.holds Tryd.pinned (OpenSpec.ofChange fuseOwnWrong)

/-- 'patoislaw20.FuseFlat': WHATEVER THE INPUT: true; the input reads as it did. -/
def fuseFlatSpec : ChangeSpec := { name := "fuseFlat", fn := fun _ => fun
  | [d] => { results := [.lit (.bool true)], args := [d] }
  | _ => none }
def fuseFlatRow : OpenClaim := { program := "ytjhgljfmheopmaadoor", sum := "391a61449b237020896b0d2f4df0679306ad9bb1d251dfc75ed80793b27cfe2e", func := "patois/patoislaw20.FuseFlat", spec := "fuseFlat", recurses := true, named := ["patois/api.ErrMany", "patois/api.ErrNode", "patois/api.ErrNest"], apart := false, laid := [("patois/api.ErrNest", laid_patois_api_ErrNest), ("patois/api.ErrNode", laid_patois_api_ErrNode), ("patois/api.ErrMany", laid_patois_api_ErrMany)] }
def FuseFlatSaid : Prop := fuseFlatRow.holds Tryd.pinned (OpenSpec.ofChange fuseFlatSpec)

/-- ITS FALSE NEIGHBOUR: 'it returns false'. Refute it at one input. -/
def fuseFlatWrong : ChangeSpec := { name := "fuseFlat", fn := fun _ => fun
  | [d] => { results := [.lit (.bool false)], args := [d] }
  | _ => none }
def FuseFlatWrongFalsely : Prop := fuseFlatRow.holds Tryd.pinned (OpenSpec.ofChange fuseFlatWrong)

/-- 'patoislaw20.FuseMany': WHATEVER THE INPUT: true; the input reads as it did. -/
def fuseManySpec : ChangeSpec := { name := "fuseMany", fn := fun _ => fun
  | [d1, d2] => { results := [.lit (.bool true)], args := [d1, d2] }
  | _ => none }
def fuseManyRow : OpenClaim := { program := "ytjhgljfmheopmaadoor", sum := "391a61449b237020896b0d2f4df0679306ad9bb1d251dfc75ed80793b27cfe2e", func := "patois/patoislaw20.FuseMany", spec := "fuseMany", recurses := true, named := ["patois/api.ErrMany", "patois/api.ErrNode", "patois/api.ErrNest"], apart := false, laid := [("patois/api.ErrNest", laid_patois_api_ErrNest), ("patois/api.ErrNode", laid_patois_api_ErrNode), ("patois/api.ErrMany", laid_patois_api_ErrMany)] }
def FuseManySaid : Prop := fuseManyRow.holds Tryd.pinned (OpenSpec.ofChange fuseManySpec)

/-- ITS FALSE NEIGHBOUR: 'it returns false'. Refute it at one input. -/
def fuseManyWrong : ChangeSpec := { name := "fuseMany", fn := fun _ => fun
  | [d1, d2] => { results := [.lit (.bool false)], args := [d1, d2] }
  | _ => none }
def FuseManyWrongFalsely : Prop := fuseManyRow.holds Tryd.pinned (OpenSpec.ofChange fuseManyWrong)

/-- 'patoislaw18.DeadOwn': WHATEVER THE INPUT: true; the input reads as it did. -/
def deadOwnSpec : ChangeSpec := { name := "deadOwn", fn := fun _ => fun
  | [d] => { results := [.lit (.bool true)], args := [d] }
  | _ => none }
def deadOwnRow : OpenClaim := { program := "ytjhgljfmheopmaadoor", sum := "391a61449b237020896b0d2f4df0679306ad9bb1d251dfc75ed80793b27cfe2e", func := "patois/patoislaw18.DeadOwn", spec := "deadOwn", unfollowed := true, recurses := true, named := ["patois/api.ErrMany", "patois/api.ErrNode", "patois/api.ErrNest"], apart := false, laid := [("patois/api.ErrNest", laid_patois_api_ErrNest), ("patois/api.ErrNode", laid_patois_api_ErrNode), ("patois/api.ErrMany", laid_patois_api_ErrMany)] }
def DeadOwnSaid : Prop := deadOwnRow.holds Tryd.pinned (OpenSpec.ofChange deadOwnSpec)

/-- ITS FALSE NEIGHBOUR: 'it returns false'. Refute it at one input. -/
def deadOwnWrong : ChangeSpec := { name := "deadOwn", fn := fun _ => fun
  | [d] => { results := [.lit (.bool false)], args := [d] }
  | _ => none }
def DeadOwnWrongFalsely : Prop := deadOwnRow.holds Tryd.pinned (OpenSpec.ofChange deadOwnWrong)

/-- 'patoislaw18.DeadAgain': WHATEVER THE INPUT: true; the input reads as it did. -/
def deadAgainSpec : ChangeSpec := { name := "deadAgain", fn := fun _ => fun
  | [d] => { results := [.lit (.bool true)], args := [d] }
  | _ => none }
def deadAgainRow : OpenClaim := { program := "ytjhgljfmheopmaadoor", sum := "391a61449b237020896b0d2f4df0679306ad9bb1d251dfc75ed80793b27cfe2e", func := "patois/patoislaw18.DeadAgain", spec := "deadAgain", unfollowed := true, recurses := true, named := ["patois/api.ErrMany", "patois/api.ErrNode", "patois/api.ErrNest"], apart := false, laid := [("patois/api.ErrNest", laid_patois_api_ErrNest), ("patois/api.ErrNode", laid_patois_api_ErrNode), ("patois/api.ErrMany", laid_patois_api_ErrMany)] }
def DeadAgainSaid : Prop := deadAgainRow.holds Tryd.pinned (OpenSpec.ofChange deadAgainSpec)

/-- ITS FALSE NEIGHBOUR: 'it returns false'. Refute it at one input. -/
def deadAgainWrong : ChangeSpec := { name := "deadAgain", fn := fun _ => fun
  | [d] => { results := [.lit (.bool false)], args := [d] }
  | _ => none }
def DeadAgainWrongFalsely : Prop := deadAgainRow.holds Tryd.pinned (OpenSpec.ofChange deadAgainWrong)

/-- 'patoislaw18.DeadKeeps': WHATEVER THE INPUT: true; the input reads as it did. -/
def deadKeepsSpec : ChangeSpec := { name := "deadKeeps", fn := fun _ => fun
  | [d1, d2] => { results := [.lit (.bool true)], args := [d1, d2] }
  | _ => none }
def deadKeepsRow : OpenClaim := { program := "ytjhgljfmheopmaadoor", sum := "391a61449b237020896b0d2f4df0679306ad9bb1d251dfc75ed80793b27cfe2e", func := "patois/patoislaw18.DeadKeeps", spec := "deadKeeps", unfollowed := true, recurses := true, named := ["patois/api.ErrMany", "patois/api.ErrNode", "patois/api.ErrNest"], apart := false, laid := [("patois/api.ErrNest", laid_patois_api_ErrNest), ("patois/api.ErrNode", laid_patois_api_ErrNode), ("patois/api.ErrMany", laid_patois_api_ErrMany)] }
def DeadKeepsSaid : Prop := deadKeepsRow.holds Tryd.pinned (OpenSpec.ofChange deadKeepsSpec)

/-- ITS FALSE NEIGHBOUR: 'it returns false'. Refute it at one input. -/
def deadKeepsWrong : ChangeSpec := { name := "deadKeeps", fn := fun _ => fun
  | [d1, d2] => { results := [.lit (.bool false)], args := [d1, d2] }
  | _ => none }
def DeadKeepsWrongFalsely : Prop := deadKeepsRow.holds Tryd.pinned (OpenSpec.ofChange deadKeepsWrong)

/-- 'patoislaw18.DeadSilent': WHATEVER THE INPUT: true; the input reads as it did. -/
def deadSilentSpec : ChangeSpec := { name := "deadSilent", fn := fun _ => fun
  | [d] => { results := [.lit (.bool true)], args := [d] }
  | _ => none }
def deadSilentRow : OpenClaim := { program := "ytjhgljfmheopmaadoor", sum := "391a61449b237020896b0d2f4df0679306ad9bb1d251dfc75ed80793b27cfe2e", func := "patois/patoislaw18.DeadSilent", spec := "deadSilent", unfollowed := true, recurses := true, named := ["patois/api.ErrMany", "patois/api.ErrNode", "patois/api.ErrNest"], apart := false, laid := [("patois/api.ErrNest", laid_patois_api_ErrNest), ("patois/api.ErrNode", laid_patois_api_ErrNode), ("patois/api.ErrMany", laid_patois_api_ErrMany)] }
def DeadSilentSaid : Prop := deadSilentRow.holds Tryd.pinned (OpenSpec.ofChange deadSilentSpec)

/-- ITS FALSE NEIGHBOUR: 'it returns false'. Refute it at one input. -/
def deadSilentWrong : ChangeSpec := { name := "deadSilent", fn := fun _ => fun
  | [d] => { results := [.lit (.bool false)], args := [d] }
  | _ => none }
def DeadSilentWrongFalsely : Prop := deadSilentRow.holds Tryd.pinned (OpenSpec.ofChange deadSilentWrong)

/- THE SECOND FORM. 'bulk': how many values and letters a reading holds, each counted each time it is reached (what is shared counts as often as it is met; a slice's spare places count too). A statement '..UptoSaid' is the law's where the arguments, and the package variables that the reading takes, are together of bulk at most 1048576: NARROWER than '..Said'. Prove '..Said' where nothing that the law and all that it calls make is longer than what came in: it says more and counts as full. Else prove '..UptoSaid'. A law counts once. -/
mutual
def uptoBulk {H : Type} : DataW H → Nat
  | .lit (.string bytes) => bytes.length + 1
  | .lit _ => 1
  | .nil => 1
  | .ptr d => uptoBulk d + 1
  | .slice elems spare => uptoBulkAll elems + uptoBulkAll spare + 1
  | .agg parts => uptoBulkAll parts + 1
  | .iface _ d => uptoBulk d + 1
  | .map entries => uptoBulkEntries entries + 1
  | .held _ => 1
def uptoBulkAll {H : Type} : List (DataW H) → Nat
  | [] => 0
  | d :: r => uptoBulk d + uptoBulkAll r
def uptoBulkEntries {H : Type} : List (Lit × DataW H) → Nat
  | [] => 0
  | x :: r => uptoBulkEntry x + uptoBulkEntries r
def uptoBulkEntry {H : Type} : Lit × DataW H → Nat
  | (.string bytes, d) => bytes.length + uptoBulk d + 1
  | (_, d) => uptoBulk d + 1
 end
def uptoSmall : (H : Type) → List (DataW H) → Bool := fun _ ds => decide (uptoBulkAll ds ≤ 1048576)
def OpenSpec.upto (s : _root_.Go.ChangeSpec) : _root_.Go.OpenSpec := { _root_.Go.OpenSpec.ofChange s with cond := some uptoSmall }

/-- 'patoislaw5.CoreKinds', WHERE WHAT IT READS IS OF BULK AT MOST 1048576: true; the input reads as it did. -/
def coreKindsUptoRow : OpenClaim := { program := "ytjhgljfmheopmaadoor", sum := "391a61449b237020896b0d2f4df0679306ad9bb1d251dfc75ed80793b27cfe2e", func := "patois/patoislaw5.CoreKinds", spec := "coreKinds", recurses := true, named := ["patois/api.ErrMany", "patois/api.ErrNode", "patois/api.ErrNest", "patois/api.ErrLong", "patois/api.ErrQuote", "patois/api.ErrParen", "patois/api.ErrBrace", "patois/api.ErrName", "patois/api.ErrToken", "patois/api.ErrForm", "patois/api.ErrEnd", "patois/api.ErrFuel", "patois/api.ErrDeep", "patois/api.ErrBig", "patois/api.ErrSay", "patois/api.ErrCode", "patois/api.ErrNumber"], apart := false, laid := [("patois/api.ErrLong", laid_patois_api_ErrLong), ("patois/api.ErrNest", laid_patois_api_ErrNest), ("patois/api.ErrQuote", laid_patois_api_ErrQuote), ("patois/api.ErrParen", laid_patois_api_ErrParen), ("patois/api.ErrBrace", laid_patois_api_ErrBrace), ("patois/api.ErrName", laid_patois_api_ErrName), ("patois/api.ErrToken", laid_patois_api_ErrToken), ("patois/api.ErrForm", laid_patois_api_ErrForm), ("patois/api.ErrEnd", laid_patois_api_ErrEnd), ("patois/api.ErrNode", laid_patois_api_ErrNode), ("patois/api.ErrMany", laid_patois_api_ErrMany), ("patois/api.ErrFuel", laid_patois_api_ErrFuel), ("patois/api.ErrDeep", laid_patois_api_ErrDeep), ("patois/api.ErrBig", laid_patois_api_ErrBig), ("patois/api.ErrSay", laid_patois_api_ErrSay), ("patois/api.ErrCode", laid_patois_api_ErrCode), ("patois/api.ErrNumber", laid_patois_api_ErrNumber)], narrowed := true }
def CoreKindsUptoSaid : Prop := coreKindsUptoRow.holds Tryd.pinned (OpenSpec.upto coreKindsSpec)

/-- 'patoislaw5.CoreMany', WHERE WHAT IT READS IS OF BULK AT MOST 1048576: true; the input reads as it did. -/
def coreManyUptoRow : OpenClaim := { program := "ytjhgljfmheopmaadoor", sum := "391a61449b237020896b0d2f4df0679306ad9bb1d251dfc75ed80793b27cfe2e", func := "patois/patoislaw5.CoreMany", spec := "coreMany", recurses := true, named := ["patois/api.ErrMany", "patois/api.ErrNode", "patois/api.ErrNest", "patois/api.ErrLong", "patois/api.ErrQuote", "patois/api.ErrParen", "patois/api.ErrBrace", "patois/api.ErrName", "patois/api.ErrToken", "patois/api.ErrForm", "patois/api.ErrEnd", "patois/api.ErrFuel", "patois/api.ErrDeep", "patois/api.ErrBig", "patois/api.ErrSay", "patois/api.ErrCode", "patois/api.ErrNumber"], apart := false, laid := [("patois/api.ErrLong", laid_patois_api_ErrLong), ("patois/api.ErrNest", laid_patois_api_ErrNest), ("patois/api.ErrQuote", laid_patois_api_ErrQuote), ("patois/api.ErrParen", laid_patois_api_ErrParen), ("patois/api.ErrBrace", laid_patois_api_ErrBrace), ("patois/api.ErrName", laid_patois_api_ErrName), ("patois/api.ErrToken", laid_patois_api_ErrToken), ("patois/api.ErrForm", laid_patois_api_ErrForm), ("patois/api.ErrEnd", laid_patois_api_ErrEnd), ("patois/api.ErrNode", laid_patois_api_ErrNode), ("patois/api.ErrMany", laid_patois_api_ErrMany), ("patois/api.ErrFuel", laid_patois_api_ErrFuel), ("patois/api.ErrDeep", laid_patois_api_ErrDeep), ("patois/api.ErrBig", laid_patois_api_ErrBig), ("patois/api.ErrSay", laid_patois_api_ErrSay), ("patois/api.ErrCode", laid_patois_api_ErrCode), ("patois/api.ErrNumber", laid_patois_api_ErrNumber)], narrowed := true }
def CoreManyUptoSaid : Prop := coreManyUptoRow.holds Tryd.pinned (OpenSpec.upto coreManySpec)

/-- 'patoislaw5.CoreNests', WHERE WHAT IT READS IS OF BULK AT MOST 1048576: true; the input reads as it did. -/
def coreNestsUptoRow : OpenClaim := { program := "ytjhgljfmheopmaadoor", sum := "391a61449b237020896b0d2f4df0679306ad9bb1d251dfc75ed80793b27cfe2e", func := "patois/patoislaw5.CoreNests", spec := "coreNests", recurses := true, named := ["patois/api.ErrMany", "patois/api.ErrNode", "patois/api.ErrNest", "patois/api.ErrLong", "patois/api.ErrQuote", "patois/api.ErrParen", "patois/api.ErrBrace", "patois/api.ErrName", "patois/api.ErrToken", "patois/api.ErrForm", "patois/api.ErrEnd", "patois/api.ErrFuel", "patois/api.ErrDeep", "patois/api.ErrBig", "patois/api.ErrSay", "patois/api.ErrCode", "patois/api.ErrNumber"], apart := false, laid := [("patois/api.ErrLong", laid_patois_api_ErrLong), ("patois/api.ErrNest", laid_patois_api_ErrNest), ("patois/api.ErrQuote", laid_patois_api_ErrQuote), ("patois/api.ErrParen", laid_patois_api_ErrParen), ("patois/api.ErrBrace", laid_patois_api_ErrBrace), ("patois/api.ErrName", laid_patois_api_ErrName), ("patois/api.ErrToken", laid_patois_api_ErrToken), ("patois/api.ErrForm", laid_patois_api_ErrForm), ("patois/api.ErrEnd", laid_patois_api_ErrEnd), ("patois/api.ErrNode", laid_patois_api_ErrNode), ("patois/api.ErrMany", laid_patois_api_ErrMany), ("patois/api.ErrFuel", laid_patois_api_ErrFuel), ("patois/api.ErrDeep", laid_patois_api_ErrDeep), ("patois/api.ErrBig", laid_patois_api_ErrBig), ("patois/api.ErrSay", laid_patois_api_ErrSay), ("patois/api.ErrCode", laid_patois_api_ErrCode), ("patois/api.ErrNumber", laid_patois_api_ErrNumber)], narrowed := true }
def CoreNestsUptoSaid : Prop := coreNestsUptoRow.holds Tryd.pinned (OpenSpec.upto coreNestsSpec)

/-- 'patoislaw5.CoreMakes', WHERE WHAT IT READS IS OF BULK AT MOST 1048576: true; the input reads as it did. -/
def coreMakesUptoRow : OpenClaim := { program := "ytjhgljfmheopmaadoor", sum := "391a61449b237020896b0d2f4df0679306ad9bb1d251dfc75ed80793b27cfe2e", func := "patois/patoislaw5.CoreMakes", spec := "coreMakes", recurses := true, named := ["patois/api.ErrMany", "patois/api.ErrNode", "patois/api.ErrNest", "patois/api.ErrLong", "patois/api.ErrQuote", "patois/api.ErrParen", "patois/api.ErrBrace", "patois/api.ErrName", "patois/api.ErrToken", "patois/api.ErrForm", "patois/api.ErrEnd", "patois/api.ErrFuel", "patois/api.ErrDeep", "patois/api.ErrBig", "patois/api.ErrSay", "patois/api.ErrCode", "patois/api.ErrNumber"], apart := false, laid := [("patois/api.ErrLong", laid_patois_api_ErrLong), ("patois/api.ErrNest", laid_patois_api_ErrNest), ("patois/api.ErrQuote", laid_patois_api_ErrQuote), ("patois/api.ErrParen", laid_patois_api_ErrParen), ("patois/api.ErrBrace", laid_patois_api_ErrBrace), ("patois/api.ErrName", laid_patois_api_ErrName), ("patois/api.ErrToken", laid_patois_api_ErrToken), ("patois/api.ErrForm", laid_patois_api_ErrForm), ("patois/api.ErrEnd", laid_patois_api_ErrEnd), ("patois/api.ErrNode", laid_patois_api_ErrNode), ("patois/api.ErrMany", laid_patois_api_ErrMany), ("patois/api.ErrFuel", laid_patois_api_ErrFuel), ("patois/api.ErrDeep", laid_patois_api_ErrDeep), ("patois/api.ErrBig", laid_patois_api_ErrBig), ("patois/api.ErrSay", laid_patois_api_ErrSay), ("patois/api.ErrCode", laid_patois_api_ErrCode), ("patois/api.ErrNumber", laid_patois_api_ErrNumber)], narrowed := true }
def CoreMakesUptoSaid : Prop := coreMakesUptoRow.holds Tryd.pinned (OpenSpec.upto coreMakesSpec)

/-- 'patoislaw5.CoreAgain', WHERE WHAT IT READS IS OF BULK AT MOST 1048576: true; the input reads as it did. -/
def coreAgainUptoRow : OpenClaim := { program := "ytjhgljfmheopmaadoor", sum := "391a61449b237020896b0d2f4df0679306ad9bb1d251dfc75ed80793b27cfe2e", func := "patois/patoislaw5.CoreAgain", spec := "coreAgain", recurses := true, named := ["patois/api.ErrMany", "patois/api.ErrNode", "patois/api.ErrNest", "patois/api.ErrLong", "patois/api.ErrQuote", "patois/api.ErrParen", "patois/api.ErrBrace", "patois/api.ErrName", "patois/api.ErrToken", "patois/api.ErrForm", "patois/api.ErrEnd", "patois/api.ErrFuel", "patois/api.ErrDeep", "patois/api.ErrBig", "patois/api.ErrSay", "patois/api.ErrCode", "patois/api.ErrNumber"], apart := false, laid := [("patois/api.ErrLong", laid_patois_api_ErrLong), ("patois/api.ErrNest", laid_patois_api_ErrNest), ("patois/api.ErrQuote", laid_patois_api_ErrQuote), ("patois/api.ErrParen", laid_patois_api_ErrParen), ("patois/api.ErrBrace", laid_patois_api_ErrBrace), ("patois/api.ErrName", laid_patois_api_ErrName), ("patois/api.ErrToken", laid_patois_api_ErrToken), ("patois/api.ErrForm", laid_patois_api_ErrForm), ("patois/api.ErrEnd", laid_patois_api_ErrEnd), ("patois/api.ErrNode", laid_patois_api_ErrNode), ("patois/api.ErrMany", laid_patois_api_ErrMany), ("patois/api.ErrFuel", laid_patois_api_ErrFuel), ("patois/api.ErrDeep", laid_patois_api_ErrDeep), ("patois/api.ErrBig", laid_patois_api_ErrBig), ("patois/api.ErrSay", laid_patois_api_ErrSay), ("patois/api.ErrCode", laid_patois_api_ErrCode), ("patois/api.ErrNumber", laid_patois_api_ErrNumber)], narrowed := true }
def CoreAgainUptoSaid : Prop := coreAgainUptoRow.holds Tryd.pinned (OpenSpec.upto coreAgainSpec)

/-- 'patoislaw20.FuseOwn', WHERE WHAT IT READS IS OF BULK AT MOST 1048576: true; the input reads as it did. -/
def fuseOwnUptoRow : OpenClaim := { program := "ytjhgljfmheopmaadoor", sum := "391a61449b237020896b0d2f4df0679306ad9bb1d251dfc75ed80793b27cfe2e", func := "patois/patoislaw20.FuseOwn", spec := "fuseOwn", recurses := true, named := ["patois/api.ErrMany", "patois/api.ErrNode", "patois/api.ErrNest"], apart := false, laid := [("patois/api.ErrNest", laid_patois_api_ErrNest), ("patois/api.ErrNode", laid_patois_api_ErrNode), ("patois/api.ErrMany", laid_patois_api_ErrMany)], narrowed := true }
def FuseOwnUptoSaid : Prop := fuseOwnUptoRow.holds Tryd.pinned (OpenSpec.upto fuseOwnSpec)

/-- 'patoislaw20.FuseFlat', WHERE WHAT IT READS IS OF BULK AT MOST 1048576: true; the input reads as it did. -/
def fuseFlatUptoRow : OpenClaim := { program := "ytjhgljfmheopmaadoor", sum := "391a61449b237020896b0d2f4df0679306ad9bb1d251dfc75ed80793b27cfe2e", func := "patois/patoislaw20.FuseFlat", spec := "fuseFlat", recurses := true, named := ["patois/api.ErrMany", "patois/api.ErrNode", "patois/api.ErrNest"], apart := false, laid := [("patois/api.ErrNest", laid_patois_api_ErrNest), ("patois/api.ErrNode", laid_patois_api_ErrNode), ("patois/api.ErrMany", laid_patois_api_ErrMany)], narrowed := true }
def FuseFlatUptoSaid : Prop := fuseFlatUptoRow.holds Tryd.pinned (OpenSpec.upto fuseFlatSpec)

/-- 'patoislaw20.FuseMany', WHERE WHAT IT READS IS OF BULK AT MOST 1048576: true; the input reads as it did. -/
def fuseManyUptoRow : OpenClaim := { program := "ytjhgljfmheopmaadoor", sum := "391a61449b237020896b0d2f4df0679306ad9bb1d251dfc75ed80793b27cfe2e", func := "patois/patoislaw20.FuseMany", spec := "fuseMany", recurses := true, named := ["patois/api.ErrMany", "patois/api.ErrNode", "patois/api.ErrNest"], apart := false, laid := [("patois/api.ErrNest", laid_patois_api_ErrNest), ("patois/api.ErrNode", laid_patois_api_ErrNode), ("patois/api.ErrMany", laid_patois_api_ErrMany)], narrowed := true }
def FuseManyUptoSaid : Prop := fuseManyUptoRow.holds Tryd.pinned (OpenSpec.upto fuseManySpec)

/-- 'patoislaw18.DeadOwn', WHERE WHAT IT READS IS OF BULK AT MOST 1048576: true; the input reads as it did. -/
def deadOwnUptoRow : OpenClaim := { program := "ytjhgljfmheopmaadoor", sum := "391a61449b237020896b0d2f4df0679306ad9bb1d251dfc75ed80793b27cfe2e", func := "patois/patoislaw18.DeadOwn", spec := "deadOwn", unfollowed := true, recurses := true, named := ["patois/api.ErrMany", "patois/api.ErrNode", "patois/api.ErrNest"], apart := false, laid := [("patois/api.ErrNest", laid_patois_api_ErrNest), ("patois/api.ErrNode", laid_patois_api_ErrNode), ("patois/api.ErrMany", laid_patois_api_ErrMany)], narrowed := true }
def DeadOwnUptoSaid : Prop := deadOwnUptoRow.holds Tryd.pinned (OpenSpec.upto deadOwnSpec)

/-- 'patoislaw18.DeadAgain', WHERE WHAT IT READS IS OF BULK AT MOST 1048576: true; the input reads as it did. -/
def deadAgainUptoRow : OpenClaim := { program := "ytjhgljfmheopmaadoor", sum := "391a61449b237020896b0d2f4df0679306ad9bb1d251dfc75ed80793b27cfe2e", func := "patois/patoislaw18.DeadAgain", spec := "deadAgain", unfollowed := true, recurses := true, named := ["patois/api.ErrMany", "patois/api.ErrNode", "patois/api.ErrNest"], apart := false, laid := [("patois/api.ErrNest", laid_patois_api_ErrNest), ("patois/api.ErrNode", laid_patois_api_ErrNode), ("patois/api.ErrMany", laid_patois_api_ErrMany)], narrowed := true }
def DeadAgainUptoSaid : Prop := deadAgainUptoRow.holds Tryd.pinned (OpenSpec.upto deadAgainSpec)

/-- 'patoislaw18.DeadKeeps', WHERE WHAT IT READS IS OF BULK AT MOST 1048576: true; the input reads as it did. -/
def deadKeepsUptoRow : OpenClaim := { program := "ytjhgljfmheopmaadoor", sum := "391a61449b237020896b0d2f4df0679306ad9bb1d251dfc75ed80793b27cfe2e", func := "patois/patoislaw18.DeadKeeps", spec := "deadKeeps", unfollowed := true, recurses := true, named := ["patois/api.ErrMany", "patois/api.ErrNode", "patois/api.ErrNest"], apart := false, laid := [("patois/api.ErrNest", laid_patois_api_ErrNest), ("patois/api.ErrNode", laid_patois_api_ErrNode), ("patois/api.ErrMany", laid_patois_api_ErrMany)], narrowed := true }
def DeadKeepsUptoSaid : Prop := deadKeepsUptoRow.holds Tryd.pinned (OpenSpec.upto deadKeepsSpec)

/-- 'patoislaw18.DeadSilent', WHERE WHAT IT READS IS OF BULK AT MOST 1048576: true; the input reads as it did. -/
def deadSilentUptoRow : OpenClaim := { program := "ytjhgljfmheopmaadoor", sum := "391a61449b237020896b0d2f4df0679306ad9bb1d251dfc75ed80793b27cfe2e", func := "patois/patoislaw18.DeadSilent", spec := "deadSilent", unfollowed := true, recurses := true, named := ["patois/api.ErrMany", "patois/api.ErrNode", "patois/api.ErrNest"], apart := false, laid := [("patois/api.ErrNest", laid_patois_api_ErrNest), ("patois/api.ErrNode", laid_patois_api_ErrNode), ("patois/api.ErrMany", laid_patois_api_ErrMany)], narrowed := true }
def DeadSilentUptoSaid : Prop := deadSilentUptoRow.holds Tryd.pinned (OpenSpec.upto deadSilentSpec)

end Rows
end Go.Proofs.YtjhgljfmheopmaaDoor
