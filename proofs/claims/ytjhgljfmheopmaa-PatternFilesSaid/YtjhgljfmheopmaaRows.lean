/-
  No cell of these rows narrows 'for every input' (looked for: loops, veiled, ifaces, maps, wideKeys, modest, calm, conditions, laid).
  DERIVED. THE GIVEN ROWS OF THIS SEAT. 6 by the template 'for every input the law returns true; each argument reads behind the call as it read before'; 0 by the template 'total and deterministic' (their statements: YtjhgljfmheopmaaTotals.lean).
  GIVEN WITH THE SEED: the statements are not yours to turn. If you find one false, say at which input.
  Laid BY PROGRAM, IN A SANDBOX (cutbox-rows.mjs): the forced cells as the released guide's own fill.sh prints them over the translation a3f64c64e51d2385… (all of the seat's roots in one cut). By AI agents, Wed Nov 11 2026. No macro, syntax, notation, axiom, sorry.
-/
import Derived.Test.YtjhgljfmheopmaaChecked
import GoSem.Claim
import GoSem.ClaimJoined
import GoSem.ClaimMapViews
import Derived.JoinedTies
import Derived.KernelRfl
namespace Go.Proofs.Ytjhgljfmheopmaa
/- THE CELL 'sum', in the pinned program and in every row, IS THE sha256 OF THE DUMP (.gsa) THAT YtjhgljfmheopmaaProg.lean LOADS. Nothing in Lean hashes anything: it is a label: what it is worth is what the hold of that sum in a sandbox is worth. -/
noncomputable def Try.pinned : Pinned := { name := "ytjhgljfmheopmaa", sum := "a3f64c64e51d23856685235f2c471f7890e19739d04324b2f8c9576e17cd8b07", checked := Try.checked }
namespace Rows
def none {H : Type} : Left H := { results := [], args := [] }

/-- 'patoislaw2.PatternSets': WHATEVER THE INPUT: true; the input reads as it did. -/
def patternSetsSpec : ChangeSpec := { name := "patternSets", fn := fun _ => fun
  | [d1, d2, d3, d4] => { results := [.lit (.bool true)], args := [d1, d2, d3, d4] }
  | _ => none }
def patternSetsRow : OpenClaim := { program := "ytjhgljfmheopmaa", sum := "a3f64c64e51d23856685235f2c471f7890e19739d04324b2f8c9576e17cd8b07", func := "patois/patoislaw2.PatternSets", spec := "patternSets", inPlace := ["internal/bytealg.IndexByteString", "internal/abi.NoEscape"], apart := false }
def PatternSetsSaid : Prop := patternSetsRow.holds Try.pinned (OpenSpec.ofChange patternSetsSpec)

/-- ITS FALSE NEIGHBOUR: 'it returns false'. Refute it at one input. -/
def patternSetsWrong : ChangeSpec := { name := "patternSets", fn := fun _ => fun
  | [d1, d2, d3, d4] => { results := [.lit (.bool false)], args := [d1, d2, d3, d4] }
  | _ => none }
def PatternSetsWrongFalsely : Prop := patternSetsRow.holds Try.pinned (OpenSpec.ofChange patternSetsWrong)

/-- 'patoislaw2.PatternEscapes': WHATEVER THE INPUT: true; the input reads as it did. -/
def patternEscapesSpec : ChangeSpec := { name := "patternEscapes", fn := fun _ => fun
  | [d1, d2] => { results := [.lit (.bool true)], args := [d1, d2] }
  | _ => none }
def patternEscapesRow : OpenClaim := { program := "ytjhgljfmheopmaa", sum := "a3f64c64e51d23856685235f2c471f7890e19739d04324b2f8c9576e17cd8b07", func := "patois/patoislaw2.PatternEscapes", spec := "patternEscapes", inPlace := ["internal/bytealg.IndexByteString", "internal/abi.NoEscape"], apart := false }
def PatternEscapesSaid : Prop := patternEscapesRow.holds Try.pinned (OpenSpec.ofChange patternEscapesSpec)

/-- ITS FALSE NEIGHBOUR: 'it returns false'. Refute it at one input. -/
def patternEscapesWrong : ChangeSpec := { name := "patternEscapes", fn := fun _ => fun
  | [d1, d2] => { results := [.lit (.bool false)], args := [d1, d2] }
  | _ => none }
def PatternEscapesWrongFalsely : Prop := patternEscapesRow.holds Try.pinned (OpenSpec.ofChange patternEscapesWrong)

/-- 'patoislaw2.PatternStars': WHATEVER THE INPUT: true; the input reads as it did. -/
def patternStarsSpec : ChangeSpec := { name := "patternStars", fn := fun _ => fun
  | [d1, d2, d3] => { results := [.lit (.bool true)], args := [d1, d2, d3] }
  | _ => none }
def patternStarsRow : OpenClaim := { program := "ytjhgljfmheopmaa", sum := "a3f64c64e51d23856685235f2c471f7890e19739d04324b2f8c9576e17cd8b07", func := "patois/patoislaw2.PatternStars", spec := "patternStars", inPlace := ["internal/bytealg.IndexByteString", "internal/abi.NoEscape"], apart := false }
def PatternStarsSaid : Prop := patternStarsRow.holds Try.pinned (OpenSpec.ofChange patternStarsSpec)

/-- ITS FALSE NEIGHBOUR: 'it returns false'. Refute it at one input. -/
def patternStarsWrong : ChangeSpec := { name := "patternStars", fn := fun _ => fun
  | [d1, d2, d3] => { results := [.lit (.bool false)], args := [d1, d2, d3] }
  | _ => none }
def PatternStarsWrongFalsely : Prop := patternStarsRow.holds Try.pinned (OpenSpec.ofChange patternStarsWrong)

/-- 'patoislaw2.PatternParts': WHATEVER THE INPUT: true; the input reads as it did. -/
def patternPartsSpec : ChangeSpec := { name := "patternParts", fn := fun _ => fun
  | [d1, d2, d3] => { results := [.lit (.bool true)], args := [d1, d2, d3] }
  | _ => none }
def patternPartsRow : OpenClaim := { program := "ytjhgljfmheopmaa", sum := "a3f64c64e51d23856685235f2c471f7890e19739d04324b2f8c9576e17cd8b07", func := "patois/patoislaw2.PatternParts", spec := "patternParts", inPlace := ["internal/bytealg.IndexByteString", "internal/abi.NoEscape"], apart := false }
def PatternPartsSaid : Prop := patternPartsRow.holds Try.pinned (OpenSpec.ofChange patternPartsSpec)

/-- ITS FALSE NEIGHBOUR: 'it returns false'. Refute it at one input. -/
def patternPartsWrong : ChangeSpec := { name := "patternParts", fn := fun _ => fun
  | [d1, d2, d3] => { results := [.lit (.bool false)], args := [d1, d2, d3] }
  | _ => none }
def PatternPartsWrongFalsely : Prop := patternPartsRow.holds Try.pinned (OpenSpec.ofChange patternPartsWrong)

/-- 'patoislaw2.PatternFiles': WHATEVER THE INPUT: true; the input reads as it did. -/
def patternFilesSpec : ChangeSpec := { name := "patternFiles", fn := fun _ => fun
  | [d1, d2] => { results := [.lit (.bool true)], args := [d1, d2] }
  | _ => none }
def patternFilesRow : OpenClaim := { program := "ytjhgljfmheopmaa", sum := "a3f64c64e51d23856685235f2c471f7890e19739d04324b2f8c9576e17cd8b07", func := "patois/patoislaw2.PatternFiles", spec := "patternFiles", inPlace := ["internal/bytealg.IndexByteString", "internal/abi.NoEscape"], recurses := true, apart := false }
def PatternFilesSaid : Prop := patternFilesRow.holds Try.pinned (OpenSpec.ofChange patternFilesSpec)

/-- ITS FALSE NEIGHBOUR: 'it returns false'. Refute it at one input. -/
def patternFilesWrong : ChangeSpec := { name := "patternFiles", fn := fun _ => fun
  | [d1, d2] => { results := [.lit (.bool false)], args := [d1, d2] }
  | _ => none }
def PatternFilesWrongFalsely : Prop := patternFilesRow.holds Try.pinned (OpenSpec.ofChange patternFilesWrong)

/-- 'patoislaw2.PatternSays': WHATEVER THE INPUT: true; the input reads as it did. -/
def patternSaysSpec : ChangeSpec := { name := "patternSays", fn := fun _ => fun
  | [d1, d2, d3] => { results := [.lit (.bool true)], args := [d1, d2, d3] }
  | _ => none }
def patternSaysRow : OpenClaim := { program := "ytjhgljfmheopmaa", sum := "a3f64c64e51d23856685235f2c471f7890e19739d04324b2f8c9576e17cd8b07", func := "patois/patoislaw2.PatternSays", spec := "patternSays", inPlace := ["internal/bytealg.IndexByteString", "internal/abi.NoEscape"], unfollowed := true, recurses := true, apart := false }
def PatternSaysSaid : Prop := patternSaysRow.holds Try.pinned (OpenSpec.ofChange patternSaysSpec)

/-- ITS FALSE NEIGHBOUR: 'it returns false'. Refute it at one input. -/
def patternSaysWrong : ChangeSpec := { name := "patternSays", fn := fun _ => fun
  | [d1, d2, d3] => { results := [.lit (.bool false)], args := [d1, d2, d3] }
  | _ => none }
def PatternSaysWrongFalsely : Prop := patternSaysRow.holds Try.pinned (OpenSpec.ofChange patternSaysWrong)

/- THE SECOND FORM. 'bulk': how many values and letters a reading holds, each counted each time it is reached (what is shared counts as often as it is met; a slice's spare places count too). A statement '..UptoSaid' is the law's where the arguments, and the package variables that the reading takes, are together of bulk at most 1048576: NARROWER than '..Said'. Prove '..Said' where nothing that the law and all that it calls make is longer than what came in: it says more and counts as full. Else prove '..UptoSaid'. A law counts once. -/
mutual
def uptoBulk {H : Type} : DataW H → Nat
  | .lit (.string bytes) => bytes.length + 1
  | .lit _ => 1
  | .nil => 1
  | .ptr d => uptoBulk d + 1
  | .slice elems spare => uptoBulkAll elems + uptoBulkAll spare + 1
  | .agg parts => uptoBulkAll parts + 1
  | .iface _ d => uptoBulk d + 1
  | .map entries => uptoBulkEntries entries + 1
  | .held _ => 1
def uptoBulkAll {H : Type} : List (DataW H) → Nat
  | [] => 0
  | d :: r => uptoBulk d + uptoBulkAll r
def uptoBulkEntries {H : Type} : List (Lit × DataW H) → Nat
  | [] => 0
  | x :: r => uptoBulkEntry x + uptoBulkEntries r
def uptoBulkEntry {H : Type} : Lit × DataW H → Nat
  | (.string bytes, d) => bytes.length + uptoBulk d + 1
  | (_, d) => uptoBulk d + 1
 end
def uptoSmall : (H : Type) → List (DataW H) → Bool := fun _ ds => decide (uptoBulkAll ds ≤ 1048576)
def OpenSpec.upto (s : _root_.Go.ChangeSpec) : _root_.Go.OpenSpec := { _root_.Go.OpenSpec.ofChange s with cond := some uptoSmall }

/-- 'patoislaw2.PatternSets', WHERE WHAT IT READS IS OF BULK AT MOST 1048576: true; the input reads as it did. -/
def patternSetsUptoRow : OpenClaim := { program := "ytjhgljfmheopmaa", sum := "a3f64c64e51d23856685235f2c471f7890e19739d04324b2f8c9576e17cd8b07", func := "patois/patoislaw2.PatternSets", spec := "patternSets", inPlace := ["internal/bytealg.IndexByteString", "internal/abi.NoEscape"], apart := false, narrowed := true }
def PatternSetsUptoSaid : Prop := patternSetsUptoRow.holds Try.pinned (OpenSpec.upto patternSetsSpec)

/-- 'patoislaw2.PatternEscapes', WHERE WHAT IT READS IS OF BULK AT MOST 1048576: true; the input reads as it did. -/
def patternEscapesUptoRow : OpenClaim := { program := "ytjhgljfmheopmaa", sum := "a3f64c64e51d23856685235f2c471f7890e19739d04324b2f8c9576e17cd8b07", func := "patois/patoislaw2.PatternEscapes", spec := "patternEscapes", inPlace := ["internal/bytealg.IndexByteString", "internal/abi.NoEscape"], apart := false, narrowed := true }
def PatternEscapesUptoSaid : Prop := patternEscapesUptoRow.holds Try.pinned (OpenSpec.upto patternEscapesSpec)

/-- 'patoislaw2.PatternStars', WHERE WHAT IT READS IS OF BULK AT MOST 1048576: true; the input reads as it did. -/
def patternStarsUptoRow : OpenClaim := { program := "ytjhgljfmheopmaa", sum := "a3f64c64e51d23856685235f2c471f7890e19739d04324b2f8c9576e17cd8b07", func := "patois/patoislaw2.PatternStars", spec := "patternStars", inPlace := ["internal/bytealg.IndexByteString", "internal/abi.NoEscape"], apart := false, narrowed := true }
def PatternStarsUptoSaid : Prop := patternStarsUptoRow.holds Try.pinned (OpenSpec.upto patternStarsSpec)

/-- 'patoislaw2.PatternParts', WHERE WHAT IT READS IS OF BULK AT MOST 1048576: true; the input reads as it did. -/
def patternPartsUptoRow : OpenClaim := { program := "ytjhgljfmheopmaa", sum := "a3f64c64e51d23856685235f2c471f7890e19739d04324b2f8c9576e17cd8b07", func := "patois/patoislaw2.PatternParts", spec := "patternParts", inPlace := ["internal/bytealg.IndexByteString", "internal/abi.NoEscape"], apart := false, narrowed := true }
def PatternPartsUptoSaid : Prop := patternPartsUptoRow.holds Try.pinned (OpenSpec.upto patternPartsSpec)

/-- 'patoislaw2.PatternFiles', WHERE WHAT IT READS IS OF BULK AT MOST 1048576: true; the input reads as it did. -/
def patternFilesUptoRow : OpenClaim := { program := "ytjhgljfmheopmaa", sum := "a3f64c64e51d23856685235f2c471f7890e19739d04324b2f8c9576e17cd8b07", func := "patois/patoislaw2.PatternFiles", spec := "patternFiles", inPlace := ["internal/bytealg.IndexByteString", "internal/abi.NoEscape"], recurses := true, apart := false, narrowed := true }
def PatternFilesUptoSaid : Prop := patternFilesUptoRow.holds Try.pinned (OpenSpec.upto patternFilesSpec)

/-- 'patoislaw2.PatternSays', WHERE WHAT IT READS IS OF BULK AT MOST 1048576: true; the input reads as it did. -/
def patternSaysUptoRow : OpenClaim := { program := "ytjhgljfmheopmaa", sum := "a3f64c64e51d23856685235f2c471f7890e19739d04324b2f8c9576e17cd8b07", func := "patois/patoislaw2.PatternSays", spec := "patternSays", inPlace := ["internal/bytealg.IndexByteString", "internal/abi.NoEscape"], unfollowed := true, recurses := true, apart := false, narrowed := true }
def PatternSaysUptoSaid : Prop := patternSaysUptoRow.holds Try.pinned (OpenSpec.upto patternSaysSpec)

end Rows
end Go.Proofs.Ytjhgljfmheopmaa
