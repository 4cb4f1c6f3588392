/- What comes of any command (chapter 8), and the walk over Do at any name. Bounds on the lengths; the library's table and bound are hypotheses. -/
import Derived.Test.YtjpfolbghjhodaaDoorBuiltW4
import Derived.Maps.Views
import Derived.Sort.KeysCollected
set_option linter.unusedVariables false
set_option linter.unusedSimpArgs false
namespace Go.Proofs.YtjpfolbghjhodaaDoor
open Go.RowKit Go.Maps Go.Sort

/-- What comes of a command of any name. -/
def doO (name inn : List UInt8) (L : List (List UInt8)) : Option Outc :=
  if name = [97, 100, 100] then some (addA L (oc0 inn)) else
  if name = [99, 97, 116] then some ({ oc0 inn with out := inn, rest := [] }) else
  if name = [101, 99, 104, 111] then some ({ oc0 inn with out := spaced L ++ [10] }) else
  if name = [101, 113] then some ({ oc0 inn with status := if eqA L then 0 else 1 }) else
  if name = [101, 120, 105, 116] then some (exitA L (oc0 inn)) else
  if name = [102, 97, 108, 115, 101] then some ({ oc0 inn with status := 1 }) else
  if name = [108, 101, 115, 115] then some ({ oc0 inn with status := if lessA L then 0 else 1 }) else
  if name = [108, 105, 107, 101] then some ({ oc0 inn with status := if likeA L then 0 else 1 }) else
  if name = [112, 117, 116] then some ({ oc0 inn with out := spaced L }) else
  if name = [114, 101, 97, 100] then some (readA inn L (oc0 inn)) else
  if name = [116, 114, 117, 101] then some (oc0 inn) else
  none
def cmdNames : List (List UInt8) := [[97, 100, 100], [99, 97, 116], [101, 99, 104, 111], [101, 113], [101, 120, 105, 116], [102, 97, 108, 115, 101], [108, 101, 115, 115], [108, 105, 107, 101], [112, 117, 116], [114, 101, 97, 100], [116, 114, 117, 101]]
theorem cmd_map : cmdD = .map [(.string [97, 100, 100], .held (fnV 61)), (.string [99, 97, 116], .held (fnV 62)), (.string [101, 99, 104, 111], .held (fnV 63)), (.string [101, 113], .held (fnV 64)), (.string [101, 120, 105, 116], .held (fnV 65)), (.string [102, 97, 108, 115, 101], .held (fnV 66)), (.string [108, 101, 115, 115], .held (fnV 67)), (.string [108, 105, 107, 101], .held (fnV 68)), (.string [112, 117, 116], .held (fnV 69)), (.string [114, 101, 97, 100], .held (fnV 70)), (.string [116, 114, 117, 101], .held (fnV 71))] := by kernel_rfl
theorem cmd_keys : strKeys cmdD = cmdNames := by rw [cmd_map]; rfl
theorem cmd_has (name : List UInt8) : Maps.has cmdD (.string name) = cmdNames.contains name := by
  have hs : ∀ a : List UInt8, (Lit.string a).sameKey (.string name) = (name == a) := fun a => by
    rw [Bool.eq_iff_iff, beq_iff_eq]
    show (a == name) = true ↔ _
    rw [beq_iff_eq]
    exact ⟨Eq.symm, Eq.symm⟩
  rw [cmd_map, Go.Maps.has_eq]
  simp only [List.any_cons, List.any_nil, cmdNames, List.contains_cons, List.contains_nil, hs, Bool.or_false]
theorem doO_some (name inn : List UInt8) (L : List (List UInt8)) : (doO name inn L).isSome = cmdNames.contains name := by
  unfold doO
  simp only [cmdNames, List.contains_cons, List.contains_nil, Bool.or_false]
  by_cases h0 : name = [97, 100, 100]
  · subst h0
    rfl
  rw [if_neg h0]
  by_cases h1 : name = [99, 97, 116]
  · subst h1
    rfl
  rw [if_neg h1]
  by_cases h2 : name = [101, 99, 104, 111]
  · subst h2
    rfl
  rw [if_neg h2]
  by_cases h3 : name = [101, 113]
  · subst h3
    rfl
  rw [if_neg h3]
  by_cases h4 : name = [101, 120, 105, 116]
  · subst h4
    rfl
  rw [if_neg h4]
  by_cases h5 : name = [102, 97, 108, 115, 101]
  · subst h5
    rfl
  rw [if_neg h5]
  by_cases h6 : name = [108, 101, 115, 115]
  · subst h6
    rfl
  rw [if_neg h6]
  by_cases h7 : name = [108, 105, 107, 101]
  · subst h7
    rfl
  rw [if_neg h7]
  by_cases h8 : name = [112, 117, 116]
  · subst h8
    rfl
  rw [if_neg h8]
  by_cases h9 : name = [114, 101, 97, 100]
  · subst h9
    rfl
  rw [if_neg h9]
  by_cases h10 : name = [116, 114, 117, 101]
  · subst h10
    rfl
  rw [if_neg h10]
  simp [h0, h1, h2, h3, h4, h5, h6, h7, h8, h9, h10]
theorem do_name (name inn : List UInt8) (A : Option Addr) (c : Nat) (L : List (List UInt8)) (w : World) (m0 : Int) (hl : LibW w m0) (hrd : RdL w 1 strc A L) (hc : L.length ≤ c) (hsz : ∀ x ∈ L, x.length ≤ 1000000) (hsum : L.length - 1 + sumL L ≤ 100000) (hin : inn.length ≤ 1000000) (hn : name.length ≤ 1000) :
    Calls Tryd.prog 22 #[.string ⟨name.toArray⟩, .string ⟨inn.toArray⟩, .slice A L.length c] w (Ret w (.tuple #[ocV ((doO name inn L).getD (oc0 [])), .bool (doO name inn L).isSome])) := by
  by_cases h0 : name = [97, 100, 100]
  · subst h0
    exact do_add inn A c L w m0 hl hrd hc hsz
  by_cases h1 : name = [99, 97, 116]
  · subst h1
    exact do_cat inn A c L w 
  by_cases h2 : name = [101, 99, 104, 111]
  · subst h2
    exact do_echo inn A c L w hrd hc hsum
  by_cases h3 : name = [101, 113]
  · subst h3
    exact do_eq inn A c L w hrd hc hsz
  by_cases h4 : name = [101, 120, 105, 116]
  · subst h4
    exact do_exit inn A c L w hrd hc hsz
  by_cases h5 : name = [102, 97, 108, 115, 101]
  · subst h5
    exact do_no inn A c L w 
  by_cases h6 : name = [108, 101, 115, 115]
  · subst h6
    exact do_less inn A c L w hrd hc hsz
  by_cases h7 : name = [108, 105, 107, 101]
  · subst h7
    exact do_like inn A c L w hrd hc hsz
  by_cases h8 : name = [112, 117, 116]
  · subst h8
    exact do_put inn A c L w hrd hc hsum
  by_cases h9 : name = [114, 101, 97, 100]
  · subst h9
    exact do_read inn A c L w m0 hl hrd hc hsz hin
  by_cases h10 : name = [116, 114, 117, 101]
  · subst h10
    exact do_yes inn A c L w 
  have hnone : doO name inn L = none := by
    unfold doO
    rw [if_neg h0, if_neg h1, if_neg h2, if_neg h3, if_neg h4, if_neg h5, if_neg h6, if_neg h7, if_neg h8, if_neg h9, if_neg h10]
  rw [hnone]
  refine do_none name inn _ w hn ?_ fun zd => ?_
  · rw [cmd_has]
    simp [cmdNames, h0, h1, h2, h3, h4, h5, h6, h7, h8, h9, h10]
  · refine atKey_of_not_has ?_ zd
    rw [cmd_has]
    simp [cmdNames, h0, h1, h2, h3, h4, h5, h6, h7, h8, h9, h10]
end Go.Proofs.YtjpfolbghjhodaaDoor
