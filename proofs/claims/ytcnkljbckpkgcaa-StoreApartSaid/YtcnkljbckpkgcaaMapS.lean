/- Maps whose keys are texts, told as what they hold at each text: laws at the operations. No condition. -/
import Derived.Test.YtcnkljbckpkgcaaMapK
import Derived.Test.YtcnkljbckpkgcaaBut
import Derived.StringKeys
import Derived.Sort.KeysCollected
set_option linter.unusedVariables false
set_option linter.unusedSimpArgs false
namespace Go.Proofs.Ytcnkljbckpkgcaa
open Go.RowKit Go.Maps Go.Sort

/-- The map in block b holds at each text just what f says; it has at most n entries. -/
def MapIs (P : Program) (k : TypeId) (w : World) (b n : Nat) (f : List UInt8 → Option Value) : Prop :=
  ∃ D : DataW Value, w.ownsMap P k hR b n D ∧ (∀ s, Maps.has D (.string s) = (f s).isSome) ∧ ∀ s v zd, f s = some v → D.atKey (.string s) zd = .held v
section
variable {P : Program} {w w' : World} {k e t : TypeId} {b n : Nat} {f : List UInt8 → Option Value}
theorem MapIs.made (w : World) (P : Program) (k : TypeId) : MapIs P k (w.alloc (.map #[] 0)) w.heap.size 0 (fun _ => none) :=
  ⟨.map [], World.ownsMap_made w _ _ _, fun s => rfl, fun s v zd h => by cases h⟩
theorem MapIs.congr (h : MapIs P k w b n f) {g : List UInt8 → Option Value} (hg : ∀ s, f s = g s) : MapIs P k w b n g := by
  rwa [show g = f from funext fun s => (hg s).symm]
theorem MapIs.mono (h : MapIs P k w b n f) {m : Nat} (hm : n ≤ m) : MapIs P k w b m f :=
  let ⟨D, h1, h2⟩ := h
  ⟨D, h1.mono hm, h2⟩
theorem MapIs.lt (h : MapIs P k w b n f) : b < w.heap.size :=
  let ⟨_, h1, _⟩ := h
  h1.lt
theorem MapIs.below (h : MapIs P k w b n f) (hb : Below w.heap.size w w') : MapIs P k w' b n f :=
  let ⟨D, h1, h2⟩ := h
  ⟨D, ownsMap_below h1 hb, h2⟩
theorem MapIs.but {B : Nat} (h : MapIs P k w b n f) (hb : But B w w') (hne : b ≠ B) : MapIs P k w' b n f := by
  obtain ⟨D, ⟨es, clock, h1, h2⟩, h3⟩ := h
  exact ⟨D, ⟨es, clock, (hb.block b (Array.getElem?_eq_some_iff.1 h1).1 hne).trans h1, h2⟩, h3⟩
theorem MapIs.others {ts : List TypeId} (h : MapIs P k w b n f) (hb : w'.heap[b]? = w.heap[b]?) : MapIs P k w' b n f := by
  obtain ⟨D, ⟨es, clock, h1, h2⟩, h3⟩ := h
  exact ⟨D, ⟨es, clock, hb.trans h1, h2⟩, h3⟩
theorem grown_but (h : w.grownBy w' (some b)) : But b w w' := ⟨h.os, h.tape, h.output, h.size, fun k hk hn => h.block k hk (fun e => hn (by injection e))⟩
section
variable (hk : P.underlying k = some .string)
include hk
theorem sKey {s : List UInt8} (hs : s.length ≤ maxLen) : keyOf P k (.string ⟨s.toArray⟩) = some (.string s) := by
  have := WideMaps.keyOf_string_mk hk (s := ⟨s.toArray⟩) (by show s.toArray.size ≤ _; rw [List.size_toArray]; exact hs)
  exact this
theorem MapIs.look (h : MapIs P k w b n f) (ht : P.underlying t = some (.map k e)) {z : Value} (hz : (zeroValue e).run P w = .ok z w) {s : List UInt8} (hs : s.length ≤ maxLen) :
    (Instr.lookup t (.map (some b)) (.string ⟨s.toArray⟩) true).run P w = .ok (.tuple #[(f s).getD z, .bool (f s).isSome]) w := by
  obtain ⟨D, h1, h2, h3⟩ := h
  have hat : D.atKey (.string s) (.held z) = .held ((f s).getD z) := by
    cases hf : f s with
    | some v => exact h3 s v _ hf
    | none =>
      have := h2 s
      rw [hf] at this
      exact atKey_of_not_has this _
  have := look_held h1 (string_keyed hk) ht hz (sKey hk hs) hat
  rwa [h2 s] at this
theorem MapIs.look1 (h : MapIs P k w b n f) (ht : P.underlying t = some (.map k e)) {z : Value} (hz : (zeroValue e).run P w = .ok z w) {s : List UInt8} (hs : s.length ≤ maxLen) :
    (Instr.lookup t (.map (some b)) (.string ⟨s.toArray⟩) false).run P w = .ok ((f s).getD z) w := by
  obtain ⟨D, h1, h2, h3⟩ := h
  have hat : D.atKey (.string s) (.held z) = .held ((f s).getD z) := by
    cases hf : f s with
    | some v => exact h3 s v _ hf
    | none =>
      have := h2 s
      rw [hf] at this
      exact atKey_of_not_has this _
  exact look_held1 h1 (string_keyed hk) ht hz (sKey hk hs) hat
theorem MapIs.put (h : MapIs P k w b n f) (ht : P.underlying t = some (.map k e)) (hn : n < maxLen) {s : List UInt8} (hs : s.length ≤ maxLen) (v : Value) :
    ∃ w', (Instr.mapUpdate t (.map (some b)) (.string ⟨s.toArray⟩) v).run P w = .ok () w' ∧ MapIs P k w' b (n + 1) (fun x => if x = s then some v else f x) ∧ w.grownBy w' (some b) := by
  obtain ⟨D, h1, h2, h3⟩ := h
  obtain ⟨w', hrun, r1, r2⟩ := h1.update (string_keyed hk) ht hn (sKey hk hs) (val := v) (d := .held v) (ps := []) rfl
  have hne : ∀ x : List UInt8, x ≠ s → (Lit.string x) ≠ .string s := fun x hx e => hx (by injection e)
  refine ⟨w', hrun, ⟨_, r1, fun x => ?_, fun x u zd hx => ?_⟩, r2⟩
  · by_cases hxs : x = s
    · subst hxs
      rw [has_put_same h1.isMap (by trivial)]
      simp
    · rw [has_put_other (hne x hxs), h2 x]
      simp [hxs]
  · by_cases hxs : x = s
    · subst hxs
      simp only [if_true, Option.some.injEq] at hx
      subst hx
      exact atKey_put_same h1.isMap (by trivial) _ _
    · simp only [hxs, if_false] at hx
      rw [atKey_put_other (hne x hxs)]
      exact h3 x u zd hx
theorem MapIs.drop (h : MapIs P k w b n f) (ht : P.underlying t = some (.map k e)) {s : List UInt8} (hs : s.length ≤ maxLen) (ty : TypeId) :
    ∃ w', (Builtin.delete_ #[t, k] ty #[.map (some b), .string ⟨s.toArray⟩]).run P w = .ok (.tuple #[]) w' ∧ MapIs P k w' b n (fun x => if x = s then none else f x) ∧ w.grownBy w' (some b) := by
  obtain ⟨D, h1, h2, h3⟩ := h
  obtain ⟨w', hrun, r1, r2⟩ := h1.drop (string_keyed hk) ht (sKey hk hs) ty
  have hne : ∀ x : List UInt8, x ≠ s → (Lit.string x) ≠ .string s := fun x hx e => hx (by injection e)
  refine ⟨w', hrun, ⟨_, r1, fun x => ?_, fun x u zd hx => ?_⟩, r2.grown⟩
  · by_cases hxs : x = s
    · subst hxs
      rw [has_del_same]
      simp
    · rw [has_del_other (hne x hxs), h2 x]
      simp [hxs]
  · by_cases hxs : x = s
    · subst hxs
      simp at hx
    · simp only [hxs, if_false] at hx
      rw [atKey_del_other (hne x hxs)]
      exact h3 x u zd hx
/-- The keys: each text that is held, once. -/
theorem MapIs.keys (h : MapIs P k w b n f) : ∃ D : DataW Value, w.ownsMap P k hR b n D ∧ (strKeys D).Nodup ∧ ∀ s, s ∈ strKeys D ↔ (f s).isSome = true := by
  obtain ⟨D, h1, h2, h3⟩ := h
  have h1' := h1
  obtain ⟨es, clock, hb, F, hs, rfl⟩ := h1
  have hE := fit_apart (string_keyed hk) F
  have hpm := WideShapes.sorted_perm (es.toList.map (WideElems.rg P k hR))
  have hky : ∀ p ∈ (es.toList.map (WideElems.rg P k hR)).foldr DataW.insert [], ∃ x, p.1 = .string x := fun p hp => by
    obtain ⟨v, hv⟩ := fit_keys F p (hpm.mem_iff.1 hp)
    obtain ⟨x, _, hx, _⟩ := Maps.keyOf_str hk hv
    exact ⟨x, hx⟩
  have hap : ((es.toList.map (WideElems.rg P k hR)).foldr DataW.insert []).Pairwise (fun p q => p.1 ≠ q.1) := (hpm.pairwise_iff (fun {a b} h => fun e => h e.symm)).2 hE
  refine ⟨_, h1', ?_, fun s => ?_⟩
  · show (((es.toList.map (WideElems.rg P k hR)).foldr DataW.insert []).map fun p => strOf p.1).Nodup
    refine List.pairwise_map.2 (hap.imp_of_mem fun {p q} hp' hq' hne e => hne ?_)
    obtain ⟨a, ha⟩ := hky p hp'
    obtain ⟨c, hc⟩ := hky q hq'
    rw [ha, hc] at e ⊢
    exact congrArg _ e
  · rw [← h2 s, has_eq, List.any_eq_true]
    show s ∈ (((es.toList.map (WideElems.rg P k hR)).foldr DataW.insert []).map fun p => strOf p.1) ↔ _
    rw [List.mem_map]
    constructor
    · rintro ⟨p, hp', hs'⟩
      obtain ⟨a, ha⟩ := hky p hp'
      rw [ha] at hs'
      exact ⟨p, hp', by rw [ha]; simpa [Lit.sameKey, strOf] using hs'⟩
    · rintro ⟨p, hp', hs'⟩
      obtain ⟨a, ha⟩ := hky p hp'
      rw [ha] at hs'
      exact ⟨p, hp', by rw [ha]; simpa [Lit.sameKey, strOf] using hs'⟩
end
end
end Go.Proofs.Ytcnkljbckpkgcaa
