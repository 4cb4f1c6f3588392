/- A list escaped, made flat and split again is as it was: chapter 3's law, with no program in sight. No condition. -/
import Derived.Test.YtckcpokfjofcaaaDoorListM
import Derived.Test.YtckcpokfjofcaaaDoorPartsL
set_option linter.unusedVariables false
set_option linter.unusedSimpArgs false
namespace Go.Proofs.YtckcpokfjofcaaaDoor

theorem escapeL_ge : ∀ s : List UInt8, s.length ≤ (escapeL s).length
  | [] => Nat.le_refl _
  | c :: t => by
    have h := escapeL_ge t
    cases hc : escB c with
    | true => rw [escapeL_cons_esc hc]; simp only [List.length_cons]; omega
    | false => rw [escapeL_cons_plain hc]; simp only [List.length_cons]; omega
theorem split_esc1 (s : List UInt8) (h : s ≠ []) : splitL (escapeL s) = [escapeL s] := by rw [split_escape, if_pos (escapeL_pos s h)]
theorem split_spaced : ∀ l : List (List UInt8), (∀ s ∈ l, s ≠ []) → splitL (spaced (l.map escapeL)) = l.map escapeL
  | [], _ => rfl
  | [s], h => by
    show splitL (escapeL s) = [escapeL s]
    exact split_esc1 s (h s (by simp))
  | s :: u :: t, h => by
    show splitL (escapeL s ++ 32 :: spaced ((u :: t).map escapeL)) = _
    rw [split_append (open_escape s) (by decide), split_esc1 s (h s (by simp)), split_spaced (u :: t) fun x hx => h x (List.mem_cons_of_mem _ hx)]
    rfl
theorem flatMap_one {f : List UInt8 → List UInt8} (l : List (List UInt8)) : l.flatMap (fun s => [f s]) = l.map f := by
  induction l with
  | nil => rfl
  | cons x t ih => rw [List.flatMap_cons, ih]; rfl
theorem esc_some {l a : List (List UInt8)} (h : eachL (fun s => [escapeL s]) l = some a) : a = l.map escapeL ∧ bigL a = false := by
  obtain ⟨rfl, hb⟩ := each_some _ _ _ _ h
  rw [List.nil_append, flatMap_one] at hb ⊢
  exact ⟨rfl, hb⟩
theorem flat_back {l a b : List (List UInt8)} (hl : ∀ s ∈ l, s ≠ []) (h1 : eachL (fun s => [escapeL s]) l = some a) (h2 : flatTx a = some b) : eachL splitL b = some a ∧ eachL (fun s => [plainL s]) a = some l := by
  obtain ⟨rfl, hb⟩ := esc_some h1
  unfold flatTx at h2
  split at h2
  · cases h2
  · injection h2 with h2
    subst h2
    obtain ⟨hb1, hb2⟩ := bigL_false.1 hb
    constructor
    · have hs : [] ++ [spaced (l.map escapeL)].flatMap splitL = l.map escapeL := by
        rw [List.nil_append, List.flatMap_cons, List.flatMap_nil, List.append_nil, split_spaced l hl]
      rw [eachL, each_ok splitL _ [] (by rw [hs]; exact hb), hs]
    · have hs : [] ++ (l.map escapeL).flatMap (fun s => [plainL s]) = l := by
        rw [List.nil_append, flatMap_one, List.map_map]
        conv => rhs; rw [← List.map_id l]
        exact List.map_congr_left fun s _ => plain_escape s
      rw [eachL, each_ok _ _ [] ?_, hs]
      rw [hs]
      refine bigL_false.2 ⟨by simpa using hb1, fun s hs => ?_⟩
      have h3 := hb2 (escapeL s) (List.mem_map.2 ⟨s, hs, rfl⟩)
      have h4 := escapeL_ge s
      omega
end Go.Proofs.YtckcpokfjofcaaaDoor
