/- A store as lists: what it says, what setting, swapping and putting back does (chapter 7); with no program in sight. No condition. -/
import Derived.Test.YtcnkljbckpkgcaaStoL
set_option linter.unusedVariables false
set_option linter.unusedSimpArgs false
namespace Go.Proofs.Ytcnkljbckpkgcaa

abbrev Txt := List UInt8
structure Sto where
  vars : List (Txt × List Txt)
  args : List Txt
def star : Txt := [42]
def getS (x : Sto) (n : Txt) : List Txt × Bool := if n = star then (x.args, true) else ((lookA x.vars n).getD [], (lookA x.vars n).isSome)
def setS (x : Sto) (n : Txt) (l : List Txt) : Sto := if n = star then ⟨x.vars, l⟩ else ⟨putA n l x.vars, x.args⟩
def unsetS (x : Sto) (n : Txt) : Sto := if n = star then ⟨x.vars, []⟩ else ⟨delA n x.vars, x.args⟩
def swapS (x : Sto) (n : Txt) (has : Bool) (l : List Txt) : Sto := if has then setS x n l else unsetS x n
def newS (v : List (Txt × List Txt)) : Sto := v.foldl (fun x p => setS x p.1 p.2) ⟨[], []⟩
def GoodS (x : Sto) : Prop := SortA x.vars
theorem good_set {x : Sto} (h : GoodS x) (n : Txt) (l : List Txt) : GoodS (setS x n l) := by
  unfold setS
  split
  · exact h
  · exact sort_put h
theorem good_unset {x : Sto} (h : GoodS x) (n : Txt) : GoodS (unsetS x n) := by
  unfold unsetS
  split
  · exact h
  · exact sort_del h
theorem good_swap {x : Sto} (h : GoodS x) (n : Txt) (has : Bool) (l : List Txt) : GoodS (swapS x n has l) := by
  unfold swapS
  split
  · exact good_set h n l
  · exact good_unset h n
theorem good_fold : ∀ (v : List (Txt × List Txt)) (x : Sto), GoodS x → GoodS (v.foldl (fun x p => setS x p.1 p.2) x)
  | [], x, h => h
  | p :: v, x, h => good_fold v _ (good_set h _ _)
theorem good_new (v : List (Txt × List Txt)) : GoodS (newS v) := good_fold v _ List.Pairwise.nil
theorem get_set (x : Sto) (n : Txt) (l : List Txt) : getS (setS x n l) n = (l, true) := by
  unfold getS setS
  by_cases h : n = star
  · simp [h]
  · simp [h, look_put]
/-- What is put back is as it was. -/
theorem swap_back {x : Sto} (h : GoodS x) (n : Txt) (l : List Txt) : swapS (setS x n l) n (getS x n).2 (getS x n).1 = x := by
  obtain ⟨M, a⟩ := x
  unfold swapS getS setS unsetS
  by_cases hn : n = star
  · simp [hn]
  · simp only [hn, if_false]
    cases hl : lookA M n with
    | none =>
      simp only [Option.isSome_none, Bool.false_eq_true, if_false]
      congr 1
      refine sortA_ext (sort_del (sort_put h)) h fun s => ?_
      rw [look_del, look_put]
      by_cases hs : s = n
      · rw [if_pos hs, hs, hl]
      · rw [if_neg hs, if_neg hs]
    | some old =>
      simp only [Option.isSome_some, if_true, Option.getD_some]
      congr 1
      refine sortA_ext (sort_put (sort_put h)) h fun s => ?_
      rw [look_put, look_put]
      by_cases hs : s = n
      · rw [if_pos hs, hs, hl]
      · rw [if_neg hs, if_neg hs]
/-- The stores on the way up. -/
def upS (x : Sto) (names : List Txt) (l : List Txt) : Sto := names.foldl (fun x n => setS x n l) x
theorem upS_snoc (x : Sto) (ns : List Txt) (n : Txt) (l : List Txt) : upS x (ns ++ [n]) l = setS (upS x ns l) n l := by
  unfold upS
  rw [List.foldl_append]
  rfl
theorem good_up {x : Sto} (h : GoodS x) (l : List Txt) : ∀ ns : List Txt, GoodS (upS x ns l) := by
  intro ns
  induction ns generalizing x with
  | nil => exact h
  | cons n ns ih => exact ih (good_set h n l)
theorem snoc_ind2 {α : Type} {p : List α → Prop} (h0 : p []) (h1 : ∀ l x, p l → p (l ++ [x])) (l : List α) : p l := by
  rw [← l.reverse_reverse]
  induction l.reverse with
  | nil => exact h0
  | cons x t ih => rw [List.reverse_cons]; exact h1 _ _ ih
end Go.Proofs.Ytcnkljbckpkgcaa
