/- A region that is carried out in the order of the text: what its operations wait for does not matter, and may be left out of the goal; it may be walked as one that draws its order, an operation at a time. No condition. -/
import Derived.Test.YtjhgljfmheopmaaDoorRel
import Derived.Orders
set_option linter.unusedVariables false
set_option linter.unusedSimpArgs false
namespace Go.Proofs.YtjhgljfmheopmaaDoor
open Go.RowKit

/-- An operation that waits for none. -/
def bare (o : Oper) : Oper := { o with after := #[] }
theorem yielded_bare (l : List Oper) (tmps : Array Value) (j : Nat) : yielded (l.map bare).toArray tmps j = yielded l.toArray tmps j := by
  unfold yielded
  simp only [List.getElem?_toArray, List.getElem?_map]
  cases l[j]? <;> rfl
theorem wanted_bare (o : Oper) (l : List Oper) (tmps : Array Value) : Region.wanted (bare o) (yielded (l.map bare).toArray tmps) = Region.wanted o (yielded l.toArray tmps) := by
  have h : yielded (l.map bare).toArray tmps = yielded l.toArray tmps := funext fun j => yielded_bare l tmps j
  rw [h]
  rfl
theorem wp_bare {P : Program} (o : Oper) (a : Act) (w : World) (K : Act → World → Prop) (Q : Exit → Act → World → Prop) : (bare o).wp P a w K Q = o.wp P a w K Q := rfl
theorem wpList_bare {P : Program} {Q : Exit → Act → World → Prop} (l0 : List Oper) : ∀ (l : List Oper) (a : Act) (w : World), wpList P (l0.map bare).toArray Q (l.map bare) a w → wpList P l0.toArray Q l a w := by
  intro l
  induction l with
  | nil => intro a w h; exact h
  | cons o l ih =>
    intro a w h
    rw [List.map_cons] at h
    unfold wpList at h ⊢
    rw [wanted_bare] at h
    split
    · rename_i hw
      rw [if_pos hw] at h
      rcases h with h | h
      · rw [wp_bare] at h
        left
        exact Oper.wp_mono ih h
      · exact .inr h
    · rename_i hw
      rw [if_neg hw] at h
      exact ih _ _ h
theorem wp_region_bare {P : Program} {id : Nat} {Q : Exit → Act → World → Prop} {a : Act} {w : World} {l : List Oper} (h : wpList P (l.map bare).toArray Q (l.map bare) a w) : (Code.region id l.toArray false).wp P Q a w :=
  wp_region_lit (wpList_bare l l a w h)
theorem EqGo.list {P : Program} {ops : Array Oper} {w0 : World} {Q : Exit → Act → World → Prop} : ∀ (l : List Oper) (a : Act), EqGo P ops w0 (fun a' x => Q .normal a' x) l a → ∀ x : Later w0, wpList P ops Q l a x.val
  | [], a, h, x => h x
  | o :: l, a, ⟨c, h1, h2⟩, x => by
    unfold wpList
    split
    · rename_i hw
      rw [if_pos hw] at h1
      left
      refine upon_agree (R := BelR) (T := eqT c) rfl rfl rfl (fun K hK => h1 x K fun y hy => hK c y.val rfl trivial hy) fun v x' hv _ hb => ?_
      cases hv
      exact EqGo.list l _ h2 ⟨x', x.below.trans (hb.mono x.below.size)⟩
    · rename_i hw
      rw [if_neg hw] at h1
      subst h1
      exact EqGo.list l _ h2 x
/-- A region in the order of the text, an operation at a time. -/
theorem wp_region_eqS {P : Program} {id : Nat} {Q : Exit → Act → World → Prop} {a : Act} {w : World} {l : List Oper} (h : EqGo P l.toArray w (fun a' x => Q .normal a' x) l a) : (Code.region id l.toArray false).wp P Q a w :=
  wp_region_lit (EqGo.list l a h ⟨w, Below.refl _ _⟩)
end Go.Proofs.YtjhgljfmheopmaaDoor
