/- Chapter 17: what its walks share: rows of trees of the call's own, the cells at a tree's head. No condition. -/
import Derived.Test.YthmeonimianoeaaDoorCoreV
import Derived.Test.YthmeonimianoeaaDoorConL
set_option linter.unusedVariables false
set_option linter.unusedSimpArgs false
namespace Go.Proofs.YthmeonimianoeaaDoor
open Go.RowKit

/-- A row of slices, all from base B on. -/
def KdO (w : World) (B : Nat) (A : Option Addr) (ls : List (List Nd)) : Prop := ∃ vs, RdL w 1 one1 A vs ∧ OwnAll w B vs ls
theorem KdO.kd {w : World} {B : Nat} {A : Option Addr} {ls : List (List Nd)} (h : KdO w B A ls) : KdRd w A ls := let ⟨vs, h1, h2⟩ := h; ⟨vs, h1, h2.rd⟩
theorem KdO.below {w w' : World} {B : Nat} {A : Option Addr} {ls : List (List Nd)} (h : KdO w B A ls) (hb : Below w.heap.size w w') : KdO w' B A ls := let ⟨vs, h1, h2⟩ := h; ⟨vs, h1.below hb, h2.below hb⟩
theorem KdO.mono {w : World} {B B' : Nat} {A : Option Addr} {ls : List (List Nd)} (h : KdO w B A ls) (hb : B' ≤ B) : KdO w B' A ls := let ⟨vs, h1, h2⟩ := h; ⟨vs, h1, h2.mono hb⟩
theorem KdO.of_own {w : World} {base B n c : Nat} {A : Option Addr} {vs : List Value} {ls : List (List Nd)} (h : w.ownsRow base 23 1 (.slice A n c) n vs) (hn : n = ls.length) (ho : OwnAll w B vs ls) : KdO w B A ls := by
  obtain ⟨h1, _, _⟩ := rd_one h (by rw [ho.1]; exact hn)
  exact ⟨vs, h1, ho⟩
theorem KdO.at_ {w : World} {B : Nat} {A : Option Addr} {ls : List (List Nd)} (h : KdO w B A ls) {k : Nat} (hk : k < ls.length) :
    ∃ b o n c Ak, A = some ⟨b, o, none⟩ ∧ b < w.heap.size ∧ w.cell? ⟨b, o + k, none⟩ = some (.slice Ak n c) ∧ OwnNd w B (.slice Ak n c) ls[k] := by
  obtain ⟨vs, h1, h2⟩ := h
  have hkv : k < vs.length := by rw [h2.1]; exact hk
  obtain ⟨b, o, hA, hb, hc⟩ := h1 k hkv
  have hc0 := hc 0 _ rfl
  have ho := h2.2 k hk vs[k] (List.getElem?_eq_getElem hkv)
  obtain ⟨Ak, c, he, _⟩ := own_form ho
  rw [he] at hc0 ho
  refine ⟨b, o, _, c, Ak, hA, hb, by simpa using hc0, Ak, c, rfl, ho⟩
theorem OwnNd.own' {x : World} {B n c : Nat} {A : Option Addr} {L : List Nd} (h : OwnNd x B (.slice A n c) L) : x.ownsRow B 40 5 (.slice A n c) L.length (L.flatMap ndc) := by
  obtain ⟨A', c', he, h2⟩ := h
  rw [he]; exact h2
/-- A slice of nodes from base B on comes back. -/
def OwnRet (B : Nat) (L : List Nd) (w : World) (e : Ending) (w' : World) : Prop := ∃ A n c, e = .returned (.slice A n c) ∧ OwnNd w' B (.slice A n c) L ∧ Below w.heap.size w w'
theorem VRet.o {B : Nat} {L : List Nd} {w : World} {e : Ending} {w' : World} (h : VRet L w e w') (hB : B ≤ w.heap.size) : OwnRet B L w e w' := by
  obtain ⟨A, n, c, h1, h2, h3⟩ := h
  exact ⟨A, n, c, h1, h2.mono hB, h3⟩
theorem OwnRet.of {B : Nat} {L : List Nd} {w w0 : World} {e : Ending} {w' : World} (h : OwnRet B L w e w') (hb : Below w0.heap.size w0 w) : OwnRet B L w0 e w' := by
  obtain ⟨A, n, c, h1, h2, h3⟩ := h
  exact ⟨A, n, c, h1, h2, hb.trans (h3.mono hb.size)⟩
/-- The cells at a tree's head. -/
theorem head_cells {w : World} {A : Option Addr} {n c : Nat} {t : Tr} (h : SlRd w (.slice A n c) (flat t)) : ∃ b o, A = some ⟨b, o, none⟩ ∧ 0 < n ∧ n = (flat t).length ∧ n ≤ c ∧ c ≤ maxLen ∧ w.cell? ⟨b, o, none⟩ = some (.int .i64 t.kind) ∧ w.cell? ⟨b, o + 1, none⟩ = some (.int .i64 t.num) ∧ w.cell? ⟨b, o + 2, none⟩ = some (.int .i64 t.kids.length) ∧ w.cell? ⟨b, o + 3, none⟩ = some (.int .i64 (flat t).length) ∧ w.cell? ⟨b, o + 4, none⟩ = some (.string ⟨t.str.toArray⟩) := by
  obtain ⟨A', c', he, hrd, hc, hm, _⟩ := h
  injection he with h1 h2 h3
  subst h1 h2 h3
  have hp := flat_pos t
  obtain ⟨b, o, rfl, _⟩ := hrd.addr hp
  have hx := hrd.at_ hp
  rw [flat_get0] at hx
  have c0 := hx.2 0 _ rfl
  have c1 := hx.2 1 _ rfl
  have c2 := hx.2 2 _ rfl
  have c3 := hx.2 3 _ rfl
  have c4 := hx.2 4 _ rfl
  simp only [Nat.zero_mul, Nat.add_zero] at c0 c1 c2 c3 c4
  exact ⟨b, o, rfl, hp, rfl, hc, hm, c0, c1, c2, c3, c4⟩
/-- A row of ints that has just been laid. -/
theorem ints_lit (w : World) (l : List Int) : RdL (w.alloc (.cells (l.map fun n => Value.int .i64 n).toArray 3)) 1 intc (some ⟨w.heap.size, 0, none⟩) l := by
  intro k hk
  refine ⟨w.heap.size, 0, rfl, by simp, fun j u hu => ?_⟩
  have hj : j = 0 := by
    have := (List.getElem?_eq_some_iff.1 hu).1
    simp [intc] at this
    exact this
  subst hj
  rw [cell_of_row _ _ _ _ _ _ (heap_alloc_new w _)]
  simp only [intc, List.getElem?_cons_zero, Option.some.injEq] at hu
  rw [← hu]
  simp [hk]
end Go.Proofs.YthmeonimianoeaaDoor
