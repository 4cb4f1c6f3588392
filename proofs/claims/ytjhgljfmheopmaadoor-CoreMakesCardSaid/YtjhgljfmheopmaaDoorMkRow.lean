/- Rows of nodes of the call's own, each with a marked node behind it, cut to the nodes ahead; a list of nodes put ahead of lists of nodes. No condition. -/
import Derived.Test.YtjhgljfmheopmaaDoorMarkR
import Derived.Test.YtjhgljfmheopmaaDoorFuseN
import Derived.Test.YtjhgljfmheopmaaDoorRef5C
import Derived.Test.YtjhgljfmheopmaaDoorSeqL
import Derived.Test.YtjhgljfmheopmaaDoorNodesW
import Derived.Test.YtjhgljfmheopmaaDoorLightW
set_option linter.unusedVariables false
set_option linter.unusedSimpArgs false
namespace Go.Proofs.YtjhgljfmheopmaaDoor
open Go.RowKit

def mkN (k : Int) : Nd := ⟨k, 0, 0, 0, []⟩
theorem snoc_nd (L : List Nd) (x : Nd) : (L ++ [x]).flatMap ndc = L.flatMap ndc ++ ndc x := by rw [List.flatMap_append]; simp
theorem own_cap' {w : World} {base : Nat} {e : TypeId} {sz n c : Nat} {A : Option Addr} {xs : List Value} (h : w.ownsRow base e sz (.slice A n c) n xs) : n ≤ c ∧ c ≤ maxLen := by
  obtain ⟨A', c', he, h1, h2, _⟩ := own_form h
  injection he with _ _ he3
  subst he3
  exact ⟨h1, h2⟩
theorem own_addr' {w : World} {base : Nat} {e : TypeId} {sz n c : Nat} {A : Option Addr} {xs : List Value} (h : w.ownsRow base e sz (.slice A n c) n xs) (hn : 0 < n) : ∃ g, A = some ⟨g, 0, none⟩ ∧ base ≤ g ∧ g < w.heap.size := by
  rcases h.2 with ⟨he, h0⟩ | ⟨g, cap, cur, he, hb, hg, _⟩
  · omega
  · injection he with he1 _ _
    exact ⟨g, he1, hb, (Array.getElem?_eq_some_iff.1 hg).1⟩
/-- A row with something behind its first nodes reads as those. -/
theorem rd_cut {w : World} {B n c : Nat} {A : Option Addr} {L M : List Nd} (h : w.ownsRow B 44 5 (.slice A n c) n ((L ++ M).flatMap ndc)) (hn : n = (L ++ M).length) : SlRd w (.slice A L.length c) L := by
  obtain ⟨A', c', he, h1, h2, h3, h4⟩ := RdL.of_own ndc_len h hn
  injection he with he1 _ he3
  subst he1 he3
  have h5 := h3.take L.length
  rw [List.take_left] at h5
  refine ⟨A, c, rfl, h5, ?_, h2, h4, trivial⟩
  rw [hn, List.length_append] at h1
  omega
def MkRow (w : World) (B : Nat) (v : Value) (l : List Nd) : Prop := ∃ g c, v = .slice (some ⟨g, 0, none⟩) l.length c ∧ l.length + 1 ≤ c ∧ c ≤ maxLen ∧ w.ownsRow B 44 5 (.slice (some ⟨g, 0, none⟩) (l.length + 1) c) (l.length + 1) ((l ++ [mkN (-7)]).flatMap ndc)
theorem MkRow.below {w w' : World} {B : Nat} {v : Value} {l : List Nd} (h : MkRow w B v l) (hb : Below w.heap.size w w') : MkRow w' B v l :=
  let ⟨g, c, h1, h2, h3, h4⟩ := h
  ⟨g, c, h1, h2, h3, own_below h4 hb⟩
theorem MkRow.others {w w' : World} {B : Nat} {v : Value} {l : List Nd} {ts : List TypeId} (h : MkRow w B v l) (ho : Others ts w w') (ht : 44 ∉ ts) : MkRow w' B v l :=
  let ⟨g, c, h1, h2, h3, h4⟩ := h
  ⟨g, c, h1, h2, h3, own_others h4 ho ht⟩
theorem MkRow.rd {w : World} {B : Nat} {v : Value} {l : List Nd} (h : MkRow w B v l) : SlRd w v l := by
  obtain ⟨g, c, rfl, h2, h3, h4⟩ := h
  exact rd_cut h4 (by simp)
/-- The marked node behind. -/
theorem MkRow.mark {w : World} {B g c : Nat} {l : List Nd} (h : w.ownsRow B 44 5 (.slice (some ⟨g, 0, none⟩) (l.length + 1) c) (l.length + 1) ((l ++ [mkN (-7)]).flatMap ndc)) : w.cell? ⟨g, l.length * 5, none⟩ = some (.int .i64 (-7)) := by
  have hmk := h.cellAt (l.length * 5) (by omega)
  have hmk2 : ((l ++ [mkN (-7)]).flatMap ndc)[l.length * 5]? = some (.int .i64 (-7)) := by
    rw [snoc_nd, List.getElem?_append_right (by rw [flat_len ndc_len]; exact Nat.le_refl _), flat_len ndc_len, Nat.sub_self]
    rfl
  rw [hmk2] at hmk
  exact hmk
def AllMk (w : World) (B : Nat) (vs : List Value) (ls : List (List Nd)) : Prop := vs.length = ls.length ∧ ∀ i (h : i < ls.length) v, vs[i]? = some v → MkRow w B v ls[i]
theorem AllMk.nil (w : World) (B : Nat) : AllMk w B [] [] := ⟨rfl, fun i h => absurd h (Nat.not_lt_zero _)⟩
theorem AllMk.below {w w' : World} {B : Nat} {vs : List Value} {ls : List (List Nd)} (h : AllMk w B vs ls) (hb : Below w.heap.size w w') : AllMk w' B vs ls := ⟨h.1, fun i hi v hv => (h.2 i hi v hv).below hb⟩
theorem AllMk.others {w w' : World} {B : Nat} {vs : List Value} {ls : List (List Nd)} {ts : List TypeId} (h : AllMk w B vs ls) (ho : Others ts w w') (ht : 44 ∉ ts) : AllMk w' B vs ls := ⟨h.1, fun i hi v hv => (h.2 i hi v hv).others ho ht⟩
theorem AllMk.rd {w : World} {B : Nat} {vs : List Value} {ls : List (List Nd)} (h : AllMk w B vs ls) : AllRd w vs ls := ⟨h.1, fun i hi v hv => (h.2 i hi v hv).rd⟩
theorem AllMk.snoc {w : World} {B : Nat} {vs : List Value} {ls : List (List Nd)} (h : AllMk w B vs ls) {v : Value} {l : List Nd} (hv : MkRow w B v l) : AllMk w B (vs ++ [v]) (ls ++ [l]) := by
  refine ⟨by simp [h.1], fun i hi u hu => ?_⟩
  by_cases hlt : i < ls.length
  · rw [List.getElem?_append_left (by rw [h.1]; exact hlt)] at hu
    rw [List.getElem_append_left hlt]
    exact h.2 i hlt u hu
  · have hi2 : i = ls.length := by simp at hi; omega
    subst hi2
    rw [List.getElem?_append_right (by rw [h.1]; exact Nat.le_refl _), h.1, Nat.sub_self] at hu
    simp only [List.getElem?_cons_zero, Option.some.injEq] at hu
    subst hu
    simpa using hv
theorem KdRd.of_mk {w : World} {base B n c : Nat} {A : Option Addr} {vs : List Value} {ls : List (List Nd)} (h : w.ownsRow base 25 1 (.slice A n c) n vs) (hn : n = ls.length) (ho : AllMk w B vs ls) : KdRd w A ls :=
  ⟨vs, (rd_one h (by rw [hn, ho.1])).1, ho.rd⟩

/-- A list that was put together and may be a program is what its children make again. -/
theorem newL_again {kind n : Int} {s : List UInt8} {ls : List (List Nd)} (h : fineB (newL kind n s ls) = true) : newL kind n s (kidsL (newL kind n s ls)) = newL kind n s ls := by
  have h0 : (newL kind n s ls).length ≠ 0 := by rw [newL_len]; omega
  simp only [fineB, Bool.and_eq_true, Option.isNone_iff_eq_none] at h
  obtain ⟨t, _, ht⟩ := (check_tree _ h0).1 h.2
  cases t with
  | mk kd m s' ks =>
    have hk : kidsL (newL kind n s ls) = ks.map flat := by rw [← ht, kidsL_flat]
    rw [hk]
    have h1 := ht
    rw [flat_mk, newL] at h1
    injection h1 with h1 h2
    simp only [Nd.mk.injEq] at h1
    obtain ⟨rfl, rfl, _, _, rfl⟩ := h1
    rw [newL_flat]
    exact ht
end Go.Proofs.YtjhgljfmheopmaaDoor
