/- The contracts of package core once more, at values and trees: what is handed to a call is a value that reads as a tree laid flat. Bounds on the lengths. -/
import Derived.Test.YtpogngdddendiaaDoorTree
import Derived.Test.YtpogngdddendiaaDoorCheckW
import Derived.Test.YtpogngdddendiaaDoorSameW
set_option linter.unusedVariables false
set_option linter.unusedSimpArgs false
namespace Go.Proofs.YtpogngdddendiaaDoor
open Go.RowKit

/-- A slice of the call's own that holds these nodes. -/
def OwnNd (w : World) (B : Nat) (v : Value) (L : List Nd) : Prop := ∃ A c, v = .slice A L.length c ∧ w.ownsRow B 98 5 (.slice A L.length c) L.length (L.flatMap ndc)
theorem OwnNd.below {w w' : World} {B : Nat} {v : Value} {L : List Nd} (h : OwnNd w B v L) (hb : Below w.heap.size w w') : OwnNd w' B v L :=
  let ⟨A, c, h1, h2⟩ := h
  ⟨A, c, h1, own_below h2 hb⟩
theorem OwnNd.mono {w : World} {B B' : Nat} {v : Value} {L : List Nd} (h : OwnNd w B v L) (hb : B' ≤ B) : OwnNd w B' v L :=
  let ⟨A, c, h1, h2⟩ := h
  ⟨A, c, h1, own_mono h2 hb⟩
theorem OwnNd.rd {w : World} {B : Nat} {v : Value} {L : List Nd} (h : OwnNd w B v L) : SlRd w v L :=
  let ⟨A, c, h1, h2⟩ := h
  h1 ▸ SlRd.of_own h2 rfl
def nodesT (B : Nat) (L : List Nd) : TT := ⟨fun v => ∃ A n c, v = .slice A n c, ⟨_, none, 0, 0, rfl⟩, fun v x => OwnNd x B v L, fun _ _ _ h hb => h.below hb⟩

/-- It returns such a slice, and has changed nothing that was there. -/
def VRet (L : List Nd) (w : World) (e : Ending) (w' : World) : Prop := ∃ A n c, e = .returned (.slice A n c) ∧ OwnNd w' w.heap.size (.slice A n c) L ∧ Below w.heap.size w w'
theorem NodesRet.v {L : List Nd} {w : World} {e : Ending} {w' : World} (h : NodesRet L w e w') : VRet L w e w' :=
  let ⟨A, c, h1, h2, h3⟩ := h
  ⟨A, L.length, c, h1, ⟨A, c, rfl, h2⟩, h3⟩
theorem VRet.n {L : List Nd} {w : World} {e : Ending} {w' : World} (h : VRet L w e w') : NodesRet L w e w' := by
  obtain ⟨A, n, c, h1, ⟨A', c', h4, h2⟩, h3⟩ := h
  exact ⟨A', c', by rw [h1, h4], h2, h3⟩

theorem AllRd.one {w : World} {v : Value} {L : List Nd} (h : SlRd w v L) : AllRd w [v] [L] := (AllRd.nil w).snoc h
theorem AllRd.two {w : World} {v u : Value} {L M : List Nd} (h : SlRd w v L) (h2 : SlRd w u M) : AllRd w [v, u] [L, M] := (AllRd.one h).snoc h2
theorem AllRd.three {w : World} {v u x : Value} {L M N : List Nd} (h : SlRd w v L) (h2 : SlRd w u M) (h3 : SlRd w x N) : AllRd w [v, u, x] [L, M, N] := (AllRd.two h h2).snoc h3
/-- A row of slices that has just been laid. -/
theorem KdRd.lit {w : World} {vs : Array Value} {ls : List (List Nd)} (h : AllRd w vs.toList ls) : KdRd (w.alloc (.cells vs 22)) (some ⟨w.heap.size, 0, none⟩) ls := by
  have hb : Below w.heap.size w (w.alloc (.cells vs 22)) := (Below.refl _ _).alloc (Nat.le_refl _) _
  refine ⟨vs.toList, fun k hk => ⟨w.heap.size, 0, rfl, by simp, fun j u hu => ?_⟩, h.below hb⟩
  have hj : j = 0 := by
    have := (List.getElem?_eq_some_iff.1 hu).1
    simp [one1] at this
    exact this
  subst hj
  rw [cell_of_row _ _ _ _ _ _ (heap_alloc_new w _)]
  simp only [one1, List.getElem?_cons_zero, Option.some.injEq] at hu
  rw [← hu]
  simp at hk
  simp [hk]

theorem newT_any (kind n : Int) (s : List UInt8) (A : Option Addr) (c m : Nat) (ts : List Tr) (w : World) (h : KdRd w A (ts.map flat)) (hm : m = ts.length) (ht : (flatAll ts).length ≤ 4000000) :
    Calls Tryd.prog 45 #[.int .i64 kind, .int .i64 n, .string ⟨s.toArray⟩, .slice A m c] w (VRet (flat (.mk kind n s ts)) w) := by
  have h1 := len_flatAll ts
  have h2 := new_any kind n s A c (ts.map flat) w h (by rw [List.length_map]; omega) (by rw [flatAll_flatten]; exact ht)
  rw [newL_flat, List.length_map, ← hm] at h2
  exact h2.mono fun _ _ h => h.v
/-- New over a row of slices that has just been laid. -/
theorem newL_any (kind n : Int) (s : List UInt8) (vs : Array Value) (c m : Nat) (ts : List Tr) (w : World) (h : AllRd w vs.toList (ts.map flat)) (hm : m = ts.length) (ht : (flatAll ts).length ≤ 4000000) :
    Calls Tryd.prog 45 #[.int .i64 kind, .int .i64 n, .string ⟨s.toArray⟩, .slice (some ⟨w.heap.size, 0, none⟩) m c] (w.alloc (.cells vs 22)) (VRet (flat (.mk kind n s ts)) w) :=
  (newT_any kind n s _ c m ts _ (KdRd.lit h) hm ht).mono fun _ _ ⟨A, n, c, h1, h2, h3⟩ => ⟨A, n, c, h1, h2.mono (by simp), ((Below.refl _ _).alloc (Nat.le_refl _) _).trans (h3.mono (by simp))⟩
theorem litT_any (s : List UInt8) (w : World) : Calls Tryd.prog 46 #[.string ⟨s.toArray⟩] w (VRet (flat (.mk 1 0 s [])) w) := by
  have h := lit_any s w
  rw [show litL s = flat (.mk 1 0 s []) from newL_flat 1 0 s []] at h
  exact h.mono fun _ _ h => h.v
theorem same_v (va vb : Value) (a b : List Nd) (w : World) (ha : SlRd w va a) (hb : SlRd w vb b) (hla : a.length ≤ 4000000) (hlb : b.length ≤ 4000000) :
    Calls Tryd.prog 21 #[va, vb] w (Ret w (.bool (sameL a b))) := by
  obtain ⟨A, ca, rfl, h1, _⟩ := ha
  obtain ⟨B, cb, rfl, h2, _⟩ := hb
  exact same_any A B ca cb a b w h1 h2 hla hlb
theorem check_v (v : Value) (L : List Nd) (aN aT aM : Addr) (w : World) (hL : L.length ≤ 4000000) (hok : ∀ x ∈ L, NdOk x) (hv : SlRd w v L) (hE : ErrW w aN aT aM) :
    Calls Tryd.prog 9 #[v] w (CheckRet L aN aT aM w) := by
  obtain ⟨A, c, rfl, hrd, _⟩ := hv
  exact check_any A c L aN aT aM w hL hok hrd hE

theorem len0_flat (t : Tr) : (flat t).length ≠ 0 := by have := flat_pos t; omega
end Go.Proofs.YtpogngdddendiaaDoor
