/- The walks over slices.Equal at nodes and core.Same, patoisref.SameNodes: they tell whether two lists of nodes are the same. Bounds on the lengths. -/
import Derived.Test.YtpogngdddendiaaDoorHF
import Derived.Test.YtpogngdddendiaaDoorHC
import Derived.Test.YtpogngdddendiaaDoorHE
import Derived.Laws.StructEq
import Derived.Deep.DeepCutAuto
import Derived.Outline
import Derived.Test.YtpogngdddendiaaDoorCheckW
set_option linter.unusedVariables false
set_option linter.unusedSimpArgs false
namespace Go.Proofs.YtpogngdddendiaaDoor
open Go.RowKit

def ndEq (x y : Nd) : Bool := x.kind == y.kind && x.n == y.n && x.k == y.k && x.size == y.size && x.s == y.s
theorem ndEq_iff (x y : Nd) : ndEq x y = true ↔ x = y := by
  cases x; cases y
  simp [ndEq, and_assoc]
def sameL : List Nd → List Nd → Bool
  | [], [] => true
  | x :: a, y :: b => ndEq x y && sameL a b
  | _, _ => false
theorem sameL_iff : ∀ (a b : List Nd), sameL a b = true ↔ a = b
  | [], [] => by simp [sameL]
  | x :: a, y :: b => by simp [sameL, ndEq_iff, sameL_iff a b]
  | [], y :: b => by simp [sameL]
  | x :: a, [] => by simp [sameL]
theorem sameL_len {a b : List Nd} (h : a.length ≠ b.length) : sameL a b = false := by
  cases hs : sameL a b with
  | false => rfl
  | true => exact absurd (by rw [(sameL_iff a b).1 hs]) h
theorem sameL_cons {a b : List Nd} {k : Nat} (ha : k < a.length) (hb : k < b.length) : sameL (a.drop k) (b.drop k) = (ndEq a[k] b[k] && sameL (a.drop (k + 1)) (b.drop (k + 1))) := by
  rw [List.drop_eq_getElem_cons ha, List.drop_eq_getElem_cons hb, sameL]

theorem bytes_list (s : List UInt8) : (⟨s.toArray⟩ : ByteArray).toList = s := by rw [ByteArray.toList_eq]

theorem run_neq_node (W : World) (x y : Nd) : (binOp .neq 98 (.agg #[.int .i64 x.kind, .int .i64 x.n, .int .i64 x.k, .int .i64 x.size, .string ⟨x.s.toArray⟩]) (.agg #[.int .i64 y.kind, .int .i64 y.n, .int .i64 y.k, .int .i64 y.size, .string ⟨y.s.toArray⟩])).run Tryd.prog W = .ok (.bool (!ndEq x y)) W := by
  obtain ⟨a, b, c, d, s⟩ := x
  obtain ⟨a', b', c', d', s'⟩ := y
  rw [run_neq_struct, run_equalIn_agg _ _ _ _ _ (by kernel_rfl) (by kernel_rfl)]
  simp only [Program.fieldsOf, Tryd.underlying98]
  go_simp
  simp only [bytes_list, ndEq]
  by_cases h1 : a = a'
  all_goals by_cases h2 : b = b'
  all_goals by_cases h3 : c = c'
  all_goals by_cases h4 : d = d'
  all_goals by_cases h5 : s = s'
  all_goals simp [*]

theorem guard_node : Tryd.prog.eqGuardType Tryd.prog.depth 98 = false := by kernel_rfl

set_option maxRecDepth 100000 in
set_option maxHeartbeats 2000000 in
theorem equal_any (A B : Option Addr) (ca cb : Nat) (a b : List Nd) (w : World) (ha : RdL w 5 ndc A a) (hb : RdL w 5 ndc B b) (hla : a.length ≤ 4000000) (hlb : b.length ≤ 4000000) :
    Calls Tryd.prog 50 #[.slice A a.length ca, .slice B b.length cb] w (Ret w (.bool (sameL a b))) := by
  obtain ⟨ma, hma⟩ : ∃ m, m = a.length := ⟨_, rfl⟩
  obtain ⟨mb, hmb⟩ : ∃ m, m = b.length := ⟨_, rfl⟩
  by_cases hl : a.length = b.length
  · rw [← hma] at hla ⊢
    rw [← hl, ← hma]
    have hl2 : b.length = ma := by omega
    have HL := Lib.hid hl2
    have HA := Lib.hid hma
    have hq : ((ma : Int) != (ma : Int)) = false := by simp
    clear hl hl2 hma hmb hlb
    go_enter Tryd.func50, Tryd.ntmps50
    go_wp2_with fail
    go_loopw [13] (fun i wr => ∃ k : Nat, k ≤ ma ∧ i = .int .i64 k ∧ Below w.heap.size w wr ∧ Hid (sameL a b = sameL (a.drop k) (b.drop k))) (fun i _ => ma - (intOf i).toNat)
    case atStart => exact ⟨0, Nat.zero_le _, rfl, Below.refl _ _, rfl⟩
    case round =>
      obtain ⟨k, hk, rfl, hbr, HS⟩ := hrel
      by_cases hlt : k < ma
      · have hka : k < a.length := by rw [← HA.out]; exact hlt
        have hkb : k < b.length := by rw [HL.out]; exact hlt
        have HN := Lib.hid (show sameL a b = (ndEq a[k] b[k] && sameL (a.drop (k + 1)) (b.drop (k + 1))) by rw [HS.out, sameL_cons hka hkb])
        obtain ⟨ba, oa, rfl, _, hca⟩ := (ha.below hbr) k hka
        obtain ⟨bb, ob, rfl, _, hcb⟩ := (hb.below hbr) k hkb
        generalize a[k] = x at *
        generalize b[k] = y at *
        have a0 := Later.cell (hca 0 _ rfl)
        have a1 := Later.cell (hca 1 _ rfl)
        have a2 := Later.cell (hca 2 _ rfl)
        have a3 := Later.cell (hca 3 _ rfl)
        have a4 := Later.cell (hca 4 _ rfl)
        have b0 := Later.cell (hcb 0 _ rfl)
        have b1 := Later.cell (hcb 1 _ rfl)
        have b2 := Later.cell (hcb 2 _ rfl)
        have b3 := Later.cell (hcb 3 _ rfl)
        have b4 := Later.cell (hcb 4 _ rfl)
        clear hca hcb hka hkb HS
        simp only [Nat.add_zero] at a0 b0
        have hne := run_neq_node
        have hgd := guard_node
        go_upto_region 6 with (fail)
        refine wp_region_eq (by kernel_rfl) (by kernel_rfl) ?_
        apply EqGo.run
        focus
          kernel_rfl
        focus
          intro x K hK
          go_wp2_with fail
          first | exact hK x (Below.refl _ _) | exact Below.refl _ _
        simp only [Act.put, List.setIfInBounds_toArray, List.set_cons_succ, List.set_cons_zero]
        apply EqGo.run
        focus
          kernel_rfl
        focus
          intro x K hK
          go_wp2_with fail
          first | exact hK x (Below.refl _ _) | exact Below.refl _ _
        simp only [Act.put, List.setIfInBounds_toArray, List.set_cons_succ, List.set_cons_zero]
        apply EqGo.run
        focus
          kernel_rfl
        focus
          intro x K hK
          go_wp2_with fail
          first | exact hK x (Below.refl _ _) | exact Below.refl _ _
        simp only [Act.put, List.setIfInBounds_toArray, List.set_cons_succ, List.set_cons_zero]
        apply EqGo.run
        focus
          kernel_rfl
        focus
          intro x K hK
          go_wp2_with fail
          first | exact hK x (Below.refl _ _) | exact Below.refl _ _
        simp only [Act.put, List.setIfInBounds_toArray, List.set_cons_succ, List.set_cons_zero]
        apply EqGo.run
        focus
          kernel_rfl
        focus
          intro x K hK
          go_wp2_with fail
          first | exact hK x (Below.refl _ _) | exact Below.refl _ _
        simp only [Act.put, List.setIfInBounds_toArray, List.set_cons_succ, List.set_cons_zero]
        apply EqGo.run
        focus
          kernel_rfl
        focus
          intro x K hK
          go_wp2_with fail
          first | exact hK x (Below.refl _ _) | exact Below.refl _ _
        simp only [Act.put, List.setIfInBounds_toArray, List.set_cons_succ, List.set_cons_zero]
        apply EqGo.run
        focus
          kernel_rfl
        focus
          intro x K hK
          go_wp2_with fail
          first | exact hK x (Below.refl _ _) | exact Below.refl _ _
        simp only [Act.put, List.setIfInBounds_toArray, List.set_cons_succ, List.set_cons_zero]
        apply EqGo.run
        focus
          kernel_rfl
        focus
          intro x K hK
          go_wp2_with fail
          first | exact hK x (Below.refl _ _) | exact Below.refl _ _
        simp only [Act.put, List.setIfInBounds_toArray, List.set_cons_succ, List.set_cons_zero]
        apply EqGo.run
        focus
          kernel_rfl
        focus
          intro x K hK
          go_wp2_with fail
          first | exact hK x (Below.refl _ _) | exact Below.refl _ _
        simp only [Act.put, List.setIfInBounds_toArray, List.set_cons_succ, List.set_cons_zero]
        intro wx
        obtain ⟨nb, hnb⟩ : ∃ nb, nb = ndEq x y := ⟨_, rfl⟩
        rw [← hnb] at HN ⊢
        have hbx := hbr.trans (wx.below.mono hbr.size)
        clear a0 a1 a2 a3 a4 b0 b1 b2 b3 b4 hnb hne hgd
        cases nb
        · go_wp2_with fail
          go_ret
          exact ⟨by rw [HN.out]; rfl, hbx⟩
        · go_wp2_with fail
          go_roundw
          case rel => exact ⟨k + 1, by omega, by go_num, hbx, Lib.hid (by rw [HN.out]; rfl)⟩
          case measure => simp [intOf]; omega
      · obtain rfl : k = ma := by omega
        have HN := Lib.hid (show sameL a b = true by rw [HS.out, List.drop_of_length_le (by rw [← HA.out]; exact Nat.le_refl _), List.drop_of_length_le (by rw [HL.out]; exact Nat.le_refl _)]; rfl)
        clear HS
        go_wp2_with fail
        go_ret
        exact ⟨by rw [HN.out]; rfl, hbr⟩
  · have HN := Lib.hid (sameL_len hl)
    rw [← hma, ← hmb]
    have hq : ((ma : Int) != (mb : Int)) = true := by rw [bne_iff_ne]; omega
    clear hl hma hmb
    go_enter Tryd.func50, Tryd.ntmps50
    go_wp2_with fail
    go_ret
    exact ⟨by rw [HN.out]; rfl, Below.refl _ _⟩

theorem same_any (A B : Option Addr) (ca cb : Nat) (a b : List Nd) (w : World) (ha : RdL w 5 ndc A a) (hb : RdL w 5 ndc B b) (hla : a.length ≤ 4000000) (hlb : b.length ≤ 4000000) :
    Calls Tryd.prog 21 #[.slice A a.length ca, .slice B b.length cb] w (Ret w (.bool (sameL a b))) := by
  have HE := Lib.hid (fun W h1 h2 => equal_any A B ca cb a b W h1 h2 hla hlb)
  go_enter Tryd.func21, Tryd.ntmps21
  go_wp2_with fail
  refine (HE.out _ ha hb).mono ?_
  rintro e w1 ⟨rfl, hb1⟩
  go_wp2_with fail
  go_ret
  exact ⟨rfl, hb1⟩


end Go.Proofs.YtpogngdddendiaaDoor

/- The contracts of package core once more, at values and trees: what is handed to a call is a value that reads as a tree laid flat. Bounds on the lengths. -/
set_option linter.unusedVariables false
set_option linter.unusedSimpArgs false
namespace Go.Proofs.YtpogngdddendiaaDoor
open Go.RowKit

/-- A slice of the call's own that holds these nodes. -/
def OwnNd (w : World) (B : Nat) (v : Value) (L : List Nd) : Prop := ∃ A c, v = .slice A L.length c ∧ w.ownsRow B 98 5 (.slice A L.length c) L.length (L.flatMap ndc)
theorem OwnNd.below {w w' : World} {B : Nat} {v : Value} {L : List Nd} (h : OwnNd w B v L) (hb : Below w.heap.size w w') : OwnNd w' B v L :=
  let ⟨A, c, h1, h2⟩ := h
  ⟨A, c, h1, own_below h2 hb⟩
theorem OwnNd.mono {w : World} {B B' : Nat} {v : Value} {L : List Nd} (h : OwnNd w B v L) (hb : B' ≤ B) : OwnNd w B' v L :=
  let ⟨A, c, h1, h2⟩ := h
  ⟨A, c, h1, own_mono h2 hb⟩
theorem OwnNd.rd {w : World} {B : Nat} {v : Value} {L : List Nd} (h : OwnNd w B v L) : SlRd w v L :=
  let ⟨A, c, h1, h2⟩ := h
  h1 ▸ SlRd.of_own h2 rfl
def nodesT (B : Nat) (L : List Nd) : TT := ⟨fun v => ∃ A n c, v = .slice A n c, ⟨_, none, 0, 0, rfl⟩, fun v x => OwnNd x B v L, fun _ _ _ h hb => h.below hb⟩

/-- It returns such a slice, and has changed nothing that was there. -/
def VRet (L : List Nd) (w : World) (e : Ending) (w' : World) : Prop := ∃ A n c, e = .returned (.slice A n c) ∧ OwnNd w' w.heap.size (.slice A n c) L ∧ Below w.heap.size w w'
theorem NodesRet.v {L : List Nd} {w : World} {e : Ending} {w' : World} (h : NodesRet L w e w') : VRet L w e w' :=
  let ⟨A, c, h1, h2, h3⟩ := h
  ⟨A, L.length, c, h1, ⟨A, c, rfl, h2⟩, h3⟩
theorem VRet.n {L : List Nd} {w : World} {e : Ending} {w' : World} (h : VRet L w e w') : NodesRet L w e w' := by
  obtain ⟨A, n, c, h1, ⟨A', c', h4, h2⟩, h3⟩ := h
  exact ⟨A', c', by rw [h1, h4], h2, h3⟩

theorem AllRd.one {w : World} {v : Value} {L : List Nd} (h : SlRd w v L) : AllRd w [v] [L] := (AllRd.nil w).snoc h
theorem AllRd.two {w : World} {v u : Value} {L M : List Nd} (h : SlRd w v L) (h2 : SlRd w u M) : AllRd w [v, u] [L, M] := (AllRd.one h).snoc h2
theorem AllRd.three {w : World} {v u x : Value} {L M N : List Nd} (h : SlRd w v L) (h2 : SlRd w u M) (h3 : SlRd w x N) : AllRd w [v, u, x] [L, M, N] := (AllRd.two h h2).snoc h3
/-- A row of slices that has just been laid. -/
theorem KdRd.lit {w : World} {vs : Array Value} {ls : List (List Nd)} (h : AllRd w vs.toList ls) : KdRd (w.alloc (.cells vs 22)) (some ⟨w.heap.size, 0, none⟩) ls := by
  have hb : Below w.heap.size w (w.alloc (.cells vs 22)) := (Below.refl _ _).alloc (Nat.le_refl _) _
  refine ⟨vs.toList, fun k hk => ⟨w.heap.size, 0, rfl, by simp, fun j u hu => ?_⟩, h.below hb⟩
  have hj : j = 0 := by
    have := (List.getElem?_eq_some_iff.1 hu).1
    simp [one1] at this
    exact this
  subst hj
  rw [cell_of_row _ _ _ _ _ _ (heap_alloc_new w _)]
  simp only [one1, List.getElem?_cons_zero, Option.some.injEq] at hu
  rw [← hu]
  simp at hk
  simp [hk]

theorem newT_any (kind n : Int) (s : List UInt8) (A : Option Addr) (c m : Nat) (ts : List Tr) (w : World) (h : KdRd w A (ts.map flat)) (hm : m = ts.length) (ht : (flatAll ts).length ≤ 4000000) :
    Calls Tryd.prog 45 #[.int .i64 kind, .int .i64 n, .string ⟨s.toArray⟩, .slice A m c] w (VRet (flat (.mk kind n s ts)) w) := by
  have h1 := len_flatAll ts
  have h2 := new_any kind n s A c (ts.map flat) w h (by rw [List.length_map]; omega) (by rw [flatAll_flatten]; exact ht)
  rw [newL_flat, List.length_map, ← hm] at h2
  exact h2.mono fun _ _ h => h.v
/-- New over a row of slices that has just been laid. -/
theorem newL_any (kind n : Int) (s : List UInt8) (vs : Array Value) (c m : Nat) (ts : List Tr) (w : World) (h : AllRd w vs.toList (ts.map flat)) (hm : m = ts.length) (ht : (flatAll ts).length ≤ 4000000) :
    Calls Tryd.prog 45 #[.int .i64 kind, .int .i64 n, .string ⟨s.toArray⟩, .slice (some ⟨w.heap.size, 0, none⟩) m c] (w.alloc (.cells vs 22)) (VRet (flat (.mk kind n s ts)) w) :=
  (newT_any kind n s _ c m ts _ (KdRd.lit h) hm ht).mono fun _ _ ⟨A, n, c, h1, h2, h3⟩ => ⟨A, n, c, h1, h2.mono (by simp), ((Below.refl _ _).alloc (Nat.le_refl _) _).trans (h3.mono (by simp))⟩
theorem litT_any (s : List UInt8) (w : World) : Calls Tryd.prog 46 #[.string ⟨s.toArray⟩] w (VRet (flat (.mk 1 0 s [])) w) := by
  have h := lit_any s w
  rw [show litL s = flat (.mk 1 0 s []) from newL_flat 1 0 s []] at h
  exact h.mono fun _ _ h => h.v
theorem same_v (va vb : Value) (a b : List Nd) (w : World) (ha : SlRd w va a) (hb : SlRd w vb b) (hla : a.length ≤ 4000000) (hlb : b.length ≤ 4000000) :
    Calls Tryd.prog 21 #[va, vb] w (Ret w (.bool (sameL a b))) := by
  obtain ⟨A, ca, rfl, h1, _⟩ := ha
  obtain ⟨B, cb, rfl, h2, _⟩ := hb
  exact same_any A B ca cb a b w h1 h2 hla hlb
theorem check_v (v : Value) (L : List Nd) (aN aT aM : Addr) (w : World) (hL : L.length ≤ 4000000) (hok : ∀ x ∈ L, NdOk x) (hv : SlRd w v L) (hE : ErrW w aN aT aM) :
    Calls Tryd.prog 9 #[v] w (CheckRet L aN aT aM w) := by
  obtain ⟨A, c, rfl, hrd, _⟩ := hv
  exact check_any A c L aN aT aM w hL hok hrd hE

theorem len0_flat (t : Tr) : (flat t).length ≠ 0 := by have := flat_pos t; omega
end Go.Proofs.YtpogngdddendiaaDoor
