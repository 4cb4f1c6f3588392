/- The walks over slices.Grow and slices.Concat at rows of trees: what they hand back. Bounds on the lengths. -/
import Derived.Test.YtpogngdddendiaaDoorHI
import Derived.Lib.AppendZerosOnto
import Derived.Laws.AppendOwn
import Derived.Deep.DeepCutAuto
import Derived.Outline
set_option linter.unusedVariables false
set_option linter.unusedSimpArgs false
namespace Go.Proofs.YtpogngdddendiaaDoor
open Go.RowKit

/-- A row of trees from base B on, as a slice of it is. -/
structure RowO (w : World) (B : Nat) (A : Option Addr) (m c : Nat) (ts : List Tr) : Prop where
  len : m = ts.length
  cap : m ≤ c
  max : c ≤ maxLen
  nil : A = none → c = 0
  kd : KdO w B A (ts.map flat)
theorem RowO.below {w w' : World} {B m c : Nat} {A : Option Addr} {ts : List Tr} (h : RowO w B A m c ts) (hb : Below w.heap.size w w') : RowO w' B A m c ts := ⟨h.len, h.cap, h.max, h.nil, h.kd.below hb⟩
theorem RowO.of_own {w : World} {base B n c : Nat} {A : Option Addr} {vs : List Value} {ts : List Tr} (h : w.ownsRow base 22 1 (.slice A n c) n vs) (ho : OwnAll w B vs (ts.map flat)) (hn : n = ts.length) : RowO w B A n c ts := by
  have h1 : w.ownsRow base 22 1 (.slice A n c) n (vs.flatMap one1) := by rw [one1_flat]; exact h
  obtain ⟨A', c', he, h2, h3, h4, h5⟩ := RdL.of_own one1_len h1 (by rw [ho.1, List.length_map]; exact hn)
  injection he with he1 _ he3
  subst he1 he3
  exact ⟨hn, h2, h3, h5, vs, h4, ho⟩

def RowRet (m : Nat) (us : List Value) (w : World) (e : Ending) (w' : World) : Prop :=
  ∃ A c, e = .returned (.slice A m c) ∧ w'.ownsRow w.heap.size 22 1 (.slice A m c) m us ∧ Below w.heap.size w w'
set_option maxRecDepth 100000 in
set_option maxHeartbeats 4000000 in
theorem cgrow_any (n : Nat) (w : World) (hn : n ≤ 4000000) : Calls Tryd.prog 177 #[.slice none 0 0, .int .i64 n] w (RowRet 0 [] w) := by
  obtain ⟨i0, hi, hz0, hz1, hz2⟩ := info_parts infoNodes
  rcases Nat.eq_zero_or_pos n with h0 | h0
  · subst h0
    go_enter Tryd.func177, Tryd.ntmps177
    go_wp2_with fail
    go_ret
    exact ⟨none, 0, rfl, World.ownsRow_nil _ _ _ _, Below.refl _ _⟩
  · have hrz : ∀ ty, (Builtin.append_ #[110, 3] ty #[.slice none 0 0, .int .i64 n]).run Tryd.prog w = _ := fun ty =>
      Lib.run_append_grow_zeros w 110 3 ty 22 i0 _ .i64 .i64 Tryd.underlying110 Tryd.underlying3 hi hz0 none 0 0 [] (run_firstCells_none w.drew i0.size 0 0 0) n h0 (by rw [hz1]; decide) (by omega) (by omega) (by rw [hz2]; omega) (by rw [hz2]; exact growslice_fits (by omega) (by omega))
    have hge : n ≤ grownCap w n 0 22 := grownCap_ge w n 0 22
    have hmx := grownCap_le_maxLen w n 0 22 (by unfold maxLen; omega)
    simp only [Nat.zero_add] at hrz
    have hgt : ((0 : Int) < (n : Int)) := by omega
    have hg1 : decide ((0 : Int) < (n : Int)) = true := decide_eq_true hgt
    have hg2 : decide ((n : Int) < 0) = false := decide_eq_false (by omega)
    generalize grownCap w n 0 22 = G at *
    have hG63 : G ≤ 9223372036854775807 := by unfold maxLen at hmx; omega
    have HMX := Lib.hid hmx
    clear hmx
    go_enter Tryd.func177, Tryd.ntmps177
    go_wp2_with (at_builtin; refine Lib.wpList_append_run _ rfl _ _ _ _ rfl _ _ rfl rfl _ _ (hrz _) ?_)
    go_ret
    refine ⟨some ⟨w.heap.size, 0, none⟩, G, rfl, World.ownsRow_made w.drew _ G (Nat.le_refl _) HMX.out ?_, ((Below.refl _ _).drew).alloc (Nat.le_refl _) _⟩
    rw [Array.size_append, size_zeroCells, size_zeroCells]
    simp
    omega

set_option maxRecDepth 100000 in
set_option maxHeartbeats 4000000 in
theorem cconcat_any (AR A1 A2 : Option Addr) (cR c1 c2 n1 n2 : Nat) (us1 us2 : List Value) (w : World) (hr : RdL w 1 one1 AR [.slice A1 n1 c1, .slice A2 n2 c2])
    (h1 : RdL w 1 one1 A1 us1) (h2 : RdL w 1 one1 A2 us2) (e1 : n1 = us1.length) (e2 : n2 = us2.length) (z1 : A1 = none → c1 = 0) (z2 : A2 = none → c2 = 0) (k1 : ∀ v ∈ us1, v.oneCell' = true) (k2 : ∀ v ∈ us2, v.oneCell' = true) (b1 : n1 ≤ 1000000) (b2 : n2 ≤ 1000000) :
    Calls Tryd.prog 166 #[.slice AR 2 cR] w (RowRet (n1 + n2) (us1 ++ us2) w) := by
  obtain ⟨i0, hi, hz0, hz1, hz2⟩ := info_parts infoNodes
  obtain ⟨b, o, rfl, -, hc0⟩ := hr 0 (by simp)
  obtain ⟨b', o', he, -, hc1⟩ := hr 1 (by simp)
  simp only [Option.some.injEq, Addr.mk.injEq, and_true] at he
  obtain ⟨he1, he2⟩ := he
  subst he1 he2
  have d0 := hc0 0 _ rfl
  have d1 := hc1 0 _ rfl
  simp only [List.getElem_cons_zero, List.getElem_cons_succ, Nat.zero_mul, Nat.add_zero, Nat.mul_one, Nat.one_mul] at d0 d1
  have E1 := Lib.hid e1
  have E2 := Lib.hid e2
  have K1 := Lib.hid (show ∀ y, y ∈ us1 → ∀ u ∈ one1 y, u.oneCell' = true from fun y hy u hu => by simp [one1] at hu; subst hu; exact k1 _ hy)
  have K2 := Lib.hid (show ∀ y, y ∈ us2 → ∀ u ∈ one1 y, u.oneCell' = true from fun y hy u hu => by simp [one1] at hu; subst hu; exact k2 _ hy)
  obtain ⟨N, hN⟩ : ∃ N, N = n1 + n2 := ⟨_, rfl⟩
  have HN := Lib.hid hN
  have hNs : (n1 : Int) + (n2 : Int) = (N : Int) := by omega
  have hN4 : N ≤ 2000000 := by omega
  have GC := Lib.hid (cgrow_any N w (by omega))
  rw [← hN]
  clear hc0 hc1 hr e1 e2 k1 k2 hN
  go_enter Tryd.func166, Tryd.ntmps166
  go_wp2_with fail
  go_loopw [3, 11] (fun v i wr => w = wr ∧ ((i = .int .i64 0 ∧ v = .int .i64 0) ∨ (i = .int .i64 1 ∧ v = .int .i64 n1) ∨ (i = .int .i64 2 ∧ v = .int .i64 N))) (fun _ i _ => 2 - (intOf i).toNat)
  case atStart => exact ⟨rfl, .inl ⟨rfl, rfl⟩⟩
  case round =>
    obtain ⟨rfl, ⟨rfl, rfl⟩ | ⟨rfl, rfl⟩ | ⟨rfl, rfl⟩⟩ := hrel
    · have g0 : decide ((n1 : Int) < 0) = false := decide_eq_false (by omega)
      go_wp2_with fail
      go_roundw
      case rel => exact ⟨trivial, .inr (.inl ⟨rfl, rfl⟩)⟩
      case measure => simp [intOf]
    · have g0 : decide ((N : Int) < 0) = false := decide_eq_false (by omega)
      go_wp2_with fail
      go_roundw
      case rel => exact ⟨trivial, .inr (.inr ⟨rfl, rfl⟩)⟩
      case measure => simp [intOf]
    · clear hNs
      go_wp2_with fail
      refine GC.out.mono ?_
      rintro e w2 ⟨A, c, rfl, hown, hb⟩
      go_wp2_with fail
      go_loopw [6, 27] (fun v i wr => ∃ (A : Option Addr) (c q : Nat) (us : List Value), v = .slice A q c ∧ wr.ownsRow w.heap.size 22 1 (.slice A q c) q us ∧ Below w.heap.size w wr ∧ q ≤ 2000000 ∧ ((i = .int .i64 0 ∧ q = 0 ∧ us = []) ∨ (i = .int .i64 1 ∧ q = n1 ∧ us = us1) ∨ (i = .int .i64 2 ∧ q = N ∧ us = us1 ++ us2))) (fun _ i _ => 2 - (intOf i).toNat)
      case atStart => exact ⟨A, c, 0, [], rfl, hown, hb, Nat.zero_le _, .inl ⟨rfl, rfl, rfl⟩⟩
      case round =>
        clear hown
        obtain ⟨A, c, q, us, rfl, hown, hbw, hq, ⟨rfl, rfl, rfl⟩ | ⟨rfl, rfl, rfl⟩ | ⟨rfl, rfl, rfl⟩⟩ := hrel
        · have f0 := cell_keep hbw d0
          have r1' := h1.below hbw
          have hsp : True := trivial
          go_wp2_with (at_builtin; refine wpList_pushMem (enc := one1) rfl _ _ _ rfl Tryd.underlying110 hi hz0 hz1 hz2 rfl (by decide) hown rfl rfl E1.out r1' z1 hsp one1_len K1.out (by omega) (by decide) hbw.size ?_; intro A4 c4' w4 hown4 hb4 hoo4)
          go_roundw
          case rel =>
            rw [one1_flat] at hown4
            exact ⟨A4, c4', n1, us1, by simp, by simpa using hown4, hbw.trans hb4, by omega, .inr (.inl ⟨rfl, rfl, rfl⟩)⟩
          case measure => simp [intOf]
        · have f1 := cell_keep hbw d1
          have r2' := h2.below hbw
          have hsp : True := trivial
          go_wp2_with (at_builtin; refine wpList_pushMem (enc := one1) rfl _ _ _ rfl Tryd.underlying110 hi hz0 hz1 hz2 rfl (by decide) hown rfl rfl E2.out r2' z2 hsp one1_len K2.out (by omega) (by decide) hbw.size ?_; intro A4 c4' w4 hown4 hb4 hoo4)
          go_roundw
          case rel =>
            rw [one1_flat, ← HN.out] at hown4
            exact ⟨A4, c4', N, us ++ us2, by rw [HN.out], hown4, hbw.trans hb4, by omega, .inr (.inr ⟨rfl, rfl, rfl⟩)⟩
          case measure => simp [intOf]
        · go_wp2_with fail
          go_ret
          exact ⟨A, c, rfl, hown, hbw⟩
end Go.Proofs.YtpogngdddendiaaDoor
