/- The walk over strings.Join with a space between. A bound on the whole length. -/
import Derived.Test.YtckcpokfjofcaaaDoorListWC
set_option linter.unusedVariables false
set_option linter.unusedSimpArgs false
namespace Go.Proofs.YtckcpokfjofcaaaDoor
open Go.RowKit

theorem spaced_snoc : ∀ (l : List (List UInt8)) (x : List UInt8), l ≠ [] → spaced (l ++ [x]) = (spaced l ++ [32]) ++ x
  | [], x, h => absurd rfl h
  | [s], x, _ => by simp [spaced]
  | s :: u :: t, x, _ => by
    have ih := spaced_snoc (u :: t) x (by simp)
    rw [List.cons_append, List.cons_append, spaced, ← List.cons_append, ih]
    simp [spaced]
theorem sumL_snoc (l : List (List UInt8)) (x : List UInt8) : sumL (l ++ [x]) = sumL l + x.length := by
  induction l with
  | nil => simp [sumL]
  | cons y t ih => simp only [List.cons_append, sumL, ih]; omega
theorem sumL_take (l : List (List UInt8)) (k : Nat) : sumL (l.take k) ≤ sumL l := by
  induction l generalizing k with
  | nil => simp [sumL]
  | cons y t ih =>
    cases k with
    | zero => simp [sumL]
    | succ k => simp only [List.take_succ_cons, sumL]; have := ih k; omega
theorem spaced_take (l : List (List UInt8)) (k : Nat) : (spaced (l.take k)).length ≤ l.length - 1 + sumL l := by
  have h1 := sumL_take l k
  rw [spaced_len, List.length_take]
  omega
theorem sum_mem {s : List UInt8} : ∀ {l : List (List UInt8)}, s ∈ l → s.length ≤ sumL l
  | x :: t, h => by
    simp only [sumL]
    rcases List.mem_cons.1 h with rfl | h
    · omega
    · have := sum_mem h; omega
theorem RdL.str3 {w : World} {b o : Nat} {l : List (List UInt8)} (h : RdL w 1 strc (some ⟨b, o, none⟩) l) {k : Nat} (hk : k < l.length) : w.cell? ⟨b, o + k, none⟩ = some (.string ⟨l[k].toArray⟩) := by
  obtain ⟨b', o', he, _, hc⟩ := h k hk
  injection he with he
  injection he with h1 h2
  subst h1 h2
  have := hc 0 _ rfl
  rwa [Nat.mul_one, Nat.add_zero] at this
theorem RdL.at3 {w : World} {A : Option Addr} {l : List (List UInt8)} (h : RdL w 1 strc A l) {k : Nat} (hk : k < l.length) : ∃ b o, A = some ⟨b, o, none⟩ :=
  let ⟨b, o, h1, _⟩ := h k hk
  ⟨b, o, h1⟩
set_option maxHeartbeats 2000000 in
set_option maxRecDepth 100000 in
theorem sjoin_any (A0 : Option Addr) (c0 : Nat) (L : List (List UInt8)) (w : World) (hrd : RdL w 1 strc A0 L) (hc : L.length ≤ c0) (hsum : L.length - 1 + sumL L ≤ 2000) :
    Calls Tryd.prog 29 #[.slice A0 L.length c0, .string { data := #[32] }] w (Ret w (.string ⟨(spaced L).toArray⟩)) := by
  have HSP := Lib.hid (fun k => Nat.le_trans (spaced_take L k) hsum)
  have HMEM := Lib.hid (show ∀ s ∈ L, s.length ≤ 2000 from fun s hs => by have := sum_mem hs; omega)
  have HSUM := Lib.hid (show ∀ k, L.length - 1 + sumL (L.take k) ≤ 2000 from fun k => by have := sumL_take L k; omega)
  obtain ⟨m, hm⟩ : ∃ m, m = L.length := ⟨_, rfl⟩
  have HM := Lib.hid hm
  rw [← hm] at hc HSUM ⊢
  have hm2 : m ≤ 2001 := by omega
  clear hsum
  by_cases h0 : m = 0
  · have hL : L = [] := List.eq_nil_of_length_eq_zero (by omega)
    subst hL
    subst h0
    clear hm HM HSP HMEM HSUM
    go_enter Tryd.func29, Tryd.ntmps29
    go_wp2_with fail
    go_ret
    exact ⟨rfl, Below.refl _ _⟩
  have hq0 : ((m : Int) == 0) = false := by rw [beq_eq_false_iff_ne]; omega
  have hpos : 0 < L.length := by omega
  obtain ⟨b, o, rfl⟩ := hrd.at3 hpos
  have cz := hrd.str3 hpos
  rw [Nat.add_zero] at cz
  have H1 := Lib.hid (show L.take 1 = [L[0]] by rw [List.take_succ_eq_append_getElem hpos]; rfl)
  have hx0 := HMEM.out _ (List.getElem_mem hpos)
  obtain ⟨x0, hx00⟩ : ∃ x, x = L[0] := ⟨_, rfl⟩
  rw [← hx00] at cz H1 hx0
  have czz := cz
  by_cases h1 : m = 1
  · have HR := Lib.hid (show spaced L = x0 by
      have : L.take 1 = L := List.take_of_length_le (by omega)
      rw [← this, H1.out]
      rfl)
    subst h1
    clear hm HM HSP HMEM HSUM h0 hpos hx00 H1
    go_enter Tryd.func29, Tryd.ntmps29
    go_wp2_with fail
    go_ret
    rw [HR.out]
    exact ⟨rfl, Below.refl _ _⟩
  have hq1 : ((m : Int) == 1) = false := by rw [beq_eq_false_iff_ne]; omega
  have hmm : 2 ≤ m := by omega
  clear hm h0 h1 hpos hx00
  have hdiv : ¬ ((9223372036854775807 : Int) / ((m : Int) - 1) ≤ 1) := by
    have h2 : (2 : Int) ≤ 9223372036854775807 / ((m : Int) - 1) := by
      rw [Int.le_ediv_iff_mul_le (by omega)]
      omega
    omega
  go_enter Tryd.func29, Tryd.ntmps29
  go_upto_region 11 with (fail)
  clear hdiv hq0 hq1 cz
  go_upto_region 12 with (fail)
  go_loopw [5, 41] (fun v i wr => ∃ k : Nat, k ≤ m ∧ i = .int .i64 k ∧ v = .int .i64 ((m - 1 + sumL (L.take k) : Nat) : Int) ∧ wr = w)
    (fun _ i _ => m - (intOf i).toNat)
  case atStart => exact ⟨0, Nat.zero_le _, rfl, by simp [sumL]; omega, rfl⟩
  case round =>
    obtain ⟨k, hk, rfl, rfl, hwr⟩ := hrel
    obtain rfl : w = wr := hwr.symm
    have hsk := HSUM.out k
    by_cases hlt : k < m
    · have hkL : k < L.length := by rw [← HM.out]; exact hlt
      have cx := hrd.str3 hkL
      have HT := Lib.hid (show m - 1 + sumL (L.take (k + 1)) = m - 1 + sumL (L.take k) + L[k].length by rw [List.take_succ_eq_append_getElem hkL, sumL_snoc]; omega)
      have hsk1 := HSUM.out (k + 1)
      rw [HT.out] at hsk1
      generalize L[k] = x at *
      obtain ⟨a, ha⟩ : ∃ a, a = m - 1 + sumL (L.take k) := ⟨_, rfl⟩
      rw [← ha] at HT hsk hsk1 ⊢
      clear ha hkL
      go_wp2_with fail
      go_roundw
      case rel => exact ⟨k + 1, by omega, by go_num, by rw [HT.out]; go_num, trivial⟩
      case measure => simp [intOf]; omega
    · obtain rfl : m = k := by omega
      obtain ⟨a, ha⟩ : ∃ a, a = m - 1 + sumL (L.take m) := ⟨_, rfl⟩
      rw [← ha] at hsk ⊢
      clear ha hlt
      go_wp2_with fail
      refine (Tryd.Builder_Grow_fresh w.heap.size w.heap.size a _ (Nat.le_refl _) (heap_alloc_new w _) (by rw [World.alloc]; simp) (by omega)).mono ?_
      rintro e w1 ⟨rfl, hB1, hb1⟩
      have hb := ((Below.refl w.heap.size w).alloc (Nat.le_refl _) (.cells #[.pointer none, .slice none 0 0] 54)).trans hb1
      have HB1 := Lib.hid (show Bld w.heap.size w.heap.size [] w1 from .inr hB1)
      clear hB1 hb1
      have cz := cell_keep hb czz
      go_wp2_with fail
      refine (writeString_any _ _ [] x0 _ HB1.out (by simp only [List.length_nil]; omega) hb.size).mono ?_
      rintro e w2 ⟨rfl, hB2, hb2⟩
      rw [List.nil_append] at hB2
      have HB2 := Lib.hid (show Bld w.heap.size w.heap.size (spaced (L.take 1)) w2 by rw [H1.out]; exact hB2)
      replace hb := hb.trans hb2
      clear hB2 hb2 HB1 cz H1 hx0
      have hcc : ¬ c0 = 1 := by omega
      have hcc2 : ¬ 1 = c0 := by omega
      go_upto_region 22 with (fail)
      go_loopw [65] (fun i wx => ∃ k : Nat, k ≤ m - 1 ∧ i = .int .i64 k ∧ Hid (Bld w.heap.size w.heap.size (spaced (L.take (k + 1))) wx) ∧ Below w.heap.size w wx)
        (fun i _ => m - (intOf i).toNat)
      case atStart => exact ⟨0, Nat.zero_le _, rfl, HB2, hb⟩
      case round =>
        clear HB2 hb
        obtain ⟨k, hk, rfl, HBK, hb⟩ := hrel
        by_cases hlt : k < m - 1
        · have hkL : k + 1 < L.length := by rw [← HM.out]; omega
          have cx := cell_keep hb (hrd.str3 hkL)
          rw [show o + (k + 1) = o + 1 + k by omega] at cx
          have HT := Lib.hid (show spaced (L.take (k + 1 + 1)) = (spaced (L.take (k + 1)) ++ [32]) ++ L[k + 1] by
            rw [List.take_succ_eq_append_getElem hkL]
            exact spaced_snoc _ _ (by intro h; have := congrArg List.length h; rw [List.length_take, List.length_nil] at this; omega))
          have hl1 := HSP.out (k + 1)
          have hl2 := HMEM.out _ (List.getElem_mem hkL)
          generalize L[k + 1] = x at *
          generalize spaced (L.take (k + 1)) = p at *
          clear hkL
          go_wp2_with fail
          refine (writeString_any _ _ p [32] _ HBK.out (by simp only [List.length_cons, List.length_nil]; omega) hb.size).mono ?_
          rintro e w4 ⟨rfl, hB4, hb4⟩
          have HB4 := Lib.hid hB4
          replace hb := hb.trans hb4
          clear hB4 hb4 cx HBK
          go_wp2_with fail
          refine (writeString_any _ _ (p ++ [32]) x _ HB4.out (by simp only [List.length_append, List.length_cons, List.length_nil]; omega) hb.size).mono ?_
          rintro e w5 ⟨rfl, hB5, hb5⟩
          have HB5 := Lib.hid (show Bld w.heap.size w.heap.size (spaced (L.take (k + 1 + 1))) w5 by rw [HT.out]; exact hB5)
          replace hb := hb.trans hb5
          clear hB5 hb5 HB4
          go_wp2_with fail
          go_roundw
          case rel => exact ⟨k + 1, by omega, by go_num, HB5, hb⟩
          case measure => simp [intOf]; omega
        · obtain rfl : k = m - 1 := by omega
          have HF := Lib.hid (show L.take (m - 1 + 1) = L by rw [show m - 1 + 1 = L.length by rw [← HM.out]; omega, List.take_length])
          rw [HF.out] at HBK
          generalize spaced L = r at *
          go_wp2_with fail
          refine (Tryd.Builder_String_any _ _ _ _ HBK.out hb.size).mono ?_
          rintro e w6 ⟨rfl, hb6⟩
          replace hb := hb.trans hb6
          go_wp2_with fail
          go_ret
          exact ⟨rfl, hb⟩
end Go.Proofs.YtckcpokfjofcaaaDoor
