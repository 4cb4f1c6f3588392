/- The walk over code.Jumps: which of an instruction's numbers are places. No condition. -/
import Derived.Test.YtpogngdddendiaaDoorGL
import Derived.Test.YtpogngdddendiaaDoorCoreW4
import Derived.Outline
import Derived.Handy
import Derived.Test.YtpogngdddendiaaDoorCodeN
import Derived.Test.YtpogngdddendiaaDoorNode
import Derived.Deep.DeepCutAuto
set_option linter.unusedVariables false
set_option linter.unusedSimpArgs false
namespace Go.Proofs.YtpogngdddendiaaDoor
open Go.RowKit

theorem jumps_list (op : Int) : ([18, 19, 20, 22, 24, 26] : List Int).contains op = placeA op := by
  rw [Bool.eq_iff_iff]
  simp [placeA, or_assoc]
set_option maxHeartbeats 4000000 in
theorem jumps_any (op : Int) (w : World) : Calls Tryd.prog 15 #[.int .i64 op] w (Ret w (.tuple #[.bool (placeA op), .bool (placeB op)])) := by
  have HB : (op == 30 || op == 26) = placeB op := rfl
  have HB2 := Lib.hid HB
  clear HB
  have HA := Lib.hid (jumps_list op)
  by_cases h30 : op = 30
  · subst h30
    go_enter Tryd.func15, Tryd.ntmps15
    go_wp2_with fail
    refine (contains_any (some ⟨w.heap.size, 0, none⟩) 6 [18, 19, 20, 22, 24, 26] _ _ ?_ (by decide)).mono ?_
    · intro k hk
      refine ⟨w.heap.size, 0, rfl, by simp, fun j u hu => ?_⟩
      have hj : j = 0 := by
        have := (List.getElem?_eq_some_iff.1 hu).1
        simp [intc] at this
        exact this
      subst hj
      rw [cell_of_row _ _ _ _ _ _ (heap_alloc_new w _)]
      have hk' : k < 6 := hk
      rcases k with _ | _ | _ | _ | _ | _ | k
      all_goals first | (simpa [intc] using hu) | omega
    · rintro e w1 ⟨rfl, rfl⟩
      go_wp2_with fail
      go_returns
      exact ⟨rfl, (Below.refl _ _).alloc (Nat.le_refl _) _⟩
  · have h30b : (op == 30) = false := by simp [h30]
    obtain ⟨q, hq⟩ : ∃ q, (op == 26) = q := ⟨_, rfl⟩
    have HPB := Lib.hid (show placeB op = q by rw [← HB2.out, h30b, hq]; rfl)
    clear h30
    go_enter Tryd.func15, Tryd.ntmps15
    go_wp2_with fail
    refine (contains_any (some ⟨w.heap.size, 0, none⟩) 6 [18, 19, 20, 22, 24, 26] _ _ ?_ (by decide)).mono ?_
    · intro k hk
      refine ⟨w.heap.size, 0, rfl, by simp, fun j u hu => ?_⟩
      have hj : j = 0 := by
        have := (List.getElem?_eq_some_iff.1 hu).1
        simp [intc] at this
        exact this
      subst hj
      rw [cell_of_row _ _ _ _ _ _ (heap_alloc_new w _)]
      have hk' : k < 6 := hk
      rcases k with _ | _ | _ | _ | _ | _ | k
      all_goals first | (simpa [intc] using hu) | omega
    · rintro e w1 ⟨rfl, rfl⟩
      go_wp2_with fail
      go_returns
      rw [HPB.out, ← HA.out]
      refine ⟨?_, (Below.refl _ _).alloc (Nat.le_refl _) _⟩
      simp
end Go.Proofs.YtpogngdddendiaaDoor

/- The walk over code.Name: it is not empty from 1 to 41. No condition. -/
set_option linter.unusedVariables false
set_option linter.unusedSimpArgs false
namespace Go.Proofs.YtpogngdddendiaaDoor
open Go.RowKit

def nameS (k : Nat) : ByteArray := match namesA[k]? with | some (.string s) => s | _ => ⟨#[]⟩
theorem nameS_size (op : Int) (h1 : 1 ≤ op) (h2 : op ≤ 41) : (nameS op.toNat).size ≠ 0 := by
  have hc : ∀ k : Fin 42, k.val ≠ 0 → (nameS k.val).size ≠ 0 := by decide
  exact hc ⟨op.toNat, by omega⟩ (by show op.toNat ≠ 0; omega)
theorem name_ix (op : Int) (h1 : 1 ≤ op) (h2 : op ≤ 41) (W : World) : (Instr.index 104 (.agg namesA) (.int .i64 op)).run Tryd.prog W = .ok (.string (nameS op.toNat)) W := by
  have h : op = 1 ∨ op = 2 ∨ op = 3 ∨ op = 4 ∨ op = 5 ∨ op = 6 ∨ op = 7 ∨ op = 8 ∨ op = 9 ∨ op = 10 ∨ op = 11 ∨ op = 12 ∨ op = 13 ∨ op = 14 ∨ op = 15 ∨ op = 16 ∨ op = 17 ∨ op = 18 ∨ op = 19 ∨ op = 20 ∨ op = 21 ∨ op = 22 ∨ op = 23 ∨ op = 24 ∨ op = 25 ∨ op = 26 ∨ op = 27 ∨ op = 28 ∨ op = 29 ∨ op = 30 ∨ op = 31 ∨ op = 32 ∨ op = 33 ∨ op = 34 ∨ op = 35 ∨ op = 36 ∨ op = 37 ∨ op = 38 ∨ op = 39 ∨ op = 40 ∨ op = 41 := by omega
  clear h1 h2
  rcases h with rfl | rfl | rfl | rfl | rfl | rfl | rfl | rfl | rfl | rfl | rfl | rfl | rfl | rfl | rfl | rfl | rfl | rfl | rfl | rfl | rfl | rfl | rfl | rfl | rfl | rfl | rfl | rfl | rfl | rfl | rfl | rfl | rfl | rfl | rfl | rfl | rfl | rfl | rfl | rfl | rfl
  all_goals (show _ = _; kernel_rfl)
set_option maxRecDepth 100000 in
set_option maxHeartbeats 4000000 in
theorem name_any (op : Int) (h1 : 1 ≤ op) (h2 : op ≤ 41) (w : World) : Calls Tryd.prog 29 #[.int .i64 op] w (Ret w (.string (nameS op.toNat))) := by
  have hix := fun W => name_ix op h1 h2 W
  have HN := Lib.hid (names_any w)
  generalize nameS op.toNat = s at *
  generalize namesA = na at *
  go_enter Tryd.func29, Tryd.ntmps29
  go_wp2_with fail
  refine HN.out.mono ?_
  rintro e w1 ⟨rfl, hb⟩
  go_wp2_with fail
  go_ret
  exact ⟨rfl, hb⟩
end Go.Proofs.YtpogngdddendiaaDoor

/- The walk over slices.ContainsFunc at code.may's closure: is a place out of the code? A bound on the length. -/
set_option linter.unusedVariables false
set_option linter.unusedSimpArgs false
namespace Go.Proofs.YtpogngdddendiaaDoor
open Go.RowKit

def outB (n i : Int) : Bool := decide (i < 0) || decide (n ≤ i)
theorem may1_any (i n : Int) (B : Nat) (w : World) (hb : w.cell? ⟨B, 0, none⟩ = some (.int .i64 n)) :
    Calls Tryd.prog 76 #[.int .i64 i, .pointer (some ⟨B, 0, none⟩)] w (fun e w' => e = .returned (.bool (outB n i)) ∧ w' = w) := by
  by_cases h1 : i < 0
  all_goals by_cases h2 : n ≤ i
  all_goals
    go_enter Tryd.func76, Tryd.ntmps76
    go_wp2_with fail
    go_ret
    exact ⟨name_ret (by simp [outB, h1, h2]), rfl⟩
set_option maxHeartbeats 2000000 in
theorem ixf_ints (A : Option Addr) (c : Nat) (L : List Int) (B : Nat) (n : Int) (w : World) (hrd : RdL w 1 intc A L) (hL : L.length ≤ 4000000) (hb : w.cell? ⟨B, 0, none⟩ = some (.int .i64 n)) :
    Calls Tryd.prog 79 #[.slice A L.length c, .func (.func 76) #[] #[.pointer (some ⟨B, 0, none⟩)]] w (fun e w' => ∃ r : Int, e = .returned (.int .i64 r) ∧ decide (0 ≤ r) = L.any (outB n) ∧ w' = w) := by
  obtain ⟨m, hm⟩ : ∃ m, m = L.length := ⟨_, rfl⟩
  rw [← hm] at hL ⊢
  have HM := Lib.hid hm
  have HB := Lib.hid hb
  clear hm hb
  go_enter Tryd.func79, Tryd.ntmps79
  go_wp2_with fail
  go_loopw [8] (fun i wr => ∃ k : Nat, k ≤ m ∧ i = .int .i64 k ∧ wr = w ∧ Hid ((L.take k).any (outB n) = false)) (fun i _ => m - (intOf i).toNat)
  case atStart => exact ⟨0, Nat.zero_le _, rfl, rfl, Lib.hid (by simp)⟩
  case round =>
    obtain ⟨k, hk, rfl, rfl, H⟩ := hrel
    by_cases hlt : k < m
    · have hkL : k < L.length := by rw [← HM.out]; exact hlt
      obtain ⟨b, o, rfl, _, hcell⟩ := hrd k hkL
      obtain ⟨x, hx⟩ : ∃ x, x = L[k] := ⟨_, rfl⟩
      have HT := Lib.hid (show L.take (k + 1) = L.take k ++ [x] by rw [List.take_succ_eq_append_getElem hkL, hx])
      rw [← hx] at hcell
      have c0 := hcell 0 _ rfl
      simp only [Nat.add_zero, Nat.mul_one] at c0
      have HX := Lib.hid (show x ∈ L by rw [hx]; exact List.getElem_mem _)
      have HC := Lib.hid (may1_any x n B _ HB.out)
      clear hcell hx hkL
      obtain ⟨q, hq⟩ : ∃ q, outB n x = q := ⟨_, rfl⟩
      rw [hq] at HC
      have HQ := Lib.hid hq
      clear hq
      cases q
      · go_wp2_with fail
        refine HC.out.mono ?_
        rintro e w1 ⟨rfl, rfl⟩
        go_wp2_with fail
        go_roundw
        case rel => exact ⟨k + 1, by omega, by go_num, by trivial, Lib.hid (by rw [HT.out, List.any_append, H.out, Bool.false_or, List.any_cons, List.any_nil, Bool.or_false]; exact HQ.out)⟩
        case measure => simp [intOf]; omega
      · have HT2 := Lib.hid (show L.any (outB n) = true from List.any_eq_true.2 ⟨x, HX.out, HQ.out⟩)
        go_wp2_with fail
        refine HC.out.mono ?_
        rintro e w1 ⟨rfl, rfl⟩
        go_wp2_with fail
        go_ret
        exact ⟨k, rfl, by rw [HT2.out]; exact decide_eq_true (by omega), rfl⟩
    · obtain rfl : k = m := by omega
      have HF := Lib.hid (show L.any (outB n) = false by
        have h := H.out
        rwa [List.take_of_length_le (by rw [← HM.out]; exact Nat.le_refl _)] at h)
      clear H
      go_wp2_with fail
      go_ret
      exact ⟨-1, rfl, by rw [HF.out]; rfl, rfl⟩
theorem ctf_ints (A : Option Addr) (c m : Nat) (L : List Int) (B : Nat) (n : Int) (w : World) (hm : m = L.length) (hrd : RdL w 1 intc A L) (hL : L.length ≤ 4000000) (hb : w.cell? ⟨B, 0, none⟩ = some (.int .i64 n)) :
    Calls Tryd.prog 77 #[.slice A m c, .func (.func 76) #[] #[.pointer (some ⟨B, 0, none⟩)]] w (fun e w' => e = .returned (.bool (L.any (outB n))) ∧ w' = w) := by
  have HI := Lib.hid (ixf_ints A c L B n w hrd hL hb)
  rw [← hm] at HI
  generalize L.any (outB n) = q at *
  clear hm hrd hb
  go_enter Tryd.func77, Tryd.ntmps77
  go_wp2_with fail
  refine HI.out.mono ?_
  rintro e w1 ⟨r, rfl, hr, rfl⟩
  go_wp2_with fail
  go_ret
  exact ⟨rfl, rfl⟩
end Go.Proofs.YtpogngdddendiaaDoor
