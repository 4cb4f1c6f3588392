/- The walk over the laws' own light: are lists few, of few bytes. A bound on each text's length. -/
import Derived.Test.YtlhpflilpdceiaaGreatDoorListW3
set_option linter.unusedVariables false
set_option linter.unusedSimpArgs false
namespace Go.Proofs.YtlhpflilpdceiaaGreatDoor
open Go.RowKit

def sumLL : List (List (List UInt8)) → Nat
  | [] => 0
  | x :: t => sumL x + sumLL t
def lightL (ls : List (List (List UInt8))) : Bool := decide (ls.length ≤ 8) && ls.all (fun l => decide (l.length ≤ 130)) && decide (sumLL ls ≤ 20000)
theorem sumL_app (a b : List (List UInt8)) : sumL (a ++ b) = sumL a + sumL b := by
  induction a with
  | nil => simp [sumL]
  | cons x t ih => simp only [List.cons_append, sumL, ih]; omega
theorem sumLL_app (a b : List (List (List UInt8))) : sumLL (a ++ b) = sumLL a + sumLL b := by
  induction a with
  | nil => simp [sumLL]
  | cons x t ih => simp only [List.cons_append, sumLL, ih]; omega
set_option maxRecDepth 100000 in
set_option maxHeartbeats 2000000 in
theorem light_any (A0 : Option Addr) (c0 : Nat) (ls : List (List (List UInt8))) (w : World) (hK : KdS w A0 ls) (hn : ls.length ≤ maxLen) (hl : ∀ x ∈ ls, ∀ s ∈ x, s.length ≤ 140737488355328) :
    Calls Tryz.prog 5 #[.slice A0 ls.length c0] w fun e w' => e = .returned (.bool (lightL ls)) ∧ w' = w := by
  have HQ := Lib.hid (show lightL ls = (decide (ls.length ≤ 8) && ls.all (fun l => decide (l.length ≤ 130)) && decide (sumLL ls ≤ 20000)) from rfl)
  generalize lightL ls = Q at *
  obtain ⟨n, hn0⟩ : ∃ n, n = ls.length := ⟨_, rfl⟩
  rw [← hn0] at hn HQ ⊢
  have HN := Lib.hid hn0
  have HL := Lib.hid hl
  clear hn0 hl
  simp only [maxLen] at hn
  go_enter Tryz.func5, Tryz.ntmps5
  go_wp2_with fail
  go_loopw [3, 4] (fun v i wr => ∃ k S : Nat, k ≤ n ∧ k ≤ 9 ∧ i = .int .i64 k ∧ v = .int .i64 S ∧ S ≤ 140737488355328 * (130 * k) ∧ wr = w ∧ Hid (S = sumLL (ls.take k)) ∧ Hid (∀ x ∈ ls.take k, x.length ≤ 130))
    (fun _ i _ => n - (intOf i).toNat)
  case atStart => exact ⟨0, 0, Nat.zero_le _, by decide, rfl, rfl, Nat.zero_le _, rfl, Lib.hid rfl, Lib.hid (fun x hx => by simp at hx)⟩
  case round =>
    obtain ⟨k, S, hk, hk9, rfl, rfl, hS, rfl, HS, HA⟩ := hrel
    by_cases hlt : k < n
    · by_cases hk8 : k ≤ 8
      · have hkL : k < ls.length := by rw [← HN.out]; exact hlt
        obtain ⟨b, o, rfl⟩ := hK.addr hkL
        obtain ⟨v, cv, hsv⟩ := hK.at_ hkL
        have HX := Lib.hid (HL.out _ (List.getElem_mem hkL))
        have HT := Lib.hid (List.take_succ_eq_append_getElem hkL)
        have HM := Lib.hid (List.getElem_mem hkL)
        generalize ls[k] = x at *
        obtain ⟨A, c, rfl, hrx, _, hxc, hxm⟩ := hsv
        obtain ⟨m, hm0⟩ : ∃ m, m = x.length := ⟨_, rfl⟩
        have HMX := Lib.hid hm0
        rw [← hm0] at cv hxc
        simp only [maxLen] at hxm
        clear hm0 hkL
        by_cases h130 : 130 < m
        · have HF := Lib.hid (show Q = false by
            rw [HQ.out, Bool.and_eq_false_iff, Bool.and_eq_false_iff]
            refine .inl (.inr ?_)
            rw [List.all_eq_false]
            exact ⟨x, HM.out, by rw [← HMX.out]; simp; omega⟩)
          go_wp2_with fail
          go_ret
          obtain rfl := HF.out
          exact ⟨rfl, rfl⟩
        · have HA2 := Lib.hid (show ∀ y ∈ ls.take (k + 1), y.length ≤ 130 from fun y hy => by
            rw [HT.out, List.mem_append, List.mem_singleton] at hy
            rcases hy with hy | rfl
            · exact HA.out y hy
            · rw [← HMX.out]; omega)
          go_upto_region 8 with (fail)
          go_loopw [3, 5] (fun v j wq => ∃ j' S' : Nat, j' ≤ m ∧ j = .int .i64 j' ∧ v = .int .i64 S' ∧ S' ≤ 140737488355328 * (130 * k + j') ∧ wq = wr ∧ Hid (S' = S + sumL (x.take j')))
            (fun _ j _ => m - (intOf j).toNat)
          case atStart => exact ⟨0, S, Nat.zero_le _, rfl, rfl, by omega, rfl, Lib.hid (by simp [sumL])⟩
          case round =>
            obtain ⟨j, S', hj, rfl, rfl, hS', rfl, HSJ⟩ := hrel
            by_cases hlj : j < m
            · have hjL : j < x.length := by rw [← HMX.out]; exact hlj
              obtain ⟨bx, ox, rfl⟩ := hrx.ats hjL
              have cz := hrx.strs hjL
              have hz := HX.out _ (List.getElem_mem hjL)
              have HTJ := Lib.hid (List.take_succ_eq_append_getElem hjL)
              generalize x[j] = z at *
              have HSN := Lib.hid (show S' + z.length = S + sumL (x.take (j + 1)) by rw [HTJ.out, sumL_app, HSJ.out]; simp only [sumL]; omega)
              clear hjL
              go_wp2_with fail
              go_roundw
              case rel => exact ⟨j + 1, S' + z.length, by omega, by go_num, by go_num, by omega, trivial, HSN⟩
              case measure => simp [intOf]; omega
            · obtain rfl : m = j := by omega
              have HSE := Lib.hid (show S' = sumLL (ls.take (k + 1)) by rw [HSJ.out, HMX.out, List.take_length, HT.out, sumLL_app, HS.out]; simp only [sumLL]; omega)
              go_wp2_with fail
              go_roundw
              case rel => exact ⟨k + 1, S', by omega, by omega, by go_num, rfl, by omega, trivial, HSE, HA2⟩
              case measure => simp [intOf]; omega
      · have HF := Lib.hid (show Q = false by rw [HQ.out, decide_eq_false (by omega)]; rfl)
        have h8 : ¬ n ≤ 8 := by omega
        go_wp2_with fail
        go_ret
        obtain rfl := HF.out
        exact ⟨rfl, rfl⟩
    · obtain rfl : n = k := by omega
      have HTL := Lib.hid (show ls.take n = ls by rw [HN.out, List.take_length])
      have HF := Lib.hid (show Q = (decide (n ≤ 8) && decide (S ≤ 20000)) by
        rw [HQ.out, HS.out, HTL.out, List.all_eq_true.2 (fun x hx => decide_eq_true (HA.out x (by rw [HTL.out]; exact hx))), Bool.and_true])
      by_cases h8 : n ≤ 8
      · have HF2 := Lib.hid (show Q = decide (S ≤ 20000) by rw [HF.out, decide_eq_true h8, Bool.true_and])
        have hq : decide ((S : Int) ≤ 20000) = decide (S ≤ 20000) := decide_eq_decide.2 (by omega)
        generalize decide (S ≤ 20000) = q at *
        go_wp2_with fail
        go_ret
        obtain rfl := HF2.out
        exact ⟨rfl, rfl⟩
      · have HF2 := Lib.hid (show Q = false by rw [HF.out, decide_eq_false h8, Bool.false_and])
        go_wp2_with fail
        go_ret
        obtain rfl := HF2.out
        exact ⟨rfl, rfl⟩
end Go.Proofs.YtlhpflilpdceiaaGreatDoor
