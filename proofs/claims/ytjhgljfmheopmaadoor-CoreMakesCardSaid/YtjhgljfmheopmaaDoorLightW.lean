/- The walk over chapter 5's light: few nodes, of few bytes, where it answers so. A bound on the strings' lengths. -/
import Derived.Test.YtjhgljfmheopmaaDoorCoreF
import Derived.Test.YtjhgljfmheopmaaDoorOpenN
set_option linter.unusedVariables false
set_option linter.unusedSimpArgs false
namespace Go.Proofs.YtjhgljfmheopmaaDoor
open Go.RowKit

theorem wf_le' {n : Int} (h : (Lit.int .i64 n).wf = true) : n ≤ 9223372036854775807 := by
  simp only [Lit.wf, Bool.and_eq_true, decide_eq_true_eq] at h
  have h2 : IntKind.i64.max = 9223372036854775807 := by decide
  rw [h2] at h
  exact h.2
/-- Few nodes, of few bytes: it answers so only where it is so. -/
def LightRet (L : List Nd) (w : World) (e : Ending) (w' : World) : Prop := ∃ b : Bool, e = .returned (.bool b) ∧ (b = true → L.length ≤ 200 ∧ ∀ x ∈ L, x.s.length ≤ 9000) ∧ Below w.heap.size w w'
set_option maxHeartbeats 2000000 in
theorem light_any (A : Option Addr) (cp : Nat) (L : List Nd) (w : World) (hrd : RdL w 5 ndc A L) (hcp : L.length ≤ cp) (hm : cp ≤ maxLen) (hs : ∀ y ∈ L, y.s.length ≤ 140737488351232) :
    Calls Tryd.prog 23 #[.slice A L.length cp] w (LightRet L w) := by
  obtain ⟨m, hml⟩ : ∃ m, m = L.length := ⟨_, rfl⟩
  rw [← hml] at hcp ⊢
  have HM := Lib.hid hml
  have HSL := Lib.hid hs
  unfold maxLen at hm
  clear hml hs
  go_enter Tryd.func23, Tryd.ntmps23
  go_wp2_with fail
  go_loopw [3, 4] (fun u j wr => ∃ (k S : Nat), k ≤ m ∧ k ≤ 201 ∧ j = .int .i64 k ∧ u = .int .i64 S ∧ S ≤ k * 140737488351232 ∧ Hid (∀ x ∈ L.take k, x.s.length ≤ S) ∧ w = wr) (fun _ j _ => m - (intOf j).toNat)
  case atStart => exact ⟨0, 0, Nat.zero_le _, by omega, rfl, rfl, by omega, Lib.hid (by simp), rfl⟩
  case round =>
    obtain ⟨k, S, hk, hk2, rfl, rfl, hS, HS, rfl⟩ := hrel
    by_cases hlt : k < m ∧ k < 201
    · obtain ⟨hlt, h201⟩ := hlt
      have hkL : k < L.length := by rw [← HM.out]; exact hlt
      obtain ⟨b, o, rfl, _, hc⟩ := hrd k hkL
      have c4 := hc 4 _ rfl
      have hsl := HSL.out L[k] (List.getElem_mem _)
      have HT := Lib.hid (show L.take (k + 1) = L.take k ++ [L[k]] from List.take_succ_eq_append_getElem hkL)
      generalize L[k] = x at *
      obtain ⟨q, hq⟩ : ∃ q, q = x.s.length := ⟨_, rfl⟩
      have HQ := Lib.hid hq
      rw [← hq] at hsl
      have hql : x.s.length = q := hq.symm
      clear hc hq hkL
      have hle : decide ((k : Int) ≤ 200) = true := decide_eq_true (by omega)
      go_wp2_with fail
      go_roundw
      case rel =>
        refine ⟨k + 1, S + q, by omega, by omega, by go_num, by go_num, by omega, Lib.hid ?_, trivial⟩
        rw [HT.out]
        intro y hy
        rcases List.mem_append.1 hy with hy | hy
        · have := HS.out y hy; omega
        · rw [List.mem_singleton.1 hy, ← HQ.out]; omega
      case measure => simp [intOf]; omega
    · have HF := Lib.hid (show (decide (m ≤ 200) && decide (S ≤ 9000)) = true → L.length ≤ 200 ∧ ∀ x ∈ L, x.s.length ≤ 9000 from fun h => by
        simp only [Bool.and_eq_true, decide_eq_true_eq] at h
        have hm2 := HM.out
        have hkm : k = m := by omega
        refine ⟨by omega, fun x hx => ?_⟩
        have h2 := HS.out x (by rw [List.take_of_length_le (by omega)]; exact hx)
        omega)
      by_cases h200 : m ≤ 200
      · obtain rfl : k = m := by omega
        by_cases h9 : S ≤ 9000
        · have d1 : decide ((k : Int) ≤ 200) = true := decide_eq_true (by omega)
          have d2 : decide ((S : Int) ≤ 9000) = true := decide_eq_true (by omega)
          have h3 := HF.out (by simp [h200, h9])
          have H3 := Lib.hid h3
          clear h3
          go_wp2_with fail
          go_ret
          exact ⟨true, rfl, fun _ => H3.out, Below.refl _ _⟩
        · have d1 : decide ((k : Int) ≤ 200) = true := decide_eq_true (by omega)
          have d2 : decide ((S : Int) ≤ 9000) = false := decide_eq_false (by omega)
          go_wp2_with fail
          go_ret
          exact ⟨false, rfl, (fun h => by cases h), Below.refl _ _⟩
      · obtain rfl : k = 201 := by omega
        have d1 : decide ((m : Int) ≤ 200) = false := decide_eq_false (by omega)
        go_wp2_with fail
        all_goals
          go_ret
          exact ⟨false, rfl, (fun h => by cases h), Below.refl _ _⟩
end Go.Proofs.YtjhgljfmheopmaaDoor
