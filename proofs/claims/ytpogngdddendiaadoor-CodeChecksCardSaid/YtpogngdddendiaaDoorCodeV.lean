/- The walks over the law's places and light. Bounds on the lengths. -/
import Derived.Test.YtpogngdddendiaaDoorGF
import Derived.Test.YtpogngdddendiaaDoorGS
set_option linter.unusedVariables false
set_option linter.unusedSimpArgs false
namespace Go.Proofs.YtpogngdddendiaaDoor
open Go.RowKit

theorem lplaces_any (op : Int) (w : World) : Calls Tryd.prog 27 #[.int .i64 op] w (fun e w' => e = .returned (.tuple #[.bool (placeA op), .bool (placeB op)]) ∧ w' = w) := by
  by_cases h1 : op = 18
  · subst h1
    go_enter Tryd.func27, Tryd.ntmps27
    go_wp2_with fail
    go_returns
    exact ⟨rfl, rfl⟩
  by_cases h2 : op = 19
  · subst h2
    go_enter Tryd.func27, Tryd.ntmps27
    go_wp2_with fail
    go_returns
    exact ⟨rfl, rfl⟩
  by_cases h3 : op = 20
  · subst h3
    go_enter Tryd.func27, Tryd.ntmps27
    go_wp2_with fail
    go_returns
    exact ⟨rfl, rfl⟩
  by_cases h4 : op = 22
  · subst h4
    go_enter Tryd.func27, Tryd.ntmps27
    go_wp2_with fail
    go_returns
    exact ⟨rfl, rfl⟩
  by_cases h5 : op = 24
  · subst h5
    go_enter Tryd.func27, Tryd.ntmps27
    go_wp2_with fail
    go_returns
    exact ⟨rfl, rfl⟩
  by_cases h6 : op = 26
  · subst h6
    go_enter Tryd.func27, Tryd.ntmps27
    go_wp2_with fail
    go_returns
    exact ⟨rfl, rfl⟩
  by_cases h7 : op = 30
  · subst h7
    go_enter Tryd.func27, Tryd.ntmps27
    go_wp2_with fail
    go_returns
    exact ⟨rfl, rfl⟩
  have g1 : (op == 18) = false := by simp [h1]
  have g2 : (op == 19) = false := by simp [h2]
  have g3 : (op == 20) = false := by simp [h3]
  have g4 : (op == 22) = false := by simp [h4]
  have g5 : (op == 24) = false := by simp [h5]
  have g6 : (op == 26) = false := by simp [h6]
  have g7 : (op == 30) = false := by simp [h7]
  have HA := Lib.hid (show placeA op = false by unfold placeA; rw [g1, g2, g3, g4, g5, g6]; rfl)
  have HB := Lib.hid (show placeB op = false by unfold placeB; rw [g6, g7]; rfl)
  clear h1 h2 h3 h4 h5 h6 h7
  go_enter Tryd.func27, Tryd.ntmps27
  go_wp2_with fail
  go_returns
  exact ⟨by rw [HA.out, HB.out]; rfl, rfl⟩

/-- How many bytes the first k texts have. -/
def bytesI (X : List Ins) : Nat := (X.map fun x => x.s.length).sum
theorem bytesI_snoc (X : List Ins) (k : Nat) (h : k < X.length) : bytesI (X.take (k + 1)) = bytesI (X.take k) + X[k].s.length := by
  unfold bytesI
  rw [List.take_succ_eq_append_getElem h, List.map_append, List.sum_append]
  simp
theorem bytesI_mem (X : List Ins) : ∀ x ∈ X, x.s.length ≤ bytesI X := by
  induction X with
  | nil => intro x h; cases h
  | cons y X ih =>
    intro x h
    have e : bytesI (y :: X) = y.s.length + bytesI X := rfl
    rcases List.mem_cons.1 h with rfl | h
    · omega
    · have := ih x h; omega
/-- Few, and of few bytes? -/
def lightI (X : List Ins) : Bool := decide (X.length ≤ 200) && decide (bytesI X ≤ 9000)
theorem lightI_small {X : List Ins} (h : lightI X = true) : X.length ≤ 200 ∧ ∀ x ∈ X, x.s.length ≤ 9000 := by
  unfold lightI at h
  simp only [Bool.and_eq_true, decide_eq_true_eq] at h
  exact ⟨h.1, fun x hx => Nat.le_trans (bytesI_mem X x hx) h.2⟩
set_option maxRecDepth 100000 in
set_option maxHeartbeats 4000000 in
theorem light22_any (X : List Ins) (A : Option Addr) (c : Nat) (w : World) (hs : ∀ x ∈ X, x.s.length ≤ 140737488355328) (hn : X.length ≤ 9223372036854775807) (hrd : RdL w 4 insc A X) :
    Calls Tryd.prog 23 #[.slice A X.length c] w (fun e w' => e = .returned (.bool (lightI X)) ∧ w' = w) := by
  obtain ⟨m, hm⟩ : ∃ m, X.length = m := ⟨_, rfl⟩
  have HM := Lib.hid hm
  have HRD := Lib.hid hrd
  have HS := Lib.hid hs
  have HLT := Lib.hid (show lightI X = (decide (X.length ≤ 200) && decide (bytesI X ≤ 9000)) from rfl)
  rw [hm] at hn ⊢
  obtain ⟨r, hr⟩ : ∃ r, lightI X = r := ⟨_, rfl⟩
  rw [hr]
  rw [hr] at HLT
  clear hm hrd hs hr
  go_enter Tryd.func23, Tryd.ntmps23
  go_wp2_with fail
  go_loopw [3, 4] (fun n i wr => ∃ k : Nat, k ≤ m ∧ k ≤ 201 ∧ i = .int .i64 k ∧ n = .int .i64 (bytesI (X.take k)) ∧ Hid (bytesI (X.take k) ≤ 140737488355328 * k) ∧ wr = w) (fun n i _ => m - (intOf i).toNat)
  case atStart => exact ⟨0, Nat.zero_le _, by decide, rfl, rfl, Lib.hid (Nat.zero_le _), rfl⟩
  case round =>
    obtain ⟨k, hk, hk2, rfl, rfl, HB, rfl⟩ := hrel
    by_cases hlt : k < m
    · by_cases hk200 : k ≤ 200
      · have hkL : k < X.length := by rw [HM.out]; exact hlt
        obtain ⟨b, o, rfl, _, hcell⟩ := HRD.out k hkL
        have HSN := Lib.hid (bytesI_snoc X k hkL)
        have hxl := HS.out X[k] (List.getElem_mem _)
        obtain ⟨x, hx⟩ : ∃ x, x = X[k] := ⟨_, rfl⟩
        rw [← hx] at hcell hxl HSN
        have c3 := hcell 3 _ rfl
        obtain ⟨sl, hsl⟩ : ∃ sl, x.s.length = sl := ⟨_, rfl⟩
        have HSL := Lib.hid (show (⟨x.s.toArray⟩ : ByteArray).size = sl by rw [← hsl]; simp [ByteArray.size])
        rw [hsl] at hxl HSN
        have hB := HB.out
        obtain ⟨bt, hbt⟩ : ∃ bt, bytesI (X.take k) = bt := ⟨_, rfl⟩
        rw [hbt] at hB HSN ⊢
        generalize (⟨x.s.toArray⟩ : ByteArray) = sb at *
        have hsb := HSL.out
        obtain ⟨sz, hsz⟩ : ∃ sz, sb.size = sz := ⟨_, rfl⟩
        rw [hsz] at hsb
        subst hsb
        clear hcell hkL hx hsl hbt HSL
        go_wp2_with fail
        go_roundw
        case rel => exact ⟨k + 1, by omega, by omega, by go_num, by rw [HSN.out]; go_num, Lib.hid (by rw [HSN.out]; omega), trivial⟩
        case measure => simp [intOf]; omega
      · have HF := Lib.hid (show r = false by rw [HLT.out, HM.out, decide_eq_false (show ¬ m ≤ 200 by omega)]; rfl)
        have hB := HB.out
        obtain rfl : k = 201 := by omega
        generalize bytesI (X.take 201) = bt at *
        have hm2 : ¬ (m : Int) ≤ 200 := by omega
        clear hk hk200
        go_wp2_with fail
        go_returns
        exact ⟨by rw [HF.out]; rfl, rfl⟩
    · obtain rfl : k = m := by omega
      have HT := Lib.hid (show X.take k = X from List.take_of_length_le (by rw [HM.out]; exact Nat.le_refl _))
      rw [HT.out] at HB ⊢
      obtain ⟨bt, hbt⟩ : ∃ bt, bytesI X = bt := ⟨_, rfl⟩
      have hB := HB.out
      rw [hbt] at HB hB HLT ⊢
      rw [HM.out] at HLT
      clear hbt
      by_cases q1 : (k : Int) ≤ 200
      · by_cases q2 : (bt : Int) ≤ 9000
        · have HF := Lib.hid (show r = true by rw [HLT.out]; simp; omega)
          go_wp2_with fail
          go_returns
          exact ⟨by rw [HF.out]; rfl, rfl⟩
        · have HF := Lib.hid (show r = false by rw [HLT.out, decide_eq_false (show ¬ bt ≤ 9000 by omega), Bool.and_false])
          go_wp2_with fail
          go_returns
          exact ⟨by rw [HF.out]; rfl, rfl⟩
      · have HF := Lib.hid (show r = false by rw [HLT.out, decide_eq_false (show ¬ k ≤ 200 by omega), Bool.false_and])
        go_wp2_with fail
        go_returns
        exact ⟨by rw [HF.out]; rfl, rfl⟩
end Go.Proofs.YtpogngdddendiaaDoor
