/- The walk over gen.Height: how many lists a tree needs. A bound on the size. -/
import Derived.Test.YthmeonimianoeaaDoorGL
import Derived.Test.YthmeonimianoeaaDoorCoreV
import Derived.Outline
import Derived.Lib.MinMax
set_option linter.unusedVariables false
set_option linter.unusedSimpArgs false
namespace Go.Proofs.YthmeonimianoeaaDoor
open Go.RowKit

theorem heightTs_take (kd : Int) (m : Nat) (ks : List Tr) (k : Nat) (h : k < ks.length) : heightTs kd m 0 (ks.take (k + 1)) = max (heightTs kd m 0 (ks.take k)) (heightT ks[k] + addH kd m k) := by
  rw [List.take_succ_eq_append_getElem h, heightTs_append, heightTs_cons, heightTs_nil, List.length_take, Nat.min_eq_left (by omega), Nat.zero_add]
  omega
set_option maxRecDepth 100000 in
set_option maxHeartbeats 8000000 in
theorem height_any : ∀ (N : Nat) (t : Tr) (v : Value) (w : World), (flat t).length ≤ N → N ≤ 4000000 → SlRd w v (flat t) → Calls Tryd.prog 25 #[v] w (Ret w (.int .i64 (heightT t))) := by
  intro N
  induction N with
  | zero => intro t v w h _ _; have := flat_pos t; omega
  | succ N ih =>
  intro t v w hN hN2 hv
  cases t with
  | mk kd n s ks =>
  have hhl := heightT_len (.mk kd n s ks)
  rw [flat_size] at hN hhl
  have hlk := len_flatAll ks
  have KC := Lib.hid (show ∀ W, SlRd W v (flat (.mk kd n s ks)) → Calls Tryd.prog 51 #[v] W (KidsRet (ks.map flat) W) from fun W h => by
    rw [← kidsL_flat kd n s ks]
    exact kids_any v _ W h (by rw [flat_size]; omega))
  have HV := Lib.hid hv
  obtain ⟨A, cp, rfl, hrd, hc, hm, hA, hsp⟩ := hv
  have h0 : 0 < (flat (.mk kd n s ks)).length := flat_pos _
  obtain ⟨b, o, rfl, hbl⟩ := hrd.addr h0
  have hx := hrd.at_ h0
  rw [show (flat (.mk kd n s ks))[0] = ⟨kd, n, ks.length, ((1 + (flatAll ks).length : Nat) : Int), s⟩ by simp [flat_mk]] at hx
  have c0 := hx.2 0 _ rfl
  simp only [Nat.zero_mul, Nat.add_zero] at c0
  obtain ⟨m, hml⟩ : ∃ m, m = (flat (.mk kd n s ks)).length := ⟨_, rfl⟩
  rw [← hml] at KC hc h0 HV ⊢
  have HM := Lib.hid hml
  have HTT := Lib.hid (heightT_mk kd n s ks)
  have hm0 : ((m : Int) == 0) = false := by simp; omega
  obtain ⟨kl, hkl⟩ : ∃ kl, kl = ks.length := ⟨_, rfl⟩
  have HKL := Lib.hid hkl
  have hkl8 : kl ≤ 4000000 := by omega
  have HIH := Lib.hid ih
  have HNN := Lib.hid (show 1 + (flatAll ks).length ≤ N + 1 ∧ N + 1 ≤ 4000000 from ⟨hN, hN2⟩)
  have HHL := Lib.hid hhl
  obtain ⟨HT, hHT⟩ : ∃ HT, HT = heightT (.mk kd n s ks) := ⟨_, rfl⟩
  rw [← hHT] at HTT HHL ⊢
  clear hx hml hrd hA hsp hm hc ih hkl hN hN2 hlk hhl hHT
  go_enter Tryd.func25, Tryd.ntmps25
  go_wp2_with fail
  refine (KC.out _ HV.out).mono ?_
  rintro e w1 ⟨A1, cp1, vs, rfl, hown1, hall1, hb1⟩
  have HKR := Lib.hid (KdRd.of_own hown1 rfl hall1)
  rw [List.length_map, ← HKL.out]
  have HB1 := Lib.hid hb1
  clear hown1 hall1 hb1 KC
  go_wp2_with fail
  go_loopw [3, 15] (fun u j wr => ∃ (k mo : Nat), k ≤ kl ∧ j = .int .i64 k ∧ u = .int .i64 mo ∧ Hid (heightTs kd ks.length 0 (ks.take k) = mo) ∧ Below w1.heap.size w1 wr) (fun _ j _ => kl - (intOf j).toNat)
  case atStart => exact ⟨0, 0, Nat.zero_le _, rfl, rfl, Lib.hid (by rw [List.take_zero, heightTs_nil]), Below.refl _ _⟩
  case round =>
    obtain ⟨k, mo, hk, rfl, rfl, HMO, hbr⟩ := hrel
    have hmo : mo ≤ 8000001 := by
      have h1 := heightTs_len kd ks.length 0 (ks.take k)
      have h2 := flatAll_take_le ks k
      have h3 := HNN.out
      rw [HMO.out] at h1
      omega
    by_cases hlt : k < kl
    · have hks : k < ks.length := by rw [← HKL.out]; exact hlt
      obtain ⟨bk, ok, vk, rfl, hbk, hck, hsk⟩ := (HKR.out.below hbr).at_ (k := k) (by simpa using hks)
      simp only [List.getElem_map] at hsk
      have hle := flatAll_mem_le ks k hks
      have HTS := Lib.hid (heightTs_take kd ks.length ks k hks)
      rw [HMO.out] at HTS
      obtain ⟨tk, htk⟩ : ∃ t, t = ks[k] := ⟨_, rfl⟩
      rw [← htk] at hsk hle HTS
      have IH := Lib.hid (HIH.out tk vk wr (by have := HNN.out; omega) (by have := HNN.out; omega) hsk)
      obtain ⟨ht, hht⟩ : ∃ ht, ht = heightT tk := ⟨_, rfl⟩
      have hht8 : ht ≤ 4000000 := by have := heightT_len tk; have := HNN.out; omega
      rw [← hht] at HTS IH
      obtain ⟨Ak, ck, rfl, -⟩ := hsk
      have d0 := cell_keep (HB1.out.trans (hbr.mono HB1.out.size)) c0
      generalize (flat tk).length = ft at *
      clear hht hle htk hks hbk
      go_wp2_with fail
      refine IH.out.mono ?_
      rintro e w2 ⟨rfl, hb2⟩
      have hbx := hbr.trans (hb2.mono hbr.size)
      replace d0 := cell_keep hb2 d0
      clear IH hck hb2
      by_cases h3 : kd = 3 ∨ kd = 4 ∨ kd = 21
      · have HAD := Lib.hid (show addH kd ks.length k = k from by unfold addH; rcases h3 with rfl | rfl | rfl <;> rfl)
        have hmx : max (mo : Int) ((ht : Int) + k) = ((max mo (ht + k) : Nat) : Int) := by omega
        have hmx8 : max mo (ht + k) ≤ 100000000 := by omega
        have HNX := Lib.hid (show heightTs kd ks.length 0 (ks.take (k + 1)) = max mo (ht + k) from by rw [HTS.out, HAD.out])
        generalize max mo (ht + k) = mx at *
        rcases h3 with rfl | rfl | rfl
        all_goals
          go_wp2_with fail
          go_roundw
          case rel => exact ⟨k + 1, mx, by omega, by go_num, rfl, HNX, hbx⟩
          case measure => simp [intOf]; omega
      · have b3 : (kd == 3) = false := by simp; omega
        have b4 : (kd == 4) = false := by simp; omega
        have b21 : (kd == 21) = false := by simp; omega
        by_cases h37 : kd = 37
        · subst h37
          by_cases hk1 : k + 1 < kl
          · have hdd : decide ((k : Int) < (kl : Int) - 1) = true := decide_eq_true (by omega)
            have HAD := Lib.hid (show addH 37 ks.length k = k from by unfold addH; rw [if_neg (by decide), if_pos (by decide), if_pos (by rw [← HKL.out]; exact hk1)])
            have hmx : max (mo : Int) ((ht : Int) + k) = ((max mo (ht + k) : Nat) : Int) := by omega
            have hmx8 : max mo (ht + k) ≤ 100000000 := by omega
            have HNX := Lib.hid (show heightTs 37 ks.length 0 (ks.take (k + 1)) = max mo (ht + k) from by rw [HTS.out, HAD.out])
            generalize max mo (ht + k) = mx at *
            go_wp2_with fail
            go_roundw
            case rel => exact ⟨k + 1, mx, by omega, by go_num, rfl, HNX, hbx⟩
            case measure => simp [intOf]; omega
          · have hdd : decide ((k : Int) < (kl : Int) - 1) = false := decide_eq_false (by omega)
            have HAD := Lib.hid (show addH 37 ks.length k = 0 from by unfold addH; rw [if_neg (by decide), if_pos (by decide), if_neg (by rw [← HKL.out]; exact hk1)])
            have hmx : max (mo : Int) (ht : Int) = ((max mo ht : Nat) : Int) := by omega
            have hmx8 : max mo ht ≤ 100000000 := by omega
            have HNX := Lib.hid (show heightTs 37 ks.length 0 (ks.take (k + 1)) = max mo ht from by rw [HTS.out, HAD.out, Nat.add_zero])
            generalize max mo ht = mx at *
            go_wp2_with fail
            go_roundw
            case rel => exact ⟨k + 1, mx, by omega, by go_num, rfl, HNX, hbx⟩
            case measure => simp [intOf]; omega
        · have b37 : (kd == 37) = false := by simp; omega
          by_cases h30 : kd = 30
          · subst h30
            have htm : ((k : Int).tmod 2) = ((k % 2 : Nat) : Int) := by rw [Int.tmod_eq_emod_of_nonneg (by omega)]; omega
            rcases Nat.mod_two_eq_zero_or_one k with hk2 | hk2
            · rw [hk2] at htm
              have HAD := Lib.hid (show addH 30 ks.length k = 0 from by unfold addH; rw [if_neg (by decide), if_neg (by decide), if_pos (by decide), hk2])
              have hmx : max (mo : Int) (ht : Int) = ((max mo ht : Nat) : Int) := by omega
              have hmx8 : max mo ht ≤ 100000000 := by omega
              have HNX := Lib.hid (show heightTs 30 ks.length 0 (ks.take (k + 1)) = max mo ht from by rw [HTS.out, HAD.out, Nat.add_zero])
              generalize max mo ht = mx at *
              clear hk2
              go_wp2_with fail
              go_roundw
              case rel => exact ⟨k + 1, mx, by omega, by go_num, rfl, HNX, hbx⟩
              case measure => simp [intOf]; omega
            · rw [hk2] at htm
              have HAD := Lib.hid (show addH 30 ks.length k = 1 from by unfold addH; rw [if_neg (by decide), if_neg (by decide), if_pos (by decide), hk2])
              have hmx : max (mo : Int) ((ht : Int) + 1) = ((max mo (ht + 1) : Nat) : Int) := by omega
              have hmx8 : max mo (ht + 1) ≤ 100000000 := by omega
              have HNX := Lib.hid (show heightTs 30 ks.length 0 (ks.take (k + 1)) = max mo (ht + 1) from by rw [HTS.out, HAD.out])
              generalize max mo (ht + 1) = mx at *
              clear hk2
              go_wp2_with fail
              go_roundw
              case rel => exact ⟨k + 1, mx, by omega, by go_num, rfl, HNX, hbx⟩
              case measure => simp [intOf]; omega
          · have b30 : (kd == 30) = false := by simp; omega
            have HAD := Lib.hid (show addH kd ks.length k = 0 from by unfold addH; rw [b3, b4, b21, b37, b30]; rfl)
            have hmx : max (mo : Int) (ht : Int) = ((max mo ht : Nat) : Int) := by omega
            have hmx8 : max mo ht ≤ 100000000 := by omega
            have HNX := Lib.hid (show heightTs kd ks.length 0 (ks.take (k + 1)) = max mo ht from by rw [HTS.out, HAD.out, Nat.add_zero])
            generalize max mo ht = mx at *
            clear h3 h37 h30
            go_wp2_with fail
            go_roundw
            case rel => exact ⟨k + 1, mx, by omega, by go_num, rfl, HNX, hbx⟩
            case measure => simp [intOf]; omega
    · obtain rfl : k = kl := by omega
      have HMF := Lib.hid (show heightTs kd ks.length 0 ks = mo from by rw [← HMO.out, List.take_of_length_le (by rw [← HKL.out]; exact Nat.le_refl _)])
      rw [HMF.out, ← HKL.out] at HTT
      have hbf := HB1.out.trans (hbr.mono HB1.out.size)
      have d0 := cell_keep hbf c0
      clear HMF HMO hlt
      by_cases h1 : kd = 1 ∨ kd = 2 ∨ kd = 12
      · have HQ := Lib.hid (show HT = max 1 mo from by rw [HTT.out]; unfold topH; rcases h1 with rfl | rfl | rfl <;> rfl)
        have hmx : max (1 : Int) (mo : Int) = ((max 1 mo : Nat) : Int) := by omega
        generalize max 1 mo = mx at *
        rcases h1 with rfl | rfl | rfl
        all_goals
          go_wp2_with fail
          go_ret
          exact ⟨by rw [HQ.out]; rfl, hbf⟩
      · have b1 : (kd == 1) = false := by simp; omega
        have b2 : (kd == 2) = false := by simp; omega
        have b12 : (kd == 12) = false := by simp; omega
        by_cases h3 : kd = 3
        · subst h3
          rcases Nat.eq_zero_or_pos k with h0 | h0
          · have HQ := Lib.hid (show HT = 1 from by rw [HTT.out, h0]; rfl)
            have hk0 : ((k : Int) == 0) = true := by simp; omega
            clear h0 h1
            go_wp2_with fail
            go_ret
            exact ⟨by rw [HQ.out]; rfl, hbf⟩
          · have hk0 : ((k : Int) == 0) = false := by simp; omega
            have hkn : (k == 0) = false := by simp; omega
            have HQ := Lib.hid (show HT = mo from by rw [HTT.out]; unfold topH; rw [hkn]; rfl)
            clear h0 h1 hkn
            go_wp2_with fail
            go_ret
            exact ⟨by rw [HQ.out]; rfl, hbf⟩
        · have b3 : (kd == 3) = false := by simp; omega
          have HQ := Lib.hid (show HT = mo from by rw [HTT.out]; unfold topH; rw [b1, b2, b12, b3]; rfl)
          clear h1 h3
          go_wp2_with fail
          go_ret
          exact ⟨by rw [HQ.out]; rfl, hbf⟩
end Go.Proofs.YthmeonimianoeaaDoor
