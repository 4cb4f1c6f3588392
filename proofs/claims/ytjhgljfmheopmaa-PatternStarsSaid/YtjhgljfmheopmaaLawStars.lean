/- PatternStars: for every three texts the law answers true. No condition. -/
import Derived.Test.YtjhgljfmheopmaaPatF
import Derived.Test.YtjhgljfmheopmaaStarsL
import Derived.Deep.DeepCutAuto
set_option linter.unusedVariables false
set_option linter.unusedSimpArgs false
namespace Go.Proofs.Ytjhgljfmheopmaa
open Go.RowKit

set_option maxHeartbeats 4000000 in
set_option maxRecDepth 100000 in
theorem stars_list (P Q S : List UInt8) (w : World) :
    Calls Try.prog 5 #[.string ⟨P.toArray⟩, .string ⟨Q.toArray⟩, .string ⟨S.toArray⟩] w fun e w' => e = .returned (.bool true) ∧ Below w.heap.size w w' := by
  go_enter Try.func5, Try.ntmps5
  go_wp2_with fail
  refine (first_any _).mono ?_
  rintro e w1 ⟨rfl, hb1⟩
  by_cases h1 : 12 < P.length
  · go_wp2_with fail
    go_ret
    exact ⟨rfl, hb1⟩
  by_cases h2 : 12 < Q.length
  · go_wp2_with fail
    go_ret
    exact ⟨rfl, hb1⟩
  by_cases h3 : 12 < S.length
  · go_wp2_with fail
    go_ret
    exact ⟨rfl, hb1⟩
  have k1 : decide (12 < P.length) = false := by simp; omega
  have k2 : decide (12 < Q.length) = false := by simp; omega
  have k3 : decide (12 < S.length) = false := by simp; omega
  go_wp2_with fail
  clear k1 k2 k3
  refine (closed_any ⟨P.toArray⟩ _ (by simp [ByteArray.size]; omega)).mono ?_
  show ∀ e w', Ret w1 (.bool (!openOf P)) e w' → _
  cases hop : openOf P with
  | true =>
    have HOP := Lib.hid hop
    clear hop
    rintro e w2 ⟨rfl, hb2⟩
    replace hb2 := hb1.trans (hb2.mono hb1.size); clear hb1
    go_wp2_with fail
    go_ret
    exact ⟨rfl, hb2⟩
  | false =>
  have HOP := Lib.hid hop
  clear hop
  rintro e w2 ⟨rfl, hb2⟩
  replace hb2 := hb1.trans (hb2.mono hb1.size); clear hb1
  go_wp2_with fail
  go_loopw [8] (fun i wr => ∃ k : Nat, k ≤ P.length ∧ i = .int .i64 k ∧ wr = w2 ∧ Hid (∀ c ∈ P.take k, c ≠ 91))
    (fun i _ => P.length - (intOf i).toNat)
  case atStart => exact ⟨0, Nat.zero_le _, rfl, rfl, by intro c hc; simp at hc⟩
  case round =>
    obtain ⟨k, hk, rfl, rfl, H⟩ := hrel
    by_cases hlt : k < P.length
    · go_wp2_with fail
      · go_ret
        exact ⟨rfl, hb2⟩
      · rename_i hne
        refine ⟨⟨k + 1, by omega, by go_num, trivial, ?_⟩, by simp [intOf]; omega⟩
        refine Lib.hid ?_
        intro c hc
        rw [List.take_succ_eq_append_getElem hlt, List.mem_append, List.mem_singleton] at hc
        rcases hc with hc | rfl
        · exact H.out c hc
        · intro e
          have h91 : (({ data := P.toArray } : ByteArray)[k]'(by simpa [ByteArray.size] using hlt)) = 91 := e
          simp [h91] at hne
    · obtain rfl : k = P.length := by omega
      clear hlt
      have H91 := Lib.hid (show ∀ c ∈ P, c ≠ 91 from fun c hc => H.out c (by rw [List.take_length]; exact hc))
      clear H
      have C1 := Lib.hid (show ∀ (W : World) (k : Nat), Calls Try.prog 11 #[.string ⟨P.toArray⟩, .string (ByteArray.extract ⟨S.toArray⟩ 0 k)] W (Ret W (.bool (matchL P (S.take k)))) from fun W k =>
        (match_any ⟨P.toArray⟩ (ByteArray.extract ⟨S.toArray⟩ 0 k) W (by simp [ByteArray.size]; omega) (by simp [ByteArray.size]; omega)).mono fun _ _ h => h.eq (congrArg Value.bool (congrArg (matchL P) (by simp))))
      have C2 := Lib.hid (show ∀ (W : World) (k : Nat), Calls Try.prog 11 #[.string ⟨Q.toArray⟩, .string (ByteArray.extract ⟨S.toArray⟩ k S.length)] W (Ret W (.bool (matchL Q (S.drop k)))) from fun W k =>
        (match_any ⟨Q.toArray⟩ (ByteArray.extract ⟨S.toArray⟩ k S.length) W (by simp [ByteArray.size]; omega) (by simp [ByteArray.size]; omega)).mono fun _ _ h => h.eq (congrArg Value.bool (congrArg (matchL Q) (by simp [List.take_of_length_le]))))
      have F1 := Lib.hid (partedN_succ P Q S)
      have F2 := Lib.hid (starN_succ P Q S)
      have F3 := Lib.hid (starIn_succ P Q S)
      go_wp2_with fail
      go_loopw [9, 10, 11] (fun pt st i wr' => ∃ k : Nat, k ≤ S.length + 1 ∧ i = .int .i64 k ∧ pt = .bool (partedN P Q S k) ∧ st = .bool (starN P Q S k) ∧ Below w.heap.size w wr')
        (fun pt st i _ => S.length + 1 - (intOf i).toNat)
      case atStart => exact ⟨0, Nat.zero_le _, rfl, rfl, rfl, hb2⟩
      case round =>
        obtain ⟨k, hk, rfl, rfl, rfl, hb⟩ := hrel
        by_cases hlt : k < S.length + 1
        · have hk2 : k ≤ S.length := by omega
          obtain ⟨x, hx⟩ : ∃ x, x = partedN P Q S k := ⟨_, rfl⟩
          obtain ⟨y, hy⟩ : ∃ y, y = starN P Q S k := ⟨_, rfl⟩
          rw [← hx, ← hy]
          have HX := Lib.hid hx
          have HY := Lib.hid hy
          clear hx hy
          go_upto_region 14 with (fail)
          go_cut [9] (fun pt wx => pt = .bool (partedN P Q S (k + 1)) ∧ Below w.heap.size w wx)
          case first =>
            cases x with
            | true =>
              go_wp2_with fail
              go_meet
              exact ⟨congrArg Value.bool (by rw [F1.out, ← HX.out]; rfl), hb⟩
            | false =>
              obtain ⟨u, hu⟩ : ∃ u, u = matchL P (S.take k) := ⟨_, rfl⟩
              obtain ⟨v, hv⟩ : ∃ v, v = matchL Q (S.drop k) := ⟨_, rfl⟩
              have HU := Lib.hid hu
              have HV := Lib.hid hv
              clear hu hv
              go_wp2_with fail
              refine (C1.out _ k).mono ?_
              rw [← HU.out]
              rintro e w3 ⟨rfl, hm⟩
              replace hb := hb.trans (hm.mono hb.size); clear hm
              cases u with
              | false =>
                go_wp2_with fail
                go_meet
                exact ⟨congrArg Value.bool (by rw [F1.out, ← HX.out, ← HU.out]; rfl), hb⟩
              | true =>
                go_wp2_with fail
                refine (C2.out _ k).mono ?_
                rw [← HV.out]
                rintro e w4 ⟨rfl, hm⟩
                replace hb := hb.trans (hm.mono hb.size); clear hm
                go_wp2_with fail
                go_meet
                exact ⟨congrArg Value.bool (by rw [F1.out, ← HX.out, ← HU.out, ← HV.out]; simp), hb⟩
          case rest =>
          obtain ⟨rfl, hb'⟩ := hcut
          clear hb HX
          have F0 := Lib.hid (show starIn P Q S k 0 = false from rfl)
          go_wp2_with fail
          go_loopw [10, 12] (fun st i wr' => ∃ m : Nat, k + m ≤ S.length + 1 ∧ i = .int .i64 (k + m : Nat) ∧ st = .bool (y || starIn P Q S k m) ∧ Below w.heap.size w wr')
            (fun st i _ => S.length + 1 - (intOf i).toNat)
          case atStart => exact ⟨0, by omega, rfl, congrArg Value.bool (by rw [F0.out]; simp), hb'⟩
          case round =>
            obtain ⟨m, hm, rfl, rfl, hb⟩ := hrel
            by_cases hltm : k + m < S.length + 1
            · have hm2 : k + m ≤ S.length := by omega
              obtain ⟨z, hz⟩ : ∃ z, z = (y || starIn P Q S k m) := ⟨_, rfl⟩
              rw [← hz]
              have HZ := Lib.hid hz
              clear hz
              cases z with
              | true =>
                go_wp2_with fail
                go_roundw
                case rel => exact ⟨m + 1, by omega, by go_num, congrArg Value.bool (by rw [F3.out, ← Bool.or_assoc, ← HZ.out]; rfl), hb⟩
                case measure => simp [intOf]; omega
              | false =>
                obtain ⟨u, hu⟩ : ∃ u, u = matchL P (S.take k) := ⟨_, rfl⟩
                obtain ⟨v, hv⟩ : ∃ v, v = matchL Q (S.drop (k + m)) := ⟨_, rfl⟩
                have HU := Lib.hid hu
                have HV := Lib.hid hv
                clear hu hv
                go_wp2_with fail
                refine (C1.out _ k).mono ?_
                rw [← HU.out]
                rintro e w3 ⟨rfl, hn⟩
                replace hb := hb.trans (hn.mono hb.size); clear hn
                cases u with
                | false =>
                  go_wp2_with fail
                  go_roundw
                  case rel => exact ⟨m + 1, by omega, by go_num, congrArg Value.bool (by rw [F3.out, ← Bool.or_assoc, ← HZ.out, ← HU.out]; rfl), hb⟩
                  case measure => simp [intOf]; omega
                | true =>
                  go_wp2_with fail
                  refine (C2.out _ (k + m)).mono ?_
                  rw [← HV.out]
                  rintro e w4 ⟨rfl, hn⟩
                  replace hb := hb.trans (hn.mono hb.size); clear hn
                  go_wp2_with fail
                  go_roundw
                  case rel => exact ⟨m + 1, by omega, by go_num, congrArg Value.bool (by rw [F3.out, ← Bool.or_assoc, ← HZ.out, ← HU.out, ← HV.out]; simp), hb⟩
                  case measure => simp [intOf]; omega
            · obtain rfl : m = S.length + 1 - k := by omega
              have HN := Lib.hid (show (y || starIn P Q S k (S.length + 1 - k)) = starN P Q S (k + 1) by rw [F2.out, HY.out])
              rw [HN.out]
              have hend : k + (S.length + 1 - k) = S.length + 1 := by omega
              rw [hend]
              clear hltm hm hend
              go_wp2_with fail
              go_roundw
              case rel => exact ⟨k + 1, by omega, by go_num, rfl, rfl, hb⟩
              case measure => simp [intOf]; omega
        · obtain rfl : k = S.length + 1 := by omega
          clear hlt
          obtain ⟨x, hx⟩ : ∃ x, x = partedN P Q S (S.length + 1) := ⟨_, rfl⟩
          obtain ⟨y, hy⟩ : ∃ y, y = starN P Q S (S.length + 1) := ⟨_, rfl⟩
          rw [← hx, ← hy]
          have E1 : matchL (({ data := P.toArray } : ByteArray) ++ { data := Q.toArray }).data.toList S = x := by
            rw [show (({ data := P.toArray } : ByteArray) ++ { data := Q.toArray }).data.toList = P ++ Q by simp, parted_law HOP.out H91.out, hx]
          have E2 : matchL (({ data := P.toArray } : ByteArray) ++ { data := #[42] } ++ { data := Q.toArray }).data.toList S = y := by
            rw [show (({ data := P.toArray } : ByteArray) ++ { data := #[42] } ++ { data := Q.toArray }).data.toList = P ++ 42 :: Q by simp, star_law HOP.out H91.out, hy]
          have L1 : (({ data := P.toArray } : ByteArray) ++ { data := Q.toArray }).size ≤ 1000 := by simp [ByteArray.size]; omega
          have L2 : (({ data := P.toArray } : ByteArray) ++ { data := #[42] } ++ { data := Q.toArray }).size ≤ 1000 := by simp [ByteArray.size]; omega
          have L3 : (⟨S.toArray⟩ : ByteArray).size ≤ 1000 := by simp [ByteArray.size]; omega
          have D1 : ∀ W, Calls Try.prog 11 #[.string (({ data := P.toArray } : ByteArray) ++ { data := Q.toArray }), .string ⟨S.toArray⟩] W (Ret W (.bool x)) := by
            intro W
            generalize (({ data := P.toArray } : ByteArray) ++ { data := Q.toArray }) = B at E1 L1
            rw [← E1]
            exact match_any B ⟨S.toArray⟩ W (by omega) (by omega)
          have D2 : ∀ W, Calls Try.prog 11 #[.string (({ data := P.toArray } : ByteArray) ++ { data := #[42] } ++ { data := Q.toArray }), .string ⟨S.toArray⟩] W (Ret W (.bool y)) := by
            intro W
            generalize (({ data := P.toArray } : ByteArray) ++ { data := #[42] } ++ { data := Q.toArray }) = B at E2 L2
            rw [← E2]
            exact match_any B ⟨S.toArray⟩ W (by omega) (by omega)
          replace D1 := Lib.hid D1
          replace D2 := Lib.hid D2
          clear E1 E2 L1 L2 L3
          clear hx hy hk
          go_wp2_with fail
          refine (D1.out _).mono ?_
          rintro e w3 ⟨rfl, hn⟩
          replace hb := hb.trans (hn.mono hb.size); clear hn
          go_wp2_with fail
          refine (D2.out _).mono ?_
          rintro e w4 ⟨rfl, hn⟩
          replace hb := hb.trans (hn.mono hb.size); clear hn
          go_wp2_with fail
          go_ret
          exact ⟨rfl, hb⟩

theorem stars_walk (p q s : ByteArray) (w : World) :
    Calls Try.prog 5 #[.string p, .string q, .string s] w fun e w' => e = .returned (.bool true) ∧ Below w.heap.size w w' :=
  stars_list p.data.toList q.data.toList s.data.toList w
end Go.Proofs.Ytjhgljfmheopmaa
