/- The walk over the document's files: what it answers is the same list as pattern.Files'. Bounds on the lengths. -/
import Derived.Test.YtlhpflilpdceiaaGreatDoorRef2W7
import Derived.Test.YtlhpflilpdceiaaGreatDoorRef2W8
import Derived.Test.YtlhpflilpdceiaaGreatDoorJG
import Derived.Deep.DeepCutAuto
import Derived.Outline
set_option linter.unusedVariables false
set_option linter.unusedSimpArgs false
namespace Go.Proofs.YtlhpflilpdceiaaGreatDoor
open Go.RowKit

theorem isFile_eq (p n : List UInt8) : isFile p n = (!(dotB n && !dotB p) && matchL p n) := by
  unfold isFile
  cases matchL p n <;> cases dotB n <;> cases dotB p <;> rfl
theorem files_sorted (p : List UInt8) (l : List (List UInt8)) : sortedS (l.filter (isFile p)) = filesL p l :=
  sortedS_eq (compact_sort (l.filter (isFile p))).1 (compact_sort (l.filter (isFile p))).2

set_option maxHeartbeats 4000000 in
theorem files2_any (P : List UInt8) (A0 : Option Addr) (c0 : Nat) (L : List (List UInt8)) (w : World) (hrd : RdL w 1 strq A0 L) (hL : L.length ≤ 1000000) (hP : P.length ≤ 1000000) (hs : ∀ x ∈ L, x.length ≤ 1000000) :
    Calls Tryz.prog 49 #[.string ⟨P.toArray⟩, .slice A0 L.length c0] w (SortRet (filesL P L) w) := by
  obtain ⟨i0, hi, hz0, hz1, hz2⟩ := info_parts infoStr2
  have HFS := Lib.hid (show filesL P L = sortedS ([] ++ (L.drop 0).filter (isFile P)) from (files_sorted P L).symm)
  obtain ⟨n, hn⟩ : ∃ n, n = L.length := ⟨_, rfl⟩
  rw [← hn] at hL ⊢
  have HN := Lib.hid hn
  have HSZ := Lib.hid hs
  clear hn hs
  go_enter Tryz.func49, Tryz.ntmps49
  go_wp2_with fail
  go_loopw [5, 6] (fun v i wr => ∃ (k : Nat) (acc : List (List UInt8)), k ≤ n ∧ i = .int .i64 k ∧ acc.length ≤ k ∧ wr.ownsRow w.heap.size 9 1 v acc.length (acc.flatMap strq) ∧ Below w.heap.size w wr ∧ Hid (filesL P L = sortedS (acc ++ (L.drop k).filter (isFile P))))
    (fun _ i _ => n - (intOf i).toNat)
  case atStart => exact ⟨0, [], Nat.zero_le _, rfl, Nat.zero_le _, World.ownsRow_nil _ _ _ _, Below.refl _ _, HFS⟩
  case round =>
    clear HFS
    obtain ⟨k, acc, hk, rfl, hak, hown, hbw, H⟩ := hrel
    by_cases hlt : k < n
    · have hkL : k < L.length := by rw [← HN.out]; exact hlt
      obtain ⟨b, o, rfl⟩ := hrd.at0 hkL
      have cx := (hrd.below hbw).str2 hkL
      have hD := List.drop_eq_getElem_cons hkL
      have hzl := HSZ.out _ (List.getElem_mem hkL)
      obtain ⟨z, hz⟩ : ∃ z, z = L[k] := ⟨_, rfl⟩
      rw [← hz] at cx hD hzl
      have HD := Lib.hid hD
      clear hz hkL hD
      go_upto_region 5 with (fail)
      go_cut [7] (fun v wx => v = .bool (dotB z && !dotB P) ∧ wr = wx)
      case first =>
        cases z with
        | nil =>
          go_wp2_with fail
          go_meet
          exact ⟨rfl, rfl⟩
        | cons c t =>
          have hc46 : ((c.toNat : Int) == 46) = (c == 46) := u8_beq c 46 (by decide)
          have HX2 := Lib.hid (dotB_cons c t)
          have hx0 : ∀ h, ({ data := (c :: t).toArray } : ByteArray)[0]'h = c := fun _ => rfl
          cases hcb : (c == 46) with
          | false =>
            rw [hcb] at hc46 HX2
            clear hcb
            go_wp2_with fail
            go_meet
            exact ⟨congrArg Value.bool (by rw [HX2.out]; rfl), rfl⟩
          | true =>
            rw [hcb] at hc46 HX2
            clear hcb
            cases P with
            | nil =>
              go_wp2_with fail
              go_meet
              exact ⟨congrArg Value.bool (by rw [HX2.out]; rfl), rfl⟩
            | cons d q =>
              have hd46 : ((d.toNat : Int) == 46) = (d == 46) := u8_beq d 46 (by decide)
              have HP2 := Lib.hid (dotB_cons d q)
              have hd0 : ∀ h, ({ data := (d :: q).toArray } : ByteArray)[0]'h = d := fun _ => rfl
              have hq0 : ((q.length : Int) + 1 == 0) = false := by rw [beq_eq_false_iff_ne]; omega
              cases hdb : (d == 46) with
              | false =>
                rw [hdb] at hd46 HP2
                clear hdb
                go_wp2_with fail
                go_meet
                exact ⟨congrArg Value.bool (by rw [HX2.out, HP2.out]; rfl), rfl⟩
              | true =>
                rw [hdb] at hd46 HP2
                clear hdb
                go_wp2_with fail
                go_meet
                exact ⟨congrArg Value.bool (by rw [HX2.out, HP2.out]; rfl), rfl⟩
      case rest =>
      obtain ⟨rfl, rfl⟩ := hcut
      have CM := Lib.hid (match2_any ⟨P.toArray⟩ ⟨z.toArray⟩ wr (by simp [ByteArray.size]; omega) (by simp [ByteArray.size]; omega))
      rw [show (⟨P.toArray⟩ : ByteArray).data.toList = P from rfl, show (⟨z.toArray⟩ : ByteArray).data.toList = z from rfl] at CM
      have HI := Lib.hid (isFile_eq P z)
      generalize (dotB z && !dotB P) = hid at *
      generalize matchL P z = mb at *
      cases hid with
      | true =>
        have HN2 := Lib.hid (show filesL P L = sortedS (acc ++ (L.drop (k + 1)).filter (isFile P)) by rw [H.out, HD.out, List.filter_cons_of_neg (by rw [HI.out]; simp)])
        go_wp2_with fail
        go_roundw
        case rel => exact ⟨k + 1, acc, by omega, by go_num, by omega, hown, hbw, HN2⟩
        case measure => simp [intOf]; omega
      | false =>
        cases mb with
        | false =>
          have HN2 := Lib.hid (show filesL P L = sortedS (acc ++ (L.drop (k + 1)).filter (isFile P)) by rw [H.out, HD.out, List.filter_cons_of_neg (by rw [HI.out]; simp)])
          go_wp2_with fail
          refine CM.out.mono ?_
          rintro e w2 ⟨rfl, hb2⟩
          replace hbw := hbw.trans (hb2.mono hbw.size)
          replace hown := own_below hown hb2
          clear hb2 CM cx
          go_wp2_with fail
          go_roundw
          case rel => exact ⟨k + 1, acc, by omega, by go_num, by omega, hown, hbw, HN2⟩
          case measure => simp [intOf]; omega
        | true =>
          have HN2 := Lib.hid (show filesL P L = sortedS ((acc ++ [z]) ++ (L.drop (k + 1)).filter (isFile P)) by rw [H.out, HD.out, List.filter_cons_of_pos (by rw [HI.out]; rfl)]; simp)
          go_wp2_with fail
          refine CM.out.mono ?_
          rintro e w2 ⟨rfl, hb2⟩
          replace hbw := hbw.trans (hb2.mono hbw.size)
          replace hown := own_below hown hb2
          replace cx := cell_keep hb2 cx
          clear hb2 CM
          go_wp2_with (at_builtin; refine wpList_push rfl _ _ _ rfl Tryz.underlying23 hi hz0 hz1 hz2 rfl (by decide) hown rfl rfl rfl (by simp [Value.oneCell']) (by omega) (by decide) hbw.size ?_; intro A' c' w4 hown4 hb4 ho4)
          go_roundw
          case rel => exact ⟨k + 1, acc ++ [z], by omega, by go_num, by simp; omega, by simpa [strq] using hown4, hbw.trans hb4, HN2⟩
          case measure => simp [intOf]; omega
    · obtain rfl : k = n := by omega
      have HF := Lib.hid (show sortedS acc = filesL P L by rw [H.out, HN.out, List.drop_length, List.filter_nil, List.append_nil])
      obtain ⟨A, c, rfl, hmc, hcm, hra, hAz⟩ := RdL.of_own strq_len hown rfl
      have CS := Lib.hid (sorted_any A c acc wr hra (by omega))
      rw [HF.out] at CS
      clear H hlt
      go_wp2_with fail
      refine CS.out.mono ?_
      rintro e w2 ⟨v, rfl, hown2, hb2⟩
      go_wp2_with fail
      go_ret
      exact ⟨_, rfl, own_mono hown2 hbw.size, hbw.trans (hb2.mono hbw.size)⟩
end Go.Proofs.YtlhpflilpdceiaaGreatDoor
