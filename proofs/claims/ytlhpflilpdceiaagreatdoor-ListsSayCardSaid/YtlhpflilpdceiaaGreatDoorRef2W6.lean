/- The walk over patoisref2.Split: it says what package pattern's says. Bounds on the lengths. -/
import Derived.Test.YtlhpflilpdceiaaGreatDoorJI
import Derived.Laws.Closers25b
import Derived.Outline
set_option linter.unusedVariables false
set_option linter.unusedSimpArgs false
namespace Go.Proofs.YtlhpflilpdceiaaGreatDoor
open Go.RowKit

def strq (l : List UInt8) : List Value := [.string ⟨l.toArray⟩]
theorem strq_len (l : List UInt8) : (strq l).length = 1 := rfl
theorem infoStr2 : (Tryz.prog.info? 9).map (fun i => (i.zero, i.size, i.bytes)) = some (some (.string ByteArray.empty), 1, 16) := by kernel_rfl
def SplitRet2 (s : ByteArray) (w : World) (e : Ending) (w' : World) : Prop := ∃ v, e = .returned v ∧ w'.ownsRow w.heap.size 9 1 v (splitL s.data.toList).length ((splitL s.data.toList).flatMap strq) ∧ Below w.heap.size w w'
theorem splitP_bl (s : List UInt8) {p : Piece} (h : p.blankB = true) (t : List Piece) (f : Nat) : splitP s (p :: t) f = (if f < p.frm then [(s.take p.frm).drop f] else []) ++ splitP s t (p.frm + 1) := by rw [splitP, if_pos h]
theorem splitP_not (s : List UInt8) {p : Piece} (h : p.blankB = false) (t : List Piece) (f : Nat) : splitP s (p :: t) f = splitP s t f := by rw [splitP, if_neg (by rw [h]; exact Bool.noConfusion)]

theorem part_ext {s P : ByteArray} {k j frm : Nat} (hP : P.data.toList = (s.data.toList.take k).drop frm) (hf : frm ≤ k) (hk : k + j ≤ s.size) : (P ++ s.extract k (k + j)).data.toList = (s.data.toList.take (k + j)).drop frm ∧ (P ++ s.extract k (k + j)).size = k + j - frm := by
  have hs : s.data.toList.length = s.size := rfl
  have h1 : (P ++ s.extract k (k + j)).data.toList = (s.data.toList.take (k + j)).drop frm := by
    rw [ByteArray.data_append, Array.toList_append, hP, ByteArray.data_extract, Array.toList_extract, List.take_add, List.drop_append_of_le_length (by rw [List.length_take]; omega)]
    congr 1
    simp [List.extract_eq_take_drop]
  refine ⟨h1, ?_⟩
  have h2 := congrArg List.length h1
  rw [List.length_drop, List.length_take] at h2
  have h3 : (P ++ s.extract k (k + j)).data.toList.length = (P ++ s.extract k (k + j)).size := rfl
  omega
theorem emp_size (P : ByteArray) : P.toList.isEmpty = decide (P.size = 0) := by
  rw [Bool.eq_iff_iff, List.isEmpty_iff, toList_nil_iff_emptyBytes, decide_eq_true_eq]
  constructor
  · intro h; rw [h]; rfl
  · intro h
    cases P with
    | mk a =>
      have : a = #[] := Array.eq_empty_of_size_eq_zero h
      rw [this]; rfl
set_option maxRecDepth 100000 in
set_option maxHeartbeats 4000000 in
theorem split2_any (s : ByteArray) (w : World) (hs : s.size ≤ 1000000) : Calls Tryz.prog 38 #[.string s] w (SplitRet2 s w) := by
  obtain ⟨i0, hi, hz0, hz1, hz2⟩ := info_parts infoStr2
  have BC := Lib.hid (fun (c : UInt8) W => blank2_any c W)
  go_enter Tryz.func38, Tryz.ntmps38
  go_wp2_with fail
  go_loopw [3, 4, 5] (fun v pv iv wr => ∃ (k frm : Nat) (P : ByteArray) (done : List (List UInt8)), k ≤ s.size ∧ frm ≤ k ∧ iv = .int .i64 k ∧ pv = .string P ∧ P.size = k - frm ∧ done.length ≤ k ∧ wr.ownsRow w.heap.size 9 1 v done.length (done.flatMap strq) ∧ Below w.heap.size w wr ∧
      Hid (P.data.toList = (s.data.toList.take k).drop frm) ∧ Hid (splitL s.data.toList = done ++ splitP s.data.toList (piecesOf (s.data.toList.drop k) k) frm)) (fun _ _ iv _ => s.size - (intOf iv).toNat)
  case atStart => exact ⟨0, 0, ⟨#[]⟩, [], Nat.zero_le _, Nat.le_refl _, rfl, rfl, rfl, Nat.zero_le _, World.ownsRow_nil _ _ _ _, Below.refl _ _, Lib.hid (by simp), rfl⟩
  case round =>
    obtain ⟨k, frm, P, done, hk, hf, rfl, rfl, hP, hdn, hown, hb, HP, HS⟩ := hrel
    by_cases hlt : k < s.size
    · have hdr := bytes_drop s k hlt
      by_cases hc : s[k] = 92
      · have hc0 : ((s[k].toNat : Int) == 92) = true := by rw [hc]; rfl
        by_cases hlt2 : k + 1 < s.size
        · have hdr2 := bytes_drop s (k + 1) hlt2
          have HN := Lib.hid (show splitL s.data.toList = done ++ splitP s.data.toList (piecesOf (s.data.toList.drop (k + 2)) (k + 2)) frm by
            rw [HS.out, hdr, hdr2, hc, piecesOf_esc, splitP_not _ (by simp [Piece.blankB])])
          have hpe := part_ext (j := 2) HP.out hf (by omega)
          have HP2 := Lib.hid hpe.1
          have hp3 := hpe.2
          clear hdr hdr2 HS hc hpe
          go_wp2_with fail
          go_roundw
          case rel => exact ⟨(k + 2), frm, _, done, by omega, by omega, by go_num, rfl, hp3, by omega, hown, hb, HP2, HN⟩
          case measure => simp [intOf]; omega
        · have hend : s.data.toList.drop (k + 1) = [] := by rw [show k + 1 = s.size by omega]; exact bytes_end s
          have HN := Lib.hid (show splitL s.data.toList = done ++ splitP s.data.toList (piecesOf (s.data.toList.drop (k + 1)) (k + 1)) frm by
            rw [HS.out, hdr, hend, hc, piecesOf_last, splitP_not _ (by simp [Piece.blankB])]
            simp [piecesOf])
          have hpe := part_ext (j := 1) HP.out hf (by omega)
          have HP2 := Lib.hid hpe.1
          have hp3 := hpe.2
          have hbl : blankB s[k] = false := by rw [hc]; decide
          have B1 := Lib.hid (fun W => BC.out s[k] W)
          rw [hbl] at B1
          clear hdr hend HS hc hpe hbl
          go_wp2_with fail
          refine (B1.out _).mono ?_
          rintro e w1 ⟨rfl, rfl⟩
          go_wp2_with fail
          go_roundw
          case rel => exact ⟨(k + 1), frm, _, done, by omega, by omega, by go_num, rfl, hp3, by omega, hown, hb, HP2, HN⟩
          case measure => simp [intOf]; omega
      · have hc0 : ((s[k].toNat : Int) == 92) = false := by
          rw [beq_eq_false_iff_ne]
          intro h
          exact hc (UInt8.toNat_inj.1 (by rw [show (92 : UInt8).toNat = 92 from rfl]; omega))
        have B1 := Lib.hid (fun W => BC.out s[k] W)
        cases hbl : blankB s[k]
        case false =>
          have HN := Lib.hid (show splitL s.data.toList = done ++ splitP s.data.toList (piecesOf (s.data.toList.drop (k + 1)) (k + 1)) frm by
            rw [HS.out, hdr, piecesOf_ne hc, splitP_not _ (by simp [Piece.blankB, hbl])])
          have hpe := part_ext (j := 1) HP.out hf (by omega)
          have HP2 := Lib.hid hpe.1
          have hp3 := hpe.2
          rw [hbl] at B1
          clear hdr HS hc hpe hbl
          go_wp2_with fail
          refine (B1.out _).mono ?_
          rintro e w1 ⟨rfl, rfl⟩
          go_wp2_with fail
          go_roundw
          case rel => exact ⟨(k + 1), frm, _, done, by omega, by omega, by go_num, rfl, hp3, by omega, hown, hb, HP2, HN⟩
          case measure => simp [intOf]; omega
        case true =>
          have hN := show splitL s.data.toList = done ++ ((if frm < k then [(s.data.toList.take k).drop frm] else []) ++ splitP s.data.toList (piecesOf (s.data.toList.drop (k + 1)) (k + 1)) (k + 1)) by
            rw [HS.out, hdr, piecesOf_ne hc, splitP_bl _ (by simp [Piece.blankB, hbl])]
          have HN := Lib.hid hN
          have hne := emp_size P
          rw [hP] at hne
          rw [hbl] at B1
          clear hdr HS hc hbl hN
          by_cases hfk : frm < k
          · have hne2 : P.toList.isEmpty = false := by rw [hne]; exact decide_eq_false (by omega)
            have HN2 := Lib.hid (show splitL s.data.toList = (done ++ [(s.data.toList.take k).drop frm]) ++ splitP s.data.toList (piecesOf (s.data.toList.drop (k + 1)) (k + 1)) (k + 1) by rw [HN.out, if_pos hfk]; simp)
            have HPP := Lib.hid (show (.string P : Value) = .string ⟨((s.data.toList.take k).drop frm).toArray⟩ by rw [← HP.out])
            clear hne HN
            go_wp2_with fail
            refine (B1.out _).mono ?_
            rintro e w1 ⟨rfl, rfl⟩
            go_wp2_with (at_builtin; refine wpList_push rfl _ _ _ rfl Tryz.underlying23 hi hz0 hz1 hz2 rfl (by decide) hown rfl rfl rfl (by simp [Value.oneCell']) (by omega) (by decide) hb.size ?_; intro A2 c2 w2 ho2 hb2 hoo2)
            go_roundw
            case rel => exact ⟨k + 1, k + 1, _, done ++ [(s.data.toList.take k).drop frm], by omega, Nat.le_refl _, by go_num, rfl, by rw [Nat.sub_self]; rfl, by simp; omega, by rw [List.flatMap_append, List.length_append]; simpa [strq, ← HPP.out] using ho2, hb.trans hb2, Lib.hid (by simp), HN2⟩
            case measure => simp [intOf]; omega
          · have hne2 : P.toList.isEmpty = true := by rw [hne]; exact decide_eq_true (by omega)
            have HN2 := Lib.hid (show splitL s.data.toList = done ++ splitP s.data.toList (piecesOf (s.data.toList.drop (k + 1)) (k + 1)) (k + 1) by rw [HN.out, if_neg hfk]; simp)
            clear hne HN
            go_wp2_with fail
            refine (B1.out _).mono ?_
            rintro e w1 ⟨rfl, rfl⟩
            go_wp2_with fail
            go_roundw
            case rel => exact ⟨k + 1, k + 1, _, done, by omega, Nat.le_refl _, by go_num, rfl, by rw [Nat.sub_self]; rfl, by omega, hown, hb, Lib.hid (by simp), HN2⟩
            case measure => simp [intOf]; omega
    · obtain rfl : s.size = k := by omega
      have hN := show splitL s.data.toList = done ++ (if frm < s.size then [s.data.toList.drop frm] else []) by
        rw [HS.out, bytes_end]
        simp [piecesOf, splitP]
      have HN := Lib.hid hN
      have hne := emp_size P
      rw [hP] at hne
      clear hN HS
      by_cases hfk : frm < s.size
      · have hne2 : P.toList.isEmpty = false := by rw [hne]; exact decide_eq_false (by omega)
        have HN2 := Lib.hid (show splitL s.data.toList = done ++ [s.data.toList.drop frm] by rw [HN.out, if_pos hfk])
        have HPP := Lib.hid (show (.string P : Value) = .string ⟨(s.data.toList.drop frm).toArray⟩ by
          have h := HP.out
          rw [show s.data.toList.take s.size = s.data.toList from List.take_of_length_le (Nat.le_refl _)] at h
          rw [← h])
        clear hne HN
        go_wp2_with (at_builtin; refine wpList_push rfl _ _ _ rfl Tryz.underlying23 hi hz0 hz1 hz2 rfl (by decide) hown rfl rfl rfl (by simp [Value.oneCell']) (by omega) (by decide) hb.size ?_; intro A2 c2 w2 ho2 hb2 hoo2)
        go_ret
        exact ⟨_, rfl, by rw [HN2.out, List.flatMap_append, List.length_append]; simpa [strq, ← HPP.out] using ho2, hb.trans hb2⟩
      · have hne2 : P.toList.isEmpty = true := by rw [hne]; exact decide_eq_true (by omega)
        have HN2 := Lib.hid (show splitL s.data.toList = done by rw [HN.out, if_neg hfk]; simp)
        clear hne HN
        go_wp2_with fail
        go_ret
        exact ⟨_, rfl, by rw [HN2.out]; exact hown, hb⟩
end Go.Proofs.YtlhpflilpdceiaaGreatDoor
