/- The walks over patoisref2.Live, Plain, Escape: they say what package pattern's say. Bounds on the lengths. -/
import Derived.Test.YtckcpokfjofcaaaRef2W1
import Derived.Laws.IdiomStrings
import Derived.Outline
set_option linter.unusedVariables false
set_option linter.unusedSimpArgs false
namespace Go.Proofs.Ytckcpokfjofcaaa
open Go.RowKit

theorem name_ret2 {a b : Bool} (h : a = b) : Ending.returned (.bool a) = .returned (.bool b) := by rw [h]
theorem ReadRet.rd {s : ByteArray} {w : World} {e : Ending} {w' : World} (h : ReadRet s w e w') : ∃ A c, e = .returned (.slice A (piecesOf s.data.toList 0).length c) ∧ RdL w' 2 bcs A (piecesOf s.data.toList 0) ∧ Below w.heap.size w w' := by
  obtain ⟨v, rfl, h1, h2⟩ := h
  obtain ⟨A, c, rfl, _, _, h3, _⟩ := RdL.of_own bcs_len h1 rfl
  exact ⟨A, c, rfl, h3, h2⟩
theorem closeI_nonneg (l : List Piece) (i : Nat) : decide (0 ≤ closeI (l.drop (i + 2)) (i + 2)) = (setEnd (l.drop (i + 1))).isSome := by
  unfold closeI
  rw [closes_setEnd]
  cases setEnd (l.drop (i + 1)) with
  | none => rfl
  | some j => simp; omega
theorem liveP_dead {p : Piece} (h : p.dead = true) (t : List Piece) : liveP (p :: t) = liveP t := by simp [liveP, Piece.isB, h]

set_option maxRecDepth 100000 in
set_option maxHeartbeats 4000000 in
theorem live2_any (s : ByteArray) (w : World) (hs : s.size ≤ 1000000) : Calls Try.prog 13 #[.string s] w (Ret w (.bool (liveL s.data.toList))) := by
  have RC := Lib.hid (read_any s w (by omega))
  have hpl := piecesOf_length_le s.data.toList 0
  have hsz : s.data.toList.length = s.size := rfl
  have HL := Lib.hid (show liveL s.data.toList = liveP (piecesOf s.data.toList 0) from rfl)
  go_enter Try.func13, Try.ntmps13
  go_wp2_with fail
  refine RC.out.mono ?_
  intro e w1 h1
  obtain ⟨A, c, rfl, hrd, hb⟩ := h1.rd
  clear RC
  have hll : (piecesOf s.data.toList 0).length ≤ 1000000 := by omega
  generalize piecesOf s.data.toList 0 = L at *
  generalize liveL s.data.toList = R at *
  obtain ⟨m, hm⟩ : ∃ m, m = L.length := ⟨_, rfl⟩
  rw [← hm] at hll ⊢
  have HM := Lib.hid hm
  clear hm hpl hsz
  go_wp2_with fail
  go_loopw [4] (fun v wr => ∃ k : Nat, k ≤ m ∧ v = .int .i64 k ∧ w1 = wr ∧ Hid (R = liveP (L.drop k))) (fun v _ => m - (intOf v).toNat)
  case atStart => exact ⟨0, Nat.zero_le _, rfl, rfl, Lib.hid HL.out⟩
  case round =>
    obtain ⟨k, hk, rfl, rfl, HR⟩ := hrel
    by_cases hlt : k < m
    · have hlt' : k < L.length := by rw [← HM.out]; exact hlt
      obtain ⟨b, o, rfl, _⟩ := hrd.addr (by omega)
      have c0 := (hrd.at_ hlt').2 0 _ rfl
      have c1 := (hrd.at_ hlt').2 1 _ rfl
      simp only [Nat.add_zero] at c0
      have CC := Lib.hid (closes_any (some ⟨b, o, none⟩) c k L w1 hrd (by rw [← HM.out]; omega) (by omega))
      rw [← HM.out] at CC
      have HN := Lib.hid (closeI_nonneg L k)
      have HP := Lib.hid (show R = liveP (L[k] :: L.drop (k + 1)) by rw [HR.out, List.drop_eq_getElem_cons hlt'])
      generalize closeI (L.drop (k + 2)) (k + 2) = Z at *
      obtain ⟨p, hp⟩ : ∃ p, p = L[k] := ⟨_, rfl⟩
      rw [← hp] at c0 c1 HP
      obtain ⟨pc, pd, pf⟩ := p
      simp only at c0 c1
      clear hp HR
      cases pd
      case true =>
        have HP2 := Lib.hid (show R = liveP (L.drop (k + 1)) by rw [HP.out, liveP_dead rfl])
        go_wp2_with fail
        go_roundw
        case rel => exact ⟨k + 1, by omega, by go_num, trivial, HP2⟩
        case measure => simp [intOf]; omega
      case false =>
        obtain ⟨q, hq⟩ : ∃ q, (setEnd (L.drop (k + 1))).isSome = q := ⟨_, rfl⟩
        rw [hq] at HN
        obtain ⟨a1, ha1⟩ : ∃ a, ((pc.toNat : Int) == 42) = a := ⟨_, rfl⟩
        obtain ⟨a2, ha2⟩ : ∃ a, ((pc.toNat : Int) == 63) = a := ⟨_, rfl⟩
        obtain ⟨a3, ha3⟩ : ∃ a, ((pc.toNat : Int) == 91) = a := ⟨_, rfl⟩
        have HP2 := Lib.hid (show R = (a1 || a2 || (a3 && q) || liveP (L.drop (k + 1))) by
          rw [HP.out, liveP, hq]
          simp only [Piece.isB, Bool.not_false, Bool.and_true, ha1, ha2, ha3])
        clear hq HP
        generalize pc.toNat = pn at *
        cases a1
        case true =>
          go_wp2_with fail
          go_ret
          exact ⟨name_ret2 (by rw [HP2.out]; rfl), hb⟩
        case false =>
        cases a2
        case true =>
          go_wp2_with fail
          go_ret
          exact ⟨name_ret2 (by rw [HP2.out]; rfl), hb⟩
        case false =>
        cases a3
        case false =>
          go_wp2_with fail
          go_roundw
          case rel => exact ⟨k + 1, by omega, by go_num, trivial, Lib.hid (by rw [HP2.out]; rfl)⟩
          case measure => simp [intOf]; omega
        case true =>
          have hz := HN.out
          clear HN
          go_wp2_with fail
          refine CC.out.mono ?_
          rintro e w2 ⟨rfl, rfl⟩
          cases q
          case true =>
            go_wp2_with fail
            go_ret
            exact ⟨name_ret2 (by rw [HP2.out]; rfl), hb⟩
          case false =>
            go_wp2_with fail
            go_roundw
            case rel => exact ⟨k + 1, by omega, by go_num, trivial, Lib.hid (by rw [HP2.out]; rfl)⟩
            case measure => simp [intOf]; omega
    · have HF := Lib.hid (show R = false by rw [HR.out, List.drop_of_length_le (by rw [← HM.out]; omega)]; rfl)
      go_wp2_with fail
      go_ret
      exact ⟨name_ret2 HF.out.symm, hb⟩
end Go.Proofs.Ytckcpokfjofcaaa
