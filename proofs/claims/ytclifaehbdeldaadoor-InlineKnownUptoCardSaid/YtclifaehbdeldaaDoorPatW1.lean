/- The walks over package pattern's small functions: pieces, is, blank, end, Closed, and text.Blank. Each text is shorter than a million bytes. -/
import Derived.Test.YtclifaehbdeldaaDoorProg
import Derived.Test.YtclifaehbdeldaaDoorBase
import Derived.Test.YtclifaehbdeldaaDoorPatM
import Derived.WalkKit
import Derived.WalkSpells
import Derived.WalkLawsBesides
import Derived.Lib.Hide
import Derived.Deep.LoopGhost
import Derived.Deep.DeepFit
set_option linter.unusedVariables false
set_option linter.unusedSimpArgs false
namespace Go.Proofs.YtclifaehbdeldaaDoor
open Go.RowKit

def pcs (p : Piece) : List Value := [.int .u8 p.c.toNat, .bool p.dead, .int .i64 p.frm]
theorem pcs_len (p : Piece) : (pcs p).length = 3 := rfl

theorem u8_beq (c : UInt8) (d : Nat) (hd : d < 256) : ((c.toNat : Int) == (d : Int)) = (c == UInt8.ofNat d) := by
  rw [Bool.eq_iff_iff]
  simp only [beq_iff_eq, Int.natCast_inj, ← UInt8.toNat_inj, UInt8.toNat_ofNat']
  omega

theorem infoPiece : (Tryd.prog.info? 238).map (fun i => (i.zero, i.size, i.bytes)) = some (some (.agg #[.int .u8 0, .bool false, .int .i64 0]), 3, 16) := by kernel_rfl


def PiecesRet (s : ByteArray) (w : World) (e : Ending) (w' : World) : Prop :=
  ∃ v, e = .returned (.tuple #[v, .bool (openOf s.data.toList)]) ∧ w'.ownsRow w.heap.size 238 3 v (piecesOf s.data.toList 0).length ((piecesOf s.data.toList 0).flatMap pcs) ∧ Below w.heap.size w w'

set_option maxRecDepth 100000 in
set_option maxHeartbeats 400000 in
theorem pieces_any (s : ByteArray) (w : World) (hs : s.size ≤ 4000000) :
    Calls Tryd.prog 182 #[.string s] w (PiecesRet s w) := by
  obtain ⟨i0, hi, hz0, hz1, hz2⟩ := info_parts infoPiece
  go_enter Tryd.func182, Tryd.ntmps182
  go_wp2_with fail
  go_loopw [4, 5] (fun v i wr => ∃ k : Nat, ∃ done : List Piece, k ≤ s.size ∧ i = .int .i64 k ∧ done.length ≤ k ∧ wr.ownsRow w.heap.size 238 3 v done.length (done.flatMap pcs) ∧ Below w.heap.size w wr ∧
      Hid (piecesOf s.data.toList 0 = done ++ piecesOf (s.data.toList.drop k) k) ∧ Hid (openOf s.data.toList = openOf (s.data.toList.drop k)))
    (fun _ i _ => s.size - (intOf i).toNat)
  case atStart => exact ⟨0, [], Nat.zero_le _, rfl, Nat.zero_le _, World.ownsRow_nil _ _ _ _, Below.refl _ _, rfl, rfl⟩
  case round =>
    obtain ⟨k, done, hk, rfl, hd, hown, hb, HP, HO⟩ := hrel
    by_cases hlt : k < s.size
    · have hdr := bytes_drop s k hlt
      by_cases hc : s[k] = 92
      · have hc0 : ((s[k].toNat : Int) != 92) = false := by rw [hc]; rfl
        by_cases hlt2 : k + 1 < s.size
        · have h1 : (((k : Nat) : Int) + 1 == (s.size : Int)) = false := by simp; omega
          have hdr2 := bytes_drop s (k + 1) hlt2
          have HP2 := Lib.hid (show piecesOf s.data.toList 0 = (done ++ [⟨s[k + 1], true, k⟩]) ++ piecesOf (s.data.toList.drop (k + 1 + 1)) (k + 1 + 1) from by
            have := HP.out
            rw [hdr, hdr2, hc] at this
            simpa [piecesOf] using this)
          have HO2 := Lib.hid (show openOf s.data.toList = openOf (s.data.toList.drop (k + 1 + 1)) from by
            have := HO.out
            rw [hdr, hdr2, hc] at this
            simpa [openOf] using this)
          clear hdr hdr2 HP HO hc
          go_wp2_with (at_builtin; refine wpList_push rfl _ _ _ rfl Tryd.underlying213 hi hz0 hz1 hz2 rfl (by decide) hown rfl rfl rfl (by simp [Value.oneCell']) (by omega) (by decide) hb.size ?_; intro A' c' w1 hown1 hb1 _)
          go_roundw
          case rel => exact ⟨k + 1 + 1, done ++ [⟨s[k + 1], true, k⟩], by omega, by go_num, by simp; omega, by simpa [pcs] using hown1, hb.trans hb1, HP2, HO2⟩
          case measure => simp [intOf]; omega
        · have h1 : (((k : Nat) : Int) + 1 == (s.size : Int)) = true := by simp; omega
          have hend : s.data.toList.drop (k + 1) = [] := by rw [show k + 1 = s.size by omega]; exact bytes_end s
          have HP2 := Lib.hid (show piecesOf s.data.toList 0 = done ++ [⟨92, true, k⟩] from by
            have := HP.out
            rw [hdr, hend, hc] at this
            simpa [piecesOf] using this)
          have HO2 := Lib.hid (show openOf s.data.toList = true from by
            have := HO.out
            rw [hdr, hend, hc] at this
            simpa [openOf] using this)
          have h92 : s[k].toNat = 92 := by rw [hc]; rfl
          clear hdr hend HP HO hc
          go_wp2_with (at_builtin; refine wpList_push rfl _ _ _ rfl Tryd.underlying213 hi hz0 hz1 hz2 rfl (by decide) hown rfl rfl rfl (by simp [Value.oneCell']) (by omega) (by decide) hb.size ?_; intro A' c' w1 hown1 hb1 _)
          go_ret2
          refine ⟨_, by rw [HO2.out]; rfl, ?_, hb.trans hb1⟩
          rw [HP2.out]
          simpa [pcs, h92] using hown1
      · have hc0 : ((s[k].toNat : Int) != 92) = true := u8_ne (d := 92) (fun h => hc (UInt8.toNat_inj.1 h))
        have HP2 := Lib.hid (show piecesOf s.data.toList 0 = (done ++ [⟨s[k], false, k⟩]) ++ piecesOf (s.data.toList.drop (k + 1)) (k + 1) from by
          have := HP.out
          rw [hdr] at this
          simpa [piecesOf_ne hc] using this)
        have HO2 := Lib.hid (show openOf s.data.toList = openOf (s.data.toList.drop (k + 1)) from by
          have := HO.out
          rw [hdr] at this
          simpa [openOf_ne hc] using this)
        clear hdr HP HO hc
        go_wp2_with (at_builtin; refine wpList_push rfl _ _ _ rfl Tryd.underlying213 hi hz0 hz1 hz2 rfl (by decide) hown rfl rfl rfl (by simp [Value.oneCell']) (by omega) (by decide) hb.size ?_; intro A' c' w1 hown1 hb1 _)
        go_roundw
        case rel => exact ⟨k + 1, done ++ [⟨s[k], false, k⟩], by omega, by go_num, by simp; omega, by simpa [pcs] using hown1, hb.trans hb1, HP2, HO2⟩
        case measure => simp [intOf]; omega
    · obtain rfl : s.size = k := by omega
      have hend := bytes_end s
      have HP2 := Lib.hid (show piecesOf s.data.toList 0 = done from by
        have := HP.out
        rw [hend] at this
        simpa [piecesOf] using this)
      have HO2 := Lib.hid (show openOf s.data.toList = false from by
        have := HO.out
        rw [hend] at this
        simpa [openOf] using this)
      clear hend HP HO
      go_wp2_with fail
      go_ret2
      refine ⟨_, by rw [HO2.out]; rfl, ?_, hb⟩
      rw [HP2.out]
      exact hown

set_option maxHeartbeats 400000 in
theorem closed_any (s : ByteArray) (w : World) (hs : s.size ≤ 4000000) :
    Calls Tryd.prog 139 #[.string s] w (Ret w (.bool (!openOf s.data.toList))) := by
  go_enter Tryd.func139, Tryd.ntmps139
  go_wp2_with fail
  refine (pieces_any s _ hs).mono ?_
  rintro e w1 ⟨v, rfl, _, hb⟩
  go_wp2_with fail
  go_ret
  exact ⟨rfl, hb⟩
end Go.Proofs.YtclifaehbdeldaaDoor
