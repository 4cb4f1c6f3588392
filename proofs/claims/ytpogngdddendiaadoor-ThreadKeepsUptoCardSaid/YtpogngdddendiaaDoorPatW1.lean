/- The walks over package pattern's small functions: pieces, is, blank, end, Closed, and text.Blank. Each text is shorter than a million bytes. -/
import Derived.Test.YtpogngdddendiaaDoorProg
import Derived.Test.YtpogngdddendiaaDoorBase
import Derived.Test.YtpogngdddendiaaDoorPatM
import Derived.WalkKit
import Derived.WalkSpells
import Derived.WalkLawsBesides
import Derived.Lib.Hide
import Derived.Deep.LoopGhost
import Derived.Deep.DeepFit
set_option linter.unusedVariables false
set_option linter.unusedSimpArgs false
namespace Go.Proofs.YtpogngdddendiaaDoor
open Go.RowKit

def pcs (p : Piece) : List Value := [.int .u8 p.c.toNat, .bool p.dead, .int .i64 p.frm]
theorem pcs_len (p : Piece) : (pcs p).length = 3 := rfl

theorem u8_beq (c : UInt8) (d : Nat) (hd : d < 256) : ((c.toNat : Int) == (d : Int)) = (c == UInt8.ofNat d) := by
  rw [Bool.eq_iff_iff]
  simp only [beq_iff_eq, Int.natCast_inj, ← UInt8.toNat_inj, UInt8.toNat_ofNat']
  omega

set_option maxHeartbeats 400000 in
theorem tblank_any (c : UInt8) (w : World) :
    Calls Tryd.prog 168 #[.int .u8 c.toNat] w fun e w' => e = .returned (.bool (blankB c)) ∧ w' = w := by
  have h1 := u8_beq c 32 (by decide)
  have h2 := u8_beq c 9 (by decide)
  have h3 := u8_beq c 10 (by decide)
  have hb : blankB c = (((c.toNat : Int) == 32) || ((c.toNat : Int) == 9) || ((c.toNat : Int) == 10)) := by
    unfold blankB; rw [show (32 : Int) = ((32 : Nat) : Int) from rfl, show (9 : Int) = ((9 : Nat) : Int) from rfl, show (10 : Int) = ((10 : Nat) : Int) from rfl, h1, h2, h3]; rfl
  rw [hb]
  clear h1 h2 h3 hb
  generalize (c.toNat : Int) = n
  go_enter Tryd.func168, Tryd.ntmps168
  go_wp2_with fail
  all_goals go_ret
  all_goals refine ⟨?_, rfl⟩
  all_goals simp [*]

set_option maxHeartbeats 400000 in
theorem is_any (p : Piece) (d : Int) (w : World) :
    Calls Tryd.prog 169 #[.agg #[.int .u8 p.c.toNat, .bool p.dead, .int .i64 p.frm], .int .u8 d] w (Ret w (.bool (p.isB d))) := by
  obtain ⟨c, dead, f⟩ := p
  cases hcd : ((c.toNat : Int) == d)
  all_goals
    go_enter Tryd.func169, Tryd.ntmps169
    go_wp2_with fail
    go_ret
    exact ⟨by simp [Piece.isB, hcd], (Below.refl _ _).alloc (Nat.le_refl _) _⟩

set_option maxHeartbeats 400000 in
theorem blank_any (p : Piece) (w : World) :
    Calls Tryd.prog 171 #[.agg #[.int .u8 p.c.toNat, .bool p.dead, .int .i64 p.frm]] w (Ret w (.bool p.blankB)) := by
  obtain ⟨c, dead, f⟩ := p
  go_enter Tryd.func171, Tryd.ntmps171
  go_wp2_with fail
  refine (tblank_any c _).mono ?_
  cases hcd : blankB c
  all_goals
    rintro e w' ⟨rfl, rfl⟩
    go_wp2_with fail
    go_ret
    exact ⟨by simp [Piece.blankB, hcd], (Below.refl _ _).alloc (Nat.le_refl _) _⟩

theorem infoPiece : (Tryd.prog.info? 189).map (fun i => (i.zero, i.size, i.bytes)) = some (some (.agg #[.int .u8 0, .bool false, .int .i64 0]), 3, 16) := by kernel_rfl


def PiecesRet (s : ByteArray) (w : World) (e : Ending) (w' : World) : Prop :=
  ∃ v, e = .returned (.tuple #[v, .bool (openOf s.data.toList)]) ∧ w'.ownsRow w.heap.size 189 3 v (piecesOf s.data.toList 0).length ((piecesOf s.data.toList 0).flatMap pcs) ∧ Below w.heap.size w w'

set_option maxRecDepth 100000 in
set_option maxHeartbeats 400000 in
theorem pieces_any (s : ByteArray) (w : World) (hs : s.size ≤ 4000000) :
    Calls Tryd.prog 121 #[.string s] w (PiecesRet s w) := by
  obtain ⟨i0, hi, hz0, hz1, hz2⟩ := info_parts infoPiece
  go_enter Tryd.func121, Tryd.ntmps121
  go_wp2_with fail
  go_loopw [4, 5] (fun v i wr => ∃ k : Nat, ∃ done : List Piece, k ≤ s.size ∧ i = .int .i64 k ∧ done.length ≤ k ∧ wr.ownsRow w.heap.size 189 3 v done.length (done.flatMap pcs) ∧ Below w.heap.size w wr ∧
      Hid (piecesOf s.data.toList 0 = done ++ piecesOf (s.data.toList.drop k) k) ∧ Hid (openOf s.data.toList = openOf (s.data.toList.drop k)))
    (fun _ i _ => s.size - (intOf i).toNat)
  case atStart => exact ⟨0, [], Nat.zero_le _, rfl, Nat.zero_le _, World.ownsRow_nil _ _ _ _, Below.refl _ _, rfl, rfl⟩
  case round =>
    obtain ⟨k, done, hk, rfl, hd, hown, hb, HP, HO⟩ := hrel
    by_cases hlt : k < s.size
    · have hdr := bytes_drop s k hlt
      by_cases hc : s[k] = 92
      · have hc0 : ((s[k].toNat : Int) != 92) = false := by rw [hc]; rfl
        by_cases hlt2 : k + 1 < s.size
        · have h1 : (((k : Nat) : Int) + 1 == (s.size : Int)) = false := by simp; omega
          have hdr2 := bytes_drop s (k + 1) hlt2
          have HP2 := Lib.hid (show piecesOf s.data.toList 0 = (done ++ [⟨s[k + 1], true, k⟩]) ++ piecesOf (s.data.toList.drop (k + 1 + 1)) (k + 1 + 1) from by
            have := HP.out
            rw [hdr, hdr2, hc] at this
            simpa [piecesOf] using this)
          have HO2 := Lib.hid (show openOf s.data.toList = openOf (s.data.toList.drop (k + 1 + 1)) from by
            have := HO.out
            rw [hdr, hdr2, hc] at this
            simpa [openOf] using this)
          clear hdr hdr2 HP HO hc
          go_wp2_with (at_builtin; refine wpList_push rfl _ _ _ rfl Tryd.underlying165 hi hz0 hz1 hz2 rfl (by decide) hown rfl rfl rfl (by simp [Value.oneCell']) (by omega) (by decide) hb.size ?_; intro A' c' w1 hown1 hb1 _)
          go_roundw
          case rel => exact ⟨k + 1 + 1, done ++ [⟨s[k + 1], true, k⟩], by omega, by go_num, by simp; omega, by simpa [pcs] using hown1, hb.trans hb1, HP2, HO2⟩
          case measure => simp [intOf]; omega
        · have h1 : (((k : Nat) : Int) + 1 == (s.size : Int)) = true := by simp; omega
          have hend : s.data.toList.drop (k + 1) = [] := by rw [show k + 1 = s.size by omega]; exact bytes_end s
          have HP2 := Lib.hid (show piecesOf s.data.toList 0 = done ++ [⟨92, true, k⟩] from by
            have := HP.out
            rw [hdr, hend, hc] at this
            simpa [piecesOf] using this)
          have HO2 := Lib.hid (show openOf s.data.toList = true from by
            have := HO.out
            rw [hdr, hend, hc] at this
            simpa [openOf] using this)
          have h92 : s[k].toNat = 92 := by rw [hc]; rfl
          clear hdr hend HP HO hc
          go_wp2_with (at_builtin; refine wpList_push rfl _ _ _ rfl Tryd.underlying165 hi hz0 hz1 hz2 rfl (by decide) hown rfl rfl rfl (by simp [Value.oneCell']) (by omega) (by decide) hb.size ?_; intro A' c' w1 hown1 hb1 _)
          go_ret2
          refine ⟨_, by rw [HO2.out]; rfl, ?_, hb.trans hb1⟩
          rw [HP2.out]
          simpa [pcs, h92] using hown1
      · have hc0 : ((s[k].toNat : Int) != 92) = true := u8_ne (d := 92) (fun h => hc (UInt8.toNat_inj.1 h))
        have HP2 := Lib.hid (show piecesOf s.data.toList 0 = (done ++ [⟨s[k], false, k⟩]) ++ piecesOf (s.data.toList.drop (k + 1)) (k + 1) from by
          have := HP.out
          rw [hdr] at this
          simpa [piecesOf_ne hc] using this)
        have HO2 := Lib.hid (show openOf s.data.toList = openOf (s.data.toList.drop (k + 1)) from by
          have := HO.out
          rw [hdr] at this
          simpa [openOf_ne hc] using this)
        clear hdr HP HO hc
        go_wp2_with (at_builtin; refine wpList_push rfl _ _ _ rfl Tryd.underlying165 hi hz0 hz1 hz2 rfl (by decide) hown rfl rfl rfl (by simp [Value.oneCell']) (by omega) (by decide) hb.size ?_; intro A' c' w1 hown1 hb1 _)
        go_roundw
        case rel => exact ⟨k + 1, done ++ [⟨s[k], false, k⟩], by omega, by go_num, by simp; omega, by simpa [pcs] using hown1, hb.trans hb1, HP2, HO2⟩
        case measure => simp [intOf]; omega
    · obtain rfl : s.size = k := by omega
      have hend := bytes_end s
      have HP2 := Lib.hid (show piecesOf s.data.toList 0 = done from by
        have := HP.out
        rw [hend] at this
        simpa [piecesOf] using this)
      have HO2 := Lib.hid (show openOf s.data.toList = false from by
        have := HO.out
        rw [hend] at this
        simpa [openOf] using this)
      clear hend HP HO
      go_wp2_with fail
      go_ret2
      refine ⟨_, by rw [HO2.out]; rfl, ?_, hb⟩
      rw [HP2.out]
      exact hown

set_option maxHeartbeats 400000 in
theorem end_any (A : Option Addr) (c : Nat) (i : Nat) (l : List Piece) (w : World) (hl : RdL w 3 pcs A l) (hn : l.length ≤ 1000000) (hi : i ≤ 1000000) :
    Calls Tryd.prog 170 #[.slice A l.length c, .int .i64 i] w (Ret w (.int .i64 (endAt (l.drop (i + 2)) (i + 2)))) := by
  go_enter Tryd.func170, Tryd.ntmps170
  go_wp2_with fail
  go_loopw [5] (fun v wr => ∃ k : Nat, i + 2 ≤ k ∧ k ≤ 1000002 + l.length ∧ v = .int .i64 k ∧ Below w.heap.size w wr ∧ Hid (endAt (l.drop (i + 2)) (i + 2) = endAt (l.drop k) k)) (fun v _ => 2000002 - (intOf v).toNat)
  case atStart => exact ⟨i + 2, by omega, by omega, by go_num, Below.refl _ _, rfl⟩
  case round =>
    obtain ⟨k, hk1, hk2, rfl, hb, H⟩ := hrel
    by_cases hlt : k < l.length
    · obtain ⟨b, o, rfl, hbl, hc⟩ := (hl.below hb) k hlt
      have c0 := hc 0 _ rfl
      have c1 := hc 1 _ rfl
      have c2 := hc 2 _ rfl
      clear hc
      simp only [Nat.add_zero] at c0
      have HE := Lib.hid (show endAt (l.drop (i + 2)) (i + 2) = if l[k].isB 93 then (k : Int) else endAt (l.drop (k + 1)) (k + 1) from by
        have h := H.out
        rw [List.drop_eq_getElem_cons hlt, endAt] at h
        exact h)
      clear H
      go_wp2_with fail
      refine (is_any l[k] _ _).mono ?_
      cases hB : l[k].isB 93
      all_goals
        rintro e w1 ⟨rfl, hb1⟩
        have hb2 := hb.trans (hb1.mono hb.size)
        clear c0 c1 c2
        go_wp2_with fail
      · go_roundw
        case rel => exact ⟨k + 1, by omega, by omega, by go_num, hb2, by have := HE.out; rw [hB] at this; exact this⟩
        case measure => simp [intOf]; omega
      · go_ret
        exact ⟨by rw [HE.out, hB]; rfl, hb2⟩
    · have HE := Lib.hid (show endAt (l.drop (i + 2)) (i + 2) = -1 from by
        have h := H.out
        rw [List.drop_of_length_le (by omega : l.length ≤ k)] at h
        exact h)
      clear H
      go_wp2_with fail
      go_ret
      exact ⟨by rw [HE.out]; rfl, hb⟩

set_option maxHeartbeats 400000 in
theorem closed_any (s : ByteArray) (w : World) (hs : s.size ≤ 4000000) :
    Calls Tryd.prog 89 #[.string s] w (Ret w (.bool (!openOf s.data.toList))) := by
  go_enter Tryd.func89, Tryd.ntmps89
  go_wp2_with fail
  refine (pieces_any s _ hs).mono ?_
  rintro e w1 ⟨v, rfl, _, hb⟩
  go_wp2_with fail
  go_ret
  exact ⟨rfl, hb⟩
end Go.Proofs.YtpogngdddendiaaDoor
