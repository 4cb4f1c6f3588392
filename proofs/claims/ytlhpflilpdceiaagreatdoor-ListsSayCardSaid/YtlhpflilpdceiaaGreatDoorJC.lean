/- The walks over package pattern's small functions: pieces, is, blank, end, Closed, and text.Blank. Each text is shorter than a million bytes. -/
import Derived.Test.YtlhpflilpdceiaaGreatDoorProg
import Derived.Test.YtlhpflilpdceiaaGreatDoorBase
import Derived.Test.YtlhpflilpdceiaaGreatDoorJA
import Derived.WalkKit
import Derived.WalkSpells
import Derived.WalkLawsBesides
import Derived.Lib.Hide
import Derived.Deep.LoopGhost
import Derived.Deep.DeepFit
set_option linter.unusedVariables false
set_option linter.unusedSimpArgs false
namespace Go.Proofs.YtlhpflilpdceiaaGreatDoor
open Go.RowKit

def pcs (p : Piece) : List Value := [.int .u8 p.c.toNat, .bool p.dead, .int .i64 p.frm]
theorem pcs_len (p : Piece) : (pcs p).length = 3 := rfl

theorem u8_beq (c : UInt8) (d : Nat) (hd : d < 256) : ((c.toNat : Int) == (d : Int)) = (c == UInt8.ofNat d) := by
  rw [Bool.eq_iff_iff]
  simp only [beq_iff_eq, Int.natCast_inj, ← UInt8.toNat_inj, UInt8.toNat_ofNat']
  omega

set_option maxHeartbeats 400000 in
theorem tblank_any (c : UInt8) (w : World) :
    Calls Tryz.prog 67 #[.int .u8 c.toNat] w fun e w' => e = .returned (.bool (blankB c)) ∧ w' = w := by
  have h1 := u8_beq c 32 (by decide)
  have h2 := u8_beq c 9 (by decide)
  have h3 := u8_beq c 10 (by decide)
  have hb : blankB c = (((c.toNat : Int) == 32) || ((c.toNat : Int) == 9) || ((c.toNat : Int) == 10)) := by
    unfold blankB; rw [show (32 : Int) = ((32 : Nat) : Int) from rfl, show (9 : Int) = ((9 : Nat) : Int) from rfl, show (10 : Int) = ((10 : Nat) : Int) from rfl, h1, h2, h3]; rfl
  rw [hb]
  clear h1 h2 h3 hb
  generalize (c.toNat : Int) = n
  go_enter Tryz.func67, Tryz.ntmps67
  go_wp2_with fail
  all_goals go_ret
  all_goals refine ⟨?_, rfl⟩
  all_goals simp [*]

set_option maxHeartbeats 400000 in
theorem is_any (p : Piece) (d : Int) (w : World) :
    Calls Tryz.prog 70 #[.agg #[.int .u8 p.c.toNat, .bool p.dead, .int .i64 p.frm], .int .u8 d] w (Ret w (.bool (p.isB d))) := by
  obtain ⟨c, dead, f⟩ := p
  cases hcd : ((c.toNat : Int) == d)
  all_goals
    go_enter Tryz.func70, Tryz.ntmps70
    go_wp2_with fail
    go_ret
    exact ⟨by simp [Piece.isB, hcd], (Below.refl _ _).alloc (Nat.le_refl _) _⟩

set_option maxHeartbeats 400000 in
theorem blank_any (p : Piece) (w : World) :
    Calls Tryz.prog 59 #[.agg #[.int .u8 p.c.toNat, .bool p.dead, .int .i64 p.frm]] w (Ret w (.bool p.blankB)) := by
  obtain ⟨c, dead, f⟩ := p
  go_enter Tryz.func59, Tryz.ntmps59
  go_wp2_with fail
  refine (tblank_any c _).mono ?_
  cases hcd : blankB c
  all_goals
    rintro e w' ⟨rfl, rfl⟩
    go_wp2_with fail
    go_ret
    exact ⟨by simp [Piece.blankB, hcd], (Below.refl _ _).alloc (Nat.le_refl _) _⟩

theorem infoPiece : (Tryz.prog.info? 67).map (fun i => (i.zero, i.size, i.bytes)) = some (some (.agg #[.int .u8 0, .bool false, .int .i64 0]), 3, 16) := by kernel_rfl


def PiecesRet (s : ByteArray) (w : World) (e : Ending) (w' : World) : Prop :=
  ∃ v, e = .returned (.tuple #[v, .bool (openOf s.data.toList)]) ∧ w'.ownsRow w.heap.size 67 3 v (piecesOf s.data.toList 0).length ((piecesOf s.data.toList 0).flatMap pcs) ∧ Below w.heap.size w w'

set_option maxRecDepth 100000 in
set_option maxHeartbeats 400000 in
theorem pieces_any (s : ByteArray) (w : World) (hs : s.size ≤ 4000000) :
    Calls Tryz.prog 58 #[.string s] w (PiecesRet s w) := by
  obtain ⟨i0, hi, hz0, hz1, hz2⟩ := info_parts infoPiece
  go_enter Tryz.func58, Tryz.ntmps58
  go_wp2_with fail
  go_loopw [4, 5] (fun v i wr => ∃ k : Nat, ∃ done : List Piece, k ≤ s.size ∧ i = .int .i64 k ∧ done.length ≤ k ∧ wr.ownsRow w.heap.size 67 3 v done.length (done.flatMap pcs) ∧ Below w.heap.size w wr ∧
      Hid (piecesOf s.data.toList 0 = done ++ piecesOf (s.data.toList.drop k) k) ∧ Hid (openOf s.data.toList = openOf (s.data.toList.drop k)))
    (fun _ i _ => s.size - (intOf i).toNat)
  case atStart => exact ⟨0, [], Nat.zero_le _, rfl, Nat.zero_le _, World.ownsRow_nil _ _ _ _, Below.refl _ _, rfl, rfl⟩
  case round =>
    obtain ⟨k, done, hk, rfl, hd, hown, hb, HP, HO⟩ := hrel
    by_cases hlt : k < s.size
    · have hdr := bytes_drop s k hlt
      by_cases hc : s[k] = 92
      · have hc0 : ((s[k].toNat : Int) != 92) = false := by rw [hc]; rfl
        by_cases hlt2 : k + 1 < s.size
        · have h1 : (((k : Nat) : Int) + 1 == (s.size : Int)) = false := by simp; omega
          have hdr2 := bytes_drop s (k + 1) hlt2
          have HP2 := Lib.hid (show piecesOf s.data.toList 0 = (done ++ [⟨s[k + 1], true, k⟩]) ++ piecesOf (s.data.toList.drop (k + 1 + 1)) (k + 1 + 1) from by
            have := HP.out
            rw [hdr, hdr2, hc] at this
            simpa [piecesOf] using this)
          have HO2 := Lib.hid (show openOf s.data.toList = openOf (s.data.toList.drop (k + 1 + 1)) from by
            have := HO.out
            rw [hdr, hdr2, hc] at this
            simpa [openOf] using this)
          clear hdr hdr2 HP HO hc
          go_wp2_with (at_builtin; refine wpList_push rfl _ _ _ rfl Tryz.underlying63 hi hz0 hz1 hz2 rfl (by decide) hown rfl rfl rfl (by simp [Value.oneCell']) (by omega) (by decide) hb.size ?_; intro A' c' w1 hown1 hb1 _)
          go_roundw
          case rel => exact ⟨k + 1 + 1, done ++ [⟨s[k + 1], true, k⟩], by omega, by go_num, by simp; omega, by simpa [pcs] using hown1, hb.trans hb1, HP2, HO2⟩
          case measure => simp [intOf]; omega
        · have h1 : (((k : Nat) : Int) + 1 == (s.size : Int)) = true := by simp; omega
          have hend : s.data.toList.drop (k + 1) = [] := by rw [show k + 1 = s.size by omega]; exact bytes_end s
          have HP2 := Lib.hid (show piecesOf s.data.toList 0 = done ++ [⟨92, true, k⟩] from by
            have := HP.out
            rw [hdr, hend, hc] at this
            simpa [piecesOf] using this)
          have HO2 := Lib.hid (show openOf s.data.toList = true from by
            have := HO.out
            rw [hdr, hend, hc] at this
            simpa [openOf] using this)
          have h92 : s[k].toNat = 92 := by rw [hc]; rfl
          clear hdr hend HP HO hc
          go_wp2_with (at_builtin; refine wpList_push rfl _ _ _ rfl Tryz.underlying63 hi hz0 hz1 hz2 rfl (by decide) hown rfl rfl rfl (by simp [Value.oneCell']) (by omega) (by decide) hb.size ?_; intro A' c' w1 hown1 hb1 _)
          go_ret2
          refine ⟨_, by rw [HO2.out]; rfl, ?_, hb.trans hb1⟩
          rw [HP2.out]
          simpa [pcs, h92] using hown1
      · have hc0 : ((s[k].toNat : Int) != 92) = true := u8_ne (d := 92) (fun h => hc (UInt8.toNat_inj.1 h))
        have HP2 := Lib.hid (show piecesOf s.data.toList 0 = (done ++ [⟨s[k], false, k⟩]) ++ piecesOf (s.data.toList.drop (k + 1)) (k + 1) from by
          have := HP.out
          rw [hdr] at this
          simpa [piecesOf_ne hc] using this)
        have HO2 := Lib.hid (show openOf s.data.toList = openOf (s.data.toList.drop (k + 1)) from by
          have := HO.out
          rw [hdr] at this
          simpa [openOf_ne hc] using this)
        clear hdr HP HO hc
        go_wp2_with (at_builtin; refine wpList_push rfl _ _ _ rfl Tryz.underlying63 hi hz0 hz1 hz2 rfl (by decide) hown rfl rfl rfl (by simp [Value.oneCell']) (by omega) (by decide) hb.size ?_; intro A' c' w1 hown1 hb1 _)
        go_roundw
        case rel => exact ⟨k + 1, done ++ [⟨s[k], false, k⟩], by omega, by go_num, by simp; omega, by simpa [pcs] using hown1, hb.trans hb1, HP2, HO2⟩
        case measure => simp [intOf]; omega
    · obtain rfl : s.size = k := by omega
      have hend := bytes_end s
      have HP2 := Lib.hid (show piecesOf s.data.toList 0 = done from by
        have := HP.out
        rw [hend] at this
        simpa [piecesOf] using this)
      have HO2 := Lib.hid (show openOf s.data.toList = false from by
        have := HO.out
        rw [hend] at this
        simpa [openOf] using this)
      clear hend HP HO
      go_wp2_with fail
      go_ret2
      refine ⟨_, by rw [HO2.out]; rfl, ?_, hb⟩
      rw [HP2.out]
      exact hown

set_option maxHeartbeats 400000 in
theorem end_any (A : Option Addr) (c : Nat) (i : Nat) (l : List Piece) (w : World) (hl : RdL w 3 pcs A l) (hn : l.length ≤ 1000000) (hi : i ≤ 1000000) :
    Calls Tryz.prog 71 #[.slice A l.length c, .int .i64 i] w (Ret w (.int .i64 (endAt (l.drop (i + 2)) (i + 2)))) := by
  go_enter Tryz.func71, Tryz.ntmps71
  go_wp2_with fail
  go_loopw [5] (fun v wr => ∃ k : Nat, i + 2 ≤ k ∧ k ≤ 1000002 + l.length ∧ v = .int .i64 k ∧ Below w.heap.size w wr ∧ Hid (endAt (l.drop (i + 2)) (i + 2) = endAt (l.drop k) k)) (fun v _ => 2000002 - (intOf v).toNat)
  case atStart => exact ⟨i + 2, by omega, by omega, by go_num, Below.refl _ _, rfl⟩
  case round =>
    obtain ⟨k, hk1, hk2, rfl, hb, H⟩ := hrel
    by_cases hlt : k < l.length
    · obtain ⟨b, o, rfl, hbl, hc⟩ := (hl.below hb) k hlt
      have c0 := hc 0 _ rfl
      have c1 := hc 1 _ rfl
      have c2 := hc 2 _ rfl
      clear hc
      simp only [Nat.add_zero] at c0
      have HE := Lib.hid (show endAt (l.drop (i + 2)) (i + 2) = if l[k].isB 93 then (k : Int) else endAt (l.drop (k + 1)) (k + 1) from by
        have h := H.out
        rw [List.drop_eq_getElem_cons hlt, endAt] at h
        exact h)
      clear H
      go_wp2_with fail
      refine (is_any l[k] _ _).mono ?_
      cases hB : l[k].isB 93
      all_goals
        rintro e w1 ⟨rfl, hb1⟩
        have hb2 := hb.trans (hb1.mono hb.size)
        clear c0 c1 c2
        go_wp2_with fail
      · go_roundw
        case rel => exact ⟨k + 1, by omega, by omega, by go_num, hb2, by have := HE.out; rw [hB] at this; exact this⟩
        case measure => simp [intOf]; omega
      · go_ret
        exact ⟨by rw [HE.out, hB]; rfl, hb2⟩
    · have HE := Lib.hid (show endAt (l.drop (i + 2)) (i + 2) = -1 from by
        have h := H.out
        rw [List.drop_of_length_le (by omega : l.length ≤ k)] at h
        exact h)
      clear H
      go_wp2_with fail
      go_ret
      exact ⟨by rw [HE.out]; rfl, hb⟩

end Go.Proofs.YtlhpflilpdceiaaGreatDoor

/- The walks over package pattern's among and in: whether a byte is one of a set. Fewer than a million pieces. -/
set_option linter.unusedVariables false
set_option linter.unusedSimpArgs false
namespace Go.Proofs.YtlhpflilpdceiaaGreatDoor
open Go.RowKit

theorem u8_le {a b : UInt8} : a ≤ b ↔ (a.toNat : Int) ≤ (b.toNat : Int) := by rw [UInt8.le_iff_toNat_le]; omega
theorem u8_eq {a b : UInt8} : a = b ↔ (a.toNat : Int) = (b.toNat : Int) := by rw [← UInt8.toNat_inj]; omega

/-- What a piece of the list gives the walk. -/
theorem piece_cells {w : World} {b o : Nat} {l : List Piece} (h : RdL w 3 pcs (some ⟨b, o, none⟩) l) {k : Nat} (hk : k < l.length) :
    w.cell? ⟨b, o + k * 3, none⟩ = some (.int .u8 l[k].c.toNat) ∧ w.cell? ⟨b, o + k * 3 + 1, none⟩ = some (.bool l[k].dead) ∧ w.cell? ⟨b, o + k * 3 + 2, none⟩ = some (.int .i64 l[k].frm) := by
  have := (h.at_ hk).2
  exact ⟨by simpa using this 0 _ rfl, this 1 _ rfl, this 2 _ rfl⟩

set_option maxHeartbeats 1000000 in
theorem among_any (A : Option Addr) (cap : Nat) (l : List Piece) (c : UInt8) (w : World) (hl : RdL w 3 pcs A l) (hn : l.length ≤ 1000000) :
    Calls Tryz.prog 105 #[.slice A l.length cap, .int .u8 c.toNat] w (Ret w (.bool (amongL l c))) := by
  go_enter Tryz.func105, Tryz.ntmps105
  go_wp2_with fail
  go_loopw [5] (fun v wr => ∃ k : Nat, k ≤ l.length ∧ v = .int .i64 k ∧ Below w.heap.size w wr ∧ Hid (amongL l c = amongL (l.drop k) c)) (fun v _ => l.length - (intOf v).toNat)
  case atStart => exact ⟨0, Nat.zero_le _, rfl, Below.refl _ _, rfl⟩
  case round =>
    obtain ⟨k, hk, rfl, hb, H⟩ := hrel
    by_cases hlt : k < l.length
    · have hr := hl.below hb
      obtain ⟨b, o, rfl⟩ : ∃ b o, A = some ⟨b, o, none⟩ := let ⟨b, o, h, _⟩ := hr k hlt; ⟨b, o, h⟩
      clear hl
      obtain ⟨c0, c1, c2⟩ := piece_cells hr hlt
      clear c1 c2
      have HPl := Lib.hid (show (∀ q r t', l.drop (k + 1) = q :: r :: t' → q.isB 45 = false) → amongL l c = if l[k].c = c then true else amongL (l.drop (k + 1)) c from by
        intro h
        rw [H.out, List.drop_eq_getElem_cons hlt]
        exact amongL_plain h)
      by_cases h2 : k + 2 < l.length
      · obtain ⟨d0, d1, d2⟩ := piece_cells hr (show k + 1 < l.length by omega)
        obtain ⟨e0, e1, e2⟩ := piece_cells hr h2
        clear e1 e2
        have hd1 : l.drop (k + 1) = l[k + 1] :: l[k + 2] :: l.drop (k + 3) := by
          rw [List.drop_eq_getElem_cons (show k + 1 < l.length by omega), List.drop_eq_getElem_cons h2]
        obtain ⟨p, hp⟩ : ∃ p, p = l[k] := ⟨_, rfl⟩
        obtain ⟨q, hq⟩ : ∃ q, q = l[k + 1] := ⟨_, rfl⟩
        obtain ⟨r, hr2⟩ : ∃ r, r = l[k + 2] := ⟨_, rfl⟩
        have hri := H.out
        rw [List.drop_eq_getElem_cons hlt, hd1, ← hp, ← hq, ← hr2] at hri
        rw [← hq, ← hr2] at hd1
        rw [← hp] at HPl c0
        rw [← hq] at d0 d1 d2
        rw [← hr2] at e0
        have HD := Lib.hid hd1
        have HR := Lib.hid hri
        clear hd1 hri hp hq hr2 H
        go_wp2_with fail
        refine (is_any q 45 _).mono ?_
        cases hB : q.isB 45
        · have HP := Lib.hid (show amongL l c = if p.c = c then true else amongL (l.drop (k + 1)) c from HPl.out (by
            intro q' r' t' h
            rw [HD.out] at h
            injection h with h _
            rw [← h]; exact hB))
          clear HPl HD HR d0 d1 d2 e0
          rintro e w1 ⟨rfl, hb1⟩
          have hb2 := hb.trans (hb1.mono hb.size)
          have c0' := cell_keep hb1 c0
          clear c0 hr
          by_cases hpc : (p.c.toNat : Int) = c.toNat
          · have hpb : ((p.c.toNat : Int) == c.toNat) = true := by simpa using hpc
            have hpe := Lib.hid (u8_eq.2 hpc)
            clear hpc
            go_wp2_with fail
            go_ret
            exact ⟨by rw [HP.out, if_pos hpe.out]; rfl, hb2⟩
          · have hpb : ((p.c.toNat : Int) == c.toNat) = false := by simpa using hpc
            have hpe := Lib.hid (fun h => hpc (u8_eq.1 h))
            clear hpc
            go_wp2_with fail
            go_roundw
            case rel => exact ⟨k + 1, by omega, by go_num, hb2, by rw [HP.out, if_neg hpe.out]; exact rfl⟩
            case measure => simp [intOf]; omega
        · have HP := Lib.hid (show amongL l c = if p.c ≤ c ∧ c ≤ r.c then true else amongL (l.drop (k + 3)) c from by rw [HR.out, amongL_range hB])
          clear HPl HD HR d0 d1 d2
          rintro e w1 ⟨rfl, hb1⟩
          have hb2 := hb.trans (hb1.mono hb.size)
          have c0' := cell_keep hb1 c0
          have e0' := cell_keep hb1 e0
          clear c0 e0 hr
          by_cases h3 : (p.c.toNat : Int) ≤ c.toNat
          · by_cases h4 : (c.toNat : Int) ≤ r.c.toNat
            · go_wp2_with fail
              go_ret
              exact ⟨by rw [HP.out, if_pos ⟨u8_le.2 h3, u8_le.2 h4⟩]; rfl, hb2⟩
            · go_wp2_with fail
              go_roundw
              case rel => exact ⟨k + 3, by omega, by go_num, hb2, by rw [HP.out, if_neg (fun h => by have := u8_le.1 h.2; omega)]; exact rfl⟩
              case measure => simp [intOf]; omega
          · go_wp2_with fail
            go_roundw
            case rel => exact ⟨k + 3, by omega, by go_num, hb2, by rw [HP.out, if_neg (fun h => by have := u8_le.1 h.1; omega)]; exact rfl⟩
            case measure => simp [intOf]; omega
      · have HP := Lib.hid (show amongL l c = if l[k].c = c then true else amongL (l.drop (k + 1)) c from HPl.out (by
          intro q' r' t' h
          have := congrArg List.length h
          simp at this; omega))
        clear HPl H hr
        obtain ⟨p, hp⟩ : ∃ p, p = l[k] := ⟨_, rfl⟩
        rw [← hp] at HP c0
        clear hp
        by_cases hpc : (p.c.toNat : Int) = c.toNat
        · have hpb : ((p.c.toNat : Int) == c.toNat) = true := by simpa using hpc
          have hpe := Lib.hid (u8_eq.2 hpc)
          clear hpc
          go_wp2_with fail
          go_ret
          exact ⟨by rw [HP.out, if_pos hpe.out]; rfl, hb⟩
        · have hpb : ((p.c.toNat : Int) == c.toNat) = false := by simpa using hpc
          have hpe := Lib.hid (fun h => hpc (u8_eq.1 h))
          clear hpc
          go_wp2_with fail
          go_roundw
          case rel => exact ⟨k + 1, by omega, by go_num, hb, by rw [HP.out, if_neg hpe.out]; exact rfl⟩
          case measure => simp [intOf]; omega
    · obtain rfl : l.length = k := by omega
      have HF := Lib.hid (show amongL l c = false by rw [H.out, List.drop_length]; rfl)
      clear H
      go_wp2_with fail
      go_ret
      exact ⟨by rw [HF.out]; rfl, hb⟩

set_option maxHeartbeats 1000000 in
theorem in_any (A : Option Addr) (cap : Nat) (l : List Piece) (c : UInt8) (w : World) (hl : RdL w 3 pcs A l) (hn : l.length ≤ 1000000) (hcap : l.length ≤ cap) (hmax : cap ≤ 9223372036854775807) :
    Calls Tryz.prog 90 #[.slice A l.length cap, .int .u8 c.toNat] w (Ret w (.bool (inL l c))) := by
  match l, hl, hn, hcap with
  | [], hl, hn, hcap =>
    go_enter Tryz.func90, Tryz.ntmps90
    go_wp2_with fail
    refine (among_any _ cap [] c _ hl hn).mono ?_
    rintro e w1 ⟨rfl, hb1⟩
    go_wp2_with fail
    go_ret
    exact ⟨rfl, hb1⟩
  | [p], hl, hn, hcap =>
    go_enter Tryz.func90, Tryz.ntmps90
    go_wp2_with fail
    refine (among_any _ cap [p] c _ hl hn).mono ?_
    rintro e w1 ⟨rfl, hb1⟩
    go_wp2_with fail
    go_ret
    exact ⟨rfl, hb1⟩
  | p :: q :: t, hl, hn, hcap =>
    obtain ⟨b, o, rfl⟩ : ∃ b o, A = some ⟨b, o, none⟩ := let ⟨b, o, h, _⟩ := hl 0 (by simp); ⟨b, o, h⟩
    obtain ⟨c0, c1, c2⟩ := piece_cells hl (show 0 < (p :: q :: t).length by simp)
    simp only [Nat.zero_mul, Nat.add_zero, List.getElem_cons_zero] at c0 c1 c2
    have hlen : 1 < (p :: q :: t).length := by simp
    have HL := Lib.hid (show (p :: q :: t).length = (q :: t).length + 1 by simp)
    obtain ⟨n, hN⟩ : ∃ n, n = (p :: q :: t).length := ⟨_, rfl⟩
    rw [← hN] at hlen hn hcap ⊢
    have HN := Lib.hid hN
    clear hN
    go_enter Tryz.func90, Tryz.ntmps90
    go_wp2_with fail
    refine (is_any p 94 _).mono ?_
    cases hB : p.isB 94
    · rintro e w1 ⟨rfl, hb1⟩
      have hl1 := hl.below hb1
      clear c0 c1 c2 hl
      go_wp2_with fail
      rw [HN.out]
      refine (among_any _ cap (p :: q :: t) c _ hl1 (by rw [← HN.out]; exact hn)).mono ?_
      rintro e w2 ⟨rfl, hb2⟩
      go_wp2_with fail
      go_ret
      exact ⟨by simp [inL, hB], hb1.trans (hb2.mono hb1.size)⟩
    · rintro e w1 ⟨rfl, hb1⟩
      have hl1 := hl.below hb1
      clear c0 c1 c2 hl
      go_wp2_with fail
      have hd := hl1.drop 1 (A' := some ⟨b, o + 3, none⟩) (by
        intro b' o' h _
        simp only [Option.some.injEq, Addr.mk.injEq, and_true] at h
        rw [← h.1, ← h.2])
      rw [show n - 1 = (q :: t).length by rw [HN.out]; rfl]
      refine (among_any _ (cap - 1) (q :: t) c _ hd (by have := HN.out; simp at this ⊢; omega)).mono ?_
      rintro e w2 ⟨rfl, hb2⟩
      go_wp2_with fail
      go_ret
      exact ⟨by simp [inL, hB], hb1.trans (hb2.mono hb1.size)⟩
end Go.Proofs.YtlhpflilpdceiaaGreatDoor
