/- The walks over patoisref2.Read and closes: a text's bytes, where a set ends. Bounds on the lengths. -/
import Derived.Test.YtjpfolbghjhodaaDoorRef2M
import Derived.Test.YtjpfolbghjhodaaDoorPatW1
import Derived.Outline
set_option linter.unusedVariables false
set_option linter.unusedSimpArgs false
namespace Go.Proofs.YtjpfolbghjhodaaDoor
open Go.RowKit

/-- A byte of live text, as the document keeps it. -/
def bcs (p : Piece) : List Value := [.int .u8 p.c.toNat, .bool p.dead]
theorem bcs_len (p : Piece) : (bcs p).length = 2 := rfl
theorem infoByte2 : (Tryd.prog.info? 102).map (fun i => (i.zero, i.size, i.bytes)) = some (some (.agg #[.int .u8 0, .bool false]), 2, 2) := by kernel_rfl
/-- It returns a row of its own that holds the text's bytes. -/
def ReadRet (s : ByteArray) (w : World) (e : Ending) (w' : World) : Prop := ∃ v, e = .returned v ∧ w'.ownsRow w.heap.size 102 2 v (piecesOf s.data.toList 0).length ((piecesOf s.data.toList 0).flatMap bcs) ∧ Below w.heap.size w w'


set_option maxRecDepth 100000 in
set_option maxHeartbeats 4000000 in
theorem read_any (s : ByteArray) (w : World) (hs : s.size ≤ 4000000) : Calls Tryd.prog 72 #[.string s] w (ReadRet s w) := by
  obtain ⟨i0, hi, hz0, hz1, hz2⟩ := info_parts infoByte2
  go_enter Tryd.func72, Tryd.ntmps72
  go_wp2_with fail
  go_loopw [3, 4] (fun v i wr => ∃ k : Nat, ∃ done : List Piece, k ≤ s.size ∧ i = .int .i64 k ∧ done.length ≤ k ∧ wr.ownsRow w.heap.size 102 2 v done.length (done.flatMap bcs) ∧ Below w.heap.size w wr ∧
      Hid (piecesOf s.data.toList 0 = done ++ piecesOf (s.data.toList.drop k) k))
    (fun _ i _ => s.size - (intOf i).toNat)
  case atStart => exact ⟨0, [], Nat.zero_le _, rfl, Nat.zero_le _, World.ownsRow_nil _ _ _ _, Below.refl _ _, rfl⟩
  case round =>
    obtain ⟨k, done, hk, rfl, hd, hown, hb, HP⟩ := hrel
    by_cases hlt : k < s.size
    · have hdr := bytes_drop s k hlt
      by_cases hc : s[k] = 92
      · have hc0 : ((s[k].toNat : Int) == 92) = true := by rw [hc]; rfl
        by_cases hlt2 : k + 1 < s.size
        · have hdr2 := bytes_drop s (k + 1) hlt2
          have HP2 := Lib.hid (show piecesOf s.data.toList 0 = (done ++ [⟨s[k + 1], true, k⟩]) ++ piecesOf (s.data.toList.drop (k + 1 + 1)) (k + 1 + 1) from by
            have := HP.out
            rw [hdr, hdr2, hc] at this
            simpa [piecesOf] using this)
          clear hdr hdr2 HP hc
          go_wp2_with (at_builtin; refine wpList_push rfl _ _ _ rfl Tryd.underlying98 hi hz0 hz1 hz2 rfl (by decide) hown rfl rfl rfl (by simp [Value.oneCell']) (by omega) (by decide) hb.size ?_; intro A' c' w1 hown1 hb1 hoo1)
          go_roundw
          case rel => exact ⟨k + 1 + 1, done ++ [⟨s[k + 1], true, k⟩], by omega, by go_num, by simp; omega, by simpa [bcs] using hown1, hb.trans hb1, HP2⟩
          case measure => simp [intOf]; omega
        · have hend : s.data.toList.drop (k + 1) = [] := by rw [show k + 1 = s.size by omega]; exact bytes_end s
          have HP2 := Lib.hid (show piecesOf s.data.toList 0 = (done ++ [⟨92, true, k⟩]) ++ piecesOf (s.data.toList.drop (k + 1)) (k + 1) from by
            have := HP.out
            rw [hdr, hend, hc] at this
            rw [hend]
            simpa [piecesOf] using this)
          have h92 : s[k].toNat = 92 := by rw [hc]; rfl
          clear hdr hend HP hc
          go_wp2_with (at_builtin; refine wpList_push rfl _ _ _ rfl Tryd.underlying98 hi hz0 hz1 hz2 rfl (by decide) hown rfl rfl rfl (by simp [Value.oneCell']) (by omega) (by decide) hb.size ?_; intro A' c' w1 hown1 hb1 hoo1)
          go_roundw
          case rel => exact ⟨k + 1, done ++ [⟨92, true, k⟩], by omega, by go_num, by simp; omega, by simpa [bcs, h92] using hown1, hb.trans hb1, HP2⟩
          case measure => simp [intOf]; omega
      · have hc0 : ((s[k].toNat : Int) == 92) = false := by
          rw [beq_eq_false_iff_ne]
          intro h
          exact hc (UInt8.toNat_inj.1 (by rw [show (92 : UInt8).toNat = 92 from rfl]; omega))
        have HP2 := Lib.hid (show piecesOf s.data.toList 0 = (done ++ [⟨s[k], false, k⟩]) ++ piecesOf (s.data.toList.drop (k + 1)) (k + 1) from by
          have := HP.out
          rw [hdr] at this
          simpa [piecesOf_ne hc] using this)
        clear hdr HP hc
        go_wp2_with (at_builtin; refine wpList_push rfl _ _ _ rfl Tryd.underlying98 hi hz0 hz1 hz2 rfl (by decide) hown rfl rfl rfl (by simp [Value.oneCell']) (by omega) (by decide) hb.size ?_; intro A' c' w1 hown1 hb1 hoo1)
        go_roundw
        case rel => exact ⟨k + 1, done ++ [⟨s[k], false, k⟩], by omega, by go_num, by simp; omega, by simpa [bcs] using hown1, hb.trans hb1, HP2⟩
        case measure => simp [intOf]; omega
    · obtain rfl : s.size = k := by omega
      have hend := bytes_end s
      have HP2 := Lib.hid (show piecesOf s.data.toList 0 = done from by
        have := HP.out
        rw [hend] at this
        simpa [piecesOf] using this)
      clear hend HP
      go_wp2_with fail
      go_ret
      refine ⟨_, rfl, ?_, hb⟩
      rw [HP2.out]
      exact hown

/-- Where the first living ] from place k on lies; -1: there is none. -/
def closeI (l : List Piece) (k : Nat) : Int := match closeFrom l k with
  | some j => j
  | none => -1
theorem closeI_nil (k : Nat) : closeI [] k = -1 := rfl
theorem closeI_cons (p : Piece) (t : List Piece) (k : Nat) : closeI (p :: t) k = if p.isB 93 then (k : Int) else closeI t (k + 1) := by
  unfold closeI
  rw [closeFrom]
  cases p.isB 93 <;> rfl
set_option maxHeartbeats 2000000 in
theorem closes_any (A : Option Addr) (c : Nat) (i : Nat) (l : List Piece) (w : World) (hl : RdL w 2 bcs A l) (hn : l.length ≤ 4000000) (hi : i ≤ 4000000) :
    Calls Tryd.prog 73 #[.slice A l.length c, .int .i64 i] w fun e w' => e = .returned (.int .i64 (closeI (l.drop (i + 2)) (i + 2))) ∧ w' = w := by
  obtain ⟨m, hm⟩ : ∃ m, m = l.length := ⟨_, rfl⟩
  have HM := Lib.hid hm
  rw [← hm] at hn ⊢
  clear hm
  go_enter Tryd.func73, Tryd.ntmps73
  go_wp2_with fail
  go_loopw [5] (fun v wr => ∃ k : Nat, i + 2 ≤ k ∧ k ≤ m + i + 2 ∧ v = .int .i64 k ∧ w = wr ∧ Hid (closeI (l.drop (i + 2)) (i + 2) = closeI (l.drop k) k)) (fun v _ => m + i + 3 - (intOf v).toNat)
  case atStart => exact ⟨i + 2, by omega, by omega, by go_num, rfl, rfl⟩
  case round =>
    obtain ⟨k, hk1, hk2, rfl, rfl, HC⟩ := hrel
    by_cases hlt : k < m
    · have hlt' : k < l.length := by rw [← HM.out]; exact hlt
      obtain ⟨b, o, rfl, _⟩ := hl.addr (by omega)
      have c0 := (hl.at_ hlt').2 0 _ rfl
      have c1 := (hl.at_ hlt').2 1 _ rfl
      simp only [Nat.add_zero] at c0
      have HN := Lib.hid (show closeI (l.drop (i + 2)) (i + 2) = if l[k].isB 93 then (k : Int) else closeI (l.drop (k + 1)) (k + 1) by
        rw [HC.out, List.drop_eq_getElem_cons hlt', closeI_cons])
      obtain ⟨cc, hcc⟩ : ∃ cc, ((l[k].c.toNat : Int) == 93) = cc := ⟨_, rfl⟩
      obtain ⟨dd, hdd⟩ : ∃ dd, l[k].dead = dd := ⟨_, rfl⟩
      have HB := Lib.hid (show l[k].isB 93 = (cc && !dd) by unfold Piece.isB; rw [hcc, hdd])
      rw [hdd] at c1
      rw [HB.out] at HN
      generalize l[k].c.toNat = cn at *
      clear hdd HB HC
      cases cc
      · go_wp2_with fail
        go_roundw
        case rel => exact ⟨k + 1, by omega, by omega, by go_num, trivial, Lib.hid (by rw [HN.out]; rfl)⟩
        case measure => simp [intOf]; omega
      · cases dd
        · go_wp2_with fail
          go_ret
          exact ⟨congrArg (fun z => Ending.returned (Value.int .i64 z)) (by rw [HN.out]; rfl), rfl⟩
        · go_wp2_with fail
          go_roundw
          case rel => exact ⟨k + 1, by omega, by omega, by go_num, trivial, Lib.hid (by rw [HN.out]; rfl)⟩
          case measure => simp [intOf]; omega
    · have HF := Lib.hid (show closeI (l.drop (i + 2)) (i + 2) = -1 by rw [HC.out, List.drop_of_length_le (by rw [← HM.out]; omega)]; rfl)
      go_wp2_with fail
      go_ret
      exact ⟨congrArg (fun z => Ending.returned (Value.int .i64 z)) HF.out.symm, rfl⟩
end Go.Proofs.YtjpfolbghjhodaaDoor
