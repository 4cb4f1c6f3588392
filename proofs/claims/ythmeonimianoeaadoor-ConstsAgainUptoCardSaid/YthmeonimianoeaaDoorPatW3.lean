/- The walks over pattern.Escape and pattern.Plain: each returns just what the plain functions say. Each text is shorter than a million bytes. -/
import Derived.Test.YthmeonimianoeaaDoorPatW2
set_option linter.unusedVariables false
set_option linter.unusedSimpArgs false
namespace Go.Proofs.YthmeonimianoeaaDoor
open Go.RowKit

def specB (c : UInt8) : Bool := c == 42 || c == 63 || c == 91 || c == 93 || c == 92
theorem escB_eq (c : UInt8) : escB c = (specB c || blankB c) := rfl

theorem indexByte_spec (c : UInt8) : decide (0 ≤ Lib.indexByte [42, 63, 91, 93, 92] c) = specB c := by
  have e : ∀ (b : UInt8), (b == c) = (c == b) := fun b => by rw [Bool.eq_iff_iff, beq_iff_eq, beq_iff_eq]; exact eq_comm
  simp only [Lib.indexByte, specB, e]
  cases c == 42 <;> cases c == 63 <;> cases c == 91 <;> cases c == 93 <;> cases c == 92 <;> rfl

theorem u8_of (c : UInt8) : (c.toNat : Int).toNat.toUInt8 = c := by simp

theorem take_succ_u8 (s : ByteArray) (k : Nat) (h : k < s.size) : s.data.toList.take (k + 1) = s.data.toList.take k ++ [s[k]] := by
  rw [List.take_succ_eq_append_getElem (by simpa using h)]; rfl
theorem escapeL_snoc (l : List UInt8) (c : UInt8) : escapeL (l ++ [c]) = escapeL l ++ (if escB c then [92, c] else [c]) := by simp [escapeL]
theorem escapeL_len (l : List UInt8) : (escapeL l).length ≤ 2 * l.length := by
  induction l with
  | nil => simp [escapeL]
  | cons c l ih =>
    have h : escapeL (c :: l) = (if escB c then [92, c] else [c]) ++ escapeL l := rfl
    rw [h, List.length_append, List.length_cons]
    split
    · simp only [List.length_cons, List.length_nil]; omega
    · simp only [List.length_cons, List.length_nil]; omega

theorem string_ret {a b : List UInt8} (h : a = b) : Ending.returned (.string ⟨a.toArray⟩) = .returned (.string ⟨b.toArray⟩) := by rw [h]

set_option maxHeartbeats 1000000 in
theorem escape_any (s : ByteArray) (w : World) (hs : s.size ≤ 1000000) :
    Calls Tryd.prog 105 #[.string s] w (Ret w (.string ⟨(escapeL s.data.toList).toArray⟩)) := by
  go_enter Tryd.func105, Tryd.ntmps105
  go_wp2_with fail
  go_loopw [7] (fun i wr => ∃ k : Nat, k ≤ s.size ∧ i = .int .i64 k ∧ Bld w.heap.size w.heap.size (escapeL (s.data.toList.take k)) wr ∧ Below w.heap.size w wr)
    (fun i _ => s.size - (intOf i).toNat)
  case atStart => exact ⟨0, Nat.zero_le _, rfl, Bld.fresh w, (Below.refl _ _).alloc (Nat.le_refl _) _⟩
  case round =>
    obtain ⟨k, hk, rfl, hB, hb⟩ := hrel
    by_cases hlt : k < s.size
    · have HT := Lib.hid (escapeL_snoc (s.data.toList.take k) s[k])
      have HS := Lib.hid (take_succ_u8 s k hlt)
      have hlen : (escapeL (s.data.toList.take k)).length ≤ 2000000 := by
        have h1 := escapeL_len (s.data.toList.take k)
        rw [List.length_take] at h1
        omega
      generalize hl : escapeL (s.data.toList.take k) = l at *
      clear hl
      have HI := Lib.hid (indexByte_spec s[k])
      have HU := Lib.hid (u8_of s[k])
      obtain ⟨c, hc⟩ : ∃ c, c = s[k] := ⟨_, rfl⟩
      have HC := Lib.hid hc
      go_wp2_with fail
      refine (Tryd.strings_IndexByte _ _ _).mono ?_
      rintro e w1 ⟨rfl, rfl⟩
      rw [HU.out, ← HC.out]
      have hI := HI.out
      rw [← HC.out] at hI
      generalize Lib.indexByte _ c = ix at hI ⊢
      cases hsp : specB c
      · rw [hsp] at hI
        have hI' : ¬ 0 ≤ ix := by simpa using hI
        clear hI hc
        go_wp2_with fail
        rw [← HC.out]
        refine (tblank_any c _).mono ?_
        cases hbl : blankB c
        · rintro e w1 ⟨rfl, rfl⟩
          go_wp2_with fail
          rw [← HC.out]
          refine (writeByte_any _ _ l c _ hB (by omega) hb.size).mono ?_
          rintro e w1 ⟨rfl, hB1, hb1, _⟩
          go_wp2_with fail
          go_roundw
          case rel => exact ⟨k + 1, by omega, by go_num, by rw [HS.out, HT.out, ← HC.out, escB_eq, hsp, hbl]; exact hB1, hb.trans hb1⟩
          case measure => simp [intOf]; omega
        · rintro e w1 ⟨rfl, rfl⟩
          go_wp2_with fail
          refine (writeByte_any _ _ l 92 _ hB (by omega) hb.size).mono ?_
          rintro e w1 ⟨rfl, hB1, hb1, _⟩
          have hsz1 := (hb.trans hb1).size
          go_wp2_with fail
          rw [← HC.out]
          refine (writeByte_any _ _ (l ++ [92]) c _ hB1 (by simp; omega) hsz1).mono ?_
          rintro e w2 ⟨rfl, hB2, hb2, ho2⟩
          go_wp2_with fail
          go_roundw
          case rel => exact ⟨k + 1, by omega, by go_num, by rw [HS.out, HT.out, ← HC.out, escB_eq, hsp, hbl]; simpa using hB2, (hb.trans hb1).trans hb2⟩
          case measure => simp [intOf]; omega
      · rw [hsp] at hI
        have hI' : 0 ≤ ix := by simpa using hI
        clear hI hc
        go_wp2_with fail
        refine (writeByte_any _ _ l 92 _ hB (by omega) hb.size).mono ?_
        rintro e w1 ⟨rfl, hB1, hb1, _⟩
        have hsz1 := (hb.trans hb1).size
        go_wp2_with fail
        rw [← HC.out]
        refine (writeByte_any _ _ (l ++ [92]) c _ hB1 (by simp; omega) hsz1).mono ?_
        rintro e w2 ⟨rfl, hB2, hb2, ho2⟩
        go_wp2_with fail
        go_roundw
        case rel => exact ⟨k + 1, by omega, by go_num, by rw [HS.out, HT.out, ← HC.out, escB_eq, hsp]; simpa using hB2, (hb.trans hb1).trans hb2⟩
        case measure => simp [intOf]; omega
    · obtain rfl : s.size = k := by omega
      have HF := Lib.hid (show s.data.toList.take s.size = s.data.toList from List.take_of_length_le (by simp))
      go_wp2_with fail
      refine (Tryd.Builder_String_any _ _ _ _ hB hb.size).mono ?_
      rintro e w1 ⟨rfl, hb1⟩
      go_wp2_with fail
      go_ret
      exact ⟨string_ret (by rw [HF.out]), hb.trans hb1⟩

set_option maxHeartbeats 1000000 in
theorem plain_any (s : ByteArray) (w : World) (hs : s.size ≤ 1000000) :
    Calls Tryd.prog 106 #[.string s] w (Ret w (.string ⟨(plainL s.data.toList).toArray⟩)) := by
  go_enter Tryd.func106, Tryd.ntmps106
  go_wp2_with fail
  refine (pieces_any s _ (Nat.le_trans hs (by decide))).mono ?_
  rintro e w1 ⟨v, rfl, hown, hb0⟩
  have hsz : w.heap.size + 1 ≤ w1.heap.size := by have := hb0.size; simpa using this
  have hB0 : Bld w.heap.size w.heap.size [] w1 := (Bld.fresh w).below hb0
  have hb1 : Below w.heap.size w w1 := ((Below.refl _ _).alloc (Nat.le_refl _) _).trans (hb0.mono (by simp))
  have hle := piecesOf_length_le s.data.toList 0
  have hs2 : s.data.toList.length = s.size := by simp
  obtain ⟨l, hl⟩ : ∃ l, l = piecesOf s.data.toList 0 := ⟨_, rfl⟩
  rw [← hl] at hown hle
  have HP := Lib.hid (show plainL s.data.toList = l.map (·.c) by rw [hl]; rfl)
  rw [hs2] at hle
  clear hl hs2
  obtain ⟨A, c, rfl, hc1, hc2, hrd, hA⟩ := RdL.of_own pcs_len hown rfl
  clear hrd
  go_wp2_with fail
  go_loopw [15] (fun i wr => ∃ k : Nat, k ≤ l.length ∧ i = .int .i64 k ∧ Bld w.heap.size w.heap.size ((l.take k).map (·.c)) wr ∧ Below w.heap.size w wr ∧ wr.ownsRow (w.heap.size + 1) 161 3 (.slice A l.length c) l.length (l.flatMap pcs))
    (fun i _ => l.length - (intOf i).toNat)
  case atStart => exact ⟨0, Nat.zero_le _, rfl, hB0, hb1, by simpa using hown⟩
  case round =>
    obtain ⟨k, hk, rfl, hB, hb, hr⟩ := hrel
    clear hown hb0 hb1 hB0
    by_cases hlt : k < l.length
    · have HF := Lib.hid (RdL.of_own pcs_len hr rfl)
      obtain ⟨A', c', he, _, _, hrd, _⟩ := HF.out
      injection he with he1 _ he2
      subst he1 he2
      obtain ⟨b, o, rfl, hbl, hcl⟩ := hrd k hlt
      have c0 := hcl 0 _ rfl
      have c1 := hcl 1 _ rfl
      have c2 := hcl 2 _ rfl
      clear hcl HF hrd
      simp only [Nat.add_zero] at c0
      have HT := Lib.hid (show (l.take (k + 1)).map (·.c) = (l.take k).map (·.c) ++ [l[k].c] by rw [List.take_succ_eq_append_getElem hlt, List.map_append]; rfl)
      have hlen : ((l.take k).map (·.c)).length ≤ 1000000 := by simp; omega
      generalize (l.take k).map (·.c) = m at *
      obtain ⟨p, hp⟩ : ∃ p, p = l[k] := ⟨_, rfl⟩
      rw [← hp] at HT c0 c1 c2
      clear hp
      have hBa := hB.below ((Below.refl wr.heap.size wr).alloc (Nat.le_refl _) (.cells #[.int .u8 p.c.toNat, .bool p.dead, .int .i64 p.frm] 161))
      have hra := hr.alloc (.cells #[.int .u8 p.c.toNat, .bool p.dead, .int .i64 p.frm] 161)
      have hsz := hb.size
      go_wp2_with fail
      refine (writeByte_any _ _ m p.c _ hBa (by omega) (by simp; omega)).mono ?_
      rintro e w2 ⟨rfl, hB2, hb2, ho2⟩
      go_wp2_with fail
      go_roundw
      case rel => exact ⟨k + 1, by omega, by go_num, by rw [HT.out]; exact hB2, (hb.alloc hsz _).trans hb2, own_others hra ho2 (by decide)⟩
      case measure => simp [intOf]; omega
    · obtain rfl : l.length = k := by omega
      have HF := Lib.hid (show plainL s.data.toList = (l.take l.length).map (·.c) by rw [HP.out, List.take_length])
      clear HP
      generalize (l.take l.length).map (·.c) = m at *
      go_wp2_with fail
      refine (Tryd.Builder_String_any _ _ _ _ hB hb.size).mono ?_
      rintro e w1 ⟨rfl, hb1⟩
      go_wp2_with fail
      go_ret
      exact ⟨string_ret (by rw [HF.out]), hb.trans hb1⟩
end Go.Proofs.YthmeonimianoeaaDoor
