/- A text as a cell of memory. No condition. -/
import Derived.Test.YtpogngdddendiaaDoorProg
import Derived.Test.YtpogngdddendiaaDoorBase
import Derived.Test.YtpogngdddendiaaDoorHB
import Derived.WalkKit
import Derived.WalkSpells
import Derived.WalkLawsBesides
import Derived.Lib.Hide
import Derived.Deep.LoopGhost
import Derived.Deep.DeepFit
import Derived.Lib.Strings
import Derived.Outline
import Derived.Test.YtpogngdddendiaaDoorHJ
set_option linter.unusedVariables false
set_option linter.unusedSimpArgs false
namespace Go.Proofs.YtpogngdddendiaaDoor
open Go.RowKit

theorem infoStr : (Tryd.prog.info? 9).map (fun i => (i.zero, i.size, i.bytes)) = some (some (.string ByteArray.empty), 1, 16) := by kernel_rfl

/-- a string as a cell -/
def strc (s : List UInt8) : List Value := [.string ⟨s.toArray⟩]
theorem strc_len (s : List UInt8) : (strc s).length = 1 := rfl
theorem strc_one (s : List UInt8) : ∀ u ∈ strc s, u.oneCell' = true := by intro u hu; simp [strc] at hu; subst hu; rfl

end Go.Proofs.YtpogngdddendiaaDoor

/- The walk over patoisref.SameTexts: it says whether two rows of texts are the same. Each row is shorter than a million. -/
set_option linter.unusedVariables false
set_option linter.unusedSimpArgs false
namespace Go.Proofs.YtpogngdddendiaaDoor
open Go.RowKit


end Go.Proofs.YtpogngdddendiaaDoor

/- The walks over pattern.Live, pattern.Split and patoisref.SameTexts: each returns just what the plain functions say. Each text is shorter than a million bytes. -/
set_option linter.unusedVariables false
set_option linter.unusedSimpArgs false
namespace Go.Proofs.YtpogngdddendiaaDoor
open Go.RowKit

/-- It returns a slice of strings in new memory that reads so. -/
def Strs (l : List (List UInt8)) (base : Nat) (v : Value) (w' : World) : Prop := w'.ownsRow base 9 1 v l.length (l.flatMap strc)

theorem new_cell (w : World) (cs : Array Value) (t : TypeId) (j : Nat) : (w.alloc (.cells cs t)).cell? ⟨w.heap.size, j, none⟩ = cs[j]? := cell_of_row _ _ j cs t (0, 0) (heap_alloc_new w _)

theorem liveP_cons (p : Piece) (t : List Piece) : liveP (p :: t) = (p.isB 42 || p.isB 63 || (p.isB 91 && (setEnd t).isSome) || liveP t) := rfl

theorem endAt_find' (l : List Piece) : ∀ k : Nat, endAt l k = match l.findIdx? (·.isB 93) with | some m => ((k + m : Nat) : Int) | none => -1 := by
  induction l with
  | nil => intro k; rfl
  | cons p l ih =>
    intro k
    rw [endAt, List.findIdx?_cons, ih]
    cases p.isB 93 with
    | true => simp
    | false =>
      simp only [Bool.false_eq_true, if_false]
      cases l.findIdx? (·.isB 93) with
      | none => rfl
      | some m => show (((k + 1) + m : Nat) : Int) = ((k + (m + 1) : Nat) : Int); rw [show k + 1 + m = k + (m + 1) by omega]

theorem endAt_pos (l : List Piece) (k : Nat) : decide (0 < endAt (l.drop (k + 2)) (k + 2)) = (setEnd (l.drop (k + 1))).isSome := by
  rw [endAt_find', setEnd, List.drop_drop]
  cases (l.drop (k + 2)).findIdx? (·.isB 93) with
  | none => rfl
  | some m => simp; omega

set_option maxHeartbeats 1000000 in
theorem live_any (s : ByteArray) (w : World) (hs : s.size ≤ 1000000) :
    Calls Tryd.prog 152 #[.string s] w (Ret w (.bool (liveL s.data.toList))) := by
  go_enter Tryd.func152, Tryd.ntmps152
  go_wp2_with fail
  refine (pieces_any s _ (Nat.le_trans hs (by decide))).mono ?_
  rintro e w1 ⟨v, rfl, hown, hb0⟩
  have hle : (piecesOf s.data.toList 0).length ≤ 1000000 := by
    have h1 := piecesOf_length_le s.data.toList 0
    have h2 : s.data.toList.length = s.size := by simp
    omega
  obtain ⟨l, hl⟩ : ∃ l, l = piecesOf s.data.toList 0 := ⟨_, rfl⟩
  rw [← hl] at hown hle
  have HP := Lib.hid (show liveL s.data.toList = liveP l by rw [hl]; rfl)
  clear hl
  obtain ⟨A, c, rfl, hc1, hc2, hrd, hA⟩ := RdL.of_own pcs_len hown rfl
  clear hown hA
  go_wp2_with fail
  go_loopw [14] (fun i wr => ∃ k : Nat, k ≤ l.length ∧ i = .int .i64 k ∧ Below w1.heap.size w1 wr ∧ Hid (liveL s.data.toList = liveP (l.drop k)))
    (fun i _ => l.length - (intOf i).toNat)
  case atStart => exact ⟨0, Nat.zero_le _, rfl, Below.refl _ _, HP.out⟩
  case round =>
    clear HP
    obtain ⟨k, hk, rfl, hb, H⟩ := hrel
    by_cases hlt : k < l.length
    · have hr := hrd.below hb
      obtain ⟨b, o, rfl⟩ : ∃ b o, A = some ⟨b, o, none⟩ := let ⟨b, o, h, _⟩ := hr k hlt; ⟨b, o, h⟩
      obtain ⟨c0, c1, c2⟩ := piece_cells hr hlt
      have hL := H.out
      rw [List.drop_eq_getElem_cons hlt, liveP_cons] at hL
      obtain ⟨q, hq⟩ : ∃ q, q = l[k] := ⟨_, rfl⟩
      rw [← hq] at c0 c1 c2 hL
      have HL := Lib.hid hL
      clear hL hq H
      have hba := hb.alloc hb.size (.cells #[.int .u8 q.c.toNat, .bool q.dead, .int .i64 q.frm] 189)
      have Hdone := Lib.hid (fun (w' : World) (h : Below w1.heap.size w1 w') => hb0.trans (h.mono hb0.size))
      obtain ⟨wa, hwa⟩ : ∃ wa, wa = wr.alloc (.cells #[.int .u8 q.c.toNat, .bool q.dead, .int .i64 q.frm] 189) := ⟨_, rfl⟩
      have a0 : wa.cell? ⟨wr.heap.size, 0, none⟩ = some (.int .u8 q.c.toNat) := by rw [hwa]; exact new_cell _ _ _ _
      have a1 : wa.cell? ⟨wr.heap.size, 1, none⟩ = some (.bool q.dead) := by rw [hwa]; exact new_cell _ _ _ _
      have a2 : wa.cell? ⟨wr.heap.size, 2, none⟩ = some (.int .i64 q.frm) := by rw [hwa]; exact new_cell _ _ _ _
      rw [← hwa] at hba
      have hra := hrd.below hba
      go_wp2_with fail
      rw [← hwa]
      clear hwa hr c0 c1 c2
      refine (is_any q 42 _).mono ?_
      cases h42 : q.isB 42
      · rintro e w2 ⟨rfl, hb2⟩
        replace a0 := cell_keep hb2 a0
        replace a1 := cell_keep hb2 a1
        replace a2 := cell_keep hb2 a2
        replace hra := hra.below hb2
        replace hba := hba.trans (hb2.mono hba.size)
        clear hb2
        have H42 := Lib.hid h42
        clear h42
        go_wp2_with fail
        refine (is_any q 63 _).mono ?_
        cases h63 : q.isB 63
        · rintro e w3 ⟨rfl, hb3⟩
          replace a0 := cell_keep hb3 a0
          replace a1 := cell_keep hb3 a1
          replace a2 := cell_keep hb3 a2
          replace hra := hra.below hb3
          replace hba := hba.trans (hb3.mono hba.size)
          clear hb3
          have H63 := Lib.hid h63
          clear h63
          go_wp2_with fail
          refine (is_any q 91 _).mono ?_
          cases h91 : q.isB 91
          · rintro e w4 ⟨rfl, hb4⟩
            replace hba := hba.trans (hb4.mono hba.size)
            clear hb4 a0 a1 a2 hra
            have HN := Lib.hid (show liveL s.data.toList = liveP (l.drop (k + 1)) by rw [HL.out, H42.out, H63.out, h91]; simp)
            clear h91
            go_wp2_with fail
            go_roundw
            case rel => exact ⟨k + 1, by omega, by go_num, hba, HN⟩
            case measure => simp [intOf]; omega
          · rintro e w4 ⟨rfl, hb4⟩
            replace hra := hra.below hb4
            replace hba := hba.trans (hb4.mono hba.size)
            clear hb4 a0 a1 a2
            have H91 := Lib.hid h91
            clear h91
            go_wp2_with fail
            refine (end_any _ c k l _ hra (by omega) (by omega)).mono ?_
            have HE := Lib.hid (endAt_pos l k)
            generalize endAt (l.drop (k + 2)) (k + 2) = x at *
            rintro e w5 ⟨rfl, hb5⟩
            replace hba := hba.trans (hb5.mono hba.size)
            clear hb5 hra
            by_cases hx : 0 < x
            · have HN := Lib.hid (show liveL s.data.toList = true by rw [HL.out, H91.out, ← HE.out, decide_eq_true hx]; simp)
              go_wp2_with fail
              go_ret
              exact ⟨by rw [HN.out]; rfl, Hdone.out _ hba⟩
            · have HN := Lib.hid (show liveL s.data.toList = liveP (l.drop (k + 1)) by rw [HL.out, H42.out, H63.out, H91.out, ← HE.out, decide_eq_false hx]; simp)
              go_wp2_with fail
              go_roundw
              case rel => exact ⟨k + 1, by omega, by go_num, hba, HN⟩
              case measure => simp [intOf]; omega
        · rintro e w3 ⟨rfl, hb3⟩
          replace hba := hba.trans (hb3.mono hba.size)
          clear hb3 hra a0 a1 a2
          have HN := Lib.hid (show liveL s.data.toList = true by rw [HL.out, h63]; simp)
          clear h63
          go_wp2_with fail
          go_ret
          exact ⟨by rw [HN.out]; rfl, Hdone.out _ hba⟩
      · rintro e w2 ⟨rfl, hb2⟩
        replace hba := hba.trans (hb2.mono hba.size)
        clear hb2 hra a0 a1 a2
        have HN := Lib.hid (show liveL s.data.toList = true by rw [HL.out, h42]; simp)
        clear h42
        go_wp2_with fail
        go_ret
        exact ⟨by rw [HN.out]; rfl, Hdone.out _ hba⟩
    · have HF := Lib.hid (show liveL s.data.toList = false by rw [H.out, List.drop_of_length_le (by omega : l.length ≤ k)]; rfl)
      clear H
      go_wp2_with fail
      go_ret
      exact ⟨by rw [HF.out]; rfl, hb0.trans (hb.mono hb0.size)⟩
/-- It returns a slice of strings in new memory that reads so, and has changed nothing that was there. -/
def StrsRet (l : List (List UInt8)) (w : World) (e : Ending) (w' : World) : Prop :=
  ∃ A c, e = .returned (.slice A l.length c) ∧ w'.ownsRow w.heap.size 9 1 (.slice A l.length c) l.length (l.flatMap strc) ∧ Below w.heap.size w w'

theorem piecesOf_frm (l : List UInt8) : ∀ i, ∀ p ∈ piecesOf l i, i ≤ p.frm ∧ p.frm < i + l.length := by
  induction l using text_induct with
  | h0 => intro i p hp; simp [piecesOf] at hp
  | h1 => intro i p hp; rw [piecesOf_last] at hp; simp at hp; subst hp; simp
  | h2 d t ih => intro i p hp; rw [piecesOf_esc] at hp; rcases List.mem_cons.1 hp with rfl | hp
                 · simp
                 · have := ih _ _ hp; simp; omega
  | h3 c t hc ih => intro i p hp; rw [piecesOf_ne hc] at hp; rcases List.mem_cons.1 hp with rfl | hp
                    · simp
                    · have := ih _ _ hp; simp; omega

theorem extract_cell (s : ByteArray) (a b : Nat) : s.extract a b = ⟨((s.data.toList.take b).drop a).toArray⟩ := by
  have h : (s.extract a b).data.toList = (s.data.toList.take b).drop a := by
    rw [Lib.extract_data, List.drop_take]
  rw [← h]

theorem extract_to_cell (s : ByteArray) (a : Nat) : s.extract a s.size = ⟨(s.data.toList.drop a).toArray⟩ := by
  rw [extract_cell, List.take_of_length_le (by simp)]
theorem splitP_blank {s : List UInt8} {p : Piece} {t : List Piece} {frm : Nat} (h : p.blankB = true) : splitP s (p :: t) frm = (if frm < p.frm then [(s.take p.frm).drop frm] else []) ++ splitP s t (p.frm + 1) := by
  simp only [splitP, h, if_true]
theorem splitP_plain {s : List UInt8} {p : Piece} {t : List Piece} {frm : Nat} (h : p.blankB = false) : splitP s (p :: t) frm = splitP s t frm := by
  simp only [splitP, h]; simp

set_option maxHeartbeats 1000000 in
theorem split_any (s : ByteArray) (w : World) (hs : s.size ≤ 1000000) :
    Calls Tryd.prog 153 #[.string s] w (StrsRet (splitL s.data.toList) w) := by
  obtain ⟨i0, hi, hz0, hz1, hz2⟩ := info_parts infoStr
  go_enter Tryd.func153, Tryd.ntmps153
  go_wp2_with fail
  refine (pieces_any s _ (Nat.le_trans hs (by decide))).mono ?_
  rintro e w1 ⟨v, rfl, hown, hb0⟩
  have hfr := piecesOf_frm s.data.toList 0
  have hle : (piecesOf s.data.toList 0).length ≤ 1000000 := by
    have h1 := piecesOf_length_le s.data.toList 0
    have h2 : s.data.toList.length = s.size := by simp
    omega
  obtain ⟨l, hl⟩ : ∃ l, l = piecesOf s.data.toList 0 := ⟨_, rfl⟩
  rw [← hl] at hown hle hfr
  have HFR := Lib.hid hfr
  have HP := Lib.hid (show splitL s.data.toList = splitP s.data.toList l 0 by rw [hl]; rfl)
  clear hl hfr
  obtain ⟨A, c, rfl, hc1, hc2, hrd, hA⟩ := RdL.of_own pcs_len hown rfl
  clear hown hA
  go_wp2_with fail
  go_loopw [3, 6, 16] (fun v f i wr => ∃ k frm : Nat, ∃ done : List (List UInt8), k ≤ l.length ∧ i = .int .i64 k ∧ f = .int .i64 frm ∧ frm ≤ s.size ∧ done.length ≤ k ∧ wr.ownsRow w1.heap.size 9 1 v done.length (done.flatMap strc) ∧ Below w1.heap.size w1 wr ∧ Hid (splitL s.data.toList = done ++ splitP s.data.toList (l.drop k) frm))
    (fun _ _ i _ => l.length - (intOf i).toNat)
  case atStart => exact ⟨0, 0, [], Nat.zero_le _, rfl, rfl, Nat.zero_le _, Nat.zero_le _, World.ownsRow_nil _ _ _ _, Below.refl _ _, HP.out⟩
  case round =>
    clear HP
    obtain ⟨k, frm, done, hk, rfl, rfl, hfm, hdk, hown, hb, H⟩ := hrel
    by_cases hlt : k < l.length
    · obtain ⟨b, o, rfl⟩ : ∃ b o, A = some ⟨b, o, none⟩ := let ⟨b, o, h, _⟩ := hrd k hlt; ⟨b, o, h⟩
      obtain ⟨c0, c1, c2⟩ := piece_cells (hrd.below hb) hlt
      have hL := H.out
      rw [List.drop_eq_getElem_cons hlt] at hL
      have hqf := HFR.out l[k] (List.getElem_mem _)
      obtain ⟨q, hq⟩ : ∃ q, q = l[k] := ⟨_, rfl⟩
      rw [← hq] at c0 c1 c2 hL hqf
      have hqs : q.frm < s.size := by have h2 : s.data.toList.length = s.size := by simp
                                      omega
      have HL := Lib.hid hL
      clear hL hq H hqf
      have hba := hb.alloc hb.size (.cells #[.int .u8 q.c.toNat, .bool q.dead, .int .i64 q.frm] 189)
      have hoa := hown.alloc (.cells #[.int .u8 q.c.toNat, .bool q.dead, .int .i64 q.frm] 189)
      obtain ⟨wa, hwa⟩ : ∃ wa, wa = wr.alloc (.cells #[.int .u8 q.c.toNat, .bool q.dead, .int .i64 q.frm] 189) := ⟨_, rfl⟩
      have hbk : Blk wa wr.heap.size 189 #[.int .u8 q.c.toNat, .bool q.dead, .int .i64 q.frm] := by rw [hwa]; exact Blk.new _ _ _
      have a0 : wa.cell? ⟨wr.heap.size, 0, none⟩ = some (.int .u8 q.c.toNat) := hbk.cell 0
      have a1 : wa.cell? ⟨wr.heap.size, 1, none⟩ = some (.bool q.dead) := hbk.cell 1
      have a2 : wa.cell? ⟨wr.heap.size, 2, none⟩ = some (.int .i64 q.frm) := hbk.cell 2
      rw [← hwa] at hba hoa
      go_wp2_with fail
      rw [← hwa]
      clear hwa c0 c1 c2 hown
      refine (blank_any q _).mono ?_
      cases hbl : q.blankB
      · have HN := Lib.hid (show splitL s.data.toList = done ++ splitP s.data.toList (l.drop (k + 1)) frm by rw [HL.out, splitP_plain hbl])
        clear hbl HL
        rintro e w2 ⟨rfl, hb2⟩
        replace hba := hba.trans (hb2.mono hba.size)
        replace hoa := own_below hoa hb2
        clear hb2 a0 a1 a2 hbk
        go_wp2_with fail
        go_roundw
        case rel => exact ⟨k + 1, frm, done, by omega, by go_num, rfl, hfm, by omega, hoa, hba, HN⟩
        case measure => simp [intOf]; omega
      · rintro e w2 ⟨rfl, hb2⟩
        replace hba := hba.trans (hb2.mono hba.size)
        replace hoa := own_below hoa hb2
        replace hbk := hbk.below hb2
        replace a2 := cell_keep hb2 a2
        clear hb2 a0 a1
        by_cases hfq : frm < q.frm
        · have HN := Lib.hid (show splitL s.data.toList = (done ++ [(s.data.toList.take q.frm).drop frm]) ++ splitP s.data.toList (l.drop (k + 1)) (q.frm + 1) by rw [HL.out, splitP_blank hbl, if_pos hfq, List.append_assoc])
          have HX := Lib.hid (extract_cell s frm q.frm)
          clear hbl HL
          go_wp2_with (at_builtin; refine wpList_push rfl _ _ _ rfl Tryd.underlying60 hi hz0 hz1 hz2 rfl (by decide) hoa rfl rfl rfl (by simp [Value.oneCell']) (by omega) (by decide) hba.size ?_; intro A' c' w3 hown3 hb3 ho3; have hk3 := hbk.others ho3 (by decide); have a3 : w3.cell? ⟨wr.heap.size, 2, none⟩ = some (.int .i64 q.frm) := hk3.cell 2)
          go_roundw
          case rel => exact ⟨k + 1, q.frm + 1, done ++ [(s.data.toList.take q.frm).drop frm], by omega, by go_num, by go_num, by omega, by simp; omega, by rw [HX.out] at hown3; simpa [strc] using hown3, hba.trans hb3, HN⟩
          case measure => simp [intOf]; omega
        · have HN := Lib.hid (show splitL s.data.toList = done ++ splitP s.data.toList (l.drop (k + 1)) (q.frm + 1) by rw [HL.out, splitP_blank hbl, if_neg hfq]; rfl)
          clear hbl HL
          go_wp2_with fail
          go_roundw
          case rel => exact ⟨k + 1, q.frm + 1, done, by omega, by go_num, by go_num, by omega, by omega, hoa, hba, HN⟩
          case measure => simp [intOf]; omega
    · have HF := Lib.hid (show splitL s.data.toList = done ++ (if frm < s.data.toList.length then [s.data.toList.drop frm] else []) by rw [H.out, List.drop_of_length_le (by omega : l.length ≤ k)]; rfl)
      have hsl : s.data.toList.length = s.size := by simp
      rw [hsl] at HF
      clear H hsl
      have hbf := hb0.trans (hb.mono hb0.size)
      by_cases hfs : frm < s.size
      · have HX := Lib.hid (extract_to_cell s frm)
        have HN := Lib.hid (show splitL s.data.toList = done ++ [s.data.toList.drop frm] by rw [HF.out, if_pos hfs])
        clear HF
        go_wp2_with (at_builtin; refine wpList_push rfl _ _ _ rfl Tryd.underlying60 hi hz0 hz1 hz2 rfl (by decide) hown rfl rfl rfl (by simp [Value.oneCell']) (by omega) (by decide) hb.size ?_; intro A' c' w3 hown3 hb3 ho3)
        go_ret
        refine ⟨A', c', ?_, ?_, hbf.trans (hb3.mono hb0.size)⟩
        · rw [HN.out]; simp
        · rw [HN.out]; rw [HX.out] at hown3; simpa [strc] using own_mono hown3 hb0.size
      · have HN := Lib.hid (show splitL s.data.toList = done by rw [HF.out, if_neg hfs, List.append_nil])
        clear HF
        obtain ⟨A', c', rfl, _, _⟩ := own_form hown
        go_wp2_with fail
        go_ret
        refine ⟨A', c', ?_, ?_, hbf⟩
        · rw [HN.out]; rfl
        · rw [HN.out]; exact own_mono hown hb0.size
end Go.Proofs.YtpogngdddendiaaDoor
