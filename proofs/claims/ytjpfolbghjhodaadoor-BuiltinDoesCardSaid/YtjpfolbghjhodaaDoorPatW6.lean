/- The walks over pattern.Live, pattern.Split and patoisref.SameTexts: each returns just what the plain functions say. Each text is shorter than a million bytes. -/
import Derived.Test.YtjpfolbghjhodaaDoorPatW4
import Derived.Test.YtjpfolbghjhodaaDoorLater
import Derived.Test.YtjpfolbghjhodaaDoorStrc
import Derived.Lib.Strings
set_option linter.unusedVariables false
set_option linter.unusedSimpArgs false
namespace Go.Proofs.YtjpfolbghjhodaaDoor
open Go.RowKit

/-- It returns a slice of strings in new memory that reads so. -/
def Strs (l : List (List UInt8)) (base : Nat) (v : Value) (w' : World) : Prop := w'.ownsRow base 9 1 v l.length (l.flatMap strc)

theorem new_cell (w : World) (cs : Array Value) (t : TypeId) (j : Nat) : (w.alloc (.cells cs t)).cell? ⟨w.heap.size, j, none⟩ = cs[j]? := cell_of_row _ _ j cs t (0, 0) (heap_alloc_new w _)

theorem liveP_cons (p : Piece) (t : List Piece) : liveP (p :: t) = (p.isB 42 || p.isB 63 || (p.isB 91 && (setEnd t).isSome) || liveP t) := rfl

theorem endAt_find' (l : List Piece) : ∀ k : Nat, endAt l k = match l.findIdx? (·.isB 93) with | some m => ((k + m : Nat) : Int) | none => -1 := by
  induction l with
  | nil => intro k; rfl
  | cons p l ih =>
    intro k
    rw [endAt, List.findIdx?_cons, ih]
    cases p.isB 93 with
    | true => simp
    | false =>
      simp only [Bool.false_eq_true, if_false]
      cases l.findIdx? (·.isB 93) with
      | none => rfl
      | some m => show (((k + 1) + m : Nat) : Int) = ((k + (m + 1) : Nat) : Int); rw [show k + 1 + m = k + (m + 1) by omega]

theorem endAt_pos (l : List Piece) (k : Nat) : decide (0 < endAt (l.drop (k + 2)) (k + 2)) = (setEnd (l.drop (k + 1))).isSome := by
  rw [endAt_find', setEnd, List.drop_drop]
  cases (l.drop (k + 2)).findIdx? (·.isB 93) with
  | none => rfl
  | some m => simp; omega

/-- It returns a slice of strings in new memory that reads so, and has changed nothing that was there. -/
def StrsRet (l : List (List UInt8)) (w : World) (e : Ending) (w' : World) : Prop :=
  ∃ A c, e = .returned (.slice A l.length c) ∧ w'.ownsRow w.heap.size 9 1 (.slice A l.length c) l.length (l.flatMap strc) ∧ Below w.heap.size w w'

set_option maxHeartbeats 1000000 in
theorem sameTexts_any (A B : Option Addr) (ca cb : Nat) (la lb : List (List UInt8)) (w : World) (ha : RdL w 1 strc A la) (hb : RdL w 1 strc B lb) (hla : la.length ≤ 1000000) (hlb : lb.length ≤ 1000000) :
    Calls Tryd.prog 15 #[.slice A la.length ca, .slice B lb.length cb] w (Ret w (.bool (decide (la = lb)))) := by
  by_cases hl : la.length = lb.length
  · have HL := Lib.hid hl
    have hne : ((la.length : Int) != (lb.length : Int)) = false := by simp; omega
    clear hl
    go_enter Tryd.func15, Tryd.ntmps15
    go_wp2_with fail
    go_loopw [5] (fun i wr => ∃ k : Nat, k ≤ la.length ∧ i = .int .i64 k ∧ Below w.heap.size w wr ∧ Hid (la.take k = lb.take k)) (fun i _ => la.length - (intOf i).toNat)
    case atStart => exact ⟨0, Nat.zero_le _, rfl, Below.refl _ _, by simp [Hid]⟩
    case round =>
      obtain ⟨k, hk, rfl, hbw, H⟩ := hrel
      by_cases hlt : k < la.length
      · have hlt2 : k < lb.length := by rw [← HL.out]; exact hlt
        obtain ⟨b1, o1, rfl, _, hc1⟩ := (ha.below hbw) k hlt
        obtain ⟨b2, o2, rfl, _, hc2⟩ := (hb.below hbw) k hlt2
        have c1 := hc1 0 _ rfl
        have c2 := hc2 0 _ rfl
        clear hc1 hc2
        simp only [Nat.mul_one, Nat.add_zero] at c1 c2
        obtain ⟨x, hx⟩ : ∃ x, x = la[k] := ⟨_, rfl⟩
        obtain ⟨y, hy⟩ : ∃ y, y = lb[k] := ⟨_, rfl⟩
        rw [← hx] at c1
        rw [← hy] at c2
        have HX := Lib.hid hx
        have HY := Lib.hid hy
        clear hx hy
        have l1 := Later.cell c1
        have l2 := Later.cell c2
        go_wp2_with fail
        refine wp_region_later (by kernel_rfl) (by kernel_rfl) ?_
        repeat (go_big_quiet_step (fail))
        refine wpQuiet_nil ?_
        rintro w2 ⟨⟨_, hb2⟩, rfl⟩
        have hbw2 := hbw.trans (hb2.mono hbw.size)
        clear l1 l2 c1 c2 hb2
        by_cases hxy : x = y
        · have hq : (x == y) = true := by simpa using hxy
          have HE := Lib.hid (show la.take (k + 1) = lb.take (k + 1) by
            rw [List.take_succ_eq_append_getElem hlt, List.take_succ_eq_append_getElem hlt2, H.out, ← HX.out, ← HY.out, hxy])
          clear hxy H
          go_wp2_with fail
          go_roundw
          case rel => exact ⟨k + 1, by omega, by go_num, hbw2, HE⟩
          case measure => simp [intOf]; omega
        · have hq : (x == y) = false := by simpa using hxy
          have HE := Lib.hid (show decide (la = lb) = false by
            rw [decide_eq_false_iff_not]; intro h; subst h; exact hxy (HX.out.trans HY.out.symm))
          clear hxy H
          go_wp2_with fail
          go_ret
          exact ⟨by rw [HE.out]; rfl, hbw2⟩
      · have HE := Lib.hid (show decide (la = lb) = true by
          rw [decide_eq_true_eq]
          have h := H.out
          rwa [List.take_of_length_le (by omega), List.take_of_length_le (by rw [← HL.out]; omega)] at h)
        clear H
        go_wp2_with fail
        go_ret
        exact ⟨by rw [HE.out]; rfl, hbw⟩
  · have hne : ((la.length : Int) != (lb.length : Int)) = true := by simp; omega
    have HE := Lib.hid (show decide (la = lb) = false by
      rw [decide_eq_false_iff_not]; intro h; subst h; exact hl rfl)
    clear hl
    go_enter Tryd.func15, Tryd.ntmps15
    go_wp2_with fail
    go_ret
    exact ⟨by rw [HE.out]; rfl, Below.refl _ _⟩
theorem piecesOf_frm (l : List UInt8) : ∀ i, ∀ p ∈ piecesOf l i, i ≤ p.frm ∧ p.frm < i + l.length := by
  induction l using text_induct with
  | h0 => intro i p hp; simp [piecesOf] at hp
  | h1 => intro i p hp; rw [piecesOf_last] at hp; simp at hp; subst hp; simp
  | h2 d t ih => intro i p hp; rw [piecesOf_esc] at hp; rcases List.mem_cons.1 hp with rfl | hp
                 · simp
                 · have := ih _ _ hp; simp; omega
  | h3 c t hc ih => intro i p hp; rw [piecesOf_ne hc] at hp; rcases List.mem_cons.1 hp with rfl | hp
                    · simp
                    · have := ih _ _ hp; simp; omega

theorem extract_cell (s : ByteArray) (a b : Nat) : s.extract a b = ⟨((s.data.toList.take b).drop a).toArray⟩ := by
  have h : (s.extract a b).data.toList = (s.data.toList.take b).drop a := by
    rw [Lib.extract_data, List.drop_take]
  rw [← h]

theorem extract_to_cell (s : ByteArray) (a : Nat) : s.extract a s.size = ⟨(s.data.toList.drop a).toArray⟩ := by
  rw [extract_cell, List.take_of_length_le (by simp)]
theorem splitP_blank {s : List UInt8} {p : Piece} {t : List Piece} {frm : Nat} (h : p.blankB = true) : splitP s (p :: t) frm = (if frm < p.frm then [(s.take p.frm).drop frm] else []) ++ splitP s t (p.frm + 1) := by
  simp only [splitP, h, if_true]
theorem splitP_plain {s : List UInt8} {p : Piece} {t : List Piece} {frm : Nat} (h : p.blankB = false) : splitP s (p :: t) frm = splitP s t frm := by
  simp only [splitP, h]; simp

end Go.Proofs.YtjpfolbghjhodaaDoor
