/- The walk over pattern.Any: whether any of these patterns matches (a closure called in a loop). Bounds on the lengths. -/
import Derived.Test.YtckcpokfjofcaaaRef2W6
import Derived.Test.YtckcpokfjofcaaaPatW5
import Derived.Deep.CutRange
import Derived.Outline
set_option linter.unusedVariables false
set_option linter.unusedSimpArgs false
namespace Go.Proofs.Ytckcpokfjofcaaa
open Go.RowKit

theorem any1_any (x : List UInt8) (s : ByteArray) (Bx : Nat) (w : World) (hb : w.cell? ⟨Bx, 0, none⟩ = some (.string s)) (hx : x.length ≤ 1000000) (hs : s.size ≤ 1000000) :
    Calls Try.prog 36 #[.string ⟨x.toArray⟩, .pointer (some ⟨Bx, 0, none⟩)] w (Ret w (.bool (matchL x s.data.toList))) := by
  have HC := Lib.hid (match_any ⟨x.toArray⟩ s w (by simpa [ByteArray.size] using hx) hs)
  rw [show (⟨x.toArray⟩ : ByteArray).data.toList = x from rfl] at HC
  generalize matchL x s.data.toList = q at *
  go_enter Try.func36, Try.ntmps36
  go_wp2_with fail
  refine HC.out.mono ?_
  rintro e w1 ⟨rfl, hb1⟩
  go_wp2_with fail
  go_ret
  exact ⟨rfl, hb1⟩

def IdxAny (b : Bool) (w : World) (e : Ending) (w' : World) : Prop := ∃ r : Int, e = .returned (.int .i64 r) ∧ decide (0 ≤ r) = b ∧ Below w.heap.size w w'
set_option maxHeartbeats 2000000 in
theorem idxany_any (A : Option Addr) (c : Nat) (L : List (List UInt8)) (Bx : Nat) (s : ByteArray) (w : World) (hrd : RdL w 1 strq A L) (hL : L.length ≤ 1000000) (hb : w.cell? ⟨Bx, 0, none⟩ = some (.string s)) (hx : ∀ x ∈ L, x.length ≤ 1000000) (hs : s.size ≤ 1000000) :
    Calls Try.prog 44 #[.slice A L.length c, .func (.func 36) #[] #[.pointer (some ⟨Bx, 0, none⟩)]] w (IdxAny (L.any fun x => matchL x s.data.toList) w) := by
  obtain ⟨m, hm⟩ : ∃ m, m = L.length := ⟨_, rfl⟩
  rw [← hm] at hL ⊢
  have HM := Lib.hid hm
  have HB := Lib.hid hb
  clear hm hb
  go_enter Try.func44, Try.ntmps44
  go_wp2_with fail
  go_loopw [8] (fun i wr => ∃ k : Nat, k ≤ m ∧ i = .int .i64 k ∧ Below w.heap.size w wr ∧ Hid ((L.take k).any (fun x => matchL x s.data.toList) = false)) (fun i _ => m - (intOf i).toNat)
  case atStart => exact ⟨0, Nat.zero_le _, rfl, Below.refl _ _, Lib.hid (by simp)⟩
  case round =>
    obtain ⟨k, hk, rfl, hbr, H⟩ := hrel
    by_cases hlt : k < m
    · have hkL : k < L.length := by rw [← HM.out]; exact hlt
      obtain ⟨b, o, rfl, _, hcell⟩ := (hrd.below hbr) k hkL
      obtain ⟨x, hxe⟩ : ∃ x, x = L[k] := ⟨_, rfl⟩
      have HT := Lib.hid (show L.take (k + 1) = L.take k ++ [x] by rw [List.take_succ_eq_append_getElem hkL, hxe])
      rw [← hxe] at hcell
      have c0 := hcell 0 _ rfl
      simp only [Nat.add_zero, Nat.mul_one] at c0
      have HX := Lib.hid (show x ∈ L by rw [hxe]; exact List.getElem_mem _)
      have HC := Lib.hid (any1_any x s Bx wr (cell_keep hbr HB.out) (hx x HX.out) hs)
      clear hcell hxe hkL
      obtain ⟨q, hq⟩ : ∃ q, matchL x s.data.toList = q := ⟨_, rfl⟩
      rw [hq] at HC
      have HQ := Lib.hid hq
      clear hq
      cases q
      · go_wp2_with fail
        refine HC.out.mono ?_
        rintro e w1 ⟨rfl, hb1⟩
        have hb2 := hbr.trans (hb1.mono hbr.size)
        clear c0
        go_wp2_with fail
        go_roundw
        case rel => exact ⟨k + 1, by omega, by go_num, hb2, Lib.hid (by rw [HT.out, List.any_append, H.out, Bool.false_or, List.any_cons, List.any_nil, Bool.or_false]; exact HQ.out)⟩
        case measure => simp [intOf]; omega
      · have HT2 := Lib.hid (show L.any (fun x => matchL x s.data.toList) = true from List.any_eq_true.2 ⟨x, HX.out, HQ.out⟩)
        go_wp2_with fail
        refine HC.out.mono ?_
        rintro e w1 ⟨rfl, hb1⟩
        have hb2 := hbr.trans (hb1.mono hbr.size)
        clear c0
        go_wp2_with fail
        go_ret
        exact ⟨k, rfl, by rw [HT2.out]; exact decide_eq_true (by omega), hb2⟩
    · obtain rfl : k = m := by omega
      have HF := Lib.hid (show L.any (fun x => matchL x s.data.toList) = false by
        have h := H.out
        rwa [List.take_of_length_le (by rw [← HM.out]; exact Nat.le_refl _)] at h)
      clear H
      go_wp2_with fail
      go_ret
      exact ⟨-1, rfl, by rw [HF.out]; rfl, hbr⟩
theorem anyf_any (A : Option Addr) (c : Nat) (L : List (List UInt8)) (Bx : Nat) (s : ByteArray) (w : World) (hrd : RdL w 1 strq A L) (hL : L.length ≤ 1000000) (hb : w.cell? ⟨Bx, 0, none⟩ = some (.string s)) (hx : ∀ x ∈ L, x.length ≤ 1000000) (hs : s.size ≤ 1000000) :
    Calls Try.prog 35 #[.slice A L.length c, .func (.func 36) #[] #[.pointer (some ⟨Bx, 0, none⟩)]] w (Ret w (.bool (L.any fun x => matchL x s.data.toList))) := by
  have HC := Lib.hid (idxany_any A c L Bx s w hrd hL hb hx hs)
  generalize (L.any fun x => matchL x s.data.toList) = q at *
  generalize L.length = m at *
  go_enter Try.func35, Try.ntmps35
  go_wp2_with fail
  refine HC.out.mono ?_
  rintro e w1 ⟨r, rfl, hr, hb1⟩
  go_wp2_with fail
  go_ret
  exact ⟨rfl, hb1⟩
/-- pattern.Any says whether any matches. -/
theorem pany_any (s : ByteArray) (A : Option Addr) (c : Nat) (L : List (List UInt8)) (w : World) (hrd : RdL w 1 strq A L) (hL : L.length ≤ 1000000) (hx : ∀ x ∈ L, x.length ≤ 1000000) (hs : s.size ≤ 1000000) :
    Calls Try.prog 18 #[.string s, .slice A L.length c] w (Ret w (.bool (L.any fun x => matchL x s.data.toList))) := by
  obtain ⟨W0, hW0⟩ : ∃ W0, W0 = w.alloc (.cells #[.string s] 9) := ⟨_, rfl⟩
  have hb0 : Below w.heap.size w W0 := by rw [hW0]; exact (Below.refl _ _).alloc (Nat.le_refl _) _
  have hB0 : Blk W0 w.heap.size 9 #[.string s] := by rw [hW0]; exact Blk.new w _ _
  have z0 := hB0.cell 0
  simp only [List.getElem?_toArray, List.getElem?_cons_zero] at z0
  have HC := Lib.hid (anyf_any A c L w.heap.size s W0 (hrd.below hb0) hL z0 hx hs)
  generalize (L.any fun x => matchL x s.data.toList) = q at *
  generalize L.length = m at *
  clear hrd hx z0 hB0
  go_enter Try.func18, Try.ntmps18
  go_upto_region 1 with (fail)
  rw [← hW0]
  clear hW0
  go_wp2_with fail
  refine HC.out.mono ?_
  rintro e w1 ⟨rfl, hb1⟩
  have hb2 := hb0.trans (hb1.mono hb0.size)
  go_wp2_with fail
  go_ret
  exact ⟨rfl, hb2⟩
end Go.Proofs.Ytckcpokfjofcaaa
