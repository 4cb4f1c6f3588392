/- The walks over patoisref2.Plain, Escape: they say what package pattern's say. Bounds on the lengths. -/
import Derived.Test.YtckcpokfjofcaaaRef2W2
import Derived.Laws.IdiomStrings
import Derived.Outline
set_option linter.unusedVariables false
set_option linter.unusedSimpArgs false
namespace Go.Proofs.Ytckcpokfjofcaaa
open Go.RowKit

def byc (c : UInt8) : List Value := [.int .u8 c.toNat]
theorem byc_len (c : UInt8) : (byc c).length = 1 := rfl
theorem infoU8 : (Try.prog.info? 5).map (fun i => (i.zero, i.size, i.bytes)) = some (some (.int .u8 0), 1, 1) := by kernel_rfl
/-- The text of a row of bytes. -/
theorem conv_any {W : World} {base n c : Nat} {A : Option Addr} {l : List UInt8} (h : W.ownsRow base 5 1 (.slice A n c) n (l.flatMap byc)) (hn : n = l.length) :
    (convert 44 9 (.slice A n c)).run Try.prog W = .ok (.string ⟨l.toArray⟩) W := by
  subst hn
  rcases h.2 with ⟨he, h0⟩ | ⟨g, cap, cur, he, hb, hg, hnc, hcm, hcs, ht⟩
  · obtain rfl := List.eq_nil_of_length_eq_zero h0
    simp only [Value.slice.injEq] at he
    obtain ⟨rfl, _, rfl⟩ := he
    kernel_rfl
  · simp only [Value.slice.injEq] at he
    obtain ⟨rfl, _, rfl⟩ := he
    refine run_convert_bytes_back W _ _ 5 ⟨g, 0, none⟩ c l Try.underlying44 Try.underlying5 Try.underlying9 fun j hj => ?_
    have h1 := h.cellAt j (by omega)
    rw [Addr.add_lit, Nat.zero_add]
    rw [h1]
    have := flat_at (enc := byc) byc_len l j hj 0 _ rfl
    simpa [byc] using this

set_option maxRecDepth 100000 in
set_option maxHeartbeats 4000000 in
theorem plain2_any (s : ByteArray) (w : World) (hs : s.size ≤ 1000000) : Calls Try.prog 11 #[.string s] w (Ret w (.string ⟨(plainL s.data.toList).toArray⟩)) := by
  have RC := Lib.hid (read_any s w (by omega))
  obtain ⟨i0, hi, hz0, hz1, hz2⟩ := info_parts infoU8
  have hpl := piecesOf_length_le s.data.toList 0
  have hsz : s.data.toList.length = s.size := rfl
  have HL := Lib.hid (show plainL s.data.toList = (piecesOf s.data.toList 0).map (·.c) from rfl)
  go_enter Try.func11, Try.ntmps11
  go_wp2_with fail
  refine RC.out.mono ?_
  intro e w1 h1
  obtain ⟨A, c, rfl, hrd, hb⟩ := h1.rd
  clear RC
  have hll : (piecesOf s.data.toList 0).length ≤ 1000000 := by omega
  generalize piecesOf s.data.toList 0 = L at *
  generalize plainL s.data.toList = R at *
  obtain ⟨m, hm⟩ : ∃ m, m = L.length := ⟨_, rfl⟩
  rw [← hm] at hll ⊢
  have HM := Lib.hid hm
  clear hm hpl hsz
  go_wp2_with fail
  go_loopw [3, 5] (fun v iv wr => ∃ (k : Nat) (A' : Option Addr) (c' : Nat), k ≤ m ∧ iv = .int .i64 k ∧ v = .slice A' k c' ∧ wr.ownsRow w1.heap.size 5 1 (.slice A' k c') k (((L.take k).map (·.c)).flatMap byc) ∧ Below w1.heap.size w1 wr) (fun _ iv _ => m - (intOf iv).toNat)
  case atStart => exact ⟨0, none, 0, Nat.zero_le _, rfl, rfl, World.ownsRow_nil _ _ _ _, Below.refl _ _⟩
  case round =>
    obtain ⟨k, A', c', hk, rfl, rfl, hown, hbr⟩ := hrel
    by_cases hlt : k < m
    · have hlt' : k < L.length := by rw [← HM.out]; exact hlt
      obtain ⟨b, o, rfl, _⟩ := hrd.addr (by omega)
      have c0 := cell_keep hbr ((hrd.at_ hlt').2 0 _ rfl)
      simp only [Nat.add_zero] at c0
      have HN := Lib.hid (show ((L.take (k + 1)).map (·.c)).flatMap byc = ((L.take k).map (·.c)).flatMap byc ++ byc L[k].c by rw [List.take_succ_eq_append_getElem hlt', List.map_append, List.flatMap_append]; simp only [List.map_cons, List.map_nil, List.flatMap_cons, List.flatMap_nil, List.append_nil])
      obtain ⟨pc, hpc⟩ : ∃ pc, pc = L[k].c := ⟨_, rfl⟩
      rw [← hpc] at c0 HN
      clear hpc
      go_wp2_with (at_builtin; refine wpList_push rfl _ _ _ rfl Try.underlying44 hi hz0 hz1 hz2 rfl (by decide) hown rfl rfl rfl (by simp [Value.oneCell']) (by omega) (by decide) hbr.size ?_; intro A2 c2 w2 ho2 hb2 hoo2)
      go_roundw
      case rel => exact ⟨k + 1, A2, c2, by omega, by go_num, rfl, by rw [HN.out]; exact ho2, hbr.trans hb2⟩
      case measure => simp [intOf]; omega
    · obtain rfl : m = k := by omega
      have hcv := conv_any hown (by simp [← HM.out])
      have HF := Lib.hid (show (L.take m).map (·.c) = R by rw [HM.out, List.take_length, HL.out])
      rw [HF.out] at hcv
      have hbw := hb.trans (hbr.mono hb.size)
      go_wp2_with fail
      go_ret
      exact ⟨rfl, hbw⟩

theorem blank2_any (c : UInt8) (w : World) : Calls Try.prog 34 #[.int .u8 c.toNat] w fun e w' => e = .returned (.bool (blankB c)) ∧ w' = w := by
  have HB := Lib.hid (show blankB c = (((c.toNat : Int) == 32) || ((c.toNat : Int) == 9) || ((c.toNat : Int) == 10)) by
    rw [show (32 : Int) = ((32 : Nat) : Int) from rfl, show (9 : Int) = ((9 : Nat) : Int) from rfl, show (10 : Int) = ((10 : Nat) : Int) from rfl, u8_beq c 32 (by decide), u8_beq c 9 (by decide), u8_beq c 10 (by decide)]
    rfl)
  generalize blankB c = R at *
  cases h1 : ((c.toNat : Int) == 32)
  all_goals cases h2 : ((c.toNat : Int) == 9)
  all_goals cases h3 : ((c.toNat : Int) == 10)
  all_goals
    rw [h1, h2, h3] at HB
    generalize c.toNat = n at *
    go_enter Try.func34, Try.ntmps34
    go_wp2_with fail
    go_ret
    exact ⟨name_ret2 (by rw [HB.out]; rfl), rfl⟩
theorem special2_any (c : UInt8) (w : World) : Calls Try.prog 29 #[.int .u8 c.toNat] w fun e w' => e = .returned (.bool (escB c)) ∧ w' = w := by
  have BC := Lib.hid (fun W => blank2_any c W)
  have HB := Lib.hid (show escB c = (((c.toNat : Int) == 42) || ((c.toNat : Int) == 63) || ((c.toNat : Int) == 91) || ((c.toNat : Int) == 93) || ((c.toNat : Int) == 92) || blankB c) by
    rw [show (42 : Int) = ((42 : Nat) : Int) from rfl, show (63 : Int) = ((63 : Nat) : Int) from rfl, show (91 : Int) = ((91 : Nat) : Int) from rfl, show (93 : Int) = ((93 : Nat) : Int) from rfl, show (92 : Int) = ((92 : Nat) : Int) from rfl, u8_beq c 42 (by decide), u8_beq c 63 (by decide), u8_beq c 91 (by decide), u8_beq c 93 (by decide), u8_beq c 92 (by decide)]
    rfl)
  generalize escB c = R at *
  generalize blankB c = bb at *
  generalize c.toNat = n at *
  cases h1 : ((n : Int) == 42)
  case true =>
    rw [h1] at HB
    go_enter Try.func29, Try.ntmps29
    go_wp2_with fail
    go_ret
    exact ⟨name_ret2 (by rw [HB.out]; rfl), rfl⟩
  case false =>
  cases h2 : ((n : Int) == 63)
  case true =>
    rw [h1, h2] at HB
    go_enter Try.func29, Try.ntmps29
    go_wp2_with fail
    go_ret
    exact ⟨name_ret2 (by rw [HB.out]; rfl), rfl⟩
  case false =>
  cases h3 : ((n : Int) == 91)
  case true =>
    rw [h1, h2, h3] at HB
    go_enter Try.func29, Try.ntmps29
    go_wp2_with fail
    go_ret
    exact ⟨name_ret2 (by rw [HB.out]; rfl), rfl⟩
  case false =>
  cases h4 : ((n : Int) == 93)
  case true =>
    rw [h1, h2, h3, h4] at HB
    go_enter Try.func29, Try.ntmps29
    go_wp2_with fail
    go_ret
    exact ⟨name_ret2 (by rw [HB.out]; rfl), rfl⟩
  case false =>
  cases h5 : ((n : Int) == 92)
  case true =>
    rw [h1, h2, h3, h4, h5] at HB
    go_enter Try.func29, Try.ntmps29
    go_wp2_with fail
    go_ret
    exact ⟨name_ret2 (by rw [HB.out]; rfl), rfl⟩
  case false =>
    rw [h1, h2, h3, h4, h5] at HB
    go_enter Try.func29, Try.ntmps29
    go_wp2_with fail
    refine (BC.out _).mono ?_
    rintro e w1 ⟨rfl, rfl⟩
    go_wp2_with fail
    go_ret
    exact ⟨name_ret2 (by rw [HB.out]; rfl), rfl⟩
end Go.Proofs.Ytckcpokfjofcaaa
