/- The walks over patoisref5.Node, patoisref5.Seq and core.Seq, on lists of nodes whatever they are. Bounds on the lengths. -/
import Derived.Test.YtjhgljfmheopmaaDoorCoreV
import Derived.Outline
set_option linter.unusedVariables false
set_option linter.unusedSimpArgs false
namespace Go.Proofs.YtjhgljfmheopmaaDoor
open Go.RowKit

set_option maxHeartbeats 2000000 in
theorem node5_any (kind n : Int) (s : List UInt8) (A : Option Addr) (c : Nat) (ls : List (List Nd)) (w : World) (h : KdRd w A ls) (hl : ls.length ≤ 4000000) (ht : ls.flatten.length ≤ 4000000) :
    Calls Tryd.prog 49 #[.int .i64 kind, .int .i64 n, .string ⟨s.toArray⟩, .slice A ls.length c] w (NodesRet (newL kind n s ls) w) := by
  obtain ⟨i0, hi, hz0, hz1, hz2⟩ := info_parts infoNode
  have HT := Lib.hid ht
  clear ht
  go_enter Tryd.func49, Tryd.ntmps49
  go_wp2_with fail
  go_loopw [9, 10] (fun v i wr => ∃ (k : Nat) (A' : Option Addr) (c' : Nat), k ≤ ls.length ∧ i = .int .i64 k ∧ v = .slice A' (1 + (ls.take k).flatten.length) c' ∧
      wr.ownsRow w.heap.size 44 5 (.slice A' (1 + (ls.take k).flatten.length) c') (1 + (ls.take k).flatten.length) ((⟨kind, n, ls.length, 1, s⟩ :: (ls.take k).flatten : List Nd).flatMap ndc) ∧ Below w.heap.size w wr)
    (fun _ i _ => ls.length - (intOf i).toNat)
  case atStart =>
    refine ⟨0, _, _, Nat.zero_le _, rfl, rfl, ?_, (Below.refl _ _).alloc (Nat.le_refl _) _⟩
    exact World.ownsRow_lit w #[Value.int .i64 kind, .int .i64 n, .int .i64 ls.length, .int .i64 1, .string ⟨s.toArray⟩] 1 (Nat.le_refl _) (by decide) rfl
  case round =>
    obtain ⟨k, A', c', hk, rfl, rfl, hown, hb⟩ := hrel
    by_cases hlt : k < ls.length
    · obtain ⟨b, o, v, rfl, hbl, hc, Ak, ck, rfl, hrd, hck, hcm, hA0, hsp⟩ := (h.below hb).at_ hlt
      have hle := flat_take_len ls k hlt
      have hbd := HT.out
      have hlen : (1 + (ls.take k).flatten.length) + ls[k].length ≤ 4000001 := by omega
      have HN := Lib.hid (show (⟨kind, n, ls.length, 1, s⟩ :: (ls.take (k + 1)).flatten : List Nd).flatMap ndc = (⟨kind, n, ls.length, 1, s⟩ :: (ls.take k).flatten : List Nd).flatMap ndc ++ ls[k].flatMap ndc by
        rw [flat_take ls k hlt, ← List.cons_append, List.flatMap_append])
      have HL := Lib.hid (show 1 + (ls.take (k + 1)).flatten.length = (1 + (ls.take k).flatten.length) + ls[k].length by
        rw [flat_take ls k hlt, List.length_append]; omega)
      clear hbd hle
      generalize 1 + (ls.take k).flatten.length = m at *
      generalize (⟨kind, n, ls.length, 1, s⟩ :: (ls.take k).flatten : List Nd).flatMap ndc = xs at *
      obtain ⟨L, hL⟩ : ∃ L, L = ls[k] := ⟨_, rfl⟩
      rw [← hL] at *
      clear hL
      go_wp2_with (at_builtin; refine wpList_pushAll (enc := ndc) rfl _ _ _ rfl Tryd.underlying25 hi hz0 hz1 hz2 rfl (by decide) hown rfl rfl rfl hrd hA0 hsp ndc_len ndc_one (by omega) (by decide) hb.size ?_; intro A2 c2 w2 ho2 hb2 hoo2)
      go_roundw
      case rel => exact ⟨k + 1, A2, c2, by omega, by go_num, by rw [HL.out], by rw [HL.out, HN.out]; exact ho2, hb.trans hb2⟩
      case measure => simp [intOf]; omega
    · obtain rfl : k = ls.length := by omega
      rw [List.take_length] at hown ⊢
      have HF := Lib.hid (show ((⟨kind, n, ls.length, 1, s⟩ :: ls.flatten : List Nd).flatMap ndc).set 3 (.int .i64 ((1 + ls.flatten.length : Nat) : Int)) = (newL kind n s ls).flatMap ndc by
        simp [newL, ndc])
      have HL := Lib.hid (newL_len kind n s ls)
      have hbd := HT.out
      have hm : 1 + ls.flatten.length ≤ 4000001 := by omega
      have hm1 : 1 ≤ 1 + ls.flatten.length := by omega
      have hx : ((⟨kind, n, ls.length, 1, s⟩ :: ls.flatten : List Nd).flatMap ndc)[3]? = some (.int .i64 1) := rfl
      clear hbd hlt hk
      generalize 1 + ls.flatten.length = m at *
      generalize (⟨kind, n, ls.length, 1, s⟩ :: ls.flatten : List Nd).flatMap ndc = xs at *
      rcases hown.2 with ⟨_, h0⟩ | ⟨g, cap, cur, he, hbg, hg, _⟩
      · omega
      · injection he with h1 _ h3
        subst h1 h3
        clear hbg hg
        have hc3 := hown.cellAt 3 (by omega)
        rw [hx] at hc3
        have hf3 := hown.frozenAt 3
        obtain ⟨hs1, hs2⟩ := hown.stored 3 (.int .i64 m)
        rw [HF.out] at hs1
        have hbs := hb.grown hs2 hb.size (fun j hj => by cases hj; exact (hown.lt _ rfl).1)
        clear hx hs2
        go_wp2_with fail
        go_ret
        exact ⟨some ⟨g, 0, none⟩, c', ret_slice HL.out.symm, by rw [HL.out]; exact hs1, hbs⟩

/-- Lists behind one another, as one program. -/
def seqLs : List (List Nd) → List Nd
  | [] => newL 20 0 [] []
  | [l] => l
  | l :: m :: ls => newL 23 0 [] (l :: m :: ls)
set_option maxHeartbeats 1000000 in
theorem seqL_any (A : Option Addr) (c m : Nat) (ls : List (List Nd)) (w : World) (h : KdRd w A ls) (hm : m = ls.length) (hl : ls.length ≤ 4000000) (ht : ls.flatten.length ≤ 4000000) :
    Calls Tryd.prog 19 #[.slice A m c] w (VRet (seqLs ls) w) := by
  rcases ls with _ | ⟨t, _ | ⟨u, ts⟩⟩
  · obtain rfl : m = 0 := hm
    rw [show seqLs [] = newL 20 0 [] [] from rfl]
    have HC := Lib.hid (fun W => new_any 20 0 [] none 0 [] W (KdRd.nil _ _) (Nat.zero_le _) (Nat.zero_le _))
    go_enter Tryd.func19, Tryd.ntmps19
    go_wp2_with fail
    refine (HC.out _).mono ?_
    rintro e w1 h1
    obtain ⟨A1, n1, c1, rfl, h1, h2⟩ := h1.v
    have H1 := Lib.hid h1
    clear h1
    go_wp2_with fail
    go_ret
    exact ⟨A1, n1, c1, rfl, H1.out, h2⟩
  · obtain rfl : m = 1 := hm
    rw [show seqLs [t] = t from rfl]
    obtain ⟨b, o, v, rfl, hb, hc, hs⟩ := h.at_ (k := 0) (by simp)
    simp only [List.getElem_cons_zero, Nat.add_zero] at hc hs
    have HC := Lib.hid (clone_any v t w hs (by simpa using ht))
    obtain ⟨A1, c1, rfl, _⟩ := hs
    go_enter Tryd.func19, Tryd.ntmps19
    go_wp2_with fail
    refine HC.out.mono ?_
    rintro e w1 h1
    obtain ⟨A1, n1, c1, rfl, h1, h2⟩ := h1.v
    have H1 := Lib.hid h1
    clear h1
    go_wp2_with fail
    go_ret
    exact ⟨A1, n1, c1, rfl, H1.out, h2⟩
  · rw [show seqLs (t :: u :: ts) = newL 23 0 [] (t :: u :: ts) from rfl]
    have h0 : ((m : Int) == 0) = false := by rw [beq_eq_false_iff_ne]; simp at hm; omega
    have h1 : ((m : Int) == 1) = false := by rw [beq_eq_false_iff_ne]; simp at hm; omega
    have HC := Lib.hid (new_any 23 0 [] A c (t :: u :: ts) w h hl ht)
    rw [← hm] at HC
    clear h hm ht hl
    go_enter Tryd.func19, Tryd.ntmps19
    go_wp2_with fail
    refine HC.out.mono ?_
    rintro e w1 h1
    obtain ⟨A1, n1, c1, rfl, h1, h2⟩ := h1.v
    have H1 := Lib.hid h1
    clear h1
    go_wp2_with fail
    go_ret
    exact ⟨A1, n1, c1, rfl, H1.out, h2⟩
/-- It returns a slice that reads as these nodes. -/
def SRet (L : List Nd) (w : World) (e : Ending) (w' : World) : Prop := ∃ A n c, e = .returned (.slice A n c) ∧ SlRd w' (.slice A n c) L ∧ Below w.heap.size w w'
set_option maxHeartbeats 1000000 in
theorem seq5_any (A : Option Addr) (c m : Nat) (ls : List (List Nd)) (w : World) (h : KdRd w A ls) (hm : m = ls.length) (hl : ls.length ≤ 4000000) (ht : ls.flatten.length ≤ 4000000) :
    Calls Tryd.prog 28 #[.slice A m c] w (SRet (seqLs ls) w) := by
  rcases ls with _ | ⟨t, _ | ⟨u, ts⟩⟩
  · obtain rfl : m = 0 := hm
    rw [show seqLs [] = newL 20 0 [] [] from rfl]
    have HC := Lib.hid (fun W => node5_any 20 0 [] none 0 [] W (KdRd.nil _ _) (Nat.zero_le _) (Nat.zero_le _))
    go_enter Tryd.func28, Tryd.ntmps28
    go_wp2_with fail
    refine (HC.out _).mono ?_
    rintro e w1 h1
    obtain ⟨A1, n1, c1, rfl, h1, h2⟩ := h1.v
    have H1 := Lib.hid h1
    clear h1
    go_wp2_with fail
    go_ret
    exact ⟨A1, n1, c1, rfl, H1.out.rd, h2⟩
  · obtain rfl : m = 1 := hm
    rw [show seqLs [t] = t from rfl]
    obtain ⟨b, o, v, rfl, hb, hc, hs⟩ := h.at_ (k := 0) (by simp)
    simp only [List.getElem_cons_zero, Nat.add_zero] at hc hs
    have HS := Lib.hid hs
    obtain ⟨A1, c1, rfl, _⟩ := hs
    go_enter Tryd.func28, Tryd.ntmps28
    go_wp2_with fail
    go_ret
    exact ⟨A1, _, c1, rfl, HS.out, Below.refl _ _⟩
  · rw [show seqLs (t :: u :: ts) = newL 23 0 [] (t :: u :: ts) from rfl]
    have h0 : ((m : Int) == 0) = false := by rw [beq_eq_false_iff_ne]; simp at hm; omega
    have h1 : ((m : Int) == 1) = false := by rw [beq_eq_false_iff_ne]; simp at hm; omega
    have HC := Lib.hid (node5_any 23 0 [] A c (t :: u :: ts) w h hl ht)
    rw [← hm] at HC
    clear h hm ht hl
    go_enter Tryd.func28, Tryd.ntmps28
    go_wp2_with fail
    refine HC.out.mono ?_
    rintro e w1 h1
    obtain ⟨A1, n1, c1, rfl, h1, h2⟩ := h1.v
    have H1 := Lib.hid h1
    clear h1
    go_wp2_with fail
    go_ret
    exact ⟨A1, n1, c1, rfl, H1.out.rd, h2⟩
end Go.Proofs.YtjhgljfmheopmaaDoor
