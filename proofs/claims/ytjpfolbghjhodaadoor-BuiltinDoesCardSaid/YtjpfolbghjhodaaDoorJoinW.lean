/- The walks over (*strings.Builder).WriteString and strings.Join with a space between. A bound on the whole length. -/
import Derived.Test.YtjpfolbghjhodaaDoorPatW2
import Derived.Test.YtjpfolbghjhodaaDoorStrc
import Derived.Test.YtjpfolbghjhodaaDoorListM
import Derived.Lib.AppendStr
import Derived.Deep.Cut
set_option linter.unusedVariables false
set_option linter.unusedSimpArgs false
namespace Go.Proofs.YtjpfolbghjhodaaDoor
open Go.RowKit

theorem strCells_bytes (l : List UInt8) : Lib.strCells ⟨l.toArray⟩ = Lib.byteCells l := rfl
set_option maxHeartbeats 2000000 in
set_option maxRecDepth 100000 in
theorem writeString_any (B b : Nat) (l s : List UInt8) (w : World) (h : Bld B b l w) (hlen : l.length + s.length ≤ 140737488355328) (hBw : B ≤ w.heap.size) :
    Calls Tryd.prog 115 #[.pointer (some ⟨b, 0, none⟩), .string ⟨s.toArray⟩] w fun e w' => e = .returned (.tuple #[.int .i64 s.length, .nilIface]) ∧ Bld B b (l ++ s) w' ∧ Below B w w' := by
  obtain ⟨i0, hi, hz0, hz1, hz2⟩ := info_parts infoByte
  have hll : (Lib.byteCells l).length = l.length := by simp [Lib.byteCells]
  have hsz0 : (⟨s.toArray⟩ : ByteArray).size = s.length := by simp [ByteArray.size]
  go_enter Tryd.func115, Tryd.ntmps115
  go_wp2_with fail
  refine (copyCheck_any B b _ _ h).mono ?_
  rintro e w1 ⟨rfl, h1, hb1, ho1⟩
  obtain ⟨hB, v, hbk, hown, hne⟩ := h1
  rw [hll] at hown
  have c0 : w1.cell? ⟨b, 0, none⟩ = some (.pointer (some ⟨b, 0, none⟩)) := by rw [Lib.cell_of_heap hbk]; rfl
  have c1 : w1.cell? ⟨b, 1, none⟩ = some v := by rw [Lib.cell_of_heap hbk]; rfl
  go_wp2_with (at_builtin; refine Lib.wpList_append_own_string _ rfl _ _ 105 9 rfl B 5 i0 Tryd.underlying105 Tryd.underlying9 hi hz0 hz1 hz2 _ _ _ rfl hown ⟨s.toArray⟩ rfl ?c3 ?c4 ?c5 ?_)
  case c3 => rw [hsz0]; unfold maxLen; omega
  case c4 => rw [hsz0]; omega
  case c5 => have := hb1.size; omega
  intro v' w2 hown' hgrow _
  have hlt : b < w1.heap.size := by
    rcases Nat.lt_or_ge b w1.heap.size with h' | h'
    · exact h'
    · simp [Array.getElem?_eq_none h'] at hbk
  have hb2 : w2.heap[b]? = some (.cells #[.pointer (some ⟨b, 0, none⟩), v] 147 (0, 0)) := by
    rw [hgrow.block b hlt (fun e => hne e.symm)]
    exact hbk
  have d0 : w2.cell? ⟨b, 0, none⟩ = some (.pointer (some ⟨b, 0, none⟩)) := by rw [Lib.cell_of_heap hb2]; rfl
  have d1 : w2.cell? ⟨b, 1, none⟩ = some v := by rw [Lib.cell_of_heap hb2]; rfl
  have f1 : w2.frozen? ⟨b, 1, none⟩ = false := Lib.frozen_of_heap hb2 1
  obtain ⟨ao, n', cap, rfl⟩ : ∃ ao n' cap, v' = .slice ao n' cap := by
    rcases hown'.2 with ⟨hv, _⟩ | ⟨g, cap, cur, hv, _⟩
    · exact ⟨_, _, _, hv⟩
    · exact ⟨_, _, _, hv⟩
  go_wp2
  go_ret2
  refine ⟨rfl, .inr ?_, ?_⟩
  · exact Lib.BuilderAt.put (T := 147) (e := 5) hB hb2 (bs' := Lib.byteCells (l ++ s)) (by simpa [Lib.byteCells, Lib.strCells, hsz0] using hown') (by decide)
  · exact (hb1.grown hgrow (by have := hb1.size; omega) (fun k hk => (hown.lt k hk).1)).setCell (p := ⟨b, 1, none⟩) hB _
theorem spaced_snoc : ∀ (l : List (List UInt8)) (x : List UInt8), l ≠ [] → spaced (l ++ [x]) = (spaced l ++ [32]) ++ x
  | [], x, h => absurd rfl h
  | [s], x, _ => by simp [spaced]
  | s :: u :: t, x, _ => by
    have ih := spaced_snoc (u :: t) x (by simp)
    rw [List.cons_append, List.cons_append, spaced, ← List.cons_append, ih]
    simp [spaced]
theorem sumL_snoc (l : List (List UInt8)) (x : List UInt8) : sumL (l ++ [x]) = sumL l + x.length := by
  induction l with
  | nil => simp [sumL]
  | cons y t ih => simp only [List.cons_append, sumL, ih]; omega
theorem sumL_take (l : List (List UInt8)) (k : Nat) : sumL (l.take k) ≤ sumL l := by
  induction l generalizing k with
  | nil => simp [sumL]
  | cons y t ih =>
    cases k with
    | zero => simp [sumL]
    | succ k => simp only [List.take_succ_cons, sumL]; have := ih k; omega
theorem spaced_take (l : List (List UInt8)) (k : Nat) : (spaced (l.take k)).length ≤ l.length - 1 + sumL l := by
  have h1 := sumL_take l k
  rw [spaced_len, List.length_take]
  omega
theorem sum_mem {s : List UInt8} : ∀ {l : List (List UInt8)}, s ∈ l → s.length ≤ sumL l
  | x :: t, h => by
    simp only [sumL]
    rcases List.mem_cons.1 h with rfl | h
    · omega
    · have := sum_mem h; omega
theorem RdL.str3 {w : World} {b o : Nat} {l : List (List UInt8)} (h : RdL w 1 strc (some ⟨b, o, none⟩) l) {k : Nat} (hk : k < l.length) : w.cell? ⟨b, o + k, none⟩ = some (.string ⟨l[k].toArray⟩) := by
  obtain ⟨b', o', he, _, hc⟩ := h k hk
  injection he with he
  injection he with h1 h2
  subst h1 h2
  have := hc 0 _ rfl
  rwa [Nat.mul_one, Nat.add_zero] at this
theorem RdL.at3 {w : World} {A : Option Addr} {l : List (List UInt8)} (h : RdL w 1 strc A l) {k : Nat} (hk : k < l.length) : ∃ b o, A = some ⟨b, o, none⟩ :=
  let ⟨b, o, h1, _⟩ := h k hk
  ⟨b, o, h1⟩
set_option maxHeartbeats 2000000 in
set_option maxRecDepth 100000 in
theorem sjoin_any (A0 : Option Addr) (c0 : Nat) (L : List (List UInt8)) (w : World) (hrd : RdL w 1 strc A0 L) (hc : L.length ≤ c0) (hsum : L.length - 1 + sumL L ≤ 100000) :
    Calls Tryd.prog 89 #[.slice A0 L.length c0, .string { data := #[32] }] w (Ret w (.string ⟨(spaced L).toArray⟩)) := by
  have HSP := Lib.hid (fun k => Nat.le_trans (spaced_take L k) hsum)
  have HMEM := Lib.hid (show ∀ s ∈ L, s.length ≤ 100000 from fun s hs => by have := sum_mem hs; omega)
  have HSUM := Lib.hid (show ∀ k, L.length - 1 + sumL (L.take k) ≤ 100000 from fun k => by have := sumL_take L k; omega)
  obtain ⟨m, hm⟩ : ∃ m, m = L.length := ⟨_, rfl⟩
  have HM := Lib.hid hm
  rw [← hm] at hc HSUM ⊢
  have hm2 : m ≤ 100001 := by omega
  clear hsum
  by_cases h0 : m = 0
  · have hL : L = [] := List.eq_nil_of_length_eq_zero (by omega)
    subst hL
    subst h0
    clear hm HM HSP HMEM HSUM
    go_enter Tryd.func89, Tryd.ntmps89
    go_wp2_with fail
    go_ret
    exact ⟨rfl, Below.refl _ _⟩
  have hq0 : ((m : Int) == 0) = false := by rw [beq_eq_false_iff_ne]; omega
  have hpos : 0 < L.length := by omega
  obtain ⟨b, o, rfl⟩ := hrd.at3 hpos
  have cz := hrd.str3 hpos
  rw [Nat.add_zero] at cz
  have H1 := Lib.hid (show L.take 1 = [L[0]] by rw [List.take_succ_eq_append_getElem hpos]; rfl)
  have hx0 := HMEM.out _ (List.getElem_mem hpos)
  obtain ⟨x0, hx00⟩ : ∃ x, x = L[0] := ⟨_, rfl⟩
  rw [← hx00] at cz H1 hx0
  have czz := cz
  by_cases h1 : m = 1
  · have HR := Lib.hid (show spaced L = x0 by
      have : L.take 1 = L := List.take_of_length_le (by omega)
      rw [← this, H1.out]
      rfl)
    subst h1
    clear hm HM HSP HMEM HSUM h0 hpos hx00 H1
    go_enter Tryd.func89, Tryd.ntmps89
    go_wp2_with fail
    go_ret
    rw [HR.out]
    exact ⟨rfl, Below.refl _ _⟩
  have hq1 : ((m : Int) == 1) = false := by rw [beq_eq_false_iff_ne]; omega
  have hmm : 2 ≤ m := by omega
  clear hm h0 h1 hpos hx00
  have hdiv : ¬ ((9223372036854775807 : Int) / ((m : Int) - 1) ≤ 1) := by
    have h2 : (2 : Int) ≤ 9223372036854775807 / ((m : Int) - 1) := by
      rw [Int.le_ediv_iff_mul_le (by omega)]
      omega
    omega
  go_enter Tryd.func89, Tryd.ntmps89
  go_upto_region 11 with (fail)
  clear hdiv hq0 hq1 cz
  go_upto_region 12 with (fail)
  go_loopw [5, 41] (fun v i wr => ∃ k : Nat, k ≤ m ∧ i = .int .i64 k ∧ v = .int .i64 ((m - 1 + sumL (L.take k) : Nat) : Int) ∧ wr = w)
    (fun _ i _ => m - (intOf i).toNat)
  case atStart => exact ⟨0, Nat.zero_le _, rfl, by simp [sumL]; omega, rfl⟩
  case round =>
    obtain ⟨k, hk, rfl, rfl, hwr⟩ := hrel
    obtain rfl : w = wr := hwr.symm
    have hsk := HSUM.out k
    by_cases hlt : k < m
    · have hkL : k < L.length := by rw [← HM.out]; exact hlt
      have cx := hrd.str3 hkL
      have HT := Lib.hid (show m - 1 + sumL (L.take (k + 1)) = m - 1 + sumL (L.take k) + L[k].length by rw [List.take_succ_eq_append_getElem hkL, sumL_snoc]; omega)
      have hsk1 := HSUM.out (k + 1)
      rw [HT.out] at hsk1
      generalize L[k] = x at *
      obtain ⟨a, ha⟩ : ∃ a, a = m - 1 + sumL (L.take k) := ⟨_, rfl⟩
      rw [← ha] at HT hsk hsk1 ⊢
      clear ha hkL
      go_wp2_with fail
      go_roundw
      case rel => exact ⟨k + 1, by omega, by go_num, by rw [HT.out]; go_num, trivial⟩
      case measure => simp [intOf]; omega
    · obtain rfl : m = k := by omega
      obtain ⟨a, ha⟩ : ∃ a, a = m - 1 + sumL (L.take m) := ⟨_, rfl⟩
      rw [← ha] at hsk ⊢
      clear ha hlt
      go_wp2_with fail
      refine (Tryd.Builder_Grow_fresh w.heap.size w.heap.size a _ (Nat.le_refl _) (heap_alloc_new w _) (by rw [World.alloc]; simp) (by omega)).mono ?_
      rintro e w1 ⟨rfl, hB1, hb1⟩
      have hb := ((Below.refl w.heap.size w).alloc (Nat.le_refl _) (.cells #[.pointer none, .slice none 0 0] 147)).trans hb1
      have HB1 := Lib.hid (show Bld w.heap.size w.heap.size [] w1 from .inr hB1)
      clear hB1 hb1
      have cz := cell_keep hb czz
      go_wp2_with fail
      refine (writeString_any _ _ [] x0 _ HB1.out (by simp only [List.length_nil]; omega) hb.size).mono ?_
      rintro e w2 ⟨rfl, hB2, hb2⟩
      rw [List.nil_append] at hB2
      have HB2 := Lib.hid (show Bld w.heap.size w.heap.size (spaced (L.take 1)) w2 by rw [H1.out]; exact hB2)
      replace hb := hb.trans hb2
      clear hB2 hb2 HB1 cz H1 hx0
      have hcc : ¬ c0 = 1 := by omega
      have hcc2 : ¬ 1 = c0 := by omega
      go_upto_region 22 with (fail)
      go_loopw [65] (fun i wx => ∃ k : Nat, k ≤ m - 1 ∧ i = .int .i64 k ∧ Hid (Bld w.heap.size w.heap.size (spaced (L.take (k + 1))) wx) ∧ Below w.heap.size w wx)
        (fun i _ => m - (intOf i).toNat)
      case atStart => exact ⟨0, Nat.zero_le _, rfl, HB2, hb⟩
      case round =>
        clear HB2 hb
        obtain ⟨k, hk, rfl, HBK, hb⟩ := hrel
        by_cases hlt : k < m - 1
        · have hkL : k + 1 < L.length := by rw [← HM.out]; omega
          have cx := cell_keep hb (hrd.str3 hkL)
          rw [show o + (k + 1) = o + 1 + k by omega] at cx
          have HT := Lib.hid (show spaced (L.take (k + 1 + 1)) = (spaced (L.take (k + 1)) ++ [32]) ++ L[k + 1] by
            rw [List.take_succ_eq_append_getElem hkL]
            exact spaced_snoc _ _ (by intro h; have := congrArg List.length h; rw [List.length_take, List.length_nil] at this; omega))
          have hl1 := HSP.out (k + 1)
          have hl2 := HMEM.out _ (List.getElem_mem hkL)
          generalize L[k + 1] = x at *
          generalize spaced (L.take (k + 1)) = p at *
          clear hkL
          go_wp2_with fail
          refine (writeString_any _ _ p [32] _ HBK.out (by simp only [List.length_cons, List.length_nil]; omega) hb.size).mono ?_
          rintro e w4 ⟨rfl, hB4, hb4⟩
          have HB4 := Lib.hid hB4
          replace hb := hb.trans hb4
          clear hB4 hb4 cx HBK
          go_wp2_with fail
          refine (writeString_any _ _ (p ++ [32]) x _ HB4.out (by simp only [List.length_append, List.length_cons, List.length_nil]; omega) hb.size).mono ?_
          rintro e w5 ⟨rfl, hB5, hb5⟩
          have HB5 := Lib.hid (show Bld w.heap.size w.heap.size (spaced (L.take (k + 1 + 1))) w5 by rw [HT.out]; exact hB5)
          replace hb := hb.trans hb5
          clear hB5 hb5 HB4
          go_wp2_with fail
          go_roundw
          case rel => exact ⟨k + 1, by omega, by go_num, HB5, hb⟩
          case measure => simp [intOf]; omega
        · obtain rfl : k = m - 1 := by omega
          have HF := Lib.hid (show L.take (m - 1 + 1) = L by rw [show m - 1 + 1 = L.length by rw [← HM.out]; omega, List.take_length])
          rw [HF.out] at HBK
          generalize spaced L = r at *
          go_wp2_with fail
          refine (Tryd.Builder_String_any _ _ _ _ HBK.out hb.size).mono ?_
          rintro e w6 ⟨rfl, hb6⟩
          replace hb := hb.trans hb6
          go_wp2_with fail
          go_ret
          exact ⟨rfl, hb⟩
end Go.Proofs.YtjpfolbghjhodaaDoor
