/- The walk over package cscan's quoted. Bounds on the lengths. -/
import Derived.Test.YtlhpflilpdceiaaDoorScanPE
import Derived.Test.YtlhpflilpdceiaaDoorScanPQ
set_option linter.unusedVariables false
set_option linter.unusedSimpArgs false
namespace Go.Proofs.YtlhpflilpdceiaaDoor
open Go.RowKit

theorem own_new (w : World) {base : Nat} (e : TypeId) {sz n : Nat} (cs : Array Value) (h : cs.size = n * sz) (hb : base ≤ w.heap.size) (hn : n ≤ maxLen) : (w.alloc (.cells cs e)).ownsRow base e sz (.slice (some ⟨w.heap.size, 0, none⟩) n n) n cs.toList :=
  ⟨by simp [h], .inr ⟨w.heap.size, n, cs, rfl, hb, heap_alloc_new w _, Nat.le_refl _, hn, h, by rw [← h, ← Array.length_toList]; exact List.take_length⟩⟩
theorem own_blk {w : World} {base g : Nat} {e : TypeId} {sz n : Nat} {cs : Array Value} (hg : Blk w g e cs) (h : cs.size = n * sz) (hb : base ≤ g) (hn : n ≤ maxLen) : w.ownsRow base e sz (.slice (some ⟨g, 0, none⟩) n n) n cs.toList :=
  ⟨by simp [h], .inr ⟨g, n, cs, rfl, hb, hg, Nat.le_refl _, hn, h, by rw [← h, ← Array.length_toList]; exact List.take_length⟩⟩
/-- What stands between two quotes. -/
def quoL (L : List UInt8) (i : Nat) : PsR := match partsA L quoB (i + 1) [] with
  | .err k a => .err k a
  | .ok ps j _ => if L.length ≤ j then .err 3 i else .ok (if ps.length = 0 then [⟨1, i, 0, []⟩] else ps) (j + 1) (L.drop (j + 1))
theorem wordA_quo {L : List UInt8} {i : Nat} (h : i < L.length) (hc : L[i] = 34) : wordA L i = match quoL L i with
    | .err k a => .err k a
    | .ok ps j r => if endsA L j = true then .ok ⟨i, false, ps⟩ j r else .err 7 j := by
  rw [wordA_quote h hc]
  unfold quoL
  cases partsA L quoB (i + 1) [] with
  | err k a => rfl
  | ok ps j r =>
    simp only
    split <;> rfl
set_option maxRecDepth 100000 in
set_option maxHeartbeats 4000000 in
theorem quoted_any (B S : Nat) (s : ByteArray) (i : Nat) (Ls : List Addr) (w : World) (h : Rdr w B S s i) (hE : SenB w Ls B) (hs : s.size ≤ 8192) (hi : i < s.size) :
    Calls Tryd.prog 49 #[.pointer (some ⟨B, 0, none⟩)] w (PsRet (quoL s.data.toList i) Ls B S s w) := by
  have hmf : ∀ (fn : Fn) (first cap : Array Value) (w : World), (Instr.makeFunc fn first cap).run Tryd.prog w = .ok (.func fn first cap) w := fun _ _ _ _ => rfl
  have hBw := h.1.lt
  obtain ⟨w1, hw1⟩ : ∃ w1, w1 = w.alloc (.cells #[.pointer (some ⟨B, 0, none⟩)] 77) := ⟨_, rfl⟩
  have hb1 : Below w.heap.size w w1 := by rw [hw1]; exact (Below.refl _ _).alloc (Nat.le_refl _) _
  have hV1 : Blk w1 w.heap.size 77 #[.pointer (some ⟨B, 0, none⟩)] := by rw [hw1]; exact Blk.new w _ _
  have hr1 := h.below hb1
  have hVB : w.heap.size ≠ B := by omega
  have hr2 := hr1.set (i + 1)
  have hV2 := (But.set (B := B) w1 1 (.int .i64 ((i + 1 : Nat) : Int))).blk hV1 hVB
  have hE2 := (hE.below hb1).but (But.set (B := B) w1 1 (.int .i64 ((i + 1 : Nat) : Int)))
  have hB2 := (But.of hb1 (B := B)).trans (But.set (B := B) w1 1 (.int .i64 ((i + 1 : Nat) : Int)))
  have v1 := hV1.cell 0
  have v2 := hV2.cell 0
  have r1 := hr1.c1
  have f1 := hr1.1.frozen 1
  simp only [List.getElem?_toArray, List.getElem?_cons_zero, List.getElem?_cons_succ] at v1 v2
  have HP := Lib.hid (parts_quo_any B S w.heap.size s (i + 1) Ls _ hr2 hE2 hs (by omega) v2 hVB)
  obtain ⟨L, hL⟩ : ∃ L, L = s.data.toList := ⟨_, rfl⟩
  have HN := Lib.hid (show L.length = s.size by rw [hL]; rfl)
  obtain ⟨aQ, haQ⟩ : ∃ a, Ls[2]? = some a := ⟨Ls[2]'(by rw [hE.sen.len]; decide), List.getElem?_eq_getElem _⟩
  have HPK := Lib.hid (fun (W : World) (j : Nat) (hr : Rdr W B S s j) => peek_any B S s j W hr)
  rw [← hL] at HP HPK ⊢
  obtain ⟨R, hR⟩ : ∃ R, R = quoL L i := ⟨_, rfl⟩
  rw [← hR]
  have HR := Lib.hid hR
  clear hR
  have HR2 := Lib.hid hr2
  have HV2 := Lib.hid hV2
  have HE2 := Lib.hid hE2
  have HB2 := Lib.hid hB2
  have HW1 := Lib.hid hw1
  have HLE := Lib.hid (show w.heap.size ≤ (w1.setCell ⟨B, 1, none⟩ (.int .i64 ((i + 1 : Nat) : Int))).heap.size from hB2.size)
  rw [Int.natCast_add] at HP HR2 HV2 HE2 HB2 v2 HLE
  clear h hE hb1 hV1 hr1 hr2 hV2 hE2 hB2 hL hw1
  go_enter Tryd.func49, Tryd.ntmps49
  go_upto_region 1 with (fail)
  rw [← HW1.out]
  go_wp2_with fail
  refine HP.out.mono ?_
  clear HP HW1
  cases hp : partsA L quoB (i + 1) [] with
  | err k a =>
    rintro e w3 ⟨v, j, rfl, hE3, hR3, hB3⟩
    have HE3 := Lib.hid hE3
    obtain ⟨_, _, g, _, _, hv, _, _⟩ := hE3
    subst hv
    have HB3 := Lib.hid (HB2.out.trans hB3)
    have HR3 := Lib.hid hR3
    have HRe := Lib.hid (show R = .err k a by rw [HR.out]; unfold quoL; rw [hp])
    clear hR3 hB3 hp
    go_wp2_with fail
    go_ret2
    rw [HRe.out]
    exact ⟨_, j, rfl, HE3.out, HR3.out, HB3.out⟩
  | ok ps j r =>
    rintro e w3 ⟨v, rfl, hO3, hR3, hB3⟩
    have v3 := hB3.cell v2 hVB
    have HR3 := Lib.hid hR3
    have HE3 := Lib.hid (HE2.out.but hB3)
    have HB3 := Lib.hid (HB2.out.trans hB3)
    have HO3 := Lib.hid (hO3.mono HLE.out)
    obtain ⟨A3, c3, hv3, -, -, -, -⟩ := own_form hO3
    subst hv3
    have HRq := Lib.hid (show R = if L.length ≤ j then .err 3 i else .ok (if ps.length = 0 then [⟨1, i, 0, []⟩] else ps) (j + 1) (L.drop (j + 1)) by rw [HR.out]; unfold quoL; rw [hp])
    clear v1 v2 r1 f1 hR3 hB3 hO3 hp HR2 HV2 HE2 HB2 HLE
    go_wp2_with fail
    refine (HPK.out _ j HR3.out).mono ?_
    by_cases hj : j < L.length
    · rw [byteV_in hj]
      replace HRq := Lib.hid (HRq.out.trans (if_neg (show ¬ L.length ≤ j by omega)))
      rintro e w4 ⟨rfl, hb4⟩
      have v4 := cell_keep hb4 v3
      replace HR3 := Lib.hid (HR3.out.below hb4)
      replace HE3 := Lib.hid (HE3.out.below hb4)
      replace HB3 := Lib.hid (HB3.out.trans (But.of hb4))
      replace HO3 := Lib.hid (HO3.out.below hb4)
      generalize (L[j]).toNat = c
      have hjn : j < s.size := by have := HN.out; omega
      have r4 := HR3.out.c1
      have f4 := HR3.out.1.frozen 1
      clear v3 hb4 hj
      by_cases h0 : ps.length = 0
      · have e0 : ps = [] := List.eq_nil_of_length_eq_zero h0
        rw [if_pos h0] at HRq
        subst e0
        clear h0
        go_wp2_with fail
        go_ret2
        have hRf := HR3.out.set (j + 1)
        have hBf := HB3.out.trans (But.set (B := B) _ 1 (.int .i64 ((j + 1 : Nat) : Int)))
        rw [Int.natCast_add, show ((1 : Nat) : Int) = 1 from rfl] at hRf hBf
        have hbl : ∀ x : World, Below x.heap.size x (x.alloc (.cells #[.int .i64 1, .int .i64 i, .int .i64 0, .string { data := #[] }] 48)) := fun x => (Below.refl _ _).alloc (Nat.le_refl _) _
        rw [HRq.out]
        refine ⟨_, rfl, ?_, hRf.below (hbl _), hBf.trans (But.of (hbl _))⟩
        show World.ownsRow _ _ 48 4 _ 1 [.int .i64 1, .int .i64 i, .int .i64 0, .string { data := #[] }]
        have hz : (w4.setCell ⟨B, 1, none⟩ (.int .i64 ((j : Int) + 1))).heap.size = w4.heap.size := by simp [World.setCell]
        have hbk := Blk.new (w4.setCell ⟨B, 1, none⟩ (.int .i64 ((j : Int) + 1))) 48 #[.int .i64 1, .int .i64 i, .int .i64 0, .string { data := #[] }]
        have hsz := hBf.size
        rw [hz] at hbk hsz
        exact own_blk (sz := 4) (n := 1) hbk rfl hsz (by decide)
      · rw [if_neg h0] at HRq
        obtain ⟨m, hm⟩ : ∃ m, m = ps.length := ⟨_, rfl⟩
        rw [← hm] at h0 ⊢
        have HO3' := HO3.out
        rw [← hm] at HO3'
        replace HO3 := Lib.hid HO3'
        clear hm HO3'
        have hq0 : ¬ (m : Int) = 0 := by omega
        go_wp2_with fail
        go_ret2
        have hRf := HR3.out.set (j + 1)
        have hOf := HO3.out.but (But.set (B := B) _ 1 (.int .i64 ((j + 1 : Nat) : Int))) HR3.out.1 (by decide)
        have hBf := HB3.out.trans (But.set (B := B) _ 1 (.int .i64 ((j + 1 : Nat) : Int)))
        rw [Int.natCast_add] at hRf hOf hBf
        rw [HRq.out]
        exact ⟨_, rfl, hOf, hRf, hBf⟩
    · rw [byteV_out (show L.length ≤ j by omega)]
      replace HRq := Lib.hid (HRq.out.trans (if_pos (show L.length ≤ j by omega)))
      rintro e w4 ⟨rfl, hb4⟩
      replace HR3 := Lib.hid (HR3.out.below hb4)
      replace HE3 := Lib.hid (HE3.out.below hb4)
      replace HB3 := Lib.hid (HB3.out.trans (But.of hb4))
      have n4 := HE3.out.sen.var 2 _ aQ rfl haQ
      clear v3 hb4 hj HO3
      go_wp2_with fail
      refine (cfault_any i aQ _).mono ?_
      rintro e w5 ⟨v, rfl, hv, hb5⟩
      go_wp2_with fail
      go_ret2
      rw [HRq.out]
      exact ⟨v, j, rfl, AtE.of hv haQ, HR3.out.below hb5, HB3.out.trans (But.of hb5)⟩
end Go.Proofs.YtlhpflilpdceiaaDoor
