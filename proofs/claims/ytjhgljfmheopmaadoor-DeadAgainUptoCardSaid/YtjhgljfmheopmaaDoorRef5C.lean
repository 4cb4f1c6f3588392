/- The walk over patoisref5.Check: it answers Fine just where core.Check answers nil. Bounds on the lengths. -/
import Derived.Test.YtjhgljfmheopmaaDoorRef5O
import Derived.Test.YtjhgljfmheopmaaDoorTree
set_option linter.unusedVariables false
set_option linter.unusedSimpArgs false
namespace Go.Proofs.YtjhgljfmheopmaaDoor
open Go.RowKit

theorem look5_any (A : Option Addr) (cp : Nat) (L : List Nd) (hL : L.length ≤ 4000000) (hok : ∀ x ∈ L, NdOk x) : ∀ (d : Nat), d ≤ 30 → Look5Said A cp L d := by
  intro d
  induction d with
  | zero => exact fun hd => look5_step A cp L hL hok 0 hd fun d' h => by omega
  | succ d ih =>
    intro hd
    refine look5_step A cp L hL hok (d + 1) hd fun d' h => ?_
    have hdd : d' = d := by omega
    rw [hdd]
    exact ih (by omega)

/-- May it be? -/
def fineB (L : List Nd) : Bool := !manyB L && (checkP L).isNone
theorem fineB_tree {t : Tr} (hok : okT 30 false t = true) (hn : (flat t).length ≤ 3000) : fineB (flat t) = true := by
  have h1 := flat_pos t
  have h2 : checkP (flat t) = none := (check_tree (flat t) (by omega)).2 ⟨t, hok, rfl⟩
  rw [fineB, h2]
  have h3 : manyB (flat t) = false := by
    simp only [manyB, Bool.or_eq_false_iff, beq_eq_false_iff_ne, decide_eq_false_iff_not]
    omega
  rw [h3]
  rfl

set_option maxRecDepth 100000 in
set_option maxHeartbeats 2000000 in
theorem check5_any (v : Value) (L : List Nd) (w : World) (hv : SlRd w v L) (hL : L.length ≤ 4000000) (hok : ∀ x ∈ L, NdOk x) :
    Calls Tryd.prog 26 #[v] w (FRet (fineB L) w) := by
  obtain ⟨A, cp, rfl, hrd, _⟩ := hv
  obtain ⟨m, hm⟩ : ∃ m, m = L.length := ⟨_, rfl⟩
  have HZ := Lib.hid (fun W => bare_any 111 W)
  by_cases hbad : L.length = 0 ∨ 3000 < L.length
  · have HB := Lib.hid (show fineB L = false by
      have : manyB L = true := by
        simp only [manyB, Bool.or_eq_true, beq_iff_eq, decide_eq_true_eq]
        exact hbad
      rw [fineB, this]; rfl)
    have hbad2 : m = 0 ∨ 3000 < m := by rw [hm]; exact hbad
    rw [← hm]
    clear hbad hrd hok hL hm
    go_enter Tryd.func26, Tryd.ntmps26
    generalize hQQ : bodyPost Tryd.prog Tryd.f26 (FRet (fineB L) w) = QQ
    have HQQ := Lib.hid hQQ
    clear hQQ
    go_upto_region 1 with (fail)
    obtain ⟨W0, hW0⟩ : ∃ W0, W0 = w.alloc (.cells #[.int .i64 0, .slice none 0 0] 38) := ⟨_, rfl⟩
    rw [← hW0]
    have hb0 : Below w.heap.size w W0 := by rw [hW0]; exact (Below.refl _ _).alloc (Nat.le_refl _) _
    have hB0 : Blk W0 w.heap.size 38 #[.int .i64 0, .slice none 0 0] := by rw [hW0]; exact Blk.new w _ _
    clear hW0
    generalize hg0 : w.heap.size = g0 at hB0 ⊢
    have HG0 := Lib.hid (hg0)
    have HB0 := Lib.hid hB0
    have HBW0 := Lib.hid hb0
    clear hg0 hB0 hb0
    rcases hbad2 with h0 | h3
    · subst h0
      go_wp2_with fail
      refine (HZ.out _).mono ?_
      rintro e w1 ⟨rfl, hb1⟩
      unfold bareV
      have HBK := Lib.hid (HB0.out.below hb1)
      have HBW := Lib.hid (HBW0.out.trans (hb1.mono HBW0.out.size))
      clear hb1
      have hB := HBK.out
      have z0 := hB.cell 0
      have z1 := hB.cell 1
      have q0 := hB.frozen 0
      have q1 := hB.frozen 1
      have hB2 := (hB.set 0 (.int .i64 111)).set 1 (.slice none 0 0)
      have e0 := hB2.cell 0
      have e1 := hB2.cell 1
      simp only [List.getElem?_toArray, List.getElem?_cons_zero, List.getElem?_cons_succ, List.setIfInBounds_toArray, List.set_cons_succ, List.set_cons_zero] at e0 e1 z0 z1
      have E0 := Lib.hid e0
      have E1 := Lib.hid e1
      have EF := Lib.hid (show Below w.heap.size w ((w1.setCell ⟨g0, 0, none⟩ (.int .i64 111)).setCell ⟨g0, 1, none⟩ (.slice none 0 0)) from (HBW.out.setCell (Nat.le_of_eq HG0.out) _).setCell (Nat.le_of_eq HG0.out) _)
      clear e0 e1 hB2 hB
      go_wp2_with fail
      rw [← HQQ.out]
      refine bodyPost_ret (v := .agg #[.int .i64 111, .slice none 0 0]) ?_ rfl ⟨_, _, _, _, rfl, (by rw [HB.out]; rfl), EF.out⟩
      have e0 := E0.out
      have e1 := E1.out
      generalize ((w1.setCell ⟨g0, 0, none⟩ (.int .i64 111)).setCell ⟨g0, 1, none⟩ (.slice none 0 0)) = WF at *
      simp [results, go_sem, e0, e1, Tryd.results48, Tryd.results67, Tryd.results26]
    · have hz : ((m : Int) == 0) = false := by rw [beq_eq_false_iff_ne]; omega
      go_wp2_with fail
      refine (HZ.out _).mono ?_
      rintro e w1 ⟨rfl, hb1⟩
      unfold bareV
      have HBK := Lib.hid (HB0.out.below hb1)
      have HBW := Lib.hid (HBW0.out.trans (hb1.mono HBW0.out.size))
      clear hb1
      have hB := HBK.out
      have z0 := hB.cell 0
      have z1 := hB.cell 1
      have q0 := hB.frozen 0
      have q1 := hB.frozen 1
      have hB2 := (hB.set 0 (.int .i64 111)).set 1 (.slice none 0 0)
      have e0 := hB2.cell 0
      have e1 := hB2.cell 1
      simp only [List.getElem?_toArray, List.getElem?_cons_zero, List.getElem?_cons_succ, List.setIfInBounds_toArray, List.set_cons_succ, List.set_cons_zero] at e0 e1 z0 z1
      have E0 := Lib.hid e0
      have E1 := Lib.hid e1
      have EF := Lib.hid (show Below w.heap.size w ((w1.setCell ⟨g0, 0, none⟩ (.int .i64 111)).setCell ⟨g0, 1, none⟩ (.slice none 0 0)) from (HBW.out.setCell (Nat.le_of_eq HG0.out) _).setCell (Nat.le_of_eq HG0.out) _)
      clear e0 e1 hB2 hB
      go_wp2_with fail
      rw [← HQQ.out]
      refine bodyPost_ret (v := .agg #[.int .i64 111, .slice none 0 0]) ?_ rfl ⟨_, _, _, _, rfl, (by rw [HB.out]; rfl), EF.out⟩
      have e0 := E0.out
      have e1 := E1.out
      generalize ((w1.setCell ⟨g0, 0, none⟩ (.int .i64 111)).setCell ⟨g0, 1, none⟩ (.slice none 0 0)) = WF at *
      simp [results, go_sem, e0, e1, Tryd.results48, Tryd.results67, Tryd.results26]
  · have HB := Lib.hid (show fineB L = (lookP L 30 0 L.length false true).isNone by
      have : manyB L = false := by
        simp only [manyB, Bool.or_eq_false_iff, beq_eq_false_iff_ne, decide_eq_false_iff_not]
        omega
      rw [fineB, this]; rfl)
    have HC := Lib.hid (show ∀ W, RdL W 5 ndc A L → Calls Tryd.prog 48 #[.slice A L.length cp, .int .i64 0, .int .i64 L.length, .int .i64 L.length, .int .i64 1, .bool true] W (FRet (fineB L) W) from fun W h => by
      rw [HB.out]
      exact look5_any A cp L hL hok 30 (Nat.le_refl _) 0 L.length false true W L.length (by omega) (Nat.le_refl _) h rfl)
    rw [← hm] at HC
    have h1 : 0 < m := by omega
    have h2 : m ≤ 3000 := by omega
    rw [← hm]
    clear hbad hok hL hm HB HZ
    have hz : ((m : Int) == 0) = false := by rw [beq_eq_false_iff_ne]; omega
    have hz3 : decide ((3000 : Int) < m) = false := decide_eq_false (by omega)
    go_enter Tryd.func26, Tryd.ntmps26
    generalize hQQ : bodyPost Tryd.prog Tryd.f26 (FRet (fineB L) w) = QQ
    have HQQ := Lib.hid hQQ
    clear hQQ
    go_upto_region 1 with (fail)
    obtain ⟨W0, hW0⟩ : ∃ W0, W0 = w.alloc (.cells #[.int .i64 0, .slice none 0 0] 38) := ⟨_, rfl⟩
    rw [← hW0]
    have hb0 : Below w.heap.size w W0 := by rw [hW0]; exact (Below.refl _ _).alloc (Nat.le_refl _) _
    have hB0 : Blk W0 w.heap.size 38 #[.int .i64 0, .slice none 0 0] := by rw [hW0]; exact Blk.new w _ _
    have HRD := Lib.hid (hrd.below hb0)
    clear hW0 hrd
    generalize hg0 : w.heap.size = g0 at hB0 ⊢
    have HG0 := Lib.hid (hg0)
    have HB0 := Lib.hid hB0
    have HBW0 := Lib.hid hb0
    clear hg0 hB0 hb0
    go_wp2_with fail
    refine (HC.out _ HRD.out).mono ?_
    rintro e w1 ⟨c, A1, n, k, rfl, hc, hb1⟩
    have HBK := Lib.hid (HB0.out.below hb1)
    have HBW := Lib.hid (HBW0.out.trans (hb1.mono HBW0.out.size))
    have HCC := Lib.hid hc
    clear hb1 hc
    have hB := HBK.out
    have z0 := hB.cell 0
    have z1 := hB.cell 1
    have q0 := hB.frozen 0
    have q1 := hB.frozen 1
    have hB2 := (hB.set 0 (.int .i64 c)).set 1 (.slice A1 n k)
    have e0 := hB2.cell 0
    have e1 := hB2.cell 1
    simp only [List.getElem?_toArray, List.getElem?_cons_zero, List.getElem?_cons_succ, List.setIfInBounds_toArray, List.set_cons_succ, List.set_cons_zero] at e0 e1 z0 z1
    have E0 := Lib.hid e0
    have E1 := Lib.hid e1
    have EF := Lib.hid (show Below w.heap.size w ((w1.setCell ⟨g0, 0, none⟩ (.int .i64 c)).setCell ⟨g0, 1, none⟩ (.slice A1 n k)) from (HBW.out.setCell (Nat.le_of_eq HG0.out) _).setCell (Nat.le_of_eq HG0.out) _)
    clear e0 e1 hB2 hB
    go_wp2_with fail
    rw [← HQQ.out]
    refine bodyPost_ret (v := .agg #[.int .i64 c, .slice A1 n k]) ?_ rfl ⟨_, _, _, _, rfl, HCC.out, EF.out⟩
    have e0 := E0.out
    have e1 := E1.out
    generalize ((w1.setCell ⟨g0, 0, none⟩ (.int .i64 c)).setCell ⟨g0, 1, none⟩ (.slice A1 n k)) = WF at *
    simp [results, go_sem, e0, e1, Tryd.results48, Tryd.results67, Tryd.results26]
end Go.Proofs.YtjhgljfmheopmaaDoor
