/- The walk over patoisref5.Check: it answers Fine just where core.Check answers nil. Bounds on the lengths. -/
import Derived.Test.YthmeonimianoeaaDoorRef5O
import Derived.Test.YthmeonimianoeaaDoorTree
import Derived.Test.YthmeonimianoeaaDoorGE
import Derived.Outline
import Derived.Deep.DeepCutAuto
set_option linter.unusedVariables false
set_option linter.unusedSimpArgs false
namespace Go.Proofs.YthmeonimianoeaaDoor
open Go.RowKit

theorem look5_any (A : Option Addr) (cp : Nat) (L : List Nd) (hL : L.length ≤ 4000000) (hok : ∀ x ∈ L, NdOk x) : ∀ (d : Nat), d ≤ 30 → Look5Said A cp L d := by
  intro d
  induction d with
  | zero => exact fun hd => look5_step A cp L hL hok 0 hd fun d' h => by omega
  | succ d ih =>
    intro hd
    refine look5_step A cp L hL hok (d + 1) hd fun d' h => ?_
    have hdd : d' = d := by omega
    rw [hdd]
    exact ih (by omega)

/-- May it be? -/
def fineB (L : List Nd) : Bool := !manyB L && (checkP L).isNone
theorem fineB_tree {t : Tr} (hok : okT 30 false t = true) (hn : (flat t).length ≤ 3000) : fineB (flat t) = true := by
  have h1 := flat_pos t
  have h2 : checkP (flat t) = none := (check_tree (flat t) (by omega)).2 ⟨t, hok, rfl⟩
  rw [fineB, h2]
  have h3 : manyB (flat t) = false := by
    simp only [manyB, Bool.or_eq_false_iff, beq_eq_false_iff_ne, decide_eq_false_iff_not]
    omega
  rw [h3]
  rfl

set_option maxRecDepth 100000 in
set_option maxHeartbeats 2000000 in
theorem check5_any (v : Value) (L : List Nd) (w : World) (hv : SlRd w v L) (hL : L.length ≤ 4000000) (hok : ∀ x ∈ L, NdOk x) :
    Calls Tryd.prog 18 #[v] w (FRet (fineB L) w) := by
  obtain ⟨A, cp, rfl, hrd, _⟩ := hv
  obtain ⟨m, hm⟩ : ∃ m, m = L.length := ⟨_, rfl⟩
  have HZ := Lib.hid (fun W => bare_any 111 W)
  by_cases hbad : L.length = 0 ∨ 3000 < L.length
  · have HB := Lib.hid (show fineB L = false by
      have : manyB L = true := by
        simp only [manyB, Bool.or_eq_true, beq_iff_eq, decide_eq_true_eq]
        exact hbad
      rw [fineB, this]; rfl)
    have hbad2 : m = 0 ∨ 3000 < m := by rw [hm]; exact hbad
    rw [← hm]
    clear hbad hrd hok hL hm
    go_enter Tryd.func18, Tryd.ntmps18
    generalize hQQ : bodyPost Tryd.prog Tryd.f18 (FRet (fineB L) w) = QQ
    have HQQ := Lib.hid hQQ
    clear hQQ
    go_upto_region 1 with (fail)
    obtain ⟨W0, hW0⟩ : ∃ W0, W0 = w.alloc (.cells #[.int .i64 0, .slice none 0 0] 43) := ⟨_, rfl⟩
    rw [← hW0]
    have hb0 : Below w.heap.size w W0 := by rw [hW0]; exact (Below.refl _ _).alloc (Nat.le_refl _) _
    have hB0 : Blk W0 w.heap.size 43 #[.int .i64 0, .slice none 0 0] := by rw [hW0]; exact Blk.new w _ _
    clear hW0
    generalize hg0 : w.heap.size = g0 at hB0 ⊢
    have HG0 := Lib.hid (hg0)
    have HB0 := Lib.hid hB0
    have HBW0 := Lib.hid hb0
    clear hg0 hB0 hb0
    rcases hbad2 with h0 | h3
    · subst h0
      go_wp2_with fail
      refine (HZ.out _).mono ?_
      rintro e w1 ⟨rfl, hb1⟩
      unfold bareV
      have HBK := Lib.hid (HB0.out.below hb1)
      have HBW := Lib.hid (HBW0.out.trans (hb1.mono HBW0.out.size))
      clear hb1
      have hB := HBK.out
      have z0 := hB.cell 0
      have z1 := hB.cell 1
      have q0 := hB.frozen 0
      have q1 := hB.frozen 1
      have hB2 := (hB.set 0 (.int .i64 111)).set 1 (.slice none 0 0)
      have e0 := hB2.cell 0
      have e1 := hB2.cell 1
      simp only [List.getElem?_toArray, List.getElem?_cons_zero, List.getElem?_cons_succ, List.setIfInBounds_toArray, List.set_cons_succ, List.set_cons_zero] at e0 e1 z0 z1
      have E0 := Lib.hid e0
      have E1 := Lib.hid e1
      have EF := Lib.hid (show Below w.heap.size w ((w1.setCell ⟨g0, 0, none⟩ (.int .i64 111)).setCell ⟨g0, 1, none⟩ (.slice none 0 0)) from (HBW.out.setCell (Nat.le_of_eq HG0.out) _).setCell (Nat.le_of_eq HG0.out) _)
      clear e0 e1 hB2 hB
      go_wp2_with fail
      rw [← HQQ.out]
      refine bodyPost_ret (v := .agg #[.int .i64 111, .slice none 0 0]) ?_ rfl ⟨_, _, _, _, rfl, (by rw [HB.out]; rfl), EF.out⟩
      have e0 := E0.out
      have e1 := E1.out
      generalize ((w1.setCell ⟨g0, 0, none⟩ (.int .i64 111)).setCell ⟨g0, 1, none⟩ (.slice none 0 0)) = WF at *
      simp [results, go_sem, e0, e1, Tryd.results45, Tryd.results82, Tryd.results18]
    · have hz : ((m : Int) == 0) = false := by rw [beq_eq_false_iff_ne]; omega
      go_wp2_with fail
      refine (HZ.out _).mono ?_
      rintro e w1 ⟨rfl, hb1⟩
      unfold bareV
      have HBK := Lib.hid (HB0.out.below hb1)
      have HBW := Lib.hid (HBW0.out.trans (hb1.mono HBW0.out.size))
      clear hb1
      have hB := HBK.out
      have z0 := hB.cell 0
      have z1 := hB.cell 1
      have q0 := hB.frozen 0
      have q1 := hB.frozen 1
      have hB2 := (hB.set 0 (.int .i64 111)).set 1 (.slice none 0 0)
      have e0 := hB2.cell 0
      have e1 := hB2.cell 1
      simp only [List.getElem?_toArray, List.getElem?_cons_zero, List.getElem?_cons_succ, List.setIfInBounds_toArray, List.set_cons_succ, List.set_cons_zero] at e0 e1 z0 z1
      have E0 := Lib.hid e0
      have E1 := Lib.hid e1
      have EF := Lib.hid (show Below w.heap.size w ((w1.setCell ⟨g0, 0, none⟩ (.int .i64 111)).setCell ⟨g0, 1, none⟩ (.slice none 0 0)) from (HBW.out.setCell (Nat.le_of_eq HG0.out) _).setCell (Nat.le_of_eq HG0.out) _)
      clear e0 e1 hB2 hB
      go_wp2_with fail
      rw [← HQQ.out]
      refine bodyPost_ret (v := .agg #[.int .i64 111, .slice none 0 0]) ?_ rfl ⟨_, _, _, _, rfl, (by rw [HB.out]; rfl), EF.out⟩
      have e0 := E0.out
      have e1 := E1.out
      generalize ((w1.setCell ⟨g0, 0, none⟩ (.int .i64 111)).setCell ⟨g0, 1, none⟩ (.slice none 0 0)) = WF at *
      simp [results, go_sem, e0, e1, Tryd.results45, Tryd.results82, Tryd.results18]
  · have HB := Lib.hid (show fineB L = (lookP L 30 0 L.length false true).isNone by
      have : manyB L = false := by
        simp only [manyB, Bool.or_eq_false_iff, beq_eq_false_iff_ne, decide_eq_false_iff_not]
        omega
      rw [fineB, this]; rfl)
    have HC := Lib.hid (show ∀ W, RdL W 5 ndc A L → Calls Tryd.prog 45 #[.slice A L.length cp, .int .i64 0, .int .i64 L.length, .int .i64 L.length, .int .i64 1, .bool true] W (FRet (fineB L) W) from fun W h => by
      rw [HB.out]
      exact look5_any A cp L hL hok 30 (Nat.le_refl _) 0 L.length false true W L.length (by omega) (Nat.le_refl _) h rfl)
    rw [← hm] at HC
    have h1 : 0 < m := by omega
    have h2 : m ≤ 3000 := by omega
    rw [← hm]
    clear hbad hok hL hm HB HZ
    have hz : ((m : Int) == 0) = false := by rw [beq_eq_false_iff_ne]; omega
    have hz3 : decide ((3000 : Int) < m) = false := decide_eq_false (by omega)
    go_enter Tryd.func18, Tryd.ntmps18
    generalize hQQ : bodyPost Tryd.prog Tryd.f18 (FRet (fineB L) w) = QQ
    have HQQ := Lib.hid hQQ
    clear hQQ
    go_upto_region 1 with (fail)
    obtain ⟨W0, hW0⟩ : ∃ W0, W0 = w.alloc (.cells #[.int .i64 0, .slice none 0 0] 43) := ⟨_, rfl⟩
    rw [← hW0]
    have hb0 : Below w.heap.size w W0 := by rw [hW0]; exact (Below.refl _ _).alloc (Nat.le_refl _) _
    have hB0 : Blk W0 w.heap.size 43 #[.int .i64 0, .slice none 0 0] := by rw [hW0]; exact Blk.new w _ _
    have HRD := Lib.hid (hrd.below hb0)
    clear hW0 hrd
    generalize hg0 : w.heap.size = g0 at hB0 ⊢
    have HG0 := Lib.hid (hg0)
    have HB0 := Lib.hid hB0
    have HBW0 := Lib.hid hb0
    clear hg0 hB0 hb0
    go_wp2_with fail
    refine (HC.out _ HRD.out).mono ?_
    rintro e w1 ⟨c, A1, n, k, rfl, hc, hb1⟩
    have HBK := Lib.hid (HB0.out.below hb1)
    have HBW := Lib.hid (HBW0.out.trans (hb1.mono HBW0.out.size))
    have HCC := Lib.hid hc
    clear hb1 hc
    have hB := HBK.out
    have z0 := hB.cell 0
    have z1 := hB.cell 1
    have q0 := hB.frozen 0
    have q1 := hB.frozen 1
    have hB2 := (hB.set 0 (.int .i64 c)).set 1 (.slice A1 n k)
    have e0 := hB2.cell 0
    have e1 := hB2.cell 1
    simp only [List.getElem?_toArray, List.getElem?_cons_zero, List.getElem?_cons_succ, List.setIfInBounds_toArray, List.set_cons_succ, List.set_cons_zero] at e0 e1 z0 z1
    have E0 := Lib.hid e0
    have E1 := Lib.hid e1
    have EF := Lib.hid (show Below w.heap.size w ((w1.setCell ⟨g0, 0, none⟩ (.int .i64 c)).setCell ⟨g0, 1, none⟩ (.slice A1 n k)) from (HBW.out.setCell (Nat.le_of_eq HG0.out) _).setCell (Nat.le_of_eq HG0.out) _)
    clear e0 e1 hB2 hB
    go_wp2_with fail
    rw [← HQQ.out]
    refine bodyPost_ret (v := .agg #[.int .i64 c, .slice A1 n k]) ?_ rfl ⟨_, _, _, _, rfl, HCC.out, EF.out⟩
    have e0 := E0.out
    have e1 := E1.out
    generalize ((w1.setCell ⟨g0, 0, none⟩ (.int .i64 c)).setCell ⟨g0, 1, none⟩ (.slice A1 n k)) = WF at *
    simp [results, go_sem, e0, e1, Tryd.results45, Tryd.results82, Tryd.results18]
end Go.Proofs.YthmeonimianoeaaDoor

/- The walk over patoisref5.Kids: it returns the children as parts of what is handed in. Bounds on the lengths. -/
set_option linter.unusedVariables false
set_option linter.unusedSimpArgs false
namespace Go.Proofs.YthmeonimianoeaaDoor
open Go.RowKit

set_option maxHeartbeats 2000000 in
/-- A row of slices of its own, which read as these lists. -/
def Kids5Ret (ls : List (List Nd)) (w : World) (e : Ending) (w' : World) : Prop :=
  ∃ A c vs, e = .returned (.slice A ls.length c) ∧ w'.ownsRow w.heap.size 23 1 (.slice A ls.length c) ls.length vs ∧ AllRd w' vs ls ∧ Below w.heap.size w w'
theorem kids5_any (v : Value) (L : List Nd) (w : World) (h : SlRd w v L) (hl : L.length ≤ 4000000) : Calls Tryd.prog 21 #[v] w (Kids5Ret (kidsL L) w) := by
  obtain ⟨A, cp, rfl, hrd, hc, hm, hA, hsp⟩ := h
  obtain ⟨i0, hi, hz0, hz1, hz2⟩ := info_parts infoNodes
  by_cases hl0 : L.length = 0
  · obtain rfl := List.eq_nil_of_length_eq_zero hl0
    go_enter Tryd.func21, Tryd.ntmps21
    go_wp2_with fail
    go_ret
    exact ⟨none, 0, [], rfl, World.ownsRow_nil _ _ _ _, AllRd.nil _, Below.refl _ _⟩
  · have h0 : 0 < L.length := by omega
    have HK := Lib.hid (kidsL_eq h0)
    obtain ⟨b, o, rfl, hbl⟩ := hrd.addr h0
    have hc2 := (hrd.at_ h0).2 2 _ rfl
    have hc3 := (hrd.at_ h0).2 3 _ rfl
    obtain ⟨x, hx⟩ : ∃ x, x = L[0] := ⟨_, rfl⟩
    rw [← hx] at HK hc2 hc3
    simp only [Nat.zero_mul, Nat.add_zero] at hc2 hc3
    clear hx hl0
    obtain ⟨e, he⟩ : ∃ e : Nat, e = (min x.size L.length).toNat := ⟨_, rfl⟩
    rw [← he] at HK
    obtain ⟨m, hml⟩ : ∃ m, m = L.length := ⟨_, rfl⟩
    rw [← hml] at h0 hl hc he ⊢
    have HM := Lib.hid hml
    have HE := Lib.hid he
    clear he hml
    unfold maxLen at hm
    have hz : ((m : Int) == 0) = false := by rw [beq_eq_false_iff_ne]; omega
    go_enter Tryd.func21, Tryd.ntmps21
    go_wp2_with fail
    have hEm : min x.size (m : Int) ≤ m := Int.min_le_right _ _
    have HE' := HE.out
    generalize min x.size (m : Int) = E at *
    have HE2 := Lib.hid HE'
    clear HE' HE
    go_loopw [3, 4, 6] (fun v c i wr => ∃ (kk cc : Nat) (A' : Option Addr) (c' : Nat) (done : List (List Nd)) (vs : List Value), c = .int .i64 cc ∧ i = .int .i64 kk ∧ v = .slice A' done.length c' ∧ 1 ≤ cc ∧ cc ≤ m ∧ kk < cc ∧ done.length < cc ∧
        wr.ownsRow w.heap.size 23 1 (.slice A' done.length c') done.length vs ∧ AllRd w vs done ∧ Below w.heap.size w wr ∧ Hid (kidsL L = done ++ kidsGo L e (x.k.toNat - kk) cc))
      (fun _ c _ _ => m + 1 - (intOf c).toNat)
    case atStart => exact ⟨0, 1, none, 0, [], [], rfl, rfl, rfl, Nat.le_refl _, h0, Nat.one_pos, Nat.one_pos, World.ownsRow_nil _ _ _ _, AllRd.nil _, Below.refl _ _, Lib.hid (by rw [HK.out]; rfl)⟩
    case round =>
      obtain ⟨kk, cc, A', c', done, vs, rfl, rfl, rfl, hc1, hcm, hkc, hdc, hown, hall, hb, HD⟩ := hrel
      have hend : (x.k ≤ kk ∨ E ≤ cc) → kidsL L = done := fun hh => by
        rw [HD.out]
        rcases hh with hh | hh
        · rw [show x.k.toNat - kk = 0 by omega]; simp [kidsGo]
        · rw [kidsGo_end (by rw [HE2.out]; omega), List.append_nil]
      have HEND := Lib.hid hend
      clear hend
      have hc2' := cell_keep hb hc2
      by_cases hk : (kk : Int) < x.k
      · by_cases hce : (cc : Int) < E
        · have hcl : cc < m := by omega
          have hcl' : cc < L.length := by rw [← HM.out]; exact hcl
          have hcs := cell_keep hb ((hrd.at_ hcl').2 3 _ rfl)
          have HX := Lib.hid (show L[cc].size < 1 ∨ L[cc].size > (e : Int) - cc → kidsL L = done from fun hh => by rw [HD.out, kidsGo_bad hcl' hh, List.append_nil])
          have hee : E = e := by rw [HE2.out]; omega
          have HX2 := Lib.hid (show ¬ L[cc].size < 1 → ¬ L[cc].size > (e : Int) - cc → kidsL L = done ++ ((L.drop cc).take L[cc].size.toNat) :: kidsGo L e (x.k.toNat - (kk + 1)) (cc + L[cc].size.toNat) from fun h1 h2 => by
            rw [HD.out, show x.k.toNat - kk = (x.k.toNat - (kk + 1)) + 1 by omega, kidsGo_some hcl' (by omega) h1 h2])
          generalize hy : L[cc].size = sz at *
          subst hee
          clear hcl' hy HD HE2
          by_cases hs1 : sz < 1
          · have hk0 := HX.out (.inl hs1)
            clear HX HX2 HEND
            have HK0 := Lib.hid hk0
            clear hk0
            go_wp2_with fail
            go_ret
            rw [HK0.out]
            exact ⟨A', c', vs, rfl, hown, hall.below hb, hb⟩
          · by_cases hs2 : sz > (e : Int) - cc
            · have hk0 := HX.out (.inr hs2)
              clear HX HX2 HEND
              have HK0 := Lib.hid hk0
              clear hk0
              go_wp2_with fail
              go_ret
              rw [HK0.out]
              exact ⟨A', c', vs, rfl, hown, hall.below hb, hb⟩
            · have HX3 := Lib.hid (HX2.out hs1 hs2)
              clear HX HX2 HEND
              obtain ⟨q, rfl⟩ : ∃ q : Nat, sz = q := ⟨sz.toNat, by omega⟩
              simp only [Int.toNat_natCast] at HX3
              obtain ⟨X, hX⟩ : ∃ X, X = (L.drop cc).take q := ⟨_, rfl⟩
              have hcl2 : cc + q ≤ L.length := by rw [← HM.out]; omega
              have hXl : X.length = q := by rw [hX, List.length_take, List.length_drop]; omega
              have HXL := Lib.hid hXl
              rw [← hX] at HX3
              have hsl : SlRd w (.slice (some ⟨b, o + cc * 5, none⟩) q (cp - cc)) X := by
                refine ⟨some ⟨b, o + cc * 5, none⟩, cp - cc, by rw [hXl], ?_, by omega, by unfold maxLen; omega, (fun h => by cases h), trivial⟩
                rw [hX]
                refine RdL.take (RdL.drop hrd cc ?_) q
                exact addr_drop
              have HSL := Lib.hid hsl
              clear hX hXl hsl
              have hlen : done.length + 1 ≤ 4000001 := by omega
              go_wp2_with (at_builtin; refine wpList_push rfl _ _ _ rfl Tryd.underlying26 hi hz0 hz1 hz2 rfl (by decide) hown rfl rfl rfl (by simp [Value.oneCell']) (by omega) (by decide) hb.size ?_; intro A2 c2 w2 hown2 hb2 hoo2)
              go_roundw
              case rel =>
                refine ⟨kk + 1, cc + q, A2, c2, done ++ [X], vs ++ [.slice (some ⟨b, o + cc * 5, none⟩) q (cp - cc)], by go_num, by go_num, by simp, by omega, by omega, by omega, by simp; omega, ?_, hall.snoc HSL.out, hb.trans hb2, ?_⟩
                · simpa using hown2
                · exact Lib.hid (by rw [HX3.out]; simp)
              case measure => simp [intOf]; omega
        · have hk0 := HEND.out (.inr (by omega))
          clear HEND
          have HK0 := Lib.hid hk0
          clear hk0
          go_wp2_with fail
          go_ret
          rw [HK0.out]
          exact ⟨A', c', vs, rfl, hown, hall.below hb, hb⟩
      · have hk0 := HEND.out (.inl (by omega))
        clear HEND
        have HK0 := Lib.hid hk0
        clear hk0
        go_wp2_with fail
        go_ret
        rw [HK0.out]
        exact ⟨A', c', vs, rfl, hown, hall.below hb, hb⟩
end Go.Proofs.YthmeonimianoeaaDoor
