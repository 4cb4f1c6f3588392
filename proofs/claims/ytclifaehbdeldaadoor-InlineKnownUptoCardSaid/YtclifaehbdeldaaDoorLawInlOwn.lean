/- InlineOwn: whatever nodes are handed in, the law answers true. Bounds on the lengths. -/
import Derived.Test.YtclifaehbdeldaaDoorInlF
import Derived.Test.YtclifaehbdeldaaDoorNodesW
import Derived.Test.YtclifaehbdeldaaDoorGD
import Derived.Deep.DeepCutAuto
import Derived.Maps.AppendAt
import Derived.Outline
set_option linter.unusedVariables false
set_option linter.unusedSimpArgs false
namespace Go.Proofs.YtclifaehbdeldaaDoor
open Go.RowKit

/-- A row of its own with something behind its first nodes reads as those. -/
theorem SlRd.cut {w : World} {B n c : Nat} {A : Option Addr} {L M : List Nd} (h : w.ownsRow B 45 5 (.slice A n c) n ((L ++ M).flatMap ndc)) (hn : n = (L ++ M).length) : SlRd w (.slice A L.length c) L := by
  obtain ⟨A', c', he, h1, h2, h3, h4⟩ := RdL.of_own ndc_len h hn
  injection he with he1 _ he3
  subst he1 he3
  have h5 := h3.take L.length
  rw [List.take_left] at h5
  refine ⟨A, c, rfl, h5, ?_, h2, h4, trivial⟩
  rw [hn, List.length_append] at h1
  omega

theorem own_cap {w : World} {base : Nat} {e : TypeId} {sz n c : Nat} {A : Option Addr} {xs : List Value} (h : w.ownsRow base e sz (.slice A n c) n xs) : n ≤ c ∧ c ≤ maxLen := by
  obtain ⟨A', c', he, h1, h2, _⟩ := own_form h
  injection he with _ _ he3
  subst he3
  exact ⟨h1, h2⟩
theorem own_addr {w : World} {base : Nat} {e : TypeId} {sz n c : Nat} {A : Option Addr} {xs : List Value} (h : w.ownsRow base e sz (.slice A n c) n xs) (hn : 0 < n) : ∃ g, A = some ⟨g, 0, none⟩ := by
  rcases h.2 with ⟨he, h0⟩ | ⟨g, cap, cur, he, _⟩
  · omega
  · injection he with he1 _ _
    exact ⟨g, he1⟩
def mark (k : Int) : Nd := ⟨k, 0, 0, 0, []⟩
theorem snoc_flat (L : List Nd) (x : Nd) : (L ++ [x]).flatMap ndc = L.flatMap ndc ++ ndc x := by rw [List.flatMap_append]; simp

set_option maxRecDepth 100000 in
set_option maxHeartbeats 8000000 in
theorem inlown_walk (A : Option Addr) (cp : Nat) (L : List Nd) (aN aT' aM : Addr) (w : World) (hrd : RdL w 5 ndc A L) (hc : L.length ≤ cp) (hm : cp ≤ maxLen) (hA : A = none → cp = 0) (hok : ∀ x ∈ L, NdOk x) (hE : ErrW w aN aT' aM) :
    Calls Tryd.prog 8 #[.slice A L.length cp] w fun e w' => e = .returned (.bool true) ∧ Below w.heap.size w w' := by
  obtain ⟨i0, hi, hz0, hz1, hz2⟩ := info_parts infoNode
  have FA := Lib.hid (first19_any aN aT' aM w hE)
  obtain ⟨m, hml⟩ : ∃ m, m = L.length := ⟨_, rfl⟩
  have hsl : SlRd w (.slice A m cp) L := by rw [hml]; exact ⟨A, cp, rfl, hrd, hc, hm, hA, trivial⟩
  rw [← hml] at hc ⊢
  have HM := Lib.hid hml
  have HOK := Lib.hid hok
  have HA := Lib.hid hA
  clear hml hok hrd hA
  go_enter Tryd.func8, Tryd.ntmps8
  go_wp2_with fail
  refine FA.out.mono ?_
  rintro e w1 ⟨rfl, hb⟩
  replace hsl := hsl.below hb
  replace hE := hE.below hb
  by_cases h120 : 120 < m
  · go_wp2_with fail
    go_ret
    exact ⟨rfl, hb⟩
  have h120' : decide ((120 : Int) < m) = false := decide_eq_false (by omega)
  have NC := Lib.hid (show ∀ v W, SlRd W v L → Calls Tryd.prog 32 #[v] W (VRet L W) from fun v W h => nodes_any v L W h (by rw [← HM.out]; omega))
  have PC := Lib.hid (show ∀ v W, SlRd W v L → ErrW W aN aT' aM → Calls Tryd.prog 33 #[v] W (VRet (ipassL L) W) from fun v W h1 h2 => (ipass_any v L aN aT' aM W (by rw [← HM.out]; omega) HOK.out h1 h2).mono fun _ _ h => h.v)
  go_wp2_with fail
  refine (NC.out _ _ hsl).mono ?_
  rintro e w2 ⟨A2, n2, c2, rfl, ⟨_, _, he, ho2⟩, hb2⟩
  injection he with he1 he2 he3
  subst he1 he2 he3
  rw [← HM.out] at ho2 ⊢
  have hb2' := hb.trans (hb2.mono hb.size)
  go_wp2_with (at_builtin; refine wpList_push rfl _ _ _ rfl Tryd.underlying22 hi hz0 hz1 hz2 rfl (by decide) ho2 rfl rfl rfl (by simp [Value.oneCell']) (by omega) (by decide) hb2.size ?_; intro A3 c3 w3 ho3 hb3 hoo3; have hcap3 := own_cap ho3; have hcap3' : m ≤ c3 := (by omega))
  obtain ⟨g3, rfl⟩ := own_addr ho3 (Nat.succ_pos _)
  have hb3' := hb2'.trans (hb3.mono hb.size)
  clear ho2 hoo3
  have hO3 : w3.ownsRow w1.heap.size 45 5 (.slice (some ⟨g3, 0, none⟩) (m + 1) c3) (m + 1) ((L ++ [mark (-5)]).flatMap ndc) := by rw [snoc_flat]; exact ho3
  have hML : m + 1 = (L ++ [mark (-5)]).length := by rw [List.length_append, ← HM.out]; rfl
  have s3 := SlRd.cut hO3 hML
  rw [← HM.out] at s3
  have HML := Lib.hid hML
  have hbo := hb2.trans hb3
  have hsl3 := hsl.below hbo
  have hE3 := hE.below hbo
  replace hb := hb3'
  clear ho3 hML hb2 hb2' hb3 hb3' hbo hcap3 hsl hE
  refine (PC.out _ _ s3 hE3).mono ?_
  rintro e w4 ⟨A4, n4, c4, rfl, ⟨_, _, he, ho4⟩, hb4⟩
  injection he with he1 he2 he3
  subst he1 he2 he3
  have hRl : (ipassL L).length ≤ m + 1000 := by rw [HM.out]; exact ipassL_len L
  have NR := Lib.hid (show ∀ v W, SlRd W v (ipassL L) → Calls Tryd.prog 32 #[v] W (VRet (ipassL L) W) from fun v W h => nodes_any v _ W h (by omega))
  have SR := Lib.hid (show ∀ va vb W, SlRd W va (ipassL L) → SlRd W vb (ipassL L) → Calls Tryd.prog 34 #[va, vb] W (Ret W (.bool true)) from fun va vb W h1 h2 => by
    have h3 := samenodes_v va vb _ _ W h1 h2 (by omega) (by omega)
    rw [(sameL_iff _ _).2 rfl] at h3
    exact h3)
  have SL := Lib.hid (show ∀ va vb W, SlRd W va L → SlRd W vb L → Calls Tryd.prog 34 #[va, vb] W (Ret W (.bool true)) from fun va vb W h1 h2 => by
    have h3 := samenodes_v va vb _ _ W h1 h2 (by rw [← HM.out]; omega) (by rw [← HM.out]; omega)
    rw [(sameL_iff _ _).2 rfl] at h3
    exact h3)
  generalize ipassL L = R at *
  obtain ⟨r, hr⟩ : ∃ r, r = R.length := ⟨_, rfl⟩
  rw [← hr] at ho4 hRl ⊢
  have HR := Lib.hid hr
  clear hr
  go_wp2_with (at_builtin; refine wpList_push rfl _ _ _ rfl Tryd.underlying22 hi hz0 hz1 hz2 rfl (by decide) ho4 rfl rfl rfl (by simp [Value.oneCell']) (by omega) (by decide) hb4.size ?_; intro A5 c5 w5 ho5 hb5 hoo5; have hcap5 := own_cap ho5; have hcap5' : r ≤ c5 := (by omega))
  obtain ⟨g5, rfl⟩ := own_addr ho5 (Nat.succ_pos _)
  clear ho4 hoo5
  have hO5 : w5.ownsRow w3.heap.size 45 5 (.slice (some ⟨g5, 0, none⟩) (r + 1) c5) (r + 1) ((R ++ [mark 0]).flatMap ndc) := by rw [snoc_flat]; exact ho5
  have s5 := SlRd.cut hO5 (by rw [List.length_append, ← HR.out]; rfl)
  rw [← HR.out] at s5
  have hb35 := hb4.trans hb5
  clear hb4 hb5 ho5
  refine (NR.out _ _ s5).mono ?_
  rintro e w6 ⟨A6, n6, c6, rfl, ⟨_, _, he, ho6⟩, hb6⟩
  injection he with he1 he2 he3
  subst he1 he2 he3
  rw [← HR.out] at ho6 ⊢
  have hO6 := own_below hO5 hb6
  have hg5 : g5 < w5.heap.size := (hO5.lt _ rfl).2
  have hb36 := hb35.trans (hb6.mono hb35.size)
  clear hb35 s5 hO5
  go_wp2_with fail
  go_loopw [7] (fun i wr => ∃ (k : Nat) (xs : List Value), k ≤ r + 1 ∧ i = .int .i64 k ∧ wr.ownsRow w3.heap.size 45 5 (.slice (some ⟨g5, 0, none⟩) (r + 1) c5) (r + 1) xs ∧ w6.grownBy wr (some g5)) (fun i _ => r + 1 - (intOf i).toNat)
  case atStart => exact ⟨0, _, Nat.zero_le _, rfl, hO6, World.grownBy.refl _ _⟩
  case round =>
    obtain ⟨k, xs, hk, rfl, hx, hg⟩ := hrel
    by_cases hlt : k < r + 1
    · have hxl := hx.1
      have c0 := hx.cellAt (k * 5) (by omega)
      have c1 := hx.cellAt (k * 5 + 1) (by omega)
      have c2 := hx.cellAt (k * 5 + 2) (by omega)
      have c3 := hx.cellAt (k * 5 + 3) (by omega)
      have c4 := hx.cellAt (k * 5 + 4) (by omega)
      rw [List.getElem?_eq_getElem (by omega)] at c0 c1 c2 c3 c4
      have f0 := hx.frozenAt (k * 5)
      have f1 := hx.frozenAt (k * 5 + 1)
      have f2 := hx.frozenAt (k * 5 + 2)
      have f3 := hx.frozenAt (k * 5 + 3)
      have f4 := hx.frozenAt (k * 5 + 4)
      have z0 := hx.stored (k * 5) (.int .i64 (-9))
      have z1 := z0.1.stored (k * 5 + 1) (.int .i64 0)
      have z2 := z1.1.stored (k * 5 + 2) (.int .i64 0)
      have z3 := z2.1.stored (k * 5 + 3) (.int .i64 0)
      have z4 := z3.1.stored (k * 5 + 4) (.string { data := #[] })
      have Z := Lib.hid (And.intro z4.1 ((((hg.trans z0.2).trans z1.2).trans z2.2).trans (z3.2.trans z4.2)))
      clear z0 z1 z2 z3 z4
      go_wp2_with fail
      go_roundw
      case rel => exact ⟨k + 1, _, by omega, by go_num, Z.out.1, Z.out.2⟩
      case measure => simp [intOf]; omega
    · obtain rfl : k = r + 1 := by omega
      have hbr := hb36.grown hg (by have := hb36.size; omega) (fun j hj => by cases hj; exact (hx.lt _ rfl).1)
      have hk6 : wr.ownsRow w5.heap.size 45 5 (.slice A6 r c6) r (R.flatMap ndc) := ho6.kept hg (by
        rcases h : (Value.slice A6 r c6).ownBlock with _ | q
        · exact .inl rfl
        · refine .inr fun he => ?_
          have h1 := (ho6.lt q h).1
          injection he with he
          omega)
      have s6 := SlRd.of_own hk6 HR.out
      have s3' := s3.below hbr
      have hsl' := hsl3.below hbr
      have hE' := hE3.below hbr
      have hO3' := own_below hO3 hbr
      have hmk := hO3'.cellAt (m * 5) (by omega)
      have hmk2 : ((L ++ [mark (-5)]).flatMap ndc)[m * 5]? = some (.int .i64 (-5)) := by
        rw [snoc_flat, List.getElem?_append_right (by rw [flat_len ndc_len, ← HM.out]; exact Nat.le_refl _), flat_len ndc_len, ← HM.out, Nat.sub_self]
        rfl
      rw [hmk2] at hmk
      have hbw := hb.trans (hbr.mono (by have := hb.size; omega))
      clear hmk2 hk6 ho6 hO6 hlt hk hx hg hb36 hO3 s3 hsl3 hE3
      go_wp2_with fail
      refine (SL.out _ _ _ s3' hsl').mono ?_
      rintro e w7 ⟨rfl, hb7⟩
      replace hmk := cell_keep hb7 hmk
      replace s3' := s3'.below hb7
      replace hE' := hE'.below hb7
      replace s6 := s6.below hb7
      replace hbw := hbw.trans (hb7.mono hbw.size)
      have hcap7 := own_cap hO3'
      have hcap8 : m + 1 ≤ c3 := hcap7.1
      clear hsl' hb7 hO3' hcap7
      go_wp2_with fail
      refine (PC.out _ _ s3' hE').mono ?_
      rintro e w8 ⟨A8, n8, c8, rfl, o8, hb8⟩
      have s8 := o8.rd
      replace s6 := s6.below hb8
      replace hbw := hbw.trans (hb8.mono hbw.size)
      clear o8 hb8
      go_wp2_with fail
      refine (SR.out _ _ _ s8 s6).mono ?_
      rintro e w9 ⟨rfl, hb9⟩
      replace hbw := hbw.trans (hb9.mono hbw.size)
      go_wp2_with fail
      go_ret
      exact ⟨rfl, hbw⟩

theorem wf_le {n : Int} (h : (Lit.int .i64 n).wf = true) : n ≤ 9223372036854775807 := by
  simp only [Lit.wf, Bool.and_eq_true, decide_eq_true_eq] at h
  have h2 : IntKind.i64.max = 9223372036854775807 := by decide
  rw [h2] at h
  exact h.2
theorem ndok_of {L : List Nd} (hi : ∀ y ∈ L, NdIn y) (hb : ∀ y ∈ L, y.s.length ≤ 1048576) : ∀ y ∈ L, NdOk y := fun y hy => ⟨by have := hb y hy; omega, wf_le (hi y hy).2.2.2.1⟩
theorem inlown_upto (A : Option Addr) (cp : Nat) (L : List Nd) (aN aT' aM : Addr) (w : World) (hrd : RdL w 5 ndc A L) (hc : L.length ≤ cp) (hm : cp ≤ maxLen) (hA : A = none → cp = 0) (hi : ∀ y ∈ L, NdIn y) (hb : L.length ≤ 1048576 ∧ ∀ y ∈ L, y.s.length ≤ 1048576) (hE : ErrW w aN aT' aM) :
    Calls Tryd.prog 8 #[.slice A L.length cp] w fun e w' => e = .returned (.bool true) ∧ Below w.heap.size w w' :=
  inlown_walk A cp L aN aT' aM w hrd hc hm hA (ndok_of hi hb.2) hE
end Go.Proofs.YtclifaehbdeldaaDoor
