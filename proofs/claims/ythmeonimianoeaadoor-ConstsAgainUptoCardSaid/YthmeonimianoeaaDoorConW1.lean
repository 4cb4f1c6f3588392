/- The walks over consts.lit, consts.single, consts.none, consts.one. Bounds on the lengths. -/
import Derived.Test.YthmeonimianoeaaDoorConB
import Derived.Test.YthmeonimianoeaaDoorCoreW4
import Derived.Outline
set_option linter.unusedVariables false
set_option linter.unusedSimpArgs false
namespace Go.Proofs.YthmeonimianoeaaDoor
open Go.RowKit

theorem clit_v (A : Option Addr) (n c : Nat) (t : Tr) (w : World) (hv : SlRd w (.slice A n c) (flat t)) : Calls Tryd.prog 101 #[.slice A n c] w fun e w' => e = .returned (.bool (isLit t)) ∧ w' = w := by
  obtain ⟨b, o, rfl, h0, -, -, -, c0, -, -, -, -⟩ := head_cells hv
  clear hv
  go_enter Tryd.func101, Tryd.ntmps101
  go_wp2_with fail
  go_ret
  exact ⟨rfl, rfl⟩
theorem csingle_v (A : Option Addr) (n c : Nat) (t : Tr) (w : World) (hv : SlRd w (.slice A n c) (flat t)) : Calls Tryd.prog 102 #[.slice A n c] w (Ret w (.bool (singleB t))) := by
  obtain ⟨b, o, rfl, h0, -, -, -, c0, -, -, -, -⟩ := head_cells hv
  clear hv
  obtain ⟨W0, hW0⟩ : ∃ W0, W0 = w.alloc (.cells #[.int .i64 1, .int .i64 9, .int .i64 10, .int .i64 12] 3) := ⟨_, rfl⟩
  have hb0 : Below w.heap.size w W0 := by rw [hW0]; exact (Below.refl _ _).alloc (Nat.le_refl _) _
  have HC := Lib.hid (contains_any (some ⟨w.heap.size, 0, none⟩) 4 [1, 9, 10, 12] t.kind W0 (by rw [hW0]; exact ints_lit w [1, 9, 10, 12]) (by decide))
  have d0 := cell_keep hb0 c0
  rw [hW0] at d0
  have HS := Lib.hid (show ([1, 9, 10, 12] : List Int).contains t.kind = singleB t from rfl)
  rw [HS.out] at HC
  clear HS
  generalize singleB t = q at *
  go_enter Tryd.func102, Tryd.ntmps102
  go_wp2_with fail
  rw [← hW0]
  clear hW0
  refine HC.out.mono ?_
  rintro e w1 ⟨rfl, rfl⟩
  go_wp2_with fail
  go_ret
  exact ⟨rfl, hb0⟩
theorem cnone_any (w : World) : Calls Tryd.prog 104 #[] w (VRet (flat noneT) w) := by
  go_enter Tryd.func104, Tryd.ntmps104
  go_wp2_with fail
  refine (newT_any 3 0 [] none 0 0 [] w (KdRd.nil _ _) rfl (of_decide_eq_true (by kernel_rfl))).mono ?_
  rintro e w4 ⟨A4, n4, c4, rfl, o4, hb4⟩
  have O4 := Lib.hid o4
  clear o4
  go_wp2_with fail
  go_ret
  exact ⟨A4, n4, c4, rfl, O4.out, hb4⟩

set_option maxHeartbeats 2000000 in
theorem cone_any (B : Nat) (x kid : Tr) (A Ak : Option Addr) (n c nk ck : Nat) (w : World) (hB : B ≤ w.heap.size) (hk : x.kind = 9 ∨ x.kind = 10 ∨ x.kind = 11) (hx : OwnNd w B (.slice A n c) (flat x)) (hkid : OwnNd w B (.slice Ak nk ck) (flat kid)) :
    Calls Tryd.prog 77 #[.slice A n c, .slice Ak nk ck] w (OwnRet B (flat (oneK x kid)) w) := by
  obtain ⟨b, o, rfl, h0, -, -, -, c0, c1, -, -, -⟩ := head_cells hx.rd
  have HX := Lib.hid hx
  have HK := Lib.hid hkid
  have SC := Lib.hid (csingle_v Ak nk ck kid w hkid.rd)
  have LC := Lib.hid (fun W (hb : Below w.heap.size w W) => clit_v Ak nk ck kid W (hkid.below hb).rd)
  have HE := Lib.hid (show oneK x kid = if x.kind == 9 && singleB kid then kid else if x.kind == 11 && x.num == 1 && singleB kid then kid else if x.kind == 10 && isLit kid then .mk 1 0 [49] [] else if x.kind == 11 && isLit kid then noneT else x from rfl)
  obtain ⟨q, hq⟩ : ∃ q, singleB kid = q := ⟨_, rfl⟩
  obtain ⟨l, hl⟩ : ∃ l, isLit kid = l := ⟨_, rfl⟩
  obtain ⟨z, hz⟩ : ∃ z, (x.num == 1) = z := ⟨_, rfl⟩
  rw [hq] at SC HE
  rw [hl] at LC HE
  rw [hz] at HE
  have hlq : l = true → q = true := fun h => by
    rw [← hq]
    rw [h] at hl
    have : kid.kind = 1 := by simpa [isLit] using hl
    simp [singleB, this]
  clear hx hkid hq hl
  obtain ⟨kd, hkd⟩ : ∃ kd, x.kind = kd := ⟨_, rfl⟩
  rw [hkd] at hk c0 HE
  clear hkd
  rcases hk with rfl | rfl | rfl
  · cases q
    · cases l
      · go_enter Tryd.func77, Tryd.ntmps77
        go_wp2_with fail
        refine SC.out.mono ?_
        rintro e w1 ⟨rfl, hb1⟩
        have d0 := cell_keep hb1 c0
        go_wp2_with fail
        go_ret
        exact ⟨_, _, _, rfl, by rw [HE.out]; exact HX.out.below hb1, hb1⟩
      · exact absurd (hlq rfl) (by decide)
    · go_enter Tryd.func77, Tryd.ntmps77
      go_wp2_with fail
      refine SC.out.mono ?_
      rintro e w1 ⟨rfl, hb1⟩
      go_wp2_with fail
      go_ret
      exact ⟨_, _, _, rfl, by rw [HE.out]; exact HK.out.below hb1, hb1⟩
  · cases l
    · go_enter Tryd.func77, Tryd.ntmps77
      go_wp2_with fail
      refine (LC.out _ (Below.refl _ _)).mono ?_
      rintro e w1 ⟨rfl, rfl⟩
      go_wp2_with fail
      go_ret
      exact ⟨_, _, _, rfl, by rw [HE.out]; exact HX.out, Below.refl _ _⟩
    · go_enter Tryd.func77, Tryd.ntmps77
      go_wp2_with fail
      refine (LC.out _ (Below.refl _ _)).mono ?_
      rintro e w1 ⟨rfl, rfl⟩
      go_wp2_with fail
      refine (litT_any [49] _).mono ?_
      rintro e w2 ⟨A2, n2, c2, rfl, o2, hb2⟩
      have O2 := Lib.hid o2
      clear o2
      go_wp2_with fail
      go_ret
      exact ⟨_, _, _, rfl, by rw [HE.out]; exact O2.out.mono hB, hb2⟩
  · cases z
    · cases l
      · go_enter Tryd.func77, Tryd.ntmps77
        go_wp2_with fail
        refine (LC.out _ (Below.refl _ _)).mono ?_
        rintro e w1 ⟨rfl, rfl⟩
        go_wp2_with fail
        go_ret
        exact ⟨_, _, _, rfl, by rw [HE.out]; exact HX.out, Below.refl _ _⟩
      · go_enter Tryd.func77, Tryd.ntmps77
        go_wp2_with fail
        refine (LC.out _ (Below.refl _ _)).mono ?_
        rintro e w1 ⟨rfl, rfl⟩
        go_wp2_with fail
        refine (cnone_any _).mono ?_
        rintro e w2 ⟨A2, n2, c2, rfl, o2, hb2⟩
        have O2 := Lib.hid o2
        clear o2
        go_wp2_with fail
        go_ret
        exact ⟨_, _, _, rfl, by rw [HE.out]; exact O2.out.mono hB, hb2⟩
    · cases q
      · cases l
        · go_enter Tryd.func77, Tryd.ntmps77
          go_wp2_with fail
          refine SC.out.mono ?_
          rintro e w1 ⟨rfl, hb1⟩
          have d0 := cell_keep hb1 c0
          go_wp2_with fail
          refine (LC.out _ hb1).mono ?_
          rintro e w2 ⟨rfl, rfl⟩
          go_wp2_with fail
          go_ret
          exact ⟨_, _, _, rfl, by rw [HE.out]; exact HX.out.below hb1, hb1⟩
        · exact absurd (hlq rfl) (by decide)
      · go_enter Tryd.func77, Tryd.ntmps77
        go_wp2_with fail
        refine SC.out.mono ?_
        rintro e w1 ⟨rfl, hb1⟩
        go_wp2_with fail
        go_ret
        exact ⟨_, _, _, rfl, by rw [HE.out]; exact HK.out.below hb1, hb1⟩
end Go.Proofs.YthmeonimianoeaaDoor
