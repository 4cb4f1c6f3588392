/- Chapter 17: what its walks share: rows of trees of the call's own, the cells at a tree's head. No condition. -/
import Derived.Test.YtpogngdddendiaaDoorHG
import Derived.Test.YtpogngdddendiaaDoorConL
import Derived.Test.YtpogngdddendiaaDoorHD
import Derived.Outline
set_option linter.unusedVariables false
set_option linter.unusedSimpArgs false
namespace Go.Proofs.YtpogngdddendiaaDoor
open Go.RowKit

/-- A row of slices, all from base B on. -/
def KdO (w : World) (B : Nat) (A : Option Addr) (ls : List (List Nd)) : Prop := ∃ vs, RdL w 1 one1 A vs ∧ OwnAll w B vs ls
theorem KdO.kd {w : World} {B : Nat} {A : Option Addr} {ls : List (List Nd)} (h : KdO w B A ls) : KdRd w A ls := let ⟨vs, h1, h2⟩ := h; ⟨vs, h1, h2.rd⟩
theorem KdO.below {w w' : World} {B : Nat} {A : Option Addr} {ls : List (List Nd)} (h : KdO w B A ls) (hb : Below w.heap.size w w') : KdO w' B A ls := let ⟨vs, h1, h2⟩ := h; ⟨vs, h1.below hb, h2.below hb⟩
theorem KdO.mono {w : World} {B B' : Nat} {A : Option Addr} {ls : List (List Nd)} (h : KdO w B A ls) (hb : B' ≤ B) : KdO w B' A ls := let ⟨vs, h1, h2⟩ := h; ⟨vs, h1, h2.mono hb⟩
theorem KdO.of_own {w : World} {base B n c : Nat} {A : Option Addr} {vs : List Value} {ls : List (List Nd)} (h : w.ownsRow base 22 1 (.slice A n c) n vs) (hn : n = ls.length) (ho : OwnAll w B vs ls) : KdO w B A ls := by
  obtain ⟨h1, _, _⟩ := rd_one h (by rw [ho.1]; exact hn)
  exact ⟨vs, h1, ho⟩
theorem KdO.at_ {w : World} {B : Nat} {A : Option Addr} {ls : List (List Nd)} (h : KdO w B A ls) {k : Nat} (hk : k < ls.length) :
    ∃ b o n c Ak, A = some ⟨b, o, none⟩ ∧ b < w.heap.size ∧ w.cell? ⟨b, o + k, none⟩ = some (.slice Ak n c) ∧ OwnNd w B (.slice Ak n c) ls[k] := by
  obtain ⟨vs, h1, h2⟩ := h
  have hkv : k < vs.length := by rw [h2.1]; exact hk
  obtain ⟨b, o, hA, hb, hc⟩ := h1 k hkv
  have hc0 := hc 0 _ rfl
  have ho := h2.2 k hk vs[k] (List.getElem?_eq_getElem hkv)
  obtain ⟨Ak, c, he, _⟩ := own_form ho
  rw [he] at hc0 ho
  refine ⟨b, o, _, c, Ak, hA, hb, by simpa using hc0, Ak, c, rfl, ho⟩
theorem OwnNd.own' {x : World} {B n c : Nat} {A : Option Addr} {L : List Nd} (h : OwnNd x B (.slice A n c) L) : x.ownsRow B 98 5 (.slice A n c) L.length (L.flatMap ndc) := by
  obtain ⟨A', c', he, h2⟩ := h
  rw [he]; exact h2
/-- A slice of nodes from base B on comes back. -/
def OwnRet (B : Nat) (L : List Nd) (w : World) (e : Ending) (w' : World) : Prop := ∃ A n c, e = .returned (.slice A n c) ∧ OwnNd w' B (.slice A n c) L ∧ Below w.heap.size w w'
theorem VRet.o {B : Nat} {L : List Nd} {w : World} {e : Ending} {w' : World} (h : VRet L w e w') (hB : B ≤ w.heap.size) : OwnRet B L w e w' := by
  obtain ⟨A, n, c, h1, h2, h3⟩ := h
  exact ⟨A, n, c, h1, h2.mono hB, h3⟩
theorem OwnRet.of {B : Nat} {L : List Nd} {w w0 : World} {e : Ending} {w' : World} (h : OwnRet B L w e w') (hb : Below w0.heap.size w0 w) : OwnRet B L w0 e w' := by
  obtain ⟨A, n, c, h1, h2, h3⟩ := h
  exact ⟨A, n, c, h1, h2, hb.trans (h3.mono hb.size)⟩
/-- The cells at a tree's head. -/
theorem head_cells {w : World} {A : Option Addr} {n c : Nat} {t : Tr} (h : SlRd w (.slice A n c) (flat t)) : ∃ b o, A = some ⟨b, o, none⟩ ∧ 0 < n ∧ n = (flat t).length ∧ n ≤ c ∧ c ≤ maxLen ∧ w.cell? ⟨b, o, none⟩ = some (.int .i64 t.kind) ∧ w.cell? ⟨b, o + 1, none⟩ = some (.int .i64 t.num) ∧ w.cell? ⟨b, o + 2, none⟩ = some (.int .i64 t.kids.length) ∧ w.cell? ⟨b, o + 3, none⟩ = some (.int .i64 (flat t).length) ∧ w.cell? ⟨b, o + 4, none⟩ = some (.string ⟨t.str.toArray⟩) := by
  obtain ⟨A', c', he, hrd, hc, hm, _⟩ := h
  injection he with h1 h2 h3
  subst h1 h2 h3
  have hp := flat_pos t
  obtain ⟨b, o, rfl, _⟩ := hrd.addr hp
  have hx := hrd.at_ hp
  rw [flat_get0] at hx
  have c0 := hx.2 0 _ rfl
  have c1 := hx.2 1 _ rfl
  have c2 := hx.2 2 _ rfl
  have c3 := hx.2 3 _ rfl
  have c4 := hx.2 4 _ rfl
  simp only [Nat.zero_mul, Nat.add_zero] at c0 c1 c2 c3 c4
  exact ⟨b, o, rfl, hp, rfl, hc, hm, c0, c1, c2, c3, c4⟩
/-- A row of ints that has just been laid. -/
theorem ints_lit (w : World) (l : List Int) : RdL (w.alloc (.cells (l.map fun n => Value.int .i64 n).toArray 3)) 1 intc (some ⟨w.heap.size, 0, none⟩) l := by
  intro k hk
  refine ⟨w.heap.size, 0, rfl, by simp, fun j u hu => ?_⟩
  have hj : j = 0 := by
    have := (List.getElem?_eq_some_iff.1 hu).1
    simp [intc] at this
    exact this
  subst hj
  rw [cell_of_row _ _ _ _ _ _ (heap_alloc_new w _)]
  simp only [intc, List.getElem?_cons_zero, Option.some.injEq] at hu
  rw [← hu]
  simp [hk]
end Go.Proofs.YtpogngdddendiaaDoor

/- The walks over consts.lit, consts.single, consts.none, consts.one. Bounds on the lengths. -/
set_option linter.unusedVariables false
set_option linter.unusedSimpArgs false
namespace Go.Proofs.YtpogngdddendiaaDoor
open Go.RowKit

theorem clit_v (A : Option Addr) (n c : Nat) (t : Tr) (w : World) (hv : SlRd w (.slice A n c) (flat t)) : Calls Tryd.prog 146 #[.slice A n c] w fun e w' => e = .returned (.bool (isLit t)) ∧ w' = w := by
  obtain ⟨b, o, rfl, h0, -, -, -, c0, -, -, -, -⟩ := head_cells hv
  clear hv
  go_enter Tryd.func146, Tryd.ntmps146
  go_wp2_with fail
  go_ret
  exact ⟨rfl, rfl⟩
theorem csingle_v (A : Option Addr) (n c : Nat) (t : Tr) (w : World) (hv : SlRd w (.slice A n c) (flat t)) : Calls Tryd.prog 147 #[.slice A n c] w (Ret w (.bool (singleB t))) := by
  obtain ⟨b, o, rfl, h0, -, -, -, c0, -, -, -, -⟩ := head_cells hv
  clear hv
  obtain ⟨W0, hW0⟩ : ∃ W0, W0 = w.alloc (.cells #[.int .i64 1, .int .i64 9, .int .i64 10, .int .i64 12] 3) := ⟨_, rfl⟩
  have hb0 : Below w.heap.size w W0 := by rw [hW0]; exact (Below.refl _ _).alloc (Nat.le_refl _) _
  have HC := Lib.hid (contains_any (some ⟨w.heap.size, 0, none⟩) 4 [1, 9, 10, 12] t.kind W0 (by rw [hW0]; exact ints_lit w [1, 9, 10, 12]) (by decide))
  have d0 := cell_keep hb0 c0
  rw [hW0] at d0
  have HS := Lib.hid (show ([1, 9, 10, 12] : List Int).contains t.kind = singleB t from rfl)
  rw [HS.out] at HC
  clear HS
  generalize singleB t = q at *
  go_enter Tryd.func147, Tryd.ntmps147
  go_wp2_with fail
  rw [← hW0]
  clear hW0
  refine HC.out.mono ?_
  rintro e w1 ⟨rfl, rfl⟩
  go_wp2_with fail
  go_ret
  exact ⟨rfl, hb0⟩
theorem cnone_any (w : World) : Calls Tryd.prog 149 #[] w (VRet (flat noneT) w) := by
  go_enter Tryd.func149, Tryd.ntmps149
  go_wp2_with fail
  refine (newT_any 3 0 [] none 0 0 [] w (KdRd.nil _ _) rfl (of_decide_eq_true (by kernel_rfl))).mono ?_
  rintro e w4 ⟨A4, n4, c4, rfl, o4, hb4⟩
  have O4 := Lib.hid o4
  clear o4
  go_wp2_with fail
  go_ret
  exact ⟨A4, n4, c4, rfl, O4.out, hb4⟩

set_option maxHeartbeats 2000000 in
theorem cone_any (B : Nat) (x kid : Tr) (A Ak : Option Addr) (n c nk ck : Nat) (w : World) (hB : B ≤ w.heap.size) (hk : x.kind = 9 ∨ x.kind = 10 ∨ x.kind = 11) (hx : OwnNd w B (.slice A n c) (flat x)) (hkid : OwnNd w B (.slice Ak nk ck) (flat kid)) :
    Calls Tryd.prog 133 #[.slice A n c, .slice Ak nk ck] w (OwnRet B (flat (oneK x kid)) w) := by
  obtain ⟨b, o, rfl, h0, -, -, -, c0, c1, -, -, -⟩ := head_cells hx.rd
  have HX := Lib.hid hx
  have HK := Lib.hid hkid
  have SC := Lib.hid (csingle_v Ak nk ck kid w hkid.rd)
  have LC := Lib.hid (fun W (hb : Below w.heap.size w W) => clit_v Ak nk ck kid W (hkid.below hb).rd)
  have HE := Lib.hid (show oneK x kid = if x.kind == 9 && singleB kid then kid else if x.kind == 11 && x.num == 1 && singleB kid then kid else if x.kind == 10 && isLit kid then .mk 1 0 [49] [] else if x.kind == 11 && isLit kid then noneT else x from rfl)
  obtain ⟨q, hq⟩ : ∃ q, singleB kid = q := ⟨_, rfl⟩
  obtain ⟨l, hl⟩ : ∃ l, isLit kid = l := ⟨_, rfl⟩
  obtain ⟨z, hz⟩ : ∃ z, (x.num == 1) = z := ⟨_, rfl⟩
  rw [hq] at SC HE
  rw [hl] at LC HE
  rw [hz] at HE
  have hlq : l = true → q = true := fun h => by
    rw [← hq]
    rw [h] at hl
    have : kid.kind = 1 := by simpa [isLit] using hl
    simp [singleB, this]
  clear hx hkid hq hl
  obtain ⟨kd, hkd⟩ : ∃ kd, x.kind = kd := ⟨_, rfl⟩
  rw [hkd] at hk c0 HE
  clear hkd
  rcases hk with rfl | rfl | rfl
  · cases q
    · cases l
      · go_enter Tryd.func133, Tryd.ntmps133
        go_wp2_with fail
        refine SC.out.mono ?_
        rintro e w1 ⟨rfl, hb1⟩
        have d0 := cell_keep hb1 c0
        go_wp2_with fail
        go_ret
        exact ⟨_, _, _, rfl, by rw [HE.out]; exact HX.out.below hb1, hb1⟩
      · exact absurd (hlq rfl) (by decide)
    · go_enter Tryd.func133, Tryd.ntmps133
      go_wp2_with fail
      refine SC.out.mono ?_
      rintro e w1 ⟨rfl, hb1⟩
      go_wp2_with fail
      go_ret
      exact ⟨_, _, _, rfl, by rw [HE.out]; exact HK.out.below hb1, hb1⟩
  · cases l
    · go_enter Tryd.func133, Tryd.ntmps133
      go_wp2_with fail
      refine (LC.out _ (Below.refl _ _)).mono ?_
      rintro e w1 ⟨rfl, rfl⟩
      go_wp2_with fail
      go_ret
      exact ⟨_, _, _, rfl, by rw [HE.out]; exact HX.out, Below.refl _ _⟩
    · go_enter Tryd.func133, Tryd.ntmps133
      go_wp2_with fail
      refine (LC.out _ (Below.refl _ _)).mono ?_
      rintro e w1 ⟨rfl, rfl⟩
      go_wp2_with fail
      refine (litT_any [49] _).mono ?_
      rintro e w2 ⟨A2, n2, c2, rfl, o2, hb2⟩
      have O2 := Lib.hid o2
      clear o2
      go_wp2_with fail
      go_ret
      exact ⟨_, _, _, rfl, by rw [HE.out]; exact O2.out.mono hB, hb2⟩
  · cases z
    · cases l
      · go_enter Tryd.func133, Tryd.ntmps133
        go_wp2_with fail
        refine (LC.out _ (Below.refl _ _)).mono ?_
        rintro e w1 ⟨rfl, rfl⟩
        go_wp2_with fail
        go_ret
        exact ⟨_, _, _, rfl, by rw [HE.out]; exact HX.out, Below.refl _ _⟩
      · go_enter Tryd.func133, Tryd.ntmps133
        go_wp2_with fail
        refine (LC.out _ (Below.refl _ _)).mono ?_
        rintro e w1 ⟨rfl, rfl⟩
        go_wp2_with fail
        refine (cnone_any _).mono ?_
        rintro e w2 ⟨A2, n2, c2, rfl, o2, hb2⟩
        have O2 := Lib.hid o2
        clear o2
        go_wp2_with fail
        go_ret
        exact ⟨_, _, _, rfl, by rw [HE.out]; exact O2.out.mono hB, hb2⟩
    · cases q
      · cases l
        · go_enter Tryd.func133, Tryd.ntmps133
          go_wp2_with fail
          refine SC.out.mono ?_
          rintro e w1 ⟨rfl, hb1⟩
          have d0 := cell_keep hb1 c0
          go_wp2_with fail
          refine (LC.out _ hb1).mono ?_
          rintro e w2 ⟨rfl, rfl⟩
          go_wp2_with fail
          go_ret
          exact ⟨_, _, _, rfl, by rw [HE.out]; exact HX.out.below hb1, hb1⟩
        · exact absurd (hlq rfl) (by decide)
      · go_enter Tryd.func133, Tryd.ntmps133
        go_wp2_with fail
        refine SC.out.mono ?_
        rintro e w1 ⟨rfl, hb1⟩
        go_wp2_with fail
        go_ret
        exact ⟨_, _, _, rfl, by rw [HE.out]; exact HK.out.below hb1, hb1⟩
end Go.Proofs.YtpogngdddendiaaDoor
