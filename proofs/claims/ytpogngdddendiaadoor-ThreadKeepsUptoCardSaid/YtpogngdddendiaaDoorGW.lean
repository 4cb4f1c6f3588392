/- The walks over thread.Cycle and the law's jump. Bounds on the lengths. -/
import Derived.Test.YtpogngdddendiaaDoorGB
import Derived.Test.YtpogngdddendiaaDoorGS
import Derived.Test.YtpogngdddendiaaDoorGY
import Derived.Test.YtpogngdddendiaaDoorGQ
set_option linter.unusedVariables false
set_option linter.unusedSimpArgs false
namespace Go.Proofs.YtpogngdddendiaaDoor
open Go.RowKit

/-- Do jumps lead from cur back to i, in so many steps? -/
def cycG (X : List Ins) (i : Int) : Nat → Int → Bool
  | 0, _ => false
  | f + 1, cur => if cur < 0 ∨ (X.length : Int) ≤ cur then false else match X[cur.toNat]? with
    | some x => if x.op = 18 then (if x.a = i then true else cycG X i f x.a) else false
    | none => false
theorem cycG_out {X : List Ins} {i cur : Int} (h : cur < 0 ∨ (X.length : Int) ≤ cur) : ∀ f, cycG X i f cur = false
  | 0 => rfl
  | f + 1 => by rw [cycG, if_pos h]
theorem cycG_at {X : List Ins} {i : Int} {k : Nat} {x : Ins} (h : X[k]? = some x) (f : Nat) : cycG X i (f + 1) (k : Int) = if x.op = 18 then (if x.a = i then true else cycG X i f x.a) else false := by
  have hk := (List.getElem?_eq_some_iff.1 h).1
  rw [cycG, if_neg (by omega), Int.toNat_natCast, h]
set_option maxRecDepth 100000 in
set_option maxHeartbeats 4000000 in
theorem cycle_any (A : Option Addr) (c : Nat) (st i : Int) (X : List Ins) (w : World) (hrd : RdL w 4 insc A X) (hn : X.length ≤ 9000) :
    Calls Tryd.prog 18 #[.agg #[.slice A X.length c, .int .i64 st], .int .i64 i] w (Ret w (.bool (cycG X i X.length i))) := by
  obtain ⟨m, hm⟩ : ∃ m, X.length = m := ⟨_, rfl⟩
  have HM := Lib.hid hm
  obtain ⟨W0, hW0⟩ : ∃ W0, W0 = w.alloc (.cells #[.slice A m c, .int .i64 st] 29) := ⟨_, rfl⟩
  have hb0 : Below w.heap.size w W0 := by rw [hW0]; exact (Below.refl _ _).alloc (Nat.le_refl _) _
  have HK := Lib.hid (show Blk W0 w.heap.size 29 #[.slice A m c, .int .i64 st] by rw [hW0]; exact Blk.new w _ _)
  have HRD := Lib.hid (hrd.below hb0)
  have HB := Lib.hid hb0
  obtain ⟨R, hR⟩ : ∃ R, cycG X i m i = R := ⟨_, rfl⟩
  have HE := Lib.hid hR
  rw [hm] at hn ⊢
  rw [hR]
  clear hm hrd hb0 hR
  obtain ⟨g1, hg1⟩ : ∃ g1, g1 = w.heap.size := ⟨_, rfl⟩
  have z0 := HK.out.cell 0
  simp only [List.getElem?_toArray, List.getElem?_cons_zero] at z0
  rw [← hg1] at z0
  go_enter Tryd.func18, Tryd.ntmps18
  go_upto_region 1 with (fail)
  rw [← hW0, ← hg1]
  clear hW0 hg1 HK
  go_wp2_with fail
  go_loopw [5, 10] (fun va vk wr => ∃ (k : Nat) (cur : Int), k ≤ m ∧ va = .int .i64 cur ∧ vk = .int .i64 k ∧ Hid (cycG X i (m - k) cur = R) ∧ W0 = wr) (fun _ vk _ => m - (intOf vk).toNat)
  case atStart => exact ⟨0, i, Nat.zero_le _, rfl, rfl, HE, rfl⟩
  case round =>
    clear HE
    obtain ⟨k, cur, hk, rfl, rfl, HE, rfl⟩ := hrel
    by_cases hlt : k < m
    · have HS := Lib.hid (show m - k = (m - (k + 1)) + 1 by omega)
      by_cases h0 : cur < 0
      · have HE2 := Lib.hid (show R = false by rw [← HE.out]; exact cycG_out (.inl h0) _)
        clear HE HS
        go_wp2_with fail
        go_ret
        exact ⟨by rw [HE2.out]; try rfl, HB.out⟩
      · by_cases h1 : (m : Int) ≤ cur
        · have HE2 := Lib.hid (show R = false by rw [← HE.out]; exact cycG_out (.inr (by rw [HM.out]; exact h1)) _)
          clear HE HS
          go_wp2_with fail
          go_ret
          exact ⟨by rw [HE2.out]; try rfl, HB.out⟩
        · obtain ⟨q, rfl⟩ : ∃ q : Nat, cur = q := ⟨cur.toNat, by omega⟩
          have hq : q < m := by omega
          have hqL : q < X.length := by rw [HM.out]; exact hq
          obtain ⟨b, o, rfl, _, hcell⟩ := HRD.out q hqL
          obtain ⟨x, hx⟩ := at_some hqL
          rw [getElem_of? hqL hx] at hcell
          have c0 := hcell 0 _ rfl
          have c1 := hcell 1 _ rfl
          simp only [Nat.add_zero] at c0
          have HCG := Lib.hid (show (if x.op = 18 then (if x.a = i then true else cycG X i (m - (k + 1)) x.a) else false) = R by rw [← HE.out, HS.out]; exact (cycG_at hx _).symm)
          clear hcell hqL hx HE HS h0 h1
          obtain ⟨op, xa, xb, xs⟩ := x
          simp only at c0 c1 HCG
          by_cases h18 : op = 18
          · subst h18
            by_cases hai : xa = i
            · subst hai
              have HE2 := Lib.hid (show R = true by rw [← HCG.out, if_pos rfl, if_pos rfl])
              clear HCG
              go_wp2_with fail
              go_ret
              exact ⟨by rw [HE2.out]; try rfl, HB.out⟩
            · have hai2 : (xa == i) = false := by simp [hai]
              have HE3 := Lib.hid (show cycG X i (m - (k + 1)) xa = R by rw [← HCG.out, if_pos rfl, if_neg hai])
              clear HCG hai
              go_wp2_with fail
              go_roundw
              case rel => exact ⟨k + 1, xa, by omega, rfl, by go_num, HE3, by first | rfl | trivial⟩
              case measure => simp [intOf]; omega
          · have e18 : (op != 18) = true := by simp [h18]
            have HE2 := Lib.hid (show R = false by rw [← HCG.out, if_neg h18])
            clear HCG h18
            go_wp2_with fail
            go_ret
            exact ⟨by rw [HE2.out]; try rfl, HB.out⟩
    · have hkm : m = k := by omega
      subst hkm
      have HE2 := Lib.hid (show R = false by rw [← HE.out, Nat.sub_self]; rfl)
      clear HE hlt hk
      go_wp2_with fail
      go_ret
      exact ⟨by rw [HE2.out]; try rfl, HB.out⟩
/-- Where a place leads, by jumps alone; -1: it is on a cycle. -/
def jumpF (X : List Ins) : Nat → Nat → Int
  | 0, _ => -1
  | f + 1, i => match jmp X i with
    | none => i
    | some a => jumpF X f a
theorem jumpF_cyc {X : List Ins} : ∀ (f i : Nat), Cyc X i → jumpF X f i = -1
  | 0, i, _ => rfl
  | f + 1, i, h => by
    obtain ⟨a, ha, hc, _⟩ := h.jmp
    rw [jumpF, ha]
    exact jumpF_cyc f a hc
set_option maxRecDepth 100000 in
set_option maxHeartbeats 4000000 in
theorem jump24_any (A : Option Addr) (c i : Nat) (st : Int) (X : List Ins) (w : World) (hrd : RdL w 4 insc A X) (hn : X.length ≤ 9000) (hp : PR X) (hi : i < X.length) :
    Calls Tryd.prog 16 #[.agg #[.slice A X.length c, .int .i64 st], .int .i64 (i : Int)] w (Ret w (.int .i64 (jumpF X (X.length + 1) i))) := by
  obtain ⟨m, hm⟩ : ∃ m, X.length = m := ⟨_, rfl⟩
  have HM := Lib.hid hm
  obtain ⟨W0, hW0⟩ : ∃ W0, W0 = w.alloc (.cells #[.slice A m c, .int .i64 st] 29) := ⟨_, rfl⟩
  have hb0 : Below w.heap.size w W0 := by rw [hW0]; exact (Below.refl _ _).alloc (Nat.le_refl _) _
  have HK := Lib.hid (show Blk W0 w.heap.size 29 #[.slice A m c, .int .i64 st] by rw [hW0]; exact Blk.new w _ _)
  have HRD := Lib.hid (hrd.below hb0)
  have HB := Lib.hid hb0
  have HP := Lib.hid hp
  obtain ⟨R, hR⟩ : ∃ R, jumpF X (m + 1) i = R := ⟨_, rfl⟩
  have HE := Lib.hid hR
  have HI := Lib.hid hi
  rw [hm] at hn ⊢
  rw [hR]
  clear hm hrd hb0 hR hp hi
  obtain ⟨g1, hg1⟩ : ∃ g1, g1 = w.heap.size := ⟨_, rfl⟩
  have z0 := HK.out.cell 0
  simp only [List.getElem?_toArray, List.getElem?_cons_zero] at z0
  rw [← hg1] at z0
  go_enter Tryd.func16, Tryd.ntmps16
  go_upto_region 1 with (fail)
  rw [← hW0, ← hg1]
  clear hW0 hg1 HK
  go_wp2_with fail
  go_loopw [1, 5] (fun va vk wr => ∃ (k cur : Nat), k ≤ m + 1 ∧ va = .int .i64 cur ∧ vk = .int .i64 k ∧ Hid (jumpF X (m + 1 - k) cur = R) ∧ Hid (cur < X.length) ∧ W0 = wr) (fun _ vk _ => m + 1 - (intOf vk).toNat)
  case atStart => exact ⟨0, i, Nat.zero_le _, rfl, rfl, HE, HI, rfl⟩
  case round =>
    clear HE HI
    obtain ⟨k, cur, hk, rfl, rfl, HE, HI, rfl⟩ := hrel
    by_cases hlt : k < m + 1
    · have HS := Lib.hid (show m + 1 - k = (m + 1 - (k + 1)) + 1 by omega)
      have hcm : cur < m := by rw [← HM.out]; exact HI.out
      obtain ⟨b, o, rfl, _, hcell⟩ := HRD.out cur HI.out
      obtain ⟨x, hx⟩ := at_some HI.out
      rw [getElem_of? HI.out hx] at hcell
      have c0 := hcell 0 _ rfl
      have c1 := hcell 1 _ rfl
      simp only [Nat.add_zero] at c0
      have HPX := Lib.hid (HP.out x (List.mem_of_getElem? hx)).1
      have HJ := Lib.hid (jmp_of hx)
      clear hcell hx
      by_cases h18 : x.op = 18
      · obtain ⟨a, ha⟩ : ∃ a : Nat, x.a = a := ⟨x.a.toNat, by have := HPX.out (place18 h18); omega⟩
        have HA := Lib.hid (show a < X.length by have := HPX.out (place18 h18); omega)
        have HE3 := Lib.hid (show jumpF X (m + 1 - (k + 1)) a = R by
          rw [← HE.out, HS.out, jumpF, HJ.out, if_pos h18, ha]
          rfl)
        rw [h18] at c0
        rw [ha] at c1
        clear HE HS HJ HPX h18 ha
        go_wp2_with fail
        go_roundw
        case rel => exact ⟨k + 1, a, by omega, rfl, by go_num, HE3, HA, by first | rfl | trivial⟩
        case measure => simp [intOf]; omega
      · have e18 : (x.op != 18) = true := by simp [h18]
        have HE2 := Lib.hid (show R = (cur : Int) by
          rw [← HE.out, HS.out, jumpF, HJ.out, if_neg h18])
        clear HE HS HJ HPX h18
        go_wp2_with fail
        go_ret
        exact ⟨by rw [HE2.out]; try rfl, HB.out⟩
    · have hkm : k = m + 1 := by omega
      subst hkm
      have HE2 := Lib.hid (show R = -1 by rw [← HE.out, Nat.sub_self]; rfl)
      have hlt2 : decide (((m + 1 : Nat) : Int) ≤ (m : Int)) = false := decide_eq_false (by omega)
      clear HE hlt hk
      go_wp2_with fail
      go_ret
      exact ⟨by rw [HE2.out]; try rfl, HB.out⟩
end Go.Proofs.YtpogngdddendiaaDoor

/- The walk over chapter 24's examples. -/
set_option linter.unusedVariables false
set_option linter.unusedSimpArgs false
namespace Go.Proofs.YtpogngdddendiaaDoor
open Go.RowKit

theorem ok_two : okC [ins 18 1, ins 18 2, ins 41 0] := ⟨by decide, by decide, by decide, ⟨ins 41 0, rfl, .inl rfl⟩⟩
theorem ok_ring : okC [ins 18 0] := ⟨by decide, by decide, by decide, ⟨ins 18 0, rfl, .inr (.inr rfl)⟩⟩
theorem rd_lit (w : World) (X : List Ins) : RdL (w.alloc (.cells (X.flatMap insc).toArray 36)) 4 insc (some ⟨w.heap.size, 0, none⟩) X := by
  intro k hk
  refine ⟨w.heap.size, 0, rfl, by rw [show (w.alloc (.cells (X.flatMap insc).toArray 36)).heap.size = w.heap.size + 1 from Array.size_push _]; omega, fun j u hu => ?_⟩
  rw [cell_of_row _ _ _ _ _ (0, 0) (heap_alloc_new w _), Nat.zero_add, List.getElem?_toArray]
  exact flat_at (enc := insc) (sz := 4) (fun _ => rfl) X k hk j u hu
theorem rdI_of {w : World} {base n c : Nat} {A : Option Addr} {L : List Ins} (h : w.ownsRow base 36 4 (.slice A n c) n (L.flatMap insc)) (hn : n = L.length) : RdL w 4 insc A L := by
  obtain ⟨A', c', h1, _, _, h2, _⟩ := RdL.of_own (enc := insc) (sz := 4) (fun _ => rfl) h hn
  injection h1 with h1 _ _
  subst h1
  exact h2
set_option maxRecDepth 100000 in
set_option maxHeartbeats 4000000 in
theorem first24_any (w : World) : Calls Tryd.prog 8 #[] w (Ret w (.bool true)) := by
  obtain ⟨W1, hW1⟩ : ∃ W1, W1 = w.alloc (.cells #[.int .i64 18, .int .i64 1, .int .i64 0, .string ⟨#[]⟩, .int .i64 18, .int .i64 2, .int .i64 0, .string ⟨#[]⟩, .int .i64 41, .int .i64 0, .int .i64 0, .string ⟨#[]⟩] 36) := ⟨_, rfl⟩
  have HB1 := Lib.hid (show Below w.heap.size w W1 by rw [hW1]; exact (Below.refl _ _).alloc (Nat.le_refl _) _)
  have hr1 : RdL W1 4 insc (some ⟨w.heap.size, 0, none⟩) [ins 18 1, ins 18 2, ins 41 0] := by rw [hW1]; exact rd_lit w [ins 18 1, ins 18 2, ins 41 0]
  have HP1 := Lib.hid (pass_any w.heap.size 0 3 [ins 18 1, ins 18 2, ins 41 0] 0 W1 hr1 ok_two (by decide))
  clear hr1
  go_enter Tryd.func8, Tryd.ntmps8
  go_wp2_with fail
  rw [← hW1]
  refine HP1.out.mono ?_
  rintro e w2 ⟨gc, cc, Y, rfl, ho2, hpt2, hb2⟩
  obtain rfl : [ins 41 0] = Y := pass_two.uniq hpt2
  have HB2 := Lib.hid (HB1.out.trans (hb2.mono HB1.out.size))
  have HC2 := Lib.hid (rdI_of ho2 rfl)
  rw [show ([ins 41 0] : List Ins).length = 1 from rfl, show ((0 : Nat) : Int) = 0 from rfl]
  clear hW1 HP1 HB1 hb2 hpt2 ho2 W1
  go_upto_region 2 with (fail)
  obtain ⟨W3, hW3⟩ : ∃ W3, W3 = w2.alloc (.cells #[.slice (some ⟨gc, 0, none⟩) 1 cc, .int .i64 0] 29) := ⟨_, rfl⟩
  have hb3 : Below w2.heap.size w2 W3 := by rw [hW3]; exact (Below.refl _ _).alloc (Nat.le_refl _) _
  have HK3 := Lib.hid (show Blk W3 w2.heap.size 29 #[.slice (some ⟨gc, 0, none⟩) 1 cc, .int .i64 0] by rw [hW3]; exact Blk.new w2 _ _)
  have HC3 := Lib.hid (HC2.out.below hb3)
  have HB3 := Lib.hid (HB2.out.trans (hb3.mono HB2.out.size))
  rw [← hW3]
  clear hW3 hb3 HC2 HB2
  generalize w2.heap.size = t1 at *
  obtain ⟨W4, hW4⟩ : ∃ W4, W4 = W3.alloc (.cells #[.int .i64 18, .int .i64 0, .int .i64 0, .string ⟨#[]⟩] 36) := ⟨_, rfl⟩
  have hb4 : Below W3.heap.size W3 W4 := by rw [hW4]; exact (Below.refl _ _).alloc (Nat.le_refl _) _
  have hr4 : RdL W4 4 insc (some ⟨W3.heap.size, 0, none⟩) [ins 18 0] := by rw [hW4]; exact rd_lit W3 [ins 18 0]
  have HP4 := Lib.hid (pass_any W3.heap.size 0 1 [ins 18 0] 0 W4 hr4 ok_ring (by decide))
  have HK4 := Lib.hid (HK3.out.below hb4)
  have HC4 := Lib.hid (HC3.out.below hb4)
  have HB4 := Lib.hid (HB3.out.trans (hb4.mono HB3.out.size))
  clear hr4 hb4 HK3 HC3 HB3
  go_wp2_with fail
  rw [← hW4]
  refine HP4.out.mono ?_
  rintro e w5 ⟨gd, cd, Y, rfl, ho5, hpt5, hb5⟩
  obtain rfl : [ins 18 0] = Y := pass_ring.uniq hpt5
  have HD5 := Lib.hid (rdI_of ho5 rfl)
  have HK5 := Lib.hid (HK4.out.below hb5)
  have HC5 := Lib.hid (HC4.out.below hb5)
  have HB5 := Lib.hid (HB4.out.trans (hb5.mono HB4.out.size))
  rw [show ([ins 18 0] : List Ins).length = 1 from rfl, show ((0 : Nat) : Int) = 0 from rfl]
  clear hW4 HP4 HB4 hb5 hpt5 ho5 HK4 HC4 W4
  go_upto_region 3 with (fail)
  obtain ⟨W6, hW6⟩ : ∃ W6, W6 = w5.alloc (.cells #[.slice (some ⟨gd, 0, none⟩) 1 cd, .int .i64 0] 29) := ⟨_, rfl⟩
  have hb6 : Below w5.heap.size w5 W6 := by rw [hW6]; exact (Below.refl _ _).alloc (Nat.le_refl _) _
  have HL6 := Lib.hid (show Blk W6 w5.heap.size 29 #[.slice (some ⟨gd, 0, none⟩) 1 cd, .int .i64 0] by rw [hW6]; exact Blk.new w5 _ _)
  have HD6 := Lib.hid (HD5.out.below hb6)
  have HK6 := Lib.hid (HK5.out.below hb6)
  have HC6 := Lib.hid (HC5.out.below hb6)
  have HB6 := Lib.hid (HB5.out.trans (hb6.mono HB5.out.size))
  rw [← hW6]
  clear hW6 hb6 HD5 HK5 HC5 HB5
  generalize w5.heap.size = t2 at *
  have k0 := HK6.out.cell 0
  have l0 := HL6.out.cell 0
  have l1 := HL6.out.cell 1
  simp only [List.getElem?_toArray, List.getElem?_cons_zero, List.getElem?_cons_succ] at k0 l0 l1
  have c0 : W6.cell? ⟨gc, 0, none⟩ = some (.int .i64 41) := by
    have := (HC6.out.at_ (k := 0) (by decide)).2 0 _ rfl
    simpa [ins] using this
  have d0 : W6.cell? ⟨gd, 0, none⟩ = some (.int .i64 18) := by
    have := (HD6.out.at_ (k := 0) (by decide)).2 0 _ rfl
    simpa [ins] using this
  have HY1 := Lib.hid (cycle_any (some ⟨gd, 0, none⟩) cd 0 0 [ins 18 0] W6 HD6.out (by decide))
  rw [show cycG [ins 18 0] 0 [ins 18 0].length 0 = true from rfl, show ([ins 18 0] : List Ins).length = 1 from rfl] at HY1
  go_wp2_with fail
  refine HY1.out.mono ?_
  rintro e w7 ⟨rfl, hb7⟩
  have HB7 := Lib.hid (HB6.out.trans (hb7.mono HB6.out.size))
  have HY2 := Lib.hid (cycle_any (some ⟨gc, 0, none⟩) cc 0 0 [ins 41 0] w7 (HC6.out.below hb7) (by decide))
  rw [show cycG [ins 41 0] 0 [ins 41 0].length 0 = false from rfl, show ([ins 41 0] : List Ins).length = 1 from rfl] at HY2
  have HK7 := Lib.hid (HK6.out.below hb7)
  clear k0 l0 l1 c0 d0 HY1 hb7 HB6 HK6
  have k0 := HK7.out.cell 0
  have k1 := HK7.out.cell 1
  simp only [List.getElem?_toArray, List.getElem?_cons_zero, List.getElem?_cons_succ] at k0 k1
  go_wp2_with fail
  refine HY2.out.mono ?_
  rintro e w8 ⟨rfl, hb8⟩
  have HB8 := Lib.hid (HB7.out.trans (hb8.mono HB7.out.size))
  clear hb8
  go_wp2_with fail
  go_ret
  exact ⟨rfl, HB8.out⟩
end Go.Proofs.YtpogngdddendiaaDoor
