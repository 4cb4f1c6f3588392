/- The walk over BuiltinTests: for every list of texts the law returns true. The library's table and bound are hypotheses. -/
import Derived.Test.YtlhpflilpdceiaaDoorBuiltW5
import Derived.Test.YtlhpflilpdceiaaDoorLater
import Derived.Test.YtlhpflilpdceiaaDoorRel
set_option linter.unusedVariables false
set_option linter.unusedSimpArgs false
namespace Go.Proofs.YtlhpflilpdceiaaDoor
open Go.RowKit

set_option maxRecDepth 100000 in
set_option maxHeartbeats 8000000 in
theorem btests_card (A : Option Addr) (c : Nat) (L : List (List UInt8)) (m0 : Int) (w : World) (hrd : RdL w 1 strc A L) (hc : L.length ≤ c) (hl : LibW w m0) :
    Calls Tryd.prog 9 #[.slice A L.length c] w (Ret w (.bool true)) := by
  have HF := Lib.hid (first8_any m0 w hl)
  have HRD := Lib.hid (fun (W : World) (hW : Below w.heap.size w W) => hrd.below hW)
  clear hl hrd
  obtain ⟨m, hm⟩ : ∃ m, m = L.length := ⟨_, rfl⟩
  have HM := Lib.hid hm
  rw [← hm] at hc ⊢
  by_cases hm8 : m ≤ 8
  · clear hm
    go_enter Tryd.func9, Tryd.ntmps9
    go_wp2_with fail
    refine HF.out.mono ?_
    rintro e w1 ⟨rfl, hb⟩
    clear HF
    go_wp2_with fail
    go_loopw [4] (fun i wr => ∃ k : Nat, k ≤ m ∧ i = .int .i64 k ∧ w1 = wr ∧ Hid (∀ x ∈ L.take k, x.length ≤ 40)) (fun i _ => m - (intOf i).toNat)
    case atStart => exact ⟨0, Nat.zero_le _, rfl, rfl, fun x hx => by simp at hx⟩
    case round =>
      obtain ⟨k, hk, rfl, hwr, H⟩ := hrel
      subst hwr
      by_cases hlt : k < m
      · have hlt' : k < L.length := by rw [← HM.out]; exact hlt
        obtain ⟨b, o, hA, e0⟩ := (HRD.out _ hb).str4 hlt'
        subst hA
        obtain ⟨x, hx⟩ : ∃ x, x = L[k] := ⟨_, rfl⟩
        rw [← hx] at e0
        by_cases h100 : x.length ≤ 40
        · have HT := Lib.hid (show ∀ y ∈ L.take (k + 1), y.length ≤ 40 from fun y hy => by
            rw [List.take_succ_eq_append_getElem hlt'] at hy
            rcases List.mem_append.1 hy with hy | hy
            · exact H.out y hy
            · simp only [List.mem_singleton] at hy
              subst hy
              rw [← hx]
              exact h100)
          clear hx hlt'
          go_wp2_with fail
          go_roundw
          case rel => exact ⟨k + 1, by omega, by go_num, trivial, HT⟩
          case measure => simp [intOf]; omega
        · clear hx hlt'
          go_wp2_with fail
          go_ret
          exact ⟨rfl, hb⟩
      · obtain rfl : k = m := by omega
        have HTL := Lib.hid (show L.take k = L by rw [HM.out, List.take_length])
        have HX := Lib.hid (show ∀ x ∈ L, x.length ≤ 40 by have := H.out; rwa [HTL.out] at this)
        clear H hlt hk
        obtain ⟨be, hbe⟩ : ∃ be, be = eqA L := ⟨_, rfl⟩
        obtain ⟨bm, hbm⟩ : ∃ bm, bm = likeA L := ⟨_, rfl⟩
        have E1 := Lib.hid (fun (W : World) (hW : Below w.heap.size w W) => do_eq [] A c L W (HRD.out W hW) (by rw [← HM.out]; exact hc) (fun x hx => Nat.le_trans (HX.out x hx) (by decide)))
        have E2 := Lib.hid (fun (W : World) (hW : Below w.heap.size w W) => do_like [] A c L W (HRD.out W hW) (by rw [← HM.out]; exact hc) (fun x hx => Nat.le_trans (HX.out x hx) (by decide)))
        rw [← hbe, ← HM.out] at E1
        rw [← hbm, ← HM.out] at E2
        simp only [DoRet, ocV, oc0] at E1 E2
        by_cases hk2 : k = 2
        · obtain ⟨a, b, hab⟩ := two_of (show L.length = 2 by rw [← HM.out]; exact hk2)
          subst hab
          obtain ⟨gb, go, hA, -⟩ := (HRD.out _ hb).str4 (k := 0) (by simp)
          subst hA
          have HE := Lib.hid (fun (W : World) (hW : Below w.heap.size w W) => show W.cell? ⟨gb, go, none⟩ = some (.string ⟨a.toArray⟩) ∧ W.cell? ⟨gb, go + 1, none⟩ = some (.string ⟨b.toArray⟩) from by
            obtain ⟨gb1, go1, hA1, e0⟩ := (HRD.out W hW).str4 (k := 0) (by simp)
            obtain ⟨gb2, go2, hA2, e1⟩ := (HRD.out W hW).str4 (k := 1) (by simp)
            simp only [Option.some.injEq, Addr.mk.injEq, and_true] at hA1 hA2
            obtain ⟨rfl, rfl⟩ := hA1
            obtain ⟨rfl, rfl⟩ := hA2
            simp only [List.getElem_cons_zero, List.getElem_cons_succ, Nat.add_zero] at e0 e1
            exact ⟨e0, e1⟩)
          have HMT := Lib.hid (fun (W : World) => match_any ⟨b.toArray⟩ ⟨a.toArray⟩ W (by show b.toArray.size ≤ _; rw [List.size_toArray]; exact Nat.le_trans (HX.out b (by simp)) (by decide)) (by show a.toArray.size ≤ _; rw [List.size_toArray]; exact Nat.le_trans (HX.out a (by simp)) (by decide)))
          simp only [show matchL (⟨b.toArray⟩ : ByteArray).data.toList (⟨a.toArray⟩ : ByteArray).data.toList = bm from hbm.symm] at HMT
          have hab : (a == b) = be := by
            rw [hbe]
            show (a == b) = decide (a = b)
            rw [Bool.eq_iff_iff, beq_iff_eq, decide_eq_true_eq]
          subst hk2
          clear hbe hbm HM HTL HX HRD
          cases be with
          | true =>
            cases bm with
            | true =>
              simp only [if_true, Bool.false_eq_true, if_false] at E1 E2
              go_wp2_with fail
              refine (E1.out _ hb).mono ?_
              rintro e x1 ⟨rfl, hx⟩
              replace hb := hb.trans (hx.mono hb.size)
              clear hx
              go_upto_region 10 with (fail)
              have K1 := Lib.hid (Blk.new x1 56 #[.string { data := #[] }, .string { data := #[] }, .int .i64 0, .string { data := #[] }, .string { data := #[] }, .bool false])
              have ha := below1 x1 (.cells #[.string { data := #[] }, .string { data := #[] }, .int .i64 0, .string { data := #[] }, .string { data := #[] }, .bool false] 56)
              replace hb := hb.trans (ha.mono hb.size)
              obtain ⟨g1, hg⟩ : ∃ g, g = x1.heap.size := ⟨_, rfl⟩
              rw [← hg] at K1 ⊢
              clear ha hg
              generalize x1.alloc (.cells #[.string { data := #[] }, .string { data := #[] }, .int .i64 0, .string { data := #[] }, .string { data := #[] }, .bool false] 56) = v1 at *
              go_wp2_with fail
              refine (E2.out _ hb).mono ?_
              rintro e x2 ⟨rfl, hx⟩
              replace hb := hb.trans (hx.mono hb.size)
              replace K1 := Lib.hid (K1.out.below hx)
              clear hx
              go_upto_region 11 with (fail)
              have K2 := Lib.hid (Blk.new x2 56 #[.string { data := #[] }, .string { data := #[] }, .int .i64 0, .string { data := #[] }, .string { data := #[] }, .bool false])
              have ha := below1 x2 (.cells #[.string { data := #[] }, .string { data := #[] }, .int .i64 0, .string { data := #[] }, .string { data := #[] }, .bool false] 56)
              replace hb := hb.trans (ha.mono hb.size)
              replace K1 := Lib.hid (K1.out.below ha)
              obtain ⟨g2, hg⟩ : ∃ g, g = x2.heap.size := ⟨_, rfl⟩
              rw [← hg] at K2 ⊢
              clear ha hg
              generalize x2.alloc (.cells #[.string { data := #[] }, .string { data := #[] }, .int .i64 0, .string { data := #[] }, .string { data := #[] }, .bool false] 56) = v2 at *
              have d12 := K1.out.cell 2
              have d22 := K2.out.cell 2
              simp only [List.getElem?_toArray, List.getElem?_cons_zero, List.getElem?_cons_succ] at d12 d22
              clear K1 K2 E1 E2
              have e0 := (HE.out _ hb).1
              have e1 := (HE.out _ hb).2
              have HBV := Lib.hid hb
              go_upto_region 13 with (fail)
              have l0 := Later.cell d12
              have l1 := Later.cell d22
              have l2 := Later.cell e0
              have l3 := Later.cell e1
              clear d12 d22 e0 e1 hb
              refine wp_region_eq (by kernel_rfl) (by kernel_rfl) ?_
              apply EqGo.run
              focus
                kernel_rfl
              focus
                intro x K hK
                go_wp2_with fail
                first | exact hK x (Below.refl _ _) | exact Below.refl _ _
              simp only [Act.put, List.setIfInBounds_toArray, List.set_cons_succ, List.set_cons_zero]
              apply EqGo.run
              focus
                kernel_rfl
              focus
                intro x K hK
                go_wp2_with fail
                first | exact hK x (Below.refl _ _) | exact Below.refl _ _
              simp only [Act.put, List.setIfInBounds_toArray, List.set_cons_succ, List.set_cons_zero]
              apply EqGo.run
              focus
                kernel_rfl
              focus
                intro x K hK
                go_wp2_with fail
                first | exact hK x (Below.refl _ _) | exact Below.refl _ _
              simp only [Act.put, List.setIfInBounds_toArray, List.set_cons_succ, List.set_cons_zero]
              apply EqGo.run
              focus
                kernel_rfl
              focus
                intro x K hK
                go_wp2_with fail
                first | exact hK x (Below.refl _ _) | exact Below.refl _ _
              simp only [Act.put, List.setIfInBounds_toArray, List.set_cons_succ, List.set_cons_zero]
              apply EqGo.run
              focus
                kernel_rfl
              focus
                intro x K hK
                go_wp2_with fail
                first | exact hK x (Below.refl _ _) | exact Below.refl _ _
              simp only [Act.put, List.setIfInBounds_toArray, List.set_cons_succ, List.set_cons_zero]
              apply EqGo.run
              focus
                kernel_rfl
              focus
                intro x K hK
                go_wp2_with fail
                first | exact hK x (Below.refl _ _) | exact Below.refl _ _
              simp only [Act.put, List.setIfInBounds_toArray, List.set_cons_succ, List.set_cons_zero]
              apply EqGo.run
              focus
                kernel_rfl
              focus
                intro x K hK
                go_wp2_with fail
                first | exact hK x (Below.refl _ _) | exact Below.refl _ _
              simp only [Act.put, List.setIfInBounds_toArray, List.set_cons_succ, List.set_cons_zero]
              apply EqGo.run
              focus
                kernel_rfl
              focus
                intro x K hK
                go_wp2_with fail
                first | exact hK x (Below.refl _ _) | exact Below.refl _ _
              simp only [Act.put, List.setIfInBounds_toArray, List.set_cons_succ, List.set_cons_zero]
              apply EqGo.run
              focus
                kernel_rfl
              focus
                intro x K hK
                go_wp2_with fail
                first | exact hK x (Below.refl _ _) | exact Below.refl _ _
              simp only [Act.put, List.setIfInBounds_toArray, List.set_cons_succ, List.set_cons_zero]
              apply EqGo.run
              focus
                kernel_rfl
              focus
                intro x K hK
                go_wp2_with fail
                first | exact hK x (Below.refl _ _) | exact Below.refl _ _
              simp only [Act.put, List.setIfInBounds_toArray, List.set_cons_succ, List.set_cons_zero]
              apply EqGo.run
              focus
                kernel_rfl
              focus
                intro x K hK
                go_wp2_with fail
                first | exact hK x (Below.refl _ _) | exact Below.refl _ _
              simp only [Act.put, List.setIfInBounds_toArray, List.set_cons_succ, List.set_cons_zero]
              apply EqGo.run
              focus
                kernel_rfl
              focus
                intro x K hK
                go_wp2_with fail
                first | exact hK x (Below.refl _ _) | exact Below.refl _ _
              simp only [Act.put, List.setIfInBounds_toArray, List.set_cons_succ, List.set_cons_zero]
              apply EqGo.run
              focus
                kernel_rfl
              focus
                intro x K hK
                go_wp2_with fail
                first | exact hK x (Below.refl _ _) | exact Below.refl _ _
              simp only [Act.put, List.setIfInBounds_toArray, List.set_cons_succ, List.set_cons_zero]
              apply EqGo.run
              focus
                kernel_rfl
              focus
                intro x K hK
                go_wp2_with fail
                first | exact hK x (Below.refl _ _) | exact Below.refl _ _
              simp only [Act.put, List.setIfInBounds_toArray, List.set_cons_succ, List.set_cons_zero]
              apply EqGo.run
              focus
                kernel_rfl
              focus
                intro x K hK
                go_wp2_with fail
                first | exact hK x (Below.refl _ _) | exact Below.refl _ _
              simp only [Act.put, List.setIfInBounds_toArray, List.set_cons_succ, List.set_cons_zero]
              apply EqGo.run
              focus
                kernel_rfl
              focus
                intro x K hK
                go_wp2_with fail
                first | exact hK x (Below.refl _ _) | exact Below.refl _ _
              simp only [Act.put, List.setIfInBounds_toArray, List.set_cons_succ, List.set_cons_zero]
              apply EqGo.run
              focus
                kernel_rfl
              focus
                intro x K hK
                go_wp2_with fail
                first | exact hK x (Below.refl _ _) | exact Below.refl _ _
              simp only [Act.put, List.setIfInBounds_toArray, List.set_cons_succ, List.set_cons_zero]
              apply EqGo.run
              focus
                kernel_rfl
              focus
                intro x K hK
                go_wp2_with fail
                first | exact hK x (Below.refl _ _) | exact Below.refl _ _
              simp only [Act.put, List.setIfInBounds_toArray, List.set_cons_succ, List.set_cons_zero]
              apply EqGo.run
              focus
                kernel_rfl
              focus
                intro x K hK
                go_wp2_with fail
                first | exact hK x (Below.refl _ _) | exact Below.refl _ _
              simp only [Act.put, List.setIfInBounds_toArray, List.set_cons_succ, List.set_cons_zero]
              apply EqGo.run
              focus
                kernel_rfl
              focus
                intro x K hK
                go_wp2_with fail
                first | exact hK x (Below.refl _ _) | exact Below.refl _ _
              simp only [Act.put, List.setIfInBounds_toArray, List.set_cons_succ, List.set_cons_zero]
              apply EqGo.run
              focus
                kernel_rfl
              focus
                intro x K hK
                go_wp2_with fail
                first | exact hK x (Below.refl _ _) | exact Below.refl _ _
              simp only [Act.put, List.setIfInBounds_toArray, List.set_cons_succ, List.set_cons_zero]
              apply EqGo.run
              focus
                kernel_rfl
              focus
                intro x K hK
                go_wp2_with fail
                refine (Hid.out HMT x.val).mono ?_
                rintro e x' ⟨rfl, hb'⟩
                exact hK ⟨x', x.below.trans (hb'.mono x.below.size)⟩ hb'
              simp only [Act.put, List.setIfInBounds_toArray, List.set_cons_succ, List.set_cons_zero]
              apply EqGo.run
              focus
                kernel_rfl
              focus
                intro x K hK
                go_wp2_with fail
                first | exact hK x (Below.refl _ _) | exact Below.refl _ _
              simp only [Act.put, List.setIfInBounds_toArray, List.set_cons_succ, List.set_cons_zero]
              apply EqGo.run
              focus
                kernel_rfl
              focus
                intro x K hK
                go_wp2_with fail
                first | exact hK x (Below.refl _ _) | exact Below.refl _ _
              simp only [Act.put, List.setIfInBounds_toArray, List.set_cons_succ, List.set_cons_zero]
              apply EqGo.run
              focus
                kernel_rfl
              focus
                intro x K hK
                go_wp2_with fail
                first | exact hK x (Below.refl _ _) | exact Below.refl _ _
              simp only [Act.put, List.setIfInBounds_toArray, List.set_cons_succ, List.set_cons_zero]
              intro x0
              have HX := Lib.hid x0.below
              clear l0 l1 l2 l3
              generalize x0.val = wf at *
              clear x0
              go_wp2_with fail
              go_ret
              exact ⟨rfl, HBV.out.trans (HX.out.mono HBV.out.size)⟩
            | false =>
              simp only [if_true, Bool.false_eq_true, if_false] at E1 E2
              go_wp2_with fail
              refine (E1.out _ hb).mono ?_
              rintro e x1 ⟨rfl, hx⟩
              replace hb := hb.trans (hx.mono hb.size)
              clear hx
              go_upto_region 10 with (fail)
              have K1 := Lib.hid (Blk.new x1 56 #[.string { data := #[] }, .string { data := #[] }, .int .i64 0, .string { data := #[] }, .string { data := #[] }, .bool false])
              have ha := below1 x1 (.cells #[.string { data := #[] }, .string { data := #[] }, .int .i64 0, .string { data := #[] }, .string { data := #[] }, .bool false] 56)
              replace hb := hb.trans (ha.mono hb.size)
              obtain ⟨g1, hg⟩ : ∃ g, g = x1.heap.size := ⟨_, rfl⟩
              rw [← hg] at K1 ⊢
              clear ha hg
              generalize x1.alloc (.cells #[.string { data := #[] }, .string { data := #[] }, .int .i64 0, .string { data := #[] }, .string { data := #[] }, .bool false] 56) = v1 at *
              go_wp2_with fail
              refine (E2.out _ hb).mono ?_
              rintro e x2 ⟨rfl, hx⟩
              replace hb := hb.trans (hx.mono hb.size)
              replace K1 := Lib.hid (K1.out.below hx)
              clear hx
              go_upto_region 11 with (fail)
              have K2 := Lib.hid (Blk.new x2 56 #[.string { data := #[] }, .string { data := #[] }, .int .i64 1, .string { data := #[] }, .string { data := #[] }, .bool false])
              have ha := below1 x2 (.cells #[.string { data := #[] }, .string { data := #[] }, .int .i64 1, .string { data := #[] }, .string { data := #[] }, .bool false] 56)
              replace hb := hb.trans (ha.mono hb.size)
              replace K1 := Lib.hid (K1.out.below ha)
              obtain ⟨g2, hg⟩ : ∃ g, g = x2.heap.size := ⟨_, rfl⟩
              rw [← hg] at K2 ⊢
              clear ha hg
              generalize x2.alloc (.cells #[.string { data := #[] }, .string { data := #[] }, .int .i64 1, .string { data := #[] }, .string { data := #[] }, .bool false] 56) = v2 at *
              have d12 := K1.out.cell 2
              have d22 := K2.out.cell 2
              simp only [List.getElem?_toArray, List.getElem?_cons_zero, List.getElem?_cons_succ] at d12 d22
              clear K1 K2 E1 E2
              have e0 := (HE.out _ hb).1
              have e1 := (HE.out _ hb).2
              have HBV := Lib.hid hb
              go_upto_region 13 with (fail)
              have l0 := Later.cell d12
              have l1 := Later.cell d22
              have l2 := Later.cell e0
              have l3 := Later.cell e1
              clear d12 d22 e0 e1 hb
              refine wp_region_eq (by kernel_rfl) (by kernel_rfl) ?_
              apply EqGo.run
              focus
                kernel_rfl
              focus
                intro x K hK
                go_wp2_with fail
                first | exact hK x (Below.refl _ _) | exact Below.refl _ _
              simp only [Act.put, List.setIfInBounds_toArray, List.set_cons_succ, List.set_cons_zero]
              apply EqGo.run
              focus
                kernel_rfl
              focus
                intro x K hK
                go_wp2_with fail
                first | exact hK x (Below.refl _ _) | exact Below.refl _ _
              simp only [Act.put, List.setIfInBounds_toArray, List.set_cons_succ, List.set_cons_zero]
              apply EqGo.run
              focus
                kernel_rfl
              focus
                intro x K hK
                go_wp2_with fail
                first | exact hK x (Below.refl _ _) | exact Below.refl _ _
              simp only [Act.put, List.setIfInBounds_toArray, List.set_cons_succ, List.set_cons_zero]
              apply EqGo.run
              focus
                kernel_rfl
              focus
                intro x K hK
                go_wp2_with fail
                first | exact hK x (Below.refl _ _) | exact Below.refl _ _
              simp only [Act.put, List.setIfInBounds_toArray, List.set_cons_succ, List.set_cons_zero]
              apply EqGo.run
              focus
                kernel_rfl
              focus
                intro x K hK
                go_wp2_with fail
                first | exact hK x (Below.refl _ _) | exact Below.refl _ _
              simp only [Act.put, List.setIfInBounds_toArray, List.set_cons_succ, List.set_cons_zero]
              apply EqGo.run
              focus
                kernel_rfl
              focus
                intro x K hK
                go_wp2_with fail
                first | exact hK x (Below.refl _ _) | exact Below.refl _ _
              simp only [Act.put, List.setIfInBounds_toArray, List.set_cons_succ, List.set_cons_zero]
              apply EqGo.run
              focus
                kernel_rfl
              focus
                intro x K hK
                go_wp2_with fail
                first | exact hK x (Below.refl _ _) | exact Below.refl _ _
              simp only [Act.put, List.setIfInBounds_toArray, List.set_cons_succ, List.set_cons_zero]
              apply EqGo.run
              focus
                kernel_rfl
              focus
                intro x K hK
                go_wp2_with fail
                first | exact hK x (Below.refl _ _) | exact Below.refl _ _
              simp only [Act.put, List.setIfInBounds_toArray, List.set_cons_succ, List.set_cons_zero]
              apply EqGo.run
              focus
                kernel_rfl
              focus
                intro x K hK
                go_wp2_with fail
                first | exact hK x (Below.refl _ _) | exact Below.refl _ _
              simp only [Act.put, List.setIfInBounds_toArray, List.set_cons_succ, List.set_cons_zero]
              apply EqGo.run
              focus
                kernel_rfl
              focus
                intro x K hK
                go_wp2_with fail
                first | exact hK x (Below.refl _ _) | exact Below.refl _ _
              simp only [Act.put, List.setIfInBounds_toArray, List.set_cons_succ, List.set_cons_zero]
              apply EqGo.run
              focus
                kernel_rfl
              focus
                intro x K hK
                go_wp2_with fail
                first | exact hK x (Below.refl _ _) | exact Below.refl _ _
              simp only [Act.put, List.setIfInBounds_toArray, List.set_cons_succ, List.set_cons_zero]
              apply EqGo.run
              focus
                kernel_rfl
              focus
                intro x K hK
                go_wp2_with fail
                first | exact hK x (Below.refl _ _) | exact Below.refl _ _
              simp only [Act.put, List.setIfInBounds_toArray, List.set_cons_succ, List.set_cons_zero]
              apply EqGo.run
              focus
                kernel_rfl
              focus
                intro x K hK
                go_wp2_with fail
                first | exact hK x (Below.refl _ _) | exact Below.refl _ _
              simp only [Act.put, List.setIfInBounds_toArray, List.set_cons_succ, List.set_cons_zero]
              apply EqGo.run
              focus
                kernel_rfl
              focus
                intro x K hK
                go_wp2_with fail
                first | exact hK x (Below.refl _ _) | exact Below.refl _ _
              simp only [Act.put, List.setIfInBounds_toArray, List.set_cons_succ, List.set_cons_zero]
              apply EqGo.run
              focus
                kernel_rfl
              focus
                intro x K hK
                go_wp2_with fail
                first | exact hK x (Below.refl _ _) | exact Below.refl _ _
              simp only [Act.put, List.setIfInBounds_toArray, List.set_cons_succ, List.set_cons_zero]
              apply EqGo.run
              focus
                kernel_rfl
              focus
                intro x K hK
                go_wp2_with fail
                first | exact hK x (Below.refl _ _) | exact Below.refl _ _
              simp only [Act.put, List.setIfInBounds_toArray, List.set_cons_succ, List.set_cons_zero]
              apply EqGo.run
              focus
                kernel_rfl
              focus
                intro x K hK
                go_wp2_with fail
                first | exact hK x (Below.refl _ _) | exact Below.refl _ _
              simp only [Act.put, List.setIfInBounds_toArray, List.set_cons_succ, List.set_cons_zero]
              apply EqGo.run
              focus
                kernel_rfl
              focus
                intro x K hK
                go_wp2_with fail
                first | exact hK x (Below.refl _ _) | exact Below.refl _ _
              simp only [Act.put, List.setIfInBounds_toArray, List.set_cons_succ, List.set_cons_zero]
              apply EqGo.run
              focus
                kernel_rfl
              focus
                intro x K hK
                go_wp2_with fail
                first | exact hK x (Below.refl _ _) | exact Below.refl _ _
              simp only [Act.put, List.setIfInBounds_toArray, List.set_cons_succ, List.set_cons_zero]
              apply EqGo.run
              focus
                kernel_rfl
              focus
                intro x K hK
                go_wp2_with fail
                first | exact hK x (Below.refl _ _) | exact Below.refl _ _
              simp only [Act.put, List.setIfInBounds_toArray, List.set_cons_succ, List.set_cons_zero]
              apply EqGo.run
              focus
                kernel_rfl
              focus
                intro x K hK
                go_wp2_with fail
                first | exact hK x (Below.refl _ _) | exact Below.refl _ _
              simp only [Act.put, List.setIfInBounds_toArray, List.set_cons_succ, List.set_cons_zero]
              apply EqGo.run
              focus
                kernel_rfl
              focus
                intro x K hK
                go_wp2_with fail
                refine (Hid.out HMT x.val).mono ?_
                rintro e x' ⟨rfl, hb'⟩
                exact hK ⟨x', x.below.trans (hb'.mono x.below.size)⟩ hb'
              simp only [Act.put, List.setIfInBounds_toArray, List.set_cons_succ, List.set_cons_zero]
              apply EqGo.run
              focus
                kernel_rfl
              focus
                intro x K hK
                go_wp2_with fail
                first | exact hK x (Below.refl _ _) | exact Below.refl _ _
              simp only [Act.put, List.setIfInBounds_toArray, List.set_cons_succ, List.set_cons_zero]
              apply EqGo.run
              focus
                kernel_rfl
              focus
                intro x K hK
                go_wp2_with fail
                first | exact hK x (Below.refl _ _) | exact Below.refl _ _
              simp only [Act.put, List.setIfInBounds_toArray, List.set_cons_succ, List.set_cons_zero]
              apply EqGo.run
              focus
                kernel_rfl
              focus
                intro x K hK
                go_wp2_with fail
                first | exact hK x (Below.refl _ _) | exact Below.refl _ _
              simp only [Act.put, List.setIfInBounds_toArray, List.set_cons_succ, List.set_cons_zero]
              intro x0
              have HX := Lib.hid x0.below
              clear l0 l1 l2 l3
              generalize x0.val = wf at *
              clear x0
              go_wp2_with fail
              go_ret
              exact ⟨rfl, HBV.out.trans (HX.out.mono HBV.out.size)⟩
          | false =>
            cases bm with
            | true =>
              simp only [if_true, Bool.false_eq_true, if_false] at E1 E2
              go_wp2_with fail
              refine (E1.out _ hb).mono ?_
              rintro e x1 ⟨rfl, hx⟩
              replace hb := hb.trans (hx.mono hb.size)
              clear hx
              go_upto_region 10 with (fail)
              have K1 := Lib.hid (Blk.new x1 56 #[.string { data := #[] }, .string { data := #[] }, .int .i64 1, .string { data := #[] }, .string { data := #[] }, .bool false])
              have ha := below1 x1 (.cells #[.string { data := #[] }, .string { data := #[] }, .int .i64 1, .string { data := #[] }, .string { data := #[] }, .bool false] 56)
              replace hb := hb.trans (ha.mono hb.size)
              obtain ⟨g1, hg⟩ : ∃ g, g = x1.heap.size := ⟨_, rfl⟩
              rw [← hg] at K1 ⊢
              clear ha hg
              generalize x1.alloc (.cells #[.string { data := #[] }, .string { data := #[] }, .int .i64 1, .string { data := #[] }, .string { data := #[] }, .bool false] 56) = v1 at *
              go_wp2_with fail
              refine (E2.out _ hb).mono ?_
              rintro e x2 ⟨rfl, hx⟩
              replace hb := hb.trans (hx.mono hb.size)
              replace K1 := Lib.hid (K1.out.below hx)
              clear hx
              go_upto_region 11 with (fail)
              have K2 := Lib.hid (Blk.new x2 56 #[.string { data := #[] }, .string { data := #[] }, .int .i64 0, .string { data := #[] }, .string { data := #[] }, .bool false])
              have ha := below1 x2 (.cells #[.string { data := #[] }, .string { data := #[] }, .int .i64 0, .string { data := #[] }, .string { data := #[] }, .bool false] 56)
              replace hb := hb.trans (ha.mono hb.size)
              replace K1 := Lib.hid (K1.out.below ha)
              obtain ⟨g2, hg⟩ : ∃ g, g = x2.heap.size := ⟨_, rfl⟩
              rw [← hg] at K2 ⊢
              clear ha hg
              generalize x2.alloc (.cells #[.string { data := #[] }, .string { data := #[] }, .int .i64 0, .string { data := #[] }, .string { data := #[] }, .bool false] 56) = v2 at *
              have d12 := K1.out.cell 2
              have d22 := K2.out.cell 2
              simp only [List.getElem?_toArray, List.getElem?_cons_zero, List.getElem?_cons_succ] at d12 d22
              clear K1 K2 E1 E2
              have e0 := (HE.out _ hb).1
              have e1 := (HE.out _ hb).2
              have HBV := Lib.hid hb
              go_upto_region 13 with (fail)
              have l0 := Later.cell d12
              have l1 := Later.cell d22
              have l2 := Later.cell e0
              have l3 := Later.cell e1
              clear d12 d22 e0 e1 hb
              refine wp_region_eq (by kernel_rfl) (by kernel_rfl) ?_
              apply EqGo.run
              focus
                kernel_rfl
              focus
                intro x K hK
                go_wp2_with fail
                first | exact hK x (Below.refl _ _) | exact Below.refl _ _
              simp only [Act.put, List.setIfInBounds_toArray, List.set_cons_succ, List.set_cons_zero]
              apply EqGo.run
              focus
                kernel_rfl
              focus
                intro x K hK
                go_wp2_with fail
                first | exact hK x (Below.refl _ _) | exact Below.refl _ _
              simp only [Act.put, List.setIfInBounds_toArray, List.set_cons_succ, List.set_cons_zero]
              apply EqGo.run
              focus
                kernel_rfl
              focus
                intro x K hK
                go_wp2_with fail
                first | exact hK x (Below.refl _ _) | exact Below.refl _ _
              simp only [Act.put, List.setIfInBounds_toArray, List.set_cons_succ, List.set_cons_zero]
              apply EqGo.run
              focus
                kernel_rfl
              focus
                intro x K hK
                go_wp2_with fail
                first | exact hK x (Below.refl _ _) | exact Below.refl _ _
              simp only [Act.put, List.setIfInBounds_toArray, List.set_cons_succ, List.set_cons_zero]
              apply EqGo.run
              focus
                kernel_rfl
              focus
                intro x K hK
                go_wp2_with fail
                first | exact hK x (Below.refl _ _) | exact Below.refl _ _
              simp only [Act.put, List.setIfInBounds_toArray, List.set_cons_succ, List.set_cons_zero]
              apply EqGo.run
              focus
                kernel_rfl
              focus
                intro x K hK
                go_wp2_with fail
                first | exact hK x (Below.refl _ _) | exact Below.refl _ _
              simp only [Act.put, List.setIfInBounds_toArray, List.set_cons_succ, List.set_cons_zero]
              apply EqGo.run
              focus
                kernel_rfl
              focus
                intro x K hK
                go_wp2_with fail
                first | exact hK x (Below.refl _ _) | exact Below.refl _ _
              simp only [Act.put, List.setIfInBounds_toArray, List.set_cons_succ, List.set_cons_zero]
              apply EqGo.run
              focus
                kernel_rfl
              focus
                intro x K hK
                go_wp2_with fail
                first | exact hK x (Below.refl _ _) | exact Below.refl _ _
              simp only [Act.put, List.setIfInBounds_toArray, List.set_cons_succ, List.set_cons_zero]
              apply EqGo.run
              focus
                kernel_rfl
              focus
                intro x K hK
                go_wp2_with fail
                first | exact hK x (Below.refl _ _) | exact Below.refl _ _
              simp only [Act.put, List.setIfInBounds_toArray, List.set_cons_succ, List.set_cons_zero]
              apply EqGo.run
              focus
                kernel_rfl
              focus
                intro x K hK
                go_wp2_with fail
                first | exact hK x (Below.refl _ _) | exact Below.refl _ _
              simp only [Act.put, List.setIfInBounds_toArray, List.set_cons_succ, List.set_cons_zero]
              apply EqGo.run
              focus
                kernel_rfl
              focus
                intro x K hK
                go_wp2_with fail
                first | exact hK x (Below.refl _ _) | exact Below.refl _ _
              simp only [Act.put, List.setIfInBounds_toArray, List.set_cons_succ, List.set_cons_zero]
              apply EqGo.run
              focus
                kernel_rfl
              focus
                intro x K hK
                go_wp2_with fail
                first | exact hK x (Below.refl _ _) | exact Below.refl _ _
              simp only [Act.put, List.setIfInBounds_toArray, List.set_cons_succ, List.set_cons_zero]
              apply EqGo.run
              focus
                kernel_rfl
              focus
                intro x K hK
                go_wp2_with fail
                first | exact hK x (Below.refl _ _) | exact Below.refl _ _
              simp only [Act.put, List.setIfInBounds_toArray, List.set_cons_succ, List.set_cons_zero]
              apply EqGo.run
              focus
                kernel_rfl
              focus
                intro x K hK
                go_wp2_with fail
                first | exact hK x (Below.refl _ _) | exact Below.refl _ _
              simp only [Act.put, List.setIfInBounds_toArray, List.set_cons_succ, List.set_cons_zero]
              apply EqGo.run
              focus
                kernel_rfl
              focus
                intro x K hK
                go_wp2_with fail
                first | exact hK x (Below.refl _ _) | exact Below.refl _ _
              simp only [Act.put, List.setIfInBounds_toArray, List.set_cons_succ, List.set_cons_zero]
              apply EqGo.run
              focus
                kernel_rfl
              focus
                intro x K hK
                go_wp2_with fail
                first | exact hK x (Below.refl _ _) | exact Below.refl _ _
              simp only [Act.put, List.setIfInBounds_toArray, List.set_cons_succ, List.set_cons_zero]
              apply EqGo.run
              focus
                kernel_rfl
              focus
                intro x K hK
                go_wp2_with fail
                first | exact hK x (Below.refl _ _) | exact Below.refl _ _
              simp only [Act.put, List.setIfInBounds_toArray, List.set_cons_succ, List.set_cons_zero]
              apply EqGo.run
              focus
                kernel_rfl
              focus
                intro x K hK
                go_wp2_with fail
                first | exact hK x (Below.refl _ _) | exact Below.refl _ _
              simp only [Act.put, List.setIfInBounds_toArray, List.set_cons_succ, List.set_cons_zero]
              apply EqGo.run
              focus
                kernel_rfl
              focus
                intro x K hK
                go_wp2_with fail
                first | exact hK x (Below.refl _ _) | exact Below.refl _ _
              simp only [Act.put, List.setIfInBounds_toArray, List.set_cons_succ, List.set_cons_zero]
              apply EqGo.run
              focus
                kernel_rfl
              focus
                intro x K hK
                go_wp2_with fail
                first | exact hK x (Below.refl _ _) | exact Below.refl _ _
              simp only [Act.put, List.setIfInBounds_toArray, List.set_cons_succ, List.set_cons_zero]
              apply EqGo.run
              focus
                kernel_rfl
              focus
                intro x K hK
                go_wp2_with fail
                first | exact hK x (Below.refl _ _) | exact Below.refl _ _
              simp only [Act.put, List.setIfInBounds_toArray, List.set_cons_succ, List.set_cons_zero]
              apply EqGo.run
              focus
                kernel_rfl
              focus
                intro x K hK
                go_wp2_with fail
                refine (Hid.out HMT x.val).mono ?_
                rintro e x' ⟨rfl, hb'⟩
                exact hK ⟨x', x.below.trans (hb'.mono x.below.size)⟩ hb'
              simp only [Act.put, List.setIfInBounds_toArray, List.set_cons_succ, List.set_cons_zero]
              apply EqGo.run
              focus
                kernel_rfl
              focus
                intro x K hK
                go_wp2_with fail
                first | exact hK x (Below.refl _ _) | exact Below.refl _ _
              simp only [Act.put, List.setIfInBounds_toArray, List.set_cons_succ, List.set_cons_zero]
              apply EqGo.run
              focus
                kernel_rfl
              focus
                intro x K hK
                go_wp2_with fail
                first | exact hK x (Below.refl _ _) | exact Below.refl _ _
              simp only [Act.put, List.setIfInBounds_toArray, List.set_cons_succ, List.set_cons_zero]
              apply EqGo.run
              focus
                kernel_rfl
              focus
                intro x K hK
                go_wp2_with fail
                first | exact hK x (Below.refl _ _) | exact Below.refl _ _
              simp only [Act.put, List.setIfInBounds_toArray, List.set_cons_succ, List.set_cons_zero]
              intro x0
              have HX := Lib.hid x0.below
              clear l0 l1 l2 l3
              generalize x0.val = wf at *
              clear x0
              go_wp2_with fail
              go_ret
              exact ⟨rfl, HBV.out.trans (HX.out.mono HBV.out.size)⟩
            | false =>
              simp only [if_true, Bool.false_eq_true, if_false] at E1 E2
              go_wp2_with fail
              refine (E1.out _ hb).mono ?_
              rintro e x1 ⟨rfl, hx⟩
              replace hb := hb.trans (hx.mono hb.size)
              clear hx
              go_upto_region 10 with (fail)
              have K1 := Lib.hid (Blk.new x1 56 #[.string { data := #[] }, .string { data := #[] }, .int .i64 1, .string { data := #[] }, .string { data := #[] }, .bool false])
              have ha := below1 x1 (.cells #[.string { data := #[] }, .string { data := #[] }, .int .i64 1, .string { data := #[] }, .string { data := #[] }, .bool false] 56)
              replace hb := hb.trans (ha.mono hb.size)
              obtain ⟨g1, hg⟩ : ∃ g, g = x1.heap.size := ⟨_, rfl⟩
              rw [← hg] at K1 ⊢
              clear ha hg
              generalize x1.alloc (.cells #[.string { data := #[] }, .string { data := #[] }, .int .i64 1, .string { data := #[] }, .string { data := #[] }, .bool false] 56) = v1 at *
              go_wp2_with fail
              refine (E2.out _ hb).mono ?_
              rintro e x2 ⟨rfl, hx⟩
              replace hb := hb.trans (hx.mono hb.size)
              replace K1 := Lib.hid (K1.out.below hx)
              clear hx
              go_upto_region 11 with (fail)
              have K2 := Lib.hid (Blk.new x2 56 #[.string { data := #[] }, .string { data := #[] }, .int .i64 1, .string { data := #[] }, .string { data := #[] }, .bool false])
              have ha := below1 x2 (.cells #[.string { data := #[] }, .string { data := #[] }, .int .i64 1, .string { data := #[] }, .string { data := #[] }, .bool false] 56)
              replace hb := hb.trans (ha.mono hb.size)
              replace K1 := Lib.hid (K1.out.below ha)
              obtain ⟨g2, hg⟩ : ∃ g, g = x2.heap.size := ⟨_, rfl⟩
              rw [← hg] at K2 ⊢
              clear ha hg
              generalize x2.alloc (.cells #[.string { data := #[] }, .string { data := #[] }, .int .i64 1, .string { data := #[] }, .string { data := #[] }, .bool false] 56) = v2 at *
              have d12 := K1.out.cell 2
              have d22 := K2.out.cell 2
              simp only [List.getElem?_toArray, List.getElem?_cons_zero, List.getElem?_cons_succ] at d12 d22
              clear K1 K2 E1 E2
              have e0 := (HE.out _ hb).1
              have e1 := (HE.out _ hb).2
              have HBV := Lib.hid hb
              go_upto_region 13 with (fail)
              have l0 := Later.cell d12
              have l1 := Later.cell d22
              have l2 := Later.cell e0
              have l3 := Later.cell e1
              clear d12 d22 e0 e1 hb
              refine wp_region_eq (by kernel_rfl) (by kernel_rfl) ?_
              apply EqGo.run
              focus
                kernel_rfl
              focus
                intro x K hK
                go_wp2_with fail
                first | exact hK x (Below.refl _ _) | exact Below.refl _ _
              simp only [Act.put, List.setIfInBounds_toArray, List.set_cons_succ, List.set_cons_zero]
              apply EqGo.run
              focus
                kernel_rfl
              focus
                intro x K hK
                go_wp2_with fail
                first | exact hK x (Below.refl _ _) | exact Below.refl _ _
              simp only [Act.put, List.setIfInBounds_toArray, List.set_cons_succ, List.set_cons_zero]
              apply EqGo.run
              focus
                kernel_rfl
              focus
                intro x K hK
                go_wp2_with fail
                first | exact hK x (Below.refl _ _) | exact Below.refl _ _
              simp only [Act.put, List.setIfInBounds_toArray, List.set_cons_succ, List.set_cons_zero]
              apply EqGo.run
              focus
                kernel_rfl
              focus
                intro x K hK
                go_wp2_with fail
                first | exact hK x (Below.refl _ _) | exact Below.refl _ _
              simp only [Act.put, List.setIfInBounds_toArray, List.set_cons_succ, List.set_cons_zero]
              apply EqGo.run
              focus
                kernel_rfl
              focus
                intro x K hK
                go_wp2_with fail
                first | exact hK x (Below.refl _ _) | exact Below.refl _ _
              simp only [Act.put, List.setIfInBounds_toArray, List.set_cons_succ, List.set_cons_zero]
              apply EqGo.run
              focus
                kernel_rfl
              focus
                intro x K hK
                go_wp2_with fail
                first | exact hK x (Below.refl _ _) | exact Below.refl _ _
              simp only [Act.put, List.setIfInBounds_toArray, List.set_cons_succ, List.set_cons_zero]
              apply EqGo.run
              focus
                kernel_rfl
              focus
                intro x K hK
                go_wp2_with fail
                first | exact hK x (Below.refl _ _) | exact Below.refl _ _
              simp only [Act.put, List.setIfInBounds_toArray, List.set_cons_succ, List.set_cons_zero]
              apply EqGo.run
              focus
                kernel_rfl
              focus
                intro x K hK
                go_wp2_with fail
                first | exact hK x (Below.refl _ _) | exact Below.refl _ _
              simp only [Act.put, List.setIfInBounds_toArray, List.set_cons_succ, List.set_cons_zero]
              apply EqGo.run
              focus
                kernel_rfl
              focus
                intro x K hK
                go_wp2_with fail
                first | exact hK x (Below.refl _ _) | exact Below.refl _ _
              simp only [Act.put, List.setIfInBounds_toArray, List.set_cons_succ, List.set_cons_zero]
              apply EqGo.run
              focus
                kernel_rfl
              focus
                intro x K hK
                go_wp2_with fail
                first | exact hK x (Below.refl _ _) | exact Below.refl _ _
              simp only [Act.put, List.setIfInBounds_toArray, List.set_cons_succ, List.set_cons_zero]
              apply EqGo.run
              focus
                kernel_rfl
              focus
                intro x K hK
                go_wp2_with fail
                first | exact hK x (Below.refl _ _) | exact Below.refl _ _
              simp only [Act.put, List.setIfInBounds_toArray, List.set_cons_succ, List.set_cons_zero]
              apply EqGo.run
              focus
                kernel_rfl
              focus
                intro x K hK
                go_wp2_with fail
                first | exact hK x (Below.refl _ _) | exact Below.refl _ _
              simp only [Act.put, List.setIfInBounds_toArray, List.set_cons_succ, List.set_cons_zero]
              apply EqGo.run
              focus
                kernel_rfl
              focus
                intro x K hK
                go_wp2_with fail
                first | exact hK x (Below.refl _ _) | exact Below.refl _ _
              simp only [Act.put, List.setIfInBounds_toArray, List.set_cons_succ, List.set_cons_zero]
              apply EqGo.run
              focus
                kernel_rfl
              focus
                intro x K hK
                go_wp2_with fail
                first | exact hK x (Below.refl _ _) | exact Below.refl _ _
              simp only [Act.put, List.setIfInBounds_toArray, List.set_cons_succ, List.set_cons_zero]
              apply EqGo.run
              focus
                kernel_rfl
              focus
                intro x K hK
                go_wp2_with fail
                first | exact hK x (Below.refl _ _) | exact Below.refl _ _
              simp only [Act.put, List.setIfInBounds_toArray, List.set_cons_succ, List.set_cons_zero]
              apply EqGo.run
              focus
                kernel_rfl
              focus
                intro x K hK
                go_wp2_with fail
                first | exact hK x (Below.refl _ _) | exact Below.refl _ _
              simp only [Act.put, List.setIfInBounds_toArray, List.set_cons_succ, List.set_cons_zero]
              apply EqGo.run
              focus
                kernel_rfl
              focus
                intro x K hK
                go_wp2_with fail
                first | exact hK x (Below.refl _ _) | exact Below.refl _ _
              simp only [Act.put, List.setIfInBounds_toArray, List.set_cons_succ, List.set_cons_zero]
              apply EqGo.run
              focus
                kernel_rfl
              focus
                intro x K hK
                go_wp2_with fail
                first | exact hK x (Below.refl _ _) | exact Below.refl _ _
              simp only [Act.put, List.setIfInBounds_toArray, List.set_cons_succ, List.set_cons_zero]
              apply EqGo.run
              focus
                kernel_rfl
              focus
                intro x K hK
                go_wp2_with fail
                first | exact hK x (Below.refl _ _) | exact Below.refl _ _
              simp only [Act.put, List.setIfInBounds_toArray, List.set_cons_succ, List.set_cons_zero]
              apply EqGo.run
              focus
                kernel_rfl
              focus
                intro x K hK
                go_wp2_with fail
                first | exact hK x (Below.refl _ _) | exact Below.refl _ _
              simp only [Act.put, List.setIfInBounds_toArray, List.set_cons_succ, List.set_cons_zero]
              apply EqGo.run
              focus
                kernel_rfl
              focus
                intro x K hK
                go_wp2_with fail
                first | exact hK x (Below.refl _ _) | exact Below.refl _ _
              simp only [Act.put, List.setIfInBounds_toArray, List.set_cons_succ, List.set_cons_zero]
              apply EqGo.run
              focus
                kernel_rfl
              focus
                intro x K hK
                go_wp2_with fail
                refine (Hid.out HMT x.val).mono ?_
                rintro e x' ⟨rfl, hb'⟩
                exact hK ⟨x', x.below.trans (hb'.mono x.below.size)⟩ hb'
              simp only [Act.put, List.setIfInBounds_toArray, List.set_cons_succ, List.set_cons_zero]
              apply EqGo.run
              focus
                kernel_rfl
              focus
                intro x K hK
                go_wp2_with fail
                first | exact hK x (Below.refl _ _) | exact Below.refl _ _
              simp only [Act.put, List.setIfInBounds_toArray, List.set_cons_succ, List.set_cons_zero]
              apply EqGo.run
              focus
                kernel_rfl
              focus
                intro x K hK
                go_wp2_with fail
                first | exact hK x (Below.refl _ _) | exact Below.refl _ _
              simp only [Act.put, List.setIfInBounds_toArray, List.set_cons_succ, List.set_cons_zero]
              apply EqGo.run
              focus
                kernel_rfl
              focus
                intro x K hK
                go_wp2_with fail
                first | exact hK x (Below.refl _ _) | exact Below.refl _ _
              simp only [Act.put, List.setIfInBounds_toArray, List.set_cons_succ, List.set_cons_zero]
              intro x0
              have HX := Lib.hid x0.below
              clear l0 l1 l2 l3
              generalize x0.val = wf at *
              clear x0
              go_wp2_with fail
              go_ret
              exact ⟨rfl, HBV.out.trans (HX.out.mono HBV.out.size)⟩
        · have hnt := not_two (L := L) (by rw [← HM.out]; exact hk2)
          have h1 : be = false := by rw [hbe, hnt.1]
          have h2 : bm = false := by rw [hbm, hnt.2.1]
          subst h1 h2
          have hkn : ((k : Int) != 2) = true := by rw [bne_iff_ne]; omega
          simp only [Bool.false_eq_true, if_false] at E1 E2
          clear hbe hbm HM HTL HX HRD hk2 hnt
          go_wp2_with fail
          refine (E1.out _ hb).mono ?_
          rintro e x1 ⟨rfl, hx⟩
          replace hb := hb.trans (hx.mono hb.size)
          clear hx
          go_upto_region 10 with (fail)
          have K1 := Lib.hid (Blk.new x1 56 #[.string { data := #[] }, .string { data := #[] }, .int .i64 1, .string { data := #[] }, .string { data := #[] }, .bool false])
          have ha := below1 x1 (.cells #[.string { data := #[] }, .string { data := #[] }, .int .i64 1, .string { data := #[] }, .string { data := #[] }, .bool false] 56)
          replace hb := hb.trans (ha.mono hb.size)
          obtain ⟨g1, hg⟩ : ∃ g, g = x1.heap.size := ⟨_, rfl⟩
          rw [← hg] at K1 ⊢
          clear ha hg
          generalize x1.alloc (.cells #[.string { data := #[] }, .string { data := #[] }, .int .i64 1, .string { data := #[] }, .string { data := #[] }, .bool false] 56) = v1 at *
          go_wp2_with fail
          refine (E2.out _ hb).mono ?_
          rintro e x2 ⟨rfl, hx⟩
          replace hb := hb.trans (hx.mono hb.size)
          replace K1 := Lib.hid (K1.out.below hx)
          clear hx
          go_upto_region 11 with (fail)
          have K2 := Lib.hid (Blk.new x2 56 #[.string { data := #[] }, .string { data := #[] }, .int .i64 1, .string { data := #[] }, .string { data := #[] }, .bool false])
          have ha := below1 x2 (.cells #[.string { data := #[] }, .string { data := #[] }, .int .i64 1, .string { data := #[] }, .string { data := #[] }, .bool false] 56)
          replace hb := hb.trans (ha.mono hb.size)
          replace K1 := Lib.hid (K1.out.below ha)
          obtain ⟨g2, hg⟩ : ∃ g, g = x2.heap.size := ⟨_, rfl⟩
          rw [← hg] at K2 ⊢
          clear ha hg
          generalize x2.alloc (.cells #[.string { data := #[] }, .string { data := #[] }, .int .i64 1, .string { data := #[] }, .string { data := #[] }, .bool false] 56) = v2 at *
          have d12 := K1.out.cell 2
          have d22 := K2.out.cell 2
          simp only [List.getElem?_toArray, List.getElem?_cons_zero, List.getElem?_cons_succ] at d12 d22
          clear K1 K2 E1 E2
          go_wp2_with fail
          go_ret
          exact ⟨rfl, hb⟩
  · have h3 : decide ((8 : Int) < (m : Int)) = true := decide_eq_true (by omega)
    go_enter Tryd.func9, Tryd.ntmps9
    go_wp2_with fail
    refine HF.out.mono ?_
    rintro e w1 ⟨rfl, hb⟩
    go_wp2_with fail
    go_ret
    exact ⟨rfl, hb⟩
end Go.Proofs.YtlhpflilpdceiaaDoor
