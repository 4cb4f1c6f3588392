/- The walk over BuiltinSays: for every list of texts and every text the law returns true. The library's table and bound are hypotheses. -/
import Derived.Test.YtlhpflilpdceiaaDoorBuiltW5
set_option linter.unusedVariables false
set_option linter.unusedSimpArgs false
namespace Go.Proofs.YtlhpflilpdceiaaDoor
open Go.RowKit

theorem spaced_on (L : List (List UInt8)) {k : Nat} (h : k < L.length) : spaced (L.take (k + 1)) = (if k = 0 then [] else spaced (L.take k) ++ [32]) ++ L[k] := by
  rw [List.take_succ_eq_append_getElem h]
  by_cases hk : k = 0
  · subst hk
    rw [List.take_zero, if_pos rfl]
    rfl
  · rw [if_neg hk]
    exact spaced_snoc _ _ (fun e => by have := congrArg List.length e; rw [List.length_take, List.length_nil] at this; omega)
theorem sumL_le {n : Nat} : ∀ {L : List (List UInt8)}, (∀ x ∈ L, x.length ≤ n) → sumL L ≤ n * L.length
  | [], _ => by simp [sumL]
  | x :: t, h => by
    have h1 := h x (by simp)
    have h2 := sumL_le (L := t) (fun y hy => h y (by simp [hy]))
    simp only [sumL, List.length_cons, Nat.mul_add, Nat.mul_one]
    omega
theorem ba_of3 (s : ByteArray) : s = ⟨s.data.toList.toArray⟩ := ByteArray.ext (Array.ext' (by simp))
set_option maxRecDepth 100000 in
set_option maxHeartbeats 8000000 in
theorem bsays_card (A : Option Addr) (c : Nat) (L : List (List UInt8)) (s : ByteArray) (m0 : Int) (w : World) (hrd : RdL w 1 strc A L) (hc : L.length ≤ c) (hl : LibW w m0) :
    Calls Tryd.prog 8 #[.slice A L.length c, .string s] w (Ret w (.bool true)) := by
  obtain ⟨inn, hs⟩ : ∃ inn : List UInt8, s = ⟨inn.toArray⟩ := ⟨s.data.toList, ba_of3 s⟩
  subst hs
  have HF := Lib.hid (first8_any m0 w hl)
  have HRD := Lib.hid (fun (W : World) (hW : Below w.heap.size w W) => hrd.below hW)
  clear hl hrd
  obtain ⟨n, hn⟩ : ∃ n, n = inn.length := ⟨_, rfl⟩
  have hnz : (⟨inn.toArray⟩ : ByteArray).size = n := by rw [hn]; show inn.toArray.size = _; rw [List.size_toArray]
  obtain ⟨m, hm⟩ : ∃ m, m = L.length := ⟨_, rfl⟩
  have HM := Lib.hid hm
  rw [← hm] at hc ⊢
  by_cases hm10 : m ≤ 10
  · by_cases h500 : n ≤ 500
    · have hn5 : inn.length ≤ 500 := by omega
      clear hm hn hnz
      go_enter Tryd.func8, Tryd.ntmps8
      go_wp2_with fail
      refine HF.out.mono ?_
      rintro e w1 ⟨rfl, hb⟩
      clear HF
      go_wp2_with fail
      go_loopw [6, 7] (fun u i wr => ∃ k : Nat, k ≤ m ∧ i = .int .i64 k ∧ u = .string ⟨(spaced (L.take k)).toArray⟩ ∧ w1 = wr ∧ Hid (∀ x ∈ L.take k, x.length ≤ 100)) (fun _ i _ => m - (intOf i).toNat)
      case atStart => exact ⟨0, Nat.zero_le _, rfl, rfl, rfl, fun x hx => by simp at hx⟩
      case round =>
        obtain ⟨k, hk, rfl, rfl, hwr, H⟩ := hrel
        subst hwr
        by_cases hlt : k < m
        · have hlt' : k < L.length := by rw [← HM.out]; exact hlt
          obtain ⟨b, o, hA, e0⟩ := (HRD.out _ hb).str4 hlt'
          subst hA
          have HSP := Lib.hid (spaced_on L hlt')
          have hsl : (spaced (L.take k)).length ≤ 1009 := by
            have h1 := spaced_take (L.take k) k
            rw [List.take_take, Nat.min_self] at h1
            have h2 := sumL_le H.out
            have h3 : (L.take k).length = k := by rw [List.length_take]; omega
            rw [h3] at h1 h2
            omega
          obtain ⟨x, hx⟩ : ∃ x, x = L[k] := ⟨_, rfl⟩
          rw [← hx] at e0 HSP
          by_cases h100 : x.length ≤ 100
          · have HT := Lib.hid (show ∀ y ∈ L.take (k + 1), y.length ≤ 100 from fun y hy => by
              rw [List.take_succ_eq_append_getElem hlt'] at hy
              rcases List.mem_append.1 hy with hy | hy
              · exact H.out y hy
              · simp only [List.mem_singleton] at hy
                subst hy
                rw [← hx]
                exact h100)
            have hxs : (⟨x.toArray⟩ : ByteArray).size ≤ 100 := by show x.toArray.size ≤ _; rw [List.size_toArray]; exact h100
            obtain ⟨p, hp⟩ : ∃ p, p = spaced (L.take k) := ⟨_, rfl⟩
            rw [← hp] at HSP hsl ⊢
            have hps : (⟨p.toArray⟩ : ByteArray).size ≤ 1009 := by show p.toArray.size ≤ _; rw [List.size_toArray]; exact hsl
            have HA1 := Lib.hid (show (⟨p.toArray⟩ ++ ⟨#[32]⟩ ++ ⟨x.toArray⟩ : ByteArray) = ⟨(p ++ [32] ++ x).toArray⟩ by apply ByteArray.ext; simp)
            have HP0 := Lib.hid (show k = 0 → p = [] from fun h => by rw [hp, h, List.take_zero]; rfl)
            clear hx hlt' hp
            by_cases hk0 : k = 0
            · have hp0 := HP0.out hk0
              subst hp0
              subst hk0
              rw [Nat.add_zero] at e0
              have HA2 := Lib.hid (show (⟨#[]⟩ ++ ⟨x.toArray⟩ : ByteArray) = ⟨x.toArray⟩ by apply ByteArray.ext; simp)
              go_wp2_with fail
              go_roundw
              case rel => exact ⟨1, by omega, rfl, by rw [HSP.out, if_pos rfl]; first | exact congrArg Value.string HA2.out | rfl | simp, trivial, HT⟩
              case measure => simp [intOf]; omega
            · have hk1 : decide ((0 : Int) < (k : Int)) = true := decide_eq_true (by omega)
              go_wp2_with fail
              go_roundw
              case rel => exact ⟨k + 1, by omega, by go_num, by rw [HSP.out, if_neg hk0, HA1.out], trivial, HT⟩
              case measure => simp [intOf]; omega
          · have h2 : ¬ ((⟨x.toArray⟩ : ByteArray).size ≤ 100) := by show ¬ x.toArray.size ≤ _; rw [List.size_toArray]; exact h100
            clear hx
            go_wp2_with fail
            go_ret
            exact ⟨rfl, hb⟩
        · obtain rfl : k = m := by omega
          have HTL := Lib.hid (show L.take k = L by rw [HM.out, List.take_length])
          have HX := Lib.hid (show ∀ x ∈ L, x.length ≤ 100 by have := H.out; rwa [HTL.out] at this)
          rw [HTL.out]
          clear H hlt hk
          have hsum : L.length - 1 + sumL L ≤ 2000 := by
            have := sumL_le HX.out
            rw [← HM.out] at this ⊢
            omega
          have E1 := Lib.hid (fun (W : World) (hW : Below w.heap.size w W) => do_echo inn A c L W (HRD.out W hW) (by rw [← HM.out]; exact hc) (by omega))
          have E2 := Lib.hid (fun (W : World) (hW : Below w.heap.size w W) => do_put inn A c L W (HRD.out W hW) (by rw [← HM.out]; exact hc) (by omega))
          have E3 := Lib.hid (fun (W : World) (hW : Below w.heap.size w W) => do_cat inn A c L W )
          have E4 := Lib.hid (fun (W : World) (hW : Below w.heap.size w W) => do_yes inn A c L W )
          have E5 := Lib.hid (fun (W : World) (hW : Below w.heap.size w W) => do_no inn A c L W )
          rw [← HM.out] at E1 E2 E3 E4 E5
          simp only [DoRet, ocV, oc0] at E1 E2 E3 E4 E5
          have hsl : (spaced L).length ≤ 2000 := by
            have h1 := spaced_take L L.length
            rw [List.take_length] at h1
            omega
          have hss : (⟨(spaced L).toArray⟩ : ByteArray).size ≤ 2000 := by show (spaced L).toArray.size ≤ _; rw [List.size_toArray]; exact hsl
          have hA : (⟨(spaced L).toArray⟩ ++ ⟨#[10]⟩ : ByteArray) = ⟨(spaced L ++ [10]).toArray⟩ := by apply ByteArray.ext; simp
          have hA0 : (⟨#[]⟩ ++ ⟨#[]⟩ : ByteArray) = ⟨#[]⟩ := rfl
          clear HTL HX hsum HRD
          generalize spaced L = sp at *
          go_wp2_with fail
          refine (E1.out _ hb).mono ?_
          rintro e x1 ⟨rfl, hx⟩
          replace hb := hb.trans (hx.mono hb.size)
          clear hx
          go_upto_region 14 with (fail)
          have K1 := Lib.hid (Blk.new x1 56 #[.string { data := (sp ++ [10]).toArray }, .string { data := inn.toArray }, .int .i64 0, .string { data := #[] }, .string { data := #[] }, .bool false])
          have ha := below1 x1 (.cells #[.string { data := (sp ++ [10]).toArray }, .string { data := inn.toArray }, .int .i64 0, .string { data := #[] }, .string { data := #[] }, .bool false] 56)
          replace hb := hb.trans (ha.mono hb.size)
          obtain ⟨g1, hg⟩ : ∃ g, g = x1.heap.size := ⟨_, rfl⟩
          rw [← hg] at K1 ⊢
          clear ha hg
          generalize x1.alloc (.cells #[.string { data := (sp ++ [10]).toArray }, .string { data := inn.toArray }, .int .i64 0, .string { data := #[] }, .string { data := #[] }, .bool false] 56) = v1 at *
          go_wp2_with fail
          refine (E2.out _ hb).mono ?_
          rintro e x2 ⟨rfl, hx⟩
          replace hb := hb.trans (hx.mono hb.size)
          replace K1 := Lib.hid (K1.out.below hx)
          clear hx
          go_upto_region 15 with (fail)
          have K2 := Lib.hid (Blk.new x2 56 #[.string { data := (sp).toArray }, .string { data := inn.toArray }, .int .i64 0, .string { data := #[] }, .string { data := #[] }, .bool false])
          have ha := below1 x2 (.cells #[.string { data := (sp).toArray }, .string { data := inn.toArray }, .int .i64 0, .string { data := #[] }, .string { data := #[] }, .bool false] 56)
          replace K1 := Lib.hid (K1.out.below ha)
          replace hb := hb.trans (ha.mono hb.size)
          obtain ⟨g2, hg⟩ : ∃ g, g = x2.heap.size := ⟨_, rfl⟩
          rw [← hg] at K2 ⊢
          clear ha hg
          generalize x2.alloc (.cells #[.string { data := (sp).toArray }, .string { data := inn.toArray }, .int .i64 0, .string { data := #[] }, .string { data := #[] }, .bool false] 56) = v2 at *
          go_wp2_with fail
          refine (E3.out _ hb).mono ?_
          rintro e x3 ⟨rfl, hx⟩
          replace hb := hb.trans (hx.mono hb.size)
          replace K1 := Lib.hid (K1.out.below hx)
          replace K2 := Lib.hid (K2.out.below hx)
          clear hx
          go_upto_region 16 with (fail)
          have K3 := Lib.hid (Blk.new x3 56 #[.string { data := inn.toArray }, .string { data := #[] }, .int .i64 0, .string { data := #[] }, .string { data := #[] }, .bool false])
          have ha := below1 x3 (.cells #[.string { data := inn.toArray }, .string { data := #[] }, .int .i64 0, .string { data := #[] }, .string { data := #[] }, .bool false] 56)
          replace K1 := Lib.hid (K1.out.below ha)
          replace K2 := Lib.hid (K2.out.below ha)
          replace hb := hb.trans (ha.mono hb.size)
          obtain ⟨g3, hg⟩ : ∃ g, g = x3.heap.size := ⟨_, rfl⟩
          rw [← hg] at K3 ⊢
          clear ha hg
          generalize x3.alloc (.cells #[.string { data := inn.toArray }, .string { data := #[] }, .int .i64 0, .string { data := #[] }, .string { data := #[] }, .bool false] 56) = v3 at *
          go_wp2_with fail
          refine (E4.out _ hb).mono ?_
          rintro e x4 ⟨rfl, hx⟩
          replace hb := hb.trans (hx.mono hb.size)
          replace K1 := Lib.hid (K1.out.below hx)
          replace K2 := Lib.hid (K2.out.below hx)
          replace K3 := Lib.hid (K3.out.below hx)
          clear hx
          go_upto_region 17 with (fail)
          have K4 := Lib.hid (Blk.new x4 56 #[.string { data := #[] }, .string { data := inn.toArray }, .int .i64 0, .string { data := #[] }, .string { data := #[] }, .bool false])
          have ha := below1 x4 (.cells #[.string { data := #[] }, .string { data := inn.toArray }, .int .i64 0, .string { data := #[] }, .string { data := #[] }, .bool false] 56)
          replace K1 := Lib.hid (K1.out.below ha)
          replace K2 := Lib.hid (K2.out.below ha)
          replace K3 := Lib.hid (K3.out.below ha)
          replace hb := hb.trans (ha.mono hb.size)
          obtain ⟨g4, hg⟩ : ∃ g, g = x4.heap.size := ⟨_, rfl⟩
          rw [← hg] at K4 ⊢
          clear ha hg
          generalize x4.alloc (.cells #[.string { data := #[] }, .string { data := inn.toArray }, .int .i64 0, .string { data := #[] }, .string { data := #[] }, .bool false] 56) = v4 at *
          go_wp2_with fail
          refine (E5.out _ hb).mono ?_
          rintro e x5 ⟨rfl, hx⟩
          replace hb := hb.trans (hx.mono hb.size)
          replace K1 := Lib.hid (K1.out.below hx)
          replace K2 := Lib.hid (K2.out.below hx)
          replace K3 := Lib.hid (K3.out.below hx)
          replace K4 := Lib.hid (K4.out.below hx)
          clear hx
          go_upto_region 18 with (fail)
          have K5 := Lib.hid (Blk.new x5 56 #[.string { data := #[] }, .string { data := inn.toArray }, .int .i64 1, .string { data := #[] }, .string { data := #[] }, .bool false])
          have ha := below1 x5 (.cells #[.string { data := #[] }, .string { data := inn.toArray }, .int .i64 1, .string { data := #[] }, .string { data := #[] }, .bool false] 56)
          replace K1 := Lib.hid (K1.out.below ha)
          replace K2 := Lib.hid (K2.out.below ha)
          replace K3 := Lib.hid (K3.out.below ha)
          replace K4 := Lib.hid (K4.out.below ha)
          replace hb := hb.trans (ha.mono hb.size)
          obtain ⟨g5, hg⟩ : ∃ g, g = x5.heap.size := ⟨_, rfl⟩
          rw [← hg] at K5 ⊢
          clear ha hg
          generalize x5.alloc (.cells #[.string { data := #[] }, .string { data := inn.toArray }, .int .i64 1, .string { data := #[] }, .string { data := #[] }, .bool false] 56) = v5 at *
          have d10 := K1.out.cell 0
          have d11 := K1.out.cell 1
          have d12 := K1.out.cell 2
          have d15 := K1.out.cell 5
          have d20 := K2.out.cell 0
          have d21 := K2.out.cell 1
          have d22 := K2.out.cell 2
          have d25 := K2.out.cell 5
          have d30 := K3.out.cell 0
          have d31 := K3.out.cell 1
          have d32 := K3.out.cell 2
          have d35 := K3.out.cell 5
          have d40 := K4.out.cell 0
          have d41 := K4.out.cell 1
          have d42 := K4.out.cell 2
          have d45 := K4.out.cell 5
          have d50 := K5.out.cell 0
          have d51 := K5.out.cell 1
          have d52 := K5.out.cell 2
          have d55 := K5.out.cell 5
          simp only [List.getElem?_toArray, List.getElem?_cons_zero, List.getElem?_cons_succ] at d10 d11 d12 d15 d20 d21 d22 d25 d30 d31 d32 d35 d40 d41 d42 d45 d50 d51 d52 d55
          clear K1 K2 K3 K4 K5 E1 E2 E3 E4 E5
          go_wp2_with fail
          go_ret
          exact ⟨rfl, hb⟩
    · have h2 : ¬ inn.length ≤ 500 := by omega
      have h3 : decide ((10 : Int) < (m : Int)) = false := decide_eq_false (by omega)
      go_enter Tryd.func8, Tryd.ntmps8
      go_wp2_with fail
      refine HF.out.mono ?_
      rintro e w1 ⟨rfl, hb⟩
      go_wp2_with fail
      go_ret
      exact ⟨rfl, hb⟩
  · have h3 : decide ((10 : Int) < (m : Int)) = true := decide_eq_true (by omega)
    go_enter Tryd.func8, Tryd.ntmps8
    go_wp2_with fail
    refine HF.out.mono ?_
    rintro e w1 ⟨rfl, hb⟩
    go_wp2_with fail
    go_ret
    exact ⟨rfl, hb⟩
end Go.Proofs.YtlhpflilpdceiaaDoor
