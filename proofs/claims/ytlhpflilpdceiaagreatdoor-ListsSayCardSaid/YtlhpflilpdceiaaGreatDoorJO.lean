/- ListsSay: for every lists of texts, every two lists, every number and every text the law answers true. What the package-level errors and the library's table hold are hypotheses. -/
import Derived.Test.YtlhpflilpdceiaaGreatDoorListR3
import Derived.Test.YtlhpflilpdceiaaGreatDoorJL
import Derived.Test.YtlhpflilpdceiaaGreatDoorJM
import Derived.Stop.IfaceNil
set_option linter.unusedVariables false
set_option linter.unusedSimpArgs false
namespace Go.Proofs.YtlhpflilpdceiaaGreatDoor
open Go.RowKit

theorem each_len {f : List UInt8 → List (List UInt8)} {l : List (List UInt8)} : ((eachL f l).getD []).length ≤ 1000000 := by
  cases h : eachL f l with
  | none => exact Nat.zero_le _
  | some r => have := (bigL_false.1 (each_some f l [] r h).2).1; show r.length ≤ _; omega
theorem catR_len {ls : List (List (List UInt8))} : ((catL ls).getD []).length ≤ 1000000 := by
  cases h : catL ls with
  | none => exact Nat.zero_le _
  | some r => have := (bigL_false.1 (cat_some ls [] r h).2).1; show r.length ≤ _; omega
theorem joinR_len {ls : List (List (List UInt8))} : ((joinL ls).getD []).length ≤ 1000000 := by
  cases h : joinL ls with
  | none => exact Nat.zero_le _
  | some r => have := (bigL_false.1 (sml_joined r h)).1; show r.length ≤ _; omega
theorem plain_len (s : List UInt8) : (plainL s).length ≤ s.length := by
  rw [plainL, List.length_map]
  exact piecesOf_length_le s 0
theorem pickL_len2 (l : List (List UInt8)) (n : Int) : (pickL l n).length ≤ 1000000 := by
  unfold pickL
  split
  · exact Nat.zero_le _
  · show 1 ≤ 1000000
    decide
theorem flatR_len {l : List (List UInt8)} : ((flatTx l).getD []).length ≤ 1000000 := by
  unfold flatTx
  split
  · exact Nat.zero_le _
  · show 1 ≤ 1000000
    decide
def rdS (n : Nat) (l : List (List UInt8)) : TT := ⟨fun v => ∃ g, v = .slice (some ⟨g, 0, none⟩) n n, ⟨_, 0, rfl⟩, fun v x => SlS x v l, fun _ _ _ h hb => h.below hb⟩
def slT (l : List (List UInt8)) : TT := ⟨fun v => ∃ A n c, v = .slice A n c, ⟨_, none, 0, 0, rfl⟩, fun v x => SlS x v l, fun _ _ _ h hb => h.below hb⟩
theorem pick_none {l : List (List UInt8)} {n : Int} (h : ¬ (1 ≤ n ∧ n ≤ (l.length : Int))) : pickL l n = [] := by
  unfold pickL
  rw [if_pos (by omega)]
theorem pick_one {l : List (List UInt8)} {k : Nat} (h : k < l.length) : pickL l ((k : Int) + 1) = [l[k]] := by
  unfold pickL
  rw [if_neg (by omega), show ((k : Int) + 1 - 1).toNat = k by omega, List.getD_eq_getElem?_getD, List.getElem?_eq_getElem h]
  rfl
theorem pickN_any (A : Option Addr) (c : Nat) (L : List (List UInt8)) (n : Int) (w : World) (hv : SlS w (.slice A L.length c) L) (hL : L.length ≤ 1000000) (hn : -9223372036854775808 ≤ n ∧ n ≤ 9223372036854775807) : Calls Tryz.prog 23 #[.slice A L.length c, .int .i64 n] w (OwnRet (pickL L n) w) := by
  by_cases h : -1000000 ≤ n ∧ n ≤ 1000000
  · exact pick_any _ L n w hv hL h
  · have hp : pickL L n = [] := by
      unfold pickL
      rw [if_pos (by omega)]
    rw [hp]
    clear hv hp
    generalize L.length = m at *
    by_cases h1 : n < 1
    · clear h
      go_enter Tryz.func23, Tryz.ntmps23
      go_wp2_with fail
      go_ret
      exact ⟨_, rfl, OwnS.nil _ _, Below.refl _ _⟩
    · have h2 : (m : Int) < n := by omega
      clear h
      go_enter Tryz.func23, Tryz.ntmps23
      go_wp2_with fail
      go_ret
      exact ⟨_, rfl, OwnS.nil _ _, Below.refl _ _⟩
set_option maxRecDepth 100000 in
set_option maxHeartbeats 8000000 in
theorem lsay_card (A0 : Option Addr) (c0 : Nat) (l : List (List (List UInt8))) (Am : Option Addr) (cm : Nat) (m : List (List UInt8)) (An : Option Addr) (cn : Nat) (nm : List (List UInt8)) (n : Int) (s : List UInt8) (L : List Addr) (w : World)
    (hK : KdS w A0 l) (hc0 : l.length ≤ c0) (hcm0 : c0 ≤ maxLen) (hls : ∀ x ∈ l, ∀ y ∈ x, y.length ≤ 140737488355328)
    (hvm : SlS w (.slice Am m.length cm) m) (hms : ∀ x ∈ m, x.length ≤ 140737488355328) (hvn : SlS w (.slice An nm.length cn) nm) (hns : ∀ x ∈ nm, x.length ≤ 140737488355328)
    (hn : -9223372036854775808 ≤ n ∧ n ≤ 9223372036854775807) (hsl : s.length ≤ 140737488355328) (hS : SenW w L) (hp : Pow w) :
    Calls Tryz.prog 3 #[.slice A0 l.length c0, .slice Am m.length cm, .slice An nm.length cn, .int .i64 n, .string ⟨s.toArray⟩] w fun e w' => e = .returned (.bool true) ∧ Below w.heap.size w w' := by
  have hlen := hS.len
  obtain ⟨aB, haB⟩ : ∃ aB, L[13]? = some aB := ⟨_, List.getElem?_eq_getElem (by omega)⟩
  have HE := Lib.hid (show BigW w aB from hS.var 13 _ aB rfl haB)
  have HA := Lib.hid haB
  have HS := Lib.hid hS
  have HP := Lib.hid hp
  have HK := Lib.hid hK
  have HVM := Lib.hid hvm
  have HVN := Lib.hid hvn
  have HMS := Lib.hid (show ∀ x ∈ [m, nm], ∀ s ∈ x, s.length ≤ 140737488355328 from fun x hx => by
    simp only [List.mem_cons, List.not_mem_nil, or_false] at hx
    rcases hx with rfl | rfl
    · exact hms
    · exact hns)
  have C1 := Lib.hid (first3_any aB w HE.out)
  have CL := Lib.hid (fun W (hq : Below w.heap.size w W) => light_any A0 c0 l W (hK.below hq) (by omega) hls)
  have HLT := Lib.hid (fun h : lightL l = true => light_small h)
  have HLL := Lib.hid (fun h : lightL l = true => (show l.length ≤ 8 from by
    simp only [lightL, Bool.and_eq_true, decide_eq_true_eq] at h
    exact h.1.1))
  generalize lightL l = q1 at *
  obtain ⟨nl, hnl⟩ : ∃ k, k = l.length := ⟨_, rfl⟩
  obtain ⟨nm0, hnm0⟩ : ∃ k, k = m.length := ⟨_, rfl⟩
  obtain ⟨nn0, hnn0⟩ : ∃ k, k = nm.length := ⟨_, rfl⟩
  have HNL := Lib.hid hnl
  have HNM := Lib.hid hnm0
  have HNN := Lib.hid hnn0
  rw [← hnl] at CL ⊢ hc0
  rw [← hnm0] at HVM ⊢
  rw [← hnn0] at HVN ⊢
  have HC0 := Lib.hid (And.intro hc0 hcm0)
  clear hlen haB hS hp hK hvm hvn hms hns hls hnl hnm0 hnn0 hc0 hcm0
  obtain ⟨ns, hns⟩ : ∃ k, k = s.length := ⟨_, rfl⟩
  have HNS := Lib.hid hns
  have hsz : (⟨s.toArray⟩ : ByteArray).size = ns := by simp [ByteArray.size, hns]
  rw [← hns] at hsl
  clear hns
  go_enter Tryz.func3, Tryz.ntmps3
  go_wp2_with fail
  refine C1.out.mono ?_
  rintro e w1 ⟨rfl, hb⟩
  clear C1
  go_wp2_with fail
  refine (CL.out w1 hb).mono ?_
  rintro e w1' ⟨rfl, rfl⟩
  clear CL
  cases q1 with
  | false =>
    go_wp2_with fail
    go_ret
    exact ⟨rfl, hb⟩
  | true =>
    have CL := Lib.hid (lightN #[.slice Am nm0 cm, .slice An nn0 cn] [m, nm] 2 w1' (AllS.two (HVM.out.below hb) (HVN.out.below hb)) rfl (by show 2 ≤ 1000; decide) HMS.out)
    have HLM := Lib.hid (fun h : lightL [m, nm] = true => light_small h)
    generalize lightL [m, nm] = q2 at *
    go_wp2_with fail
    refine CL.out.mono ?_
    rintro e w2 ⟨rfl, hbn⟩
    replace hb := hb.trans (hbn.mono hb.size)
    clear CL hbn HMS
    cases q2 with
    | false =>
      go_wp2_with fail
      go_ret
      exact ⟨rfl, hb⟩
    | true =>
      by_cases hs3 : 3000 < ns
      · go_wp2_with fail
        go_ret
        exact ⟨rfl, hb⟩
      have TM := Lib.hid (show Thin m from ⟨by have := (HLM.out (by first | trivial | rfl) m (by simp)).1; omega, fun s hs => by have := (HLM.out (by first | trivial | rfl) m (by simp)).2 s hs; omega⟩)
      have TP := Lib.hid (show ∀ s ∈ m, (plainL s).length ≤ 1000000 from fun s hs => by have := (HLM.out (by first | trivial | rfl) m (by simp)).2 s hs; have := plain_len s; omega)
      have TQ := Lib.hid (show ∀ s ∈ m, (escapeL s).length ≤ 1000000 from fun s hs => by have := (HLM.out (by first | trivial | rfl) m (by simp)).2 s hs; have := escapeL_len s; omega)
      have SN := Lib.hid (show Sml nm from ⟨by have := (HLM.out (by first | trivial | rfl) nm (by simp)).1; omega, fun s hs => by have := (HLM.out (by first | trivial | rfl) nm (by simp)).2 s hs; omega⟩)
      have SL := Lib.hid (show ∀ x ∈ l, Sml x from fun x hx => ⟨by have := (HLT.out (by first | trivial | rfl) x hx).1; omega, fun s hs => by have := (HLT.out (by first | trivial | rfl) x hx).2 s hs; omega⟩)
      have hl8 : nl ≤ 8 := by rw [HNL.out]; exact HLL.out (by first | trivial | rfl)
      have hm130 : nm0 ≤ 130 := by rw [HNM.out]; exact (HLM.out (by first | trivial | rfl) m (by simp)).1
      have hn130 : nn0 ≤ 130 := by rw [HNN.out]; exact (HLM.out (by first | trivial | rfl) nm (by simp)).1
      clear HLT HLL HLM
      go_upto_region 6 with (fail)
      go_loopw [12, 13] (fun v i wr => ∃ (k : Nat) (b : Bool), k ≤ nn0 ∧ i = .int .i64 k ∧ v = .bool b ∧ w2 = wr) (fun _ i _ => nn0 - (intOf i).toNat)
      case atStart => exact ⟨0, true, Nat.zero_le _, rfl, rfl, rfl⟩
      case round =>
        obtain ⟨k, b, hk, rfl, rfl, hwr⟩ := hrel
        subst hwr
        by_cases hlt : k < nn0
        · cases b with
          | false =>
            go_wp2_with fail
            go_roundw
            case rel => exact ⟨k + 1, false, by omega, by go_num, rfl, trivial⟩
            case measure => simp [intOf]; omega
          | true =>
            have hkL : k < nm.length := by rw [← HNN.out]; exact hlt
            obtain ⟨A', c', he, hrd, _⟩ := HVN.out.below hb
            injection he with he1 _ he3
            subst he1 he3
            obtain ⟨b', o', rfl⟩ := hrd.ats hkL
            have cx := hrd.strs hkL
            generalize nm[k] = x at *
            clear hrd hkL
            go_wp2_with fail
            go_roundw
            case rel => exact ⟨k + 1, _, by omega, by go_num, rfl, trivial⟩
            case measure => simp [intOf]; omega
        · obtain rfl : nn0 = k := by omega
          go_upto_region 10 with (fail)
          go_loopw [12, 14] (fun v i wr => ∃ (k : Nat) (b : Bool), k ≤ nm0 ∧ i = .int .i64 k ∧ v = .bool b ∧ w2 = wr) (fun _ i _ => nm0 - (intOf i).toNat)
          case atStart => exact ⟨0, b, Nat.zero_le _, rfl, rfl, rfl⟩
          case round =>
            obtain ⟨k, b, hk, rfl, rfl, hwr⟩ := hrel
            subst hwr
            by_cases hlt : k < nm0
            · cases b with
              | false =>
                go_wp2_with fail
                go_roundw
                case rel => exact ⟨k + 1, false, by omega, by go_num, rfl, trivial⟩
                case measure => simp [intOf]; omega
              | true =>
                have hkL : k < m.length := by rw [← HNM.out]; exact hlt
                obtain ⟨A', c', he, hrd, _⟩ := HVM.out.below hb
                injection he with he1 _ he3
                subst he1 he3
                obtain ⟨b', o', rfl⟩ := hrd.ats hkL
                have cx := hrd.strs hkL
                generalize m[k] = x at *
                clear hrd hkL
                go_wp2_with fail
                go_roundw
                case rel => exact ⟨k + 1, _, by omega, by go_num, rfl, trivial⟩
                case measure => simp [intOf]; omega
            · obtain rfl : nm0 = k := by omega
              clear hlt
              have K1 := Lib.hid ((cat_any A0 c0 l aB w2 (HK.out.below hb) (by rw [← HNL.out]; omega) (fun x hx => (SL.out x hx).1) (HE.out.below hb)))
              have K2 := Lib.hid ((fun W (hq : Below w2.heap.size w2 W) => rcat_any A0 c0 l W ((HK.out.below hb).below hq) (by rw [← HNL.out]; omega) SL.out))
              have HLEN1 := Lib.hid (show (((catL l)).getD []).length ≤ 1000000 from catR_len)
              try rw [← HNL.out] at K1
              try rw [← HNL.out] at K2
              obtain ⟨R1, hR⟩ : ∃ R, R = (catL l) := ⟨_, rfl⟩
              rw [← hR] at K1 K2 HLEN1
              clear hR
              go_wp2_with fail
              refine K1.out.mono ?_
              rintro e wa1 h
              obtain ⟨A1, n1, c1, er1, rfl, he, hs1, hbn⟩ := h.lw
              subst he
              replace hb := hb.trans (hbn.mono hb.size)
              clear h K1
              go_wp2_with fail
              refine (K2.out _ hbn).mono ?_
              rintro e wb1 ⟨B1, m1, d1, rfl, ht1, hbm⟩
              replace hs1 := hs1.below hbm
              replace hb := hb.trans (hbm.mono hb.size)
              clear K2
              clear hbn hbm
              have K1 := Lib.hid ((join_any A0 c0 l aB wb1 (HK.out.below hb) (by rw [← HNL.out]; omega) (by rw [← HNL.out]; exact HC0.out.1) HC0.out.2 SL.out (HE.out.below hb)))
              have K2 := Lib.hid ((fun W (hq : Below wb1.heap.size wb1 W) => rjoin_any A0 c0 l W ((HK.out.below hb).below hq) (by rw [← HNL.out]; omega) SL.out))
              have HLEN2 := Lib.hid (show (((joinL l)).getD []).length ≤ 1000000 from joinR_len)
              try rw [← HNL.out] at K1
              try rw [← HNL.out] at K2
              obtain ⟨R2, hR⟩ : ∃ R, R = (joinL l) := ⟨_, rfl⟩
              rw [← hR] at K1 K2 HLEN2
              clear hR
              go_wp2_with fail
              refine K1.out.mono ?_
              rintro e wa2 h
              obtain ⟨A2, n2, c2, er2, rfl, he, hs2, hbn⟩ := h.lw
              subst he
              replace hb := hb.trans (hbn.mono hb.size)
              clear h K1
              go_wp2_with fail
              refine (K2.out _ hbn).mono ?_
              rintro e wb2 ⟨B2, m2, d2, rfl, ht2, hbm⟩
              replace hs2 := hs2.below hbm
              replace hb := hb.trans (hbm.mono hb.size)
              clear K2
              replace hs1 := (hs1.below hbn).below hbm
              replace ht1 := (ht1.below hbn).below hbm
              clear hbn hbm
              have K := Lib.hid (lsame_any R1 L aB A1 B1 n1 m1 c1 d1 _ (HS.out.below hb) HA.out hs1 ht1 HLEN1.out)
              go_wp2_with fail
              refine K.out.mono ?_
              clear K hs1 ht1 HLEN1
              rintro e wc1 ⟨rfl, hbn⟩
              replace hb := hb.trans (hbn.mono hb.size)
              replace hs2 := hs2.below hbn
              replace ht2 := ht2.below hbn
              clear hbn
              have K := Lib.hid (lsame_any R2 L aB A2 B2 n2 m2 c2 d2 _ (HS.out.below hb) HA.out hs2 ht2 HLEN2.out)
              go_wp2_with fail
              refine K.out.mono ?_
              clear K hs2 ht2 HLEN2
              rintro e wc2 ⟨rfl, hbn⟩
              replace hb := hb.trans (hbn.mono hb.size)
              clear hbn
              have hvm := fun W (hq : Below w.heap.size w W) => HVM.out.below hq
              have hvn := fun W (hq : Below w.heap.size w W) => HVN.out.below hq
              have HVM2 := Lib.hid hvm
              have HVN2 := Lib.hid hvn
              clear hvm hvn
              have K1 := Lib.hid ((lsplit_any _ m aB wc2 (HVM2.out _ hb) TM.out (HE.out.below hb)))
              have K2 := Lib.hid ((fun W (hq : Below wc2.heap.size wc2 W) => rsplit_any _ m W ((HVM2.out _ hb).below hq) TM.out))
              have HLEN3 := Lib.hid (show (((eachL splitL m)).getD []).length ≤ 1000000 from each_len)
              try rw [← HNL.out] at K1
              try rw [← HNL.out] at K2
              obtain ⟨R3, hR⟩ : ∃ R, R = (eachL splitL m) := ⟨_, rfl⟩
              rw [← hR] at K1 K2 HLEN3
              clear hR
              go_wp2_with fail
              refine K1.out.mono ?_
              rintro e wa3 h
              obtain ⟨A3, n3, c3, er3, rfl, he, hs3, hbn⟩ := h.lw
              subst he
              replace hb := hb.trans (hbn.mono hb.size)
              clear h K1
              go_wp2_with fail
              refine (K2.out _ hbn).mono ?_
              rintro e wb3 ⟨B3, m3, d3, rfl, ht3, hbm⟩
              replace hs3 := hs3.below hbm
              replace hb := hb.trans (hbm.mono hb.size)
              clear K2
              clear hbn hbm
              have K1 := Lib.hid ((lplain_any _ m aB wb3 (HVM2.out _ hb) TM.out (HE.out.below hb)))
              have K2 := Lib.hid ((fun W (hq : Below wb3.heap.size wb3 W) => rplain_any _ m W ((HVM2.out _ hb).below hq) TM.out TP.out))
              have HLEN4 := Lib.hid (show (((eachL (fun s => [plainL s]) m)).getD []).length ≤ 1000000 from each_len)
              try rw [← HNL.out] at K1
              try rw [← HNL.out] at K2
              obtain ⟨R4, hR⟩ : ∃ R, R = (eachL (fun s => [plainL s]) m) := ⟨_, rfl⟩
              rw [← hR] at K1 K2 HLEN4
              clear hR
              go_wp2_with fail
              refine K1.out.mono ?_
              rintro e wa4 h
              obtain ⟨A4, n4, c4, er4, rfl, he, hs4, hbn⟩ := h.lw
              subst he
              replace hb := hb.trans (hbn.mono hb.size)
              clear h K1
              go_wp2_with fail
              refine (K2.out _ hbn).mono ?_
              rintro e wb4 ⟨B4, m4, d4, rfl, ht4, hbm⟩
              replace hs4 := hs4.below hbm
              replace hb := hb.trans (hbm.mono hb.size)
              clear K2
              replace hs3 := (hs3.below hbn).below hbm
              replace ht3 := (ht3.below hbn).below hbm
              clear hbn hbm
              have K := Lib.hid (lsame_any R3 L aB A3 B3 n3 m3 c3 d3 _ (HS.out.below hb) HA.out hs3 ht3 HLEN3.out)
              go_wp2_with fail
              refine K.out.mono ?_
              clear K hs3 ht3 HLEN3
              rintro e wc3 ⟨rfl, hbn⟩
              replace hb := hb.trans (hbn.mono hb.size)
              replace hs4 := hs4.below hbn
              replace ht4 := ht4.below hbn
              clear hbn
              have K := Lib.hid (lsame_any R4 L aB A4 B4 n4 m4 c4 d4 _ (HS.out.below hb) HA.out hs4 ht4 HLEN4.out)
              go_wp2_with fail
              refine K.out.mono ?_
              clear K hs4 ht4 HLEN4
              rintro e wc4 ⟨rfl, hbn⟩
              replace hb := hb.trans (hbn.mono hb.size)
              clear hbn
              have K1 := Lib.hid ((lesc_any _ m aB wc4 (HVM2.out _ hb) TM.out (HE.out.below hb)))
              have K2 := Lib.hid ((fun W (hq : Below wc4.heap.size wc4 W) => resc_any _ m W ((HVM2.out _ hb).below hq) TM.out TQ.out))
              have HLEN5 := Lib.hid (show (((eachL (fun s => [escapeL s]) m)).getD []).length ≤ 1000000 from each_len)
              try rw [← HNL.out] at K1
              try rw [← HNL.out] at K2
              obtain ⟨R5, hR⟩ : ∃ R, R = (eachL (fun s => [escapeL s]) m) := ⟨_, rfl⟩
              rw [← hR] at K1 K2 HLEN5
              clear hR
              go_wp2_with fail
              refine K1.out.mono ?_
              rintro e wa5 h
              obtain ⟨A5, n5, c5, er5, rfl, he, hs5, hbn⟩ := h.lw
              subst he
              replace hb := hb.trans (hbn.mono hb.size)
              clear h K1
              go_wp2_with fail
              refine (K2.out _ hbn).mono ?_
              rintro e wb5 ⟨B5, m5, d5, rfl, ht5, hbm⟩
              replace hs5 := hs5.below hbm
              replace hb := hb.trans (hbm.mono hb.size)
              clear K2
              clear hbn hbm
              have K1 := Lib.hid ((flat_any _ m aB wb5 (HVM2.out _ hb) TM.out.1 (fun s hs => by have := TM.out.2 s hs; omega) (HE.out.below hb)))
              have K2 := Lib.hid ((fun W (hq : Below wb5.heap.size wb5 W) => rflat_any _ m W ((HVM2.out _ hb).below hq) TM.out))
              have HLEN6 := Lib.hid (show (((flatTx m)).getD []).length ≤ 1000000 from flatR_len)
              try rw [← HNL.out] at K1
              try rw [← HNL.out] at K2
              obtain ⟨R6, hR⟩ : ∃ R, R = (flatTx m) := ⟨_, rfl⟩
              rw [← hR] at K1 K2 HLEN6
              clear hR
              go_wp2_with fail
              refine K1.out.mono ?_
              rintro e wa6 h
              obtain ⟨A6, n6, c6, er6, rfl, he, hs6, hbn⟩ := h.lw
              subst he
              replace hb := hb.trans (hbn.mono hb.size)
              clear h K1
              go_wp2_with fail
              refine (K2.out _ hbn).mono ?_
              rintro e wb6 ⟨B6, m6, d6, rfl, ht6, hbm⟩
              replace hs6 := hs6.below hbm
              replace hb := hb.trans (hbm.mono hb.size)
              clear K2
              replace hs5 := (hs5.below hbn).below hbm
              replace ht5 := (ht5.below hbn).below hbm
              clear hbn hbm
              have K := Lib.hid (lsame_any R5 L aB A5 B5 n5 m5 c5 d5 _ (HS.out.below hb) HA.out hs5 ht5 HLEN5.out)
              go_wp2_with fail
              refine K.out.mono ?_
              clear K hs5 ht5 HLEN5
              rintro e wc5 ⟨rfl, hbn⟩
              replace hb := hb.trans (hbn.mono hb.size)
              replace hs6 := hs6.below hbn
              replace ht6 := ht6.below hbn
              clear hbn
              have K := Lib.hid (lsame_any R6 L aB A6 B6 n6 m6 c6 d6 _ (HS.out.below hb) HA.out hs6 ht6 HLEN6.out)
              go_wp2_with fail
              refine K.out.mono ?_
              clear K hs6 ht6 HLEN6
              rintro e wc6 ⟨rfl, hbn⟩
              replace hb := hb.trans (hbn.mono hb.size)
              clear hbn
              go_upto_if 177 with (fail)
              go_cut [] from 178 to 195 (fun wx => Below w.heap.size w wx)
              case first =>
                cases b with
                | false =>
                  go_wp2_with fail
                  go_meet
                  exact hb
                | true =>
                  have K1 := Lib.hid ((lglob_any _ _ m nm aB wc6 (HVM2.out _ hb) TM.out (HVN2.out _ hb) SN.out (HE.out.below hb)))
                  have K2 := Lib.hid ((fun W (hq : Below wc6.heap.size wc6 W) => rglob_any _ _ m nm W ((HVM2.out _ hb).below hq) TM.out ((HVN2.out _ hb).below hq) SN.out TP.out))
                  have HLEN7 := Lib.hid (show (((eachL (globOf nm) m)).getD []).length ≤ 1000000 from each_len)
                  try rw [← HNL.out] at K1
                  try rw [← HNL.out] at K2
                  obtain ⟨R7, hR⟩ : ∃ R, R = (eachL (globOf nm) m) := ⟨_, rfl⟩
                  rw [← hR] at K1 K2 HLEN7
                  clear hR
                  go_wp2_with fail
                  refine K1.out.mono ?_
                  rintro e wa7 h
                  obtain ⟨A7, n7, c7, er7, rfl, he, hs7, hbn⟩ := h.lw
                  subst he
                  replace hb := hb.trans (hbn.mono hb.size)
                  clear h K1
                  go_wp2_with fail
                  refine (K2.out _ hbn).mono ?_
                  rintro e wb7 ⟨B7, m7, d7, rfl, ht7, hbm⟩
                  replace hs7 := hs7.below hbm
                  replace hb := hb.trans (hbm.mono hb.size)
                  clear K2
                  clear hbn hbm
                  have K := Lib.hid (lsame_any R7 L aB A7 B7 n7 m7 c7 d7 _ (HS.out.below hb) HA.out hs7 ht7 HLEN7.out)
                  go_wp2_with fail
                  refine K.out.mono ?_
                  clear K hs7 ht7 HLEN7
                  rintro e wc7 ⟨rfl, hbn⟩
                  replace hb := hb.trans (hbn.mono hb.size)
                  clear hbn
                  go_wp2_with fail
                  go_meet
                  exact hb
              case rest =>
              clear hb
              have hb := hcut
              clear hcut
              generalize wc = w5 at *
              go_upto_region 37 with (fail)
              go_cut [203] from 196 to 203 (fun v wx => v = .bool (decide (1 ≤ n ∧ n ≤ (nm0 : Int))) ∧ w5 = wx)
              case first =>
                by_cases h1 : 1 ≤ n
                · have HQ := Lib.hid (show decide (n ≤ (nm0 : Int)) = decide (1 ≤ n ∧ n ≤ (nm0 : Int)) from decide_eq_decide.2 ⟨fun h => ⟨h1, h⟩, fun h => h.2⟩)
                  go_wp2_with fail
                  go_meet
                  exact ⟨congrArg _ HQ.out, rfl⟩
                · have HQ := Lib.hid (show decide (1 ≤ n ∧ n ≤ (nm0 : Int)) = false from decide_eq_false (fun h => h1 h.1))
                  go_wp2_with fail
                  go_meet
                  exact ⟨congrArg _ HQ.out.symm, rfl⟩
              case rest =>
              obtain ⟨rfl, rfl⟩ := hcut
              have HD := Lib.hid (show (decide (1 ≤ n ∧ n ≤ (nm0 : Int)) = true → 1 ≤ n ∧ n ≤ (nm0 : Int)) ∧ (decide (1 ≤ n ∧ n ≤ (nm0 : Int)) = false → ¬ (1 ≤ n ∧ n ≤ (nm0 : Int))) from ⟨of_decide_eq_true, of_decide_eq_false⟩)
              generalize decide (1 ≤ n ∧ n ≤ (nm0 : Int)) = qp at *
              go_upto_if 203 with (fail)
              go_cut [23] from 204 to 209 (fun v wx => (∃ A k c, v = .slice A k c) ∧ Hid (SlS wx v (pickL m n)) ∧ Below w5.heap.size w5 wx)
              case first =>
                cases qp with
                | false =>
                  have HPK := Lib.hid (show pickL m n = [] from pick_none (by rw [← HNM.out]; exact HD.out.2 rfl))
                  go_wp2_with fail
                  go_meet
                  rw [HPK.out]
                  exact ⟨⟨_, _, _, rfl⟩, Lib.hid (SlS.nil _), Below.refl _ _⟩
                | true =>
                  obtain ⟨g1, g2⟩ := HD.out.1 rfl
                  obtain ⟨k, rfl⟩ : ∃ k : Nat, n = (k : Int) + 1 := ⟨(n - 1).toNat, by omega⟩
                  have hkm : k < nm0 := by omega
                  have hkL : k < m.length := by rw [← HNM.out]; exact hkm
                  have HPK := Lib.hid (pick_one hkL)
                  obtain ⟨A', c', he, hrd, _⟩ := HVM2.out _ hb
                  injection he with he1 he2 he3
                  clear he2
                  subst he1 he3
                  obtain ⟨b', o', rfl⟩ := hrd.ats hkL
                  have cx := hrd.strs hkL
                  generalize m[k] = x at *
                  clear hrd hkL
                  go_wp2_with fail
                  go_meet
                  rw [HPK.out]
                  exact ⟨⟨_, _, _, rfl⟩, Lib.hid (SlS.one _ x), below1 _ _⟩
              case rest =>
              obtain ⟨⟨AP, kP, cP, rfl⟩, HPS, hb5⟩ := hcut
              generalize wc = w6 at *
              replace hb := hb.trans (hb5.mono hb.size)
              have hm1 : nm0 ≤ 1000000 := by omega
              have CC := Lib.hid (fun (x : World) (hq : Below w6.heap.size w6 x) => countT_any (.slice Am nm0 cm) m x ((HVM2.out _ hb).below hq) TM.out.1 (tab_below (tab_below HP.out hb) hq))
              have CN := Lib.hid (fun (x : World) (hq : Below w6.heap.size w6 x) => number_any nm0 hm1 x)
              rw [← HNM.out] at CC
              have CP := Lib.hid (fun (x : World) (hq : Below w6.heap.size w6 x) => pickN_any Am cm m n x (by rw [← HNM.out]; exact (HVM2.out _ hb).below hq) TM.out.1 hn)
              rw [← HNM.out] at CP
              have CT := Lib.hid (fun (x : World) (hq : Below w6.heap.size w6 x) => (ltrim_any s x (by rw [← HNS.out]; omega)).mono (R' := Ret x (.string ⟨(trimN s).toArray⟩)) (fun e w' ⟨h1, h2⟩ => ⟨h1, by rw [h2]; exact Below.refl _ _⟩))
              have CU := Lib.hid (fun (x : World) (hq : Below w6.heap.size w6 x) => (rtrim_any s x (by rw [← HNS.out]; omega)).mono (R' := Ret x (.string ⟨(trimN s).toArray⟩)) (fun e w' ⟨h1, h2⟩ => ⟨h1, by rw [h2]; exact Below.refl _ _⟩))
              have CE := Lib.hid (fun (x : World) (hq : Below w6.heap.size w6 x) => same_any (.slice Am nm0 cm) (.slice An nn0 cn) m nm x ((HVM2.out _ hb).below hq) ((HVN2.out _ hb).below hq) TM.out.1 SN.out.1)
              have CF := Lib.hid (fun (x : World) (hq : Below w6.heap.size w6 x) => sameTexts_v (.slice Am nm0 cm) (.slice An nn0 cn) m nm x ((HVM2.out _ hb).below hq) ((HVN2.out _ hb).below hq) TM.out.1 SN.out.1)
              have CG := Lib.hid (fun (x : World) (hq : Below w6.heap.size w6 x) => fits_any (.slice Am nm0 cm) m aB x ((HVM2.out _ hb).below hq) TM.out.1 ((HE.out.below hb).below hq))
              have CH := Lib.hid (fun (x : World) (hq : Below w6.heap.size w6 x) => rfits_any (.slice Am nm0 cm) m x ((HVM2.out _ hb).below hq) TM.out.1 (fun s hs => by have := TM.out.2 s hs; omega))
              have HFV := Lib.hid (show ((if bigL m then bigV aB else Value.nilIface) = bigV aB ∧ (!bigL m) = false) ∨ ((if bigL m then bigV aB else Value.nilIface) = Value.nilIface ∧ (!bigL m) = true) from by cases bigL m <;> simp)
              have HPL := Lib.hid (pickL_len2 m n)
              generalize decide (m = nm) = qe at *
              generalize (if bigL m then bigV aB else Value.nilIface) = fv at *
              generalize bigL m = qb at *
              generalize (!qb) = qn at *
              generalize trimN s = ts at *
              generalize Lib.decDigits nm0 = dd at *
              go_upto_region 39 with (fail)
              apply wp_region_rel [eqT _, slT [dd], eqT _, eqT _, eqT (.string ⟨dd.toArray⟩), rdS 1 [dd], eqT (.bool true), eqT _, eqT _, eqT _, slT (pickL m n), eqT _, eqT (.bool true), eqT _, eqT _, eqT _, eqT (.string ⟨ts.toArray⟩), eqT _, eqT (.string ⟨ts.toArray⟩), eqT (.bool true), eqT _, eqT _, eqT _, eqT _, eqT (.bool qe), eqT _, eqT _, eqT (.bool qe), eqT (.bool true), eqT _, eqT _, eqT _, eqT fv, eqT (.bool qn), eqT _, eqT (.bool qn), eqT (.bool true), eqT _, eqT _] (by kernel_rfl) (by kernel_rfl) rfl
              focus
                refine ⟨?_, ?_⟩
                focus
                  unfold opGoal
                  rw [if_pos (by kernel_rfl)]
                  intro x hb hd K hk
                  clear hd
                  go_wp2_with fail
                  exact hk _ _ rfl trivial (Below.refl _ _)
                rintro _ rfl
                simp only [Act.put, List.setIfInBounds_toArray, List.set_cons_succ, List.set_cons_zero]
                refine ⟨?_, ?_⟩
                focus
                  unfold opGoal
                  rw [if_pos (by kernel_rfl)]
                  intro x hb hd K hk
                  clear hd
                  go_wp2_with fail
                  refine (Hid.out CC x hb).mono ?_
                  rintro e x' ⟨v', rfl, ho', hb'⟩
                  have hs' := ho'.rd
                  obtain ⟨A', c', he', _⟩ := ho'.rd
                  subst he'
                  exact hk _ _ ⟨_, _, _, rfl⟩ hs' hb'
                rintro _ ⟨A1, n1, c1, rfl⟩
                simp only [Act.put, List.setIfInBounds_toArray, List.set_cons_succ, List.set_cons_zero]
                refine ⟨?_, ?_⟩
                focus
                  unfold opGoal
                  rw [if_pos (by kernel_rfl)]
                  intro x hb hd K hk
                  clear hd
                  go_wp2_with fail
                  exact hk _ _ rfl trivial (Below.refl _ _)
                rintro _ rfl
                simp only [Act.put, List.setIfInBounds_toArray, List.set_cons_succ, List.set_cons_zero]
                refine ⟨?_, ?_⟩
                focus
                  unfold opGoal
                  rw [if_pos (by kernel_rfl)]
                  intro x hb hd K hk
                  clear hd
                  go_wp2_with fail
                  exact hk _ _ rfl trivial (Below.refl _ _)
                rintro _ rfl
                simp only [Act.put, List.setIfInBounds_toArray, List.set_cons_succ, List.set_cons_zero]
                refine ⟨?_, ?_⟩
                focus
                  unfold opGoal
                  rw [if_pos (by kernel_rfl)]
                  intro x hb hd K hk
                  clear hd
                  go_wp2_with fail
                  refine (Hid.out CN x hb).mono ?_
                  rintro e x' ⟨rfl, hb'⟩
                  exact hk _ _ rfl trivial hb'
                rintro _ rfl
                simp only [Act.put, List.setIfInBounds_toArray, List.set_cons_succ, List.set_cons_zero]
                refine ⟨?_, ?_⟩
                focus
                  unfold opGoal
                  rw [if_pos (by kernel_rfl)]
                  intro x hb hd K hk
                  clear hd
                  go_wp2_with fail
                  exact hk _ _ ⟨_, rfl⟩ (SlS.one x dd) ((Below.refl _ _).alloc (Nat.le_refl _) _)
                rintro _ ⟨g215, rfl⟩
                simp only [Act.put, List.setIfInBounds_toArray, List.set_cons_succ, List.set_cons_zero]
                refine ⟨?_, ?_⟩
                focus
                  unfold opGoal
                  rw [if_pos (by kernel_rfl)]
                  intro x hb hd K hk
                  have h1 : SlS x (.slice A1 n1 c1) [dd] := hd _ (List.mem_cons_self ..) rfl _ _ rfl rfl
                  have h2 : SlS x (.slice (some ⟨g215, 0, none⟩) 1 1) [dd] := hd _ (List.mem_cons_of_mem _ (List.mem_cons_self ..)) rfl _ _ rfl rfl
                  have K := Lib.hid (sameTexts_v _ _ [dd] [dd] x h1 h2 (by show 1 ≤ 1000000; decide) (by show 1 ≤ 1000000; decide))
                  rw [decide_eq_true rfl] at K
                  clear hd h1 h2
                  go_wp2_with fail
                  refine K.out.mono ?_
                  rintro e x' ⟨rfl, hb'⟩
                  exact hk _ _ rfl trivial hb'
                rintro _ rfl
                simp only [Act.put, List.setIfInBounds_toArray, List.set_cons_succ, List.set_cons_zero]
                refine ⟨?_, ?_⟩
                focus
                  unfold opGoal
                  rw [if_pos (by kernel_rfl)]
                  intro x hb hd K hk
                  clear hd
                  go_wp2_with fail
                  exact hk _ _ rfl trivial (Below.refl _ _)
                rintro _ rfl
                simp only [Act.put, List.setIfInBounds_toArray, List.set_cons_succ, List.set_cons_zero]
                refine ⟨?_, ?_⟩
                focus
                  unfold opGoal
                  rw [if_pos (by kernel_rfl)]
                  intro x hb hd K hk
                  clear hd
                  go_wp2_with fail
                  exact hk _ _ rfl trivial (Below.refl _ _)
                rintro _ rfl
                simp only [Act.put, List.setIfInBounds_toArray, List.set_cons_succ, List.set_cons_zero]
                refine ⟨?_, ?_⟩
                focus
                  unfold opGoal
                  rw [if_pos (by kernel_rfl)]
                  intro x hb hd K hk
                  clear hd
                  go_wp2_with fail
                  exact hk _ _ rfl trivial (Below.refl _ _)
                rintro _ rfl
                simp only [Act.put, List.setIfInBounds_toArray, List.set_cons_succ, List.set_cons_zero]
                refine ⟨?_, ?_⟩
                focus
                  unfold opGoal
                  rw [if_pos (by kernel_rfl)]
                  intro x hb hd K hk
                  clear hd
                  go_wp2_with fail
                  refine (Hid.out CP x hb).mono ?_
                  rintro e x' ⟨v', rfl, ho', hb'⟩
                  have hs' := ho'.rd
                  obtain ⟨A', c', he', _⟩ := ho'.rd
                  subst he'
                  exact hk _ _ ⟨_, _, _, rfl⟩ hs' hb'
                rintro _ ⟨A2, n2, c2, rfl⟩
                simp only [Act.put, List.setIfInBounds_toArray, List.set_cons_succ, List.set_cons_zero]
                refine ⟨?_, ?_⟩
                focus
                  unfold opGoal
                  rw [if_pos (by kernel_rfl)]
                  intro x hb hd K hk
                  clear hd
                  go_wp2_with fail
                  exact hk _ _ rfl trivial (Below.refl _ _)
                rintro _ rfl
                simp only [Act.put, List.setIfInBounds_toArray, List.set_cons_succ, List.set_cons_zero]
                refine ⟨?_, ?_⟩
                focus
                  unfold opGoal
                  rw [if_pos (by kernel_rfl)]
                  intro x hb hd K hk
                  have h1 : SlS x (.slice A2 n2 c2) (pickL m n) := hd _ (List.mem_cons_self ..) rfl _ _ rfl rfl
                  have h2 : SlS x (.slice AP kP cP) (pickL m n) := HPS.out.below hb
                  have K := Lib.hid (sameTexts_v _ _ (pickL m n) (pickL m n) x h1 h2 HPL.out HPL.out)
                  rw [decide_eq_true rfl] at K
                  clear hd h1 h2
                  go_wp2_with fail
                  refine K.out.mono ?_
                  rintro e x' ⟨rfl, hb'⟩
                  exact hk _ _ rfl trivial hb'
                rintro _ rfl
                simp only [Act.put, List.setIfInBounds_toArray, List.set_cons_succ, List.set_cons_zero]
                refine ⟨?_, ?_⟩
                focus
                  unfold opGoal
                  rw [if_pos (by kernel_rfl)]
                  intro x hb hd K hk
                  clear hd
                  go_wp2_with fail
                  exact hk _ _ rfl trivial (Below.refl _ _)
                rintro _ rfl
                simp only [Act.put, List.setIfInBounds_toArray, List.set_cons_succ, List.set_cons_zero]
                refine ⟨?_, ?_⟩
                focus
                  unfold opGoal
                  rw [if_pos (by kernel_rfl)]
                  intro x hb hd K hk
                  clear hd
                  go_wp2_with fail
                  exact hk _ _ rfl trivial (Below.refl _ _)
                rintro _ rfl
                simp only [Act.put, List.setIfInBounds_toArray, List.set_cons_succ, List.set_cons_zero]
                refine ⟨?_, ?_⟩
                focus
                  unfold opGoal
                  rw [if_pos (by kernel_rfl)]
                  intro x hb hd K hk
                  clear hd
                  go_wp2_with fail
                  exact hk _ _ rfl trivial (Below.refl _ _)
                rintro _ rfl
                simp only [Act.put, List.setIfInBounds_toArray, List.set_cons_succ, List.set_cons_zero]
                refine ⟨?_, ?_⟩
                focus
                  unfold opGoal
                  rw [if_pos (by kernel_rfl)]
                  intro x hb hd K hk
                  clear hd
                  go_wp2_with fail
                  refine (Hid.out CT x hb).mono ?_
                  rintro e x' ⟨rfl, hb'⟩
                  exact hk _ _ rfl trivial hb'
                rintro _ rfl
                simp only [Act.put, List.setIfInBounds_toArray, List.set_cons_succ, List.set_cons_zero]
                refine ⟨?_, ?_⟩
                focus
                  unfold opGoal
                  rw [if_pos (by kernel_rfl)]
                  intro x hb hd K hk
                  clear hd
                  go_wp2_with fail
                  exact hk _ _ rfl trivial (Below.refl _ _)
                rintro _ rfl
                simp only [Act.put, List.setIfInBounds_toArray, List.set_cons_succ, List.set_cons_zero]
                refine ⟨?_, ?_⟩
                focus
                  unfold opGoal
                  rw [if_pos (by kernel_rfl)]
                  intro x hb hd K hk
                  clear hd
                  go_wp2_with fail
                  refine (Hid.out CU x hb).mono ?_
                  rintro e x' ⟨rfl, hb'⟩
                  exact hk _ _ rfl trivial hb'
                rintro _ rfl
                simp only [Act.put, List.setIfInBounds_toArray, List.set_cons_succ, List.set_cons_zero]
                refine ⟨?_, ?_⟩
                focus
                  unfold opGoal
                  rw [if_pos (by kernel_rfl)]
                  intro x hb hd K hk
                  clear hd
                  go_wp2_with fail
                  exact hk _ _ ((congrArg Value.bool (by simp))) trivial (Below.refl _ _)
                rintro _ rfl
                simp only [Act.put, List.setIfInBounds_toArray, List.set_cons_succ, List.set_cons_zero]
                refine ⟨?_, ?_⟩
                focus
                  unfold opGoal
                  rw [if_pos (by kernel_rfl)]
                  intro x hb hd K hk
                  clear hd
                  go_wp2_with fail
                  exact hk _ _ rfl trivial (Below.refl _ _)
                rintro _ rfl
                simp only [Act.put, List.setIfInBounds_toArray, List.set_cons_succ, List.set_cons_zero]
                refine ⟨?_, ?_⟩
                focus
                  unfold opGoal
                  rw [if_pos (by kernel_rfl)]
                  intro x hb hd K hk
                  clear hd
                  go_wp2_with fail
                  exact hk _ _ rfl trivial (Below.refl _ _)
                rintro _ rfl
                simp only [Act.put, List.setIfInBounds_toArray, List.set_cons_succ, List.set_cons_zero]
                refine ⟨?_, ?_⟩
                focus
                  unfold opGoal
                  rw [if_pos (by kernel_rfl)]
                  intro x hb hd K hk
                  clear hd
                  go_wp2_with fail
                  exact hk _ _ rfl trivial (Below.refl _ _)
                rintro _ rfl
                simp only [Act.put, List.setIfInBounds_toArray, List.set_cons_succ, List.set_cons_zero]
                refine ⟨?_, ?_⟩
                focus
                  unfold opGoal
                  rw [if_pos (by kernel_rfl)]
                  intro x hb hd K hk
                  clear hd
                  go_wp2_with fail
                  exact hk _ _ rfl trivial (Below.refl _ _)
                rintro _ rfl
                simp only [Act.put, List.setIfInBounds_toArray, List.set_cons_succ, List.set_cons_zero]
                refine ⟨?_, ?_⟩
                focus
                  unfold opGoal
                  rw [if_pos (by kernel_rfl)]
                  intro x hb hd K hk
                  clear hd
                  go_wp2_with fail
                  refine (Hid.out CE x hb).mono ?_
                  rintro e x' ⟨rfl, hb'⟩
                  exact hk _ _ rfl trivial hb'
                rintro _ rfl
                simp only [Act.put, List.setIfInBounds_toArray, List.set_cons_succ, List.set_cons_zero]
                refine ⟨?_, ?_⟩
                focus
                  unfold opGoal
                  rw [if_pos (by kernel_rfl)]
                  intro x hb hd K hk
                  clear hd
                  go_wp2_with fail
                  exact hk _ _ rfl trivial (Below.refl _ _)
                rintro _ rfl
                simp only [Act.put, List.setIfInBounds_toArray, List.set_cons_succ, List.set_cons_zero]
                refine ⟨?_, ?_⟩
                focus
                  unfold opGoal
                  rw [if_pos (by kernel_rfl)]
                  intro x hb hd K hk
                  clear hd
                  go_wp2_with fail
                  exact hk _ _ rfl trivial (Below.refl _ _)
                rintro _ rfl
                simp only [Act.put, List.setIfInBounds_toArray, List.set_cons_succ, List.set_cons_zero]
                refine ⟨?_, ?_⟩
                focus
                  unfold opGoal
                  rw [if_pos (by kernel_rfl)]
                  intro x hb hd K hk
                  clear hd
                  go_wp2_with fail
                  refine (Hid.out CF x hb).mono ?_
                  rintro e x' ⟨rfl, hb'⟩
                  exact hk _ _ rfl trivial hb'
                rintro _ rfl
                simp only [Act.put, List.setIfInBounds_toArray, List.set_cons_succ, List.set_cons_zero]
                refine ⟨?_, ?_⟩
                focus
                  unfold opGoal
                  rw [if_pos (by kernel_rfl)]
                  intro x hb hd K hk
                  clear hd
                  go_wp2_with fail
                  exact hk _ _ ((congrArg Value.bool (by simp))) trivial (Below.refl _ _)
                rintro _ rfl
                simp only [Act.put, List.setIfInBounds_toArray, List.set_cons_succ, List.set_cons_zero]
                refine ⟨?_, ?_⟩
                focus
                  unfold opGoal
                  rw [if_pos (by kernel_rfl)]
                  intro x hb hd K hk
                  clear hd
                  go_wp2_with fail
                  exact hk _ _ rfl trivial (Below.refl _ _)
                rintro _ rfl
                simp only [Act.put, List.setIfInBounds_toArray, List.set_cons_succ, List.set_cons_zero]
                refine ⟨?_, ?_⟩
                focus
                  unfold opGoal
                  rw [if_pos (by kernel_rfl)]
                  intro x hb hd K hk
                  clear hd
                  go_wp2_with fail
                  exact hk _ _ rfl trivial (Below.refl _ _)
                rintro _ rfl
                simp only [Act.put, List.setIfInBounds_toArray, List.set_cons_succ, List.set_cons_zero]
                refine ⟨?_, ?_⟩
                focus
                  unfold opGoal
                  rw [if_pos (by kernel_rfl)]
                  intro x hb hd K hk
                  clear hd
                  go_wp2_with fail
                  exact hk _ _ rfl trivial (Below.refl _ _)
                rintro _ rfl
                simp only [Act.put, List.setIfInBounds_toArray, List.set_cons_succ, List.set_cons_zero]
                refine ⟨?_, ?_⟩
                focus
                  unfold opGoal
                  rw [if_pos (by kernel_rfl)]
                  intro x hb hd K hk
                  clear hd
                  go_wp2_with fail
                  refine (Hid.out CG x hb).mono ?_
                  rintro e x' ⟨rfl, hb'⟩
                  exact hk _ _ rfl trivial hb'
                rintro _ rfl
                simp only [Act.put, List.setIfInBounds_toArray, List.set_cons_succ, List.set_cons_zero]
                refine ⟨?_, ?_⟩
                focus
                  unfold opGoal
                  rw [if_pos (by kernel_rfl)]
                  intro x hb hd K hk
                  clear hd
                  rcases HFV.out with ⟨h1, h2⟩ | ⟨h1, h2⟩
                  · subst h1 h2
                    unfold bigV
                    go_wp2_with fail
                    exact hk _ _ rfl trivial (Below.refl _ _)
                  · subst h1 h2
                    go_wp2_with fail
                    exact hk _ _ rfl trivial (Below.refl _ _)
                rintro _ rfl
                simp only [Act.put, List.setIfInBounds_toArray, List.set_cons_succ, List.set_cons_zero]
                refine ⟨?_, ?_⟩
                focus
                  unfold opGoal
                  rw [if_pos (by kernel_rfl)]
                  intro x hb hd K hk
                  clear hd
                  go_wp2_with fail
                  exact hk _ _ rfl trivial (Below.refl _ _)
                rintro _ rfl
                simp only [Act.put, List.setIfInBounds_toArray, List.set_cons_succ, List.set_cons_zero]
                refine ⟨?_, ?_⟩
                focus
                  unfold opGoal
                  rw [if_pos (by kernel_rfl)]
                  intro x hb hd K hk
                  clear hd
                  go_wp2_with fail
                  refine (Hid.out CH x hb).mono ?_
                  rintro e x' ⟨rfl, hb'⟩
                  exact hk _ _ rfl trivial hb'
                rintro _ rfl
                simp only [Act.put, List.setIfInBounds_toArray, List.set_cons_succ, List.set_cons_zero]
                refine ⟨?_, ?_⟩
                focus
                  unfold opGoal
                  rw [if_pos (by kernel_rfl)]
                  intro x hb hd K hk
                  clear hd
                  go_wp2_with fail
                  exact hk _ _ ((congrArg Value.bool (by simp))) trivial (Below.refl _ _)
                rintro _ rfl
                simp only [Act.put, List.setIfInBounds_toArray, List.set_cons_succ, List.set_cons_zero]
                refine ⟨?_, ?_⟩
                focus
                  unfold opGoal
                  rw [if_pos (by kernel_rfl)]
                  intro x hb hd K hk
                  clear hd
                  go_wp2_with fail
                  exact hk _ _ rfl trivial (Below.refl _ _)
                rintro _ rfl
                simp only [Act.put, List.setIfInBounds_toArray, List.set_cons_succ, List.set_cons_zero]
                refine ⟨?_, ?_⟩
                focus
                  unfold opGoal
                  rw [if_pos (by kernel_rfl)]
                  intro x hb hd K hk
                  clear hd
                  go_wp2_with fail
                  exact hk _ _ rfl trivial (Below.refl _ _)
                rintro _ rfl
                simp only [Act.put, List.setIfInBounds_toArray, List.set_cons_succ, List.set_cons_zero]
                intro x hbq hf
                clear hf
                replace hb := hb.trans (hbq.mono hb.size)
                go_wp2_with fail
                go_ret
                exact ⟨rfl, hb⟩
end Go.Proofs.YtlhpflilpdceiaaGreatDoor

/- ListsSay, as the row hands its arguments in. What the package-level errors and the library's table hold are hypotheses. -/
set_option linter.unusedVariables false
set_option linter.unusedSimpArgs false
namespace Go.Proofs.YtlhpflilpdceiaaGreatDoor
open Go.RowKit

theorem lsay_row (A0 : Option Addr) (c0 : Nat) (l : List (List (List UInt8))) (Am : Option Addr) (cm : Nat) (m : List (List UInt8)) (An : Option Addr) (cn : Nat) (nm : List (List UInt8)) (n : Int) (s : ByteArray) (L : List Addr) (w : World)
    (hr0 : KdS w A0 l) (hc0 : l.length ≤ c0) (hm0 : c0 ≤ maxLen) (hn0 : A0 = none → c0 = 0) (hb0 : ∀ x ∈ l, ∀ y ∈ x, y.length ≤ 140737488355328)
    (hr1 : RdL w 1 strc Am m) (hc1 : m.length ≤ cm) (hm1 : cm ≤ maxLen) (hn1 : Am = none → cm = 0) (hb1 : ∀ x ∈ m, x.length ≤ 140737488355328)
    (hr2 : RdL w 1 strc An nm) (hc2 : nm.length ≤ cn) (hm2 : cn ≤ maxLen) (hn2 : An = none → cn = 0) (hb2 : ∀ x ∈ nm, x.length ≤ 140737488355328)
    (h3 : (Lit.int .i64 n).wf = true) (h4 : s.data.toList.length ≤ 140737488355328) (hS : SenW w L) (hp : Pow w) :
    Calls Tryz.prog 3 #[.slice A0 l.length c0, .slice Am m.length cm, .slice An nm.length cn, .int .i64 n, .string s] w fun e w' => e = .returned (.bool true) ∧ Below w.heap.size w w' := by
  simp only [Lit.wf, Bool.and_eq_true, decide_eq_true_eq] at h3
  have e1 : IntKind.i64.min = -9223372036854775808 := by decide
  have e2 : IntKind.i64.max = 9223372036854775807 := by decide
  rw [e1, e2] at h3
  have hn := h3
  exact lsay_card A0 c0 l Am cm m An cn nm n s.data.toList L w hr0 hc0 hm0 hb0 ⟨Am, cm, rfl, hr1, hn1, hc1, hm1⟩ hb1 ⟨An, cn, rfl, hr2, hn2, hc2, hm2⟩ hb2 hn h4 hS hp
end Go.Proofs.YtlhpflilpdceiaaGreatDoor
