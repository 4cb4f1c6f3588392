/- The walk over CodeChecks. -/
import Derived.Test.YtpogngdddendiaaDoorCodeY
import Derived.Test.YtpogngdddendiaaDoorCodeZ
import Derived.Test.YtpogngdddendiaaDoorCodL
set_option linter.unusedVariables false
set_option linter.unusedSimpArgs false
namespace Go.Proofs.YtpogngdddendiaaDoor
open Go.RowKit

theorem beqL (a b : ByteArray) (h : ¬ a = b) : (a.toList == b.toList) = false := by
  rw [beq_eq_false_iff_ne]
  intro e
  rw [ByteArray.toList_eq, ByteArray.toList_eq] at e
  exact h (ByteArray.ext (Array.ext' e))
def errvT (L : List Addr) (code : Int) (ats : List Int) : TT := ⟨fun _ => True, ⟨undef, trivial⟩, fun v x => ErrV x L v code ats, fun _ _ _ h hb => h.below hb⟩
theorem faultC_ats (X : List Ins) (st : Int) : (faultC X st).2.length ≤ 1 := by
  unfold faultC
  split
  · exact Nat.zero_le _
  · cases firstBad X.length 0 X
    · exact Nat.zero_le _
    · exact Nat.le_refl _
theorem SameI_self (l : List Int) : SameI l l = true := (SameI_iff l l).2 rfl
set_option maxRecDepth 100000 in
set_option maxHeartbeats 8000000 in
theorem codechecks_walk (A : Option Addr) (c : Nat) (X : List Ins) (st op at_ : Int) (s : ByteArray) (L : List Addr) (w : World) (hrd : RdL w 4 insc A X) (hX : X.length ≤ 9223372036854775807) (hs : ∀ x ∈ X, x.s.length ≤ 140737488355328) (hop : InI op) (hat : InI at_) (hS : SenW w L) (hp : PowI w) :
    Calls Tryd.prog 7 #[.slice A X.length c, .int .i64 st, .int .i64 op, .int .i64 at_, .string s] w (Ret w (.bool true)) := by
  have FC := Lib.hid (first22_any L w hS hp)
  have LC := Lib.hid (fun W (hW : Below w.heap.size w W) => light22_any X A c W hs hX (hrd.below hW))
  have HRD := Lib.hid hrd
  have HS := Lib.hid hS
  have HSL := Lib.hid hs
  have HOP := Lib.hid hop
  have HAT := Lib.hid hat
  obtain ⟨m, hm⟩ : ∃ m, X.length = m := ⟨_, rfl⟩
  have HM := Lib.hid hm
  obtain ⟨r, hr⟩ : ∃ r, lightI X = r := ⟨_, rfl⟩
  have HLR := Lib.hid hr
  rw [hm] at LC hX ⊢
  rw [hr] at LC
  clear hrd hS hs hop hat hm hr hp
  go_enter Tryd.func7, Tryd.ntmps7
  go_wp2_with fail
  refine FC.out.mono ?_
  rintro e w1 ⟨rfl, hb1⟩
  have HB1 := Lib.hid hb1
  clear hb1 FC
  go_wp2_with fail
  refine (LC.out w1 HB1.out).mono ?_
  rintro e w2 ⟨rfl, rfl⟩
  clear LC
  cases r with
  | false =>
    go_wp2_with fail
    go_ret
    exact ⟨rfl, HB1.out⟩
  | true =>
  by_cases hs100 : (100 : Int) < (s.size : Int)
  · go_wp2_with fail
    go_ret
    exact ⟨rfl, HB1.out⟩
  have HSM := Lib.hid (lightI_small HLR.out)
  have hm200 : m ≤ 200 := by rw [← HM.out]; exact HSM.out.1
  have HM200 := Lib.hid hm200
  have hs2 : decide ((100 : Int) < (s.size : Int)) = false := decide_eq_false hs100
  have hss : s.size ≤ 100 := by omega
  have MC := Lib.hid (made22_any X A c st w2 (by rw [HM.out]; omega) (HRD.out.below HB1.out))
  rw [HM.out] at MC
  clear hs100 HLR
  go_upto_region 4 with (fail)
  go_wp2_with fail
  refine MC.out.mono ?_
  rintro e w3 ⟨A3, c3, rfl, r3, hb3⟩
  rw [HM.out]
  obtain ⟨W4, hW4⟩ : ∃ W4, W4 = w3.alloc (.cells #[.slice A3 m c3, .int .i64 st] 29) := ⟨_, rfl⟩
  have hb4 : Below w3.heap.size w3 W4 := by rw [hW4]; exact (Below.refl _ _).alloc (Nat.le_refl _) _
  have HK4 := Lib.hid (show Blk W4 w3.heap.size 29 #[.slice A3 m c3, .int .i64 st] by rw [hW4]; exact Blk.new w3 _ _)
  have HR4 := Lib.hid (r3.below hb4)
  have HB4 := Lib.hid (HB1.out.trans ((hb3.trans (hb4.mono hb3.size)).mono HB1.out.size))
  have FL := Lib.hid (fault22_any X A c st W4 (by rw [HM.out]; exact HM200.out) HSL.out (HRD.out.below HB4.out))
  rw [HM.out] at FL
  obtain ⟨F1, hF1⟩ : ∃ f, (faultC X st).1 = f := ⟨_, rfl⟩
  obtain ⟨F2, hF2⟩ : ∃ f, (faultC X st).2 = f := ⟨_, rfl⟩
  have HF1 := Lib.hid hF1
  have HF2 := Lib.hid hF2
  have HFL := Lib.hid (show F2.length ≤ 1 by rw [← hF2]; exact faultC_ats X st)
  rw [hF1, hF2] at FL
  clear hb4 hb3 r3 hF1 hF2 MC hs2
  go_upto_region 5 with (fail)
  rw [← hW4]
  clear hW4
  generalize w3.heap.size = gc at *
  go_wp2_with fail
  refine FL.out.mono ?_
  rintro e w5 ⟨v5, rfl, ⟨A5, c5, rfl, r5, n5⟩, hb5⟩
  obtain ⟨nf, hnf⟩ : ∃ nf, F2.length = nf := ⟨_, rfl⟩
  have HNF := Lib.hid hnf
  rw [hnf]
  obtain ⟨W6, hW6⟩ : ∃ W6, W6 = w5.alloc (.cells #[.int .i64 F1, .slice A5 nf c5] 57) := ⟨_, rfl⟩
  have hb6 : Below w5.heap.size w5 W6 := by rw [hW6]; exact (Below.refl _ _).alloc (Nat.le_refl _) _
  have hk6 : Blk W6 w5.heap.size 57 #[.int .i64 F1, .slice A5 nf c5] := by rw [hW6]; exact Blk.new w5 _ _
  have HB6 := Lib.hid (HB4.out.trans ((hb5.trans (hb6.mono hb5.size)).mono HB4.out.size))
  have HK6 := Lib.hid ((HK4.out.below hb5).below hb6)
  have HKF := Lib.hid hk6
  have HR6 := Lib.hid ((HR4.out.below hb5).below hb6)
  have HFV := Lib.hid (show FltV W6 (.agg #[.int .i64 F1, .slice A5 nf c5]) F1 F2 from ⟨A5, c5, by rw [hnf], r5.below hb6, n5⟩)
  clear r5 n5 hb5 hb6 hk6 hnf HK4 HR4 FL
  go_upto_region 6 with (fail)
  rw [← hW6]
  clear hW6
  generalize w5.heap.size = gf at *
  have k0 := HK6.out.cell 0
  have k1 := HK6.out.cell 1
  have f0 := HKF.out.cell 0
  have f1 := HKF.out.cell 1
  simp only [List.getElem?_toArray, List.getElem?_cons_zero, List.getElem?_cons_succ] at k0 k1 f0 f1
  have CC := Lib.hid (fun W (hW : Below W6.heap.size W6 W) => ccheck_all A3 c3 st X L W (by rw [HM.out]; have := HM200.out; omega) (fun x hx => Nat.le_trans (HSM.out.2 x hx) (by decide)) (HR6.out.below hW) (HS.out.below (HB6.out.trans (hW.mono HB6.out.size))))
  rw [HM.out] at CC
  have SC := Lib.hid (fun W v (hW : Below W6.heap.size W6 W) (hv : ErrV W L v F1 F2) => seesame_any L W v (.agg #[.int .i64 F1, .slice A5 nf c5]) F1 F1 F2 F2 (HS.out.below (HB6.out.trans (hW.mono HB6.out.size))) hv (HFV.out.below hW) (Nat.le_trans HFL.out (by decide)))
  have hsm : (F1 == F1 && SameI F2 F2) = true := by rw [SameI_self]; simp
  rw [hsm] at SC
  rw [HF1.out, HF2.out] at CC
  clear hsm
  apply wp_region_rel [eqT _, errvT L F1 F2, eqT _, eqT _, eqT _] (by kernel_rfl) (by kernel_rfl) rfl
  focus
    refine ⟨?_, ?_⟩
    focus
      unfold opGoal
      rw [if_pos (by kernel_rfl)]
      intro x hb hd K hk
      clear hd
      have l0 := cell_keep hb k0
      have l1 := cell_keep hb k1
      go_wp2_with fail
      exact hk _ _ rfl trivial (Below.refl _ _)
    rintro _ rfl
    simp only [Act.put, List.setIfInBounds_toArray, List.set_cons_succ, List.set_cons_zero]
    refine ⟨?_, ?_⟩
    focus
      unfold opGoal
      rw [if_pos (by kernel_rfl)]
      intro x hb hd K hk
      clear hd
      go_wp2_with fail
      refine (CC.out x hb).mono ?_
      rintro e x' ⟨v, rfl, hv, -, -, hb'⟩
      exact hk _ _ trivial hv hb'
    rintro v -
    simp only [Act.put, List.setIfInBounds_toArray, List.set_cons_succ, List.set_cons_zero]
    refine ⟨?_, ?_⟩
    focus
      unfold opGoal
      rw [if_pos (by kernel_rfl)]
      intro x hb hd K hk
      clear hd
      have l0 := cell_keep hb f0
      have l1 := cell_keep hb f1
      go_wp2_with fail
      exact hk _ _ rfl trivial (Below.refl _ _)
    rintro _ rfl
    simp only [Act.put, List.setIfInBounds_toArray, List.set_cons_succ, List.set_cons_zero]
    refine ⟨?_, ?_⟩
    focus
      unfold opGoal
      rw [if_pos (by kernel_rfl)]
      intro x hb hd K hk
      have hv := hd _ (List.mem_cons_self ..) rfl _ _ rfl rfl
      clear hd
      go_wp2_with fail
      refine (SC.out x v hb hv).mono ?_
      rintro e x' ⟨rfl, hb'⟩
      exact hk _ _ rfl trivial hb'
    rintro _ rfl
    simp only [Act.put, List.setIfInBounds_toArray, List.set_cons_succ, List.set_cons_zero]
    refine ⟨?_, ?_⟩
    focus
      unfold opGoal
      rw [if_pos (by kernel_rfl)]
      intro x hb hd K hk
      clear hd
      go_wp2_with fail
      exact hk _ _ rfl trivial (Below.refl _ _)
    rintro _ rfl
    simp only [Act.put, List.setIfInBounds_toArray, List.set_cons_succ, List.set_cons_zero]
    intro x hbx hf
    clear hf
    have HB7 := Lib.hid (HB6.out.trans (hbx.mono HB6.out.size))
    have HK7 := Lib.hid (HK6.out.below hbx)
    have HKF7 := Lib.hid (HKF.out.below hbx)
    have HR7 := Lib.hid (HR6.out.below hbx)
    clear k0 k1 f0 f1 CC SC HK6 HKF HR6 HFV hbx
    have JC := Lib.hid (fun W => jumps_any op W)
    have PC := Lib.hid (fun (o : Int) W => lplaces_any o W)
    have NCC := Lib.hid (fun W => name_all op W)
    have OCC := Lib.hid (fun W => op_anyC s W)
    obtain ⟨pa, hpa⟩ : ∃ pa, placeA op = pa := ⟨_, rfl⟩
    obtain ⟨pb, hpb⟩ : ∃ pb, placeB op = pb := ⟨_, rfl⟩
    have PC0 := Lib.hid (PC.out op)
    rw [hpa, hpb] at JC PC0
    clear hpa hpb
    go_wp2_with fail
    refine (JC.out _).mono ?_
    rintro e w8 ⟨rfl, hb8⟩
    have HX8 := Lib.hid hb8
    clear hb8 JC
    go_wp2_with fail
    refine (PC0.out _).mono ?_
    rintro e w9 ⟨rfl, rfl⟩
    clear PC0
    obtain ⟨nm, hnm⟩ : ∃ nm, nameO op = nm := ⟨_, rfl⟩
    have HNM := Lib.hid hnm
    rw [hnm] at NCC
    clear hnm
    go_upto_region 10 with (fail)
    rename_i K0 hK0
    go_cut [18] (fun v wx => v = .string ⟨#[]⟩ ∧ w9 = wx)
    case first =>
      go_wp2_with fail
      go_meet
      exact ⟨rfl, rfl⟩
    case rest =>
    obtain ⟨rfl, rfl⟩ := hcut
    refine hK0 _ _ ?_
    clear hK0 K0
    refine wp_seq_k fun K1 hK1 => ?_
    go_cut [18] (fun v wx => v = .string nm ∧ Hid (Below x.heap.size x wx))
    case first =>
      by_cases hin : inOp op = true
      · have hin2 : 1 ≤ op ∧ op ≤ 41 := by unfold inOp at hin; simpa using hin
        obtain ⟨kn, rfl⟩ : ∃ kn : Nat, op = (kn : Int) + 1 := ⟨(op - 1).toNat, by omega⟩
        have hkn : kn < 41 := by omega
        have HNK := Lib.hid (show nameS (kn + 1) = nm by rw [← HNM.out]; unfold nameO; rw [if_pos hin]; congr 1)
        clear hin hin2
        go_wp2_with fail
        refine (lnames_any _).mono ?_
        rintro e w10 ⟨gn, rfl, hcn, hb10⟩
        have cn := hcn kn hkn
        rw [HNK.out] at cn
        have HX10 := Lib.hid (HX8.out.trans (hb10.mono HX8.out.size))
        clear hcn hb10
        have ee : (kn : Int) + 1 - 1 = kn := by omega
        go_wp2_with fail
        go_meet
        exact ⟨rfl, HX10⟩
      · have HNK := Lib.hid (show nm = ⟨#[]⟩ by rw [← HNM.out]; unfold nameO; rw [if_neg hin])
        have hout : op < 1 ∨ 41 < op := by unfold inOp at hin; simp at hin; omega
        clear hin
        rcases hout with hout | hout
        · go_wp2_with fail
          go_meet
          exact ⟨by rw [HNK.out], Lib.hid HX8.out⟩
        · go_wp2_with fail
          go_meet
          exact ⟨by rw [HNK.out], Lib.hid HX8.out⟩
    case rest =>
    obtain ⟨rfl, HX10⟩ := hcut
    clear HNM HX8
    go_wp2_with fail
    go_loopw [19, 20] (fun n i wr => ∃ k : Nat, k ≤ 41 ∧ i = .int .i64 k ∧ n = .int .i64 (numL s k) ∧ Hid (Below x.heap.size x wr)) (fun n i _ => 41 - (intOf i).toNat)
    case atStart => exact ⟨0, Nat.zero_le _, rfl, rfl, HX10⟩
    case round =>
      obtain ⟨k, hk, rfl, rfl, HR⟩ := hrel
      by_cases hlt : k < 41
      · have HNS := Lib.hid (show numL s (k + 1) = if nameS (k + 1) = s then ((k + 1 : Nat) : Int) else numL s k from rfl)
        generalize numL s k = nk at *
        go_wp2_with fail
        refine (lnames_any _).mono ?_
        rintro e w11 ⟨g11, rfl, hc11, hb11⟩
        have c11 := hc11 k hlt
        have HR11 := Lib.hid (HR.out.trans (hb11.mono HR.out.size))
        obtain ⟨ns, hns⟩ : ∃ ns, nameS (k + 1) = ns := ⟨_, rfl⟩
        rw [hns] at c11 HNS
        clear hc11 hb11 hns
        by_cases hsn : ns = s
        · have HNV := Lib.hid (show numL s (k + 1) = ((k + 1 : Nat) : Int) by rw [HNS.out, if_pos hsn])
          subst hsn
          clear HNS
          go_wp2_with fail
          go_roundw
          case rel => exact ⟨k + 1, by omega, by go_num, by rw [HNV.out]; go_num, HR11⟩
          case measure => simp [intOf]; omega
        · have HNV := Lib.hid (show numL s (k + 1) = nk by rw [HNS.out, if_neg hsn])
          have hsb := beqL ns s hsn
          clear HNS
          go_wp2_with fail
          go_roundw
          case rel => exact ⟨k + 1, by omega, by go_num, by rw [HNV.out], HR11⟩
          case measure => simp [intOf]; omega
      · obtain rfl : k = 41 := by omega
        rw [num_op s]
        generalize opL s = num at *
        clear hlt hk
        go_wp2_with fail
        refine (NCC.out wr).mono ?_
        rintro e w12 ⟨rfl, hb12⟩
        have HR12 := Lib.hid (HR.out.trans (hb12.mono HR.out.size))
        clear hb12
        go_wp2_with fail
        refine (OCC.out w12).mono ?_
        rintro e w13 ⟨rfl, hb13⟩
        have HR13 := Lib.hid (HR12.out.trans (hb13.mono HR12.out.size))
        have HB13 := Lib.hid (HB7.out.trans (HR13.out.mono HB7.out.size))
        clear hb13 HR HR12
        have f0 := (HKF7.out.below HR13.out).cell 0
        have k0 := (HK7.out.below HR13.out).cell 0
        have k1 := (HK7.out.below HR13.out).cell 1
        simp only [List.getElem?_toArray, List.getElem?_cons_zero, List.getElem?_cons_succ] at k0 k1 f0
        by_cases hlo : at_ < 0
        · skip
          have TC := Lib.hid (targets_any A3 c3 st at_ X w13 (by rw [HM.out]; have := HM200.out; omega) HAT.out (HR7.out.below HR13.out))
          rw [targL_out X at_ (.inl hlo), HM.out] at TC
          have hge : ¬ 0 ≤ at_ := by omega
          by_cases hz : F1 = 0
          · subst hz
            go_wp2_with fail
            refine TC.out.mono ?_
            rintro e w14 ⟨A14, c14, m14, hm14, rfl, ho14, hb14⟩
            obtain rfl : m14 = 0 := hm14
            have HB14 := Lib.hid (HB13.out.trans (hb14.mono HB13.out.size))
            clear ho14 hb14 TC
            go_wp2_with fail
            go_ret
            exact ⟨rfl, HB14.out⟩
          · have hz2 : (F1 != 0) = true := by simp [hz]
            go_wp2_with fail
            refine TC.out.mono ?_
            rintro e w14 ⟨A14, c14, m14, hm14, rfl, ho14, hb14⟩
            obtain rfl : m14 = 0 := hm14
            have HB14 := Lib.hid (HB13.out.trans (hb14.mono HB13.out.size))
            clear ho14 hb14 TC
            go_wp2_with fail
            go_ret
            exact ⟨rfl, HB14.out⟩
        by_cases hhi : (m : Int) ≤ at_
        · skip
          have TC := Lib.hid (targets_any A3 c3 st at_ X w13 (by rw [HM.out]; have := HM200.out; omega) HAT.out (HR7.out.below HR13.out))
          rw [targL_out X at_ (.inr (by rw [HM.out]; exact hhi)), HM.out] at TC
          have hge : 0 ≤ at_ := by omega
          have hlt2 : ¬ at_ < (m : Int) := by omega
          by_cases hz : F1 = 0
          · subst hz
            go_wp2_with fail
            refine TC.out.mono ?_
            rintro e w14 ⟨A14, c14, m14, hm14, rfl, ho14, hb14⟩
            obtain rfl : m14 = 0 := hm14
            have HB14 := Lib.hid (HB13.out.trans (hb14.mono HB13.out.size))
            clear ho14 hb14 TC
            go_wp2_with fail
            go_ret
            exact ⟨rfl, HB14.out⟩
          · have hz2 : (F1 != 0) = true := by simp [hz]
            go_wp2_with fail
            refine TC.out.mono ?_
            rintro e w14 ⟨A14, c14, m14, hm14, rfl, ho14, hb14⟩
            obtain rfl : m14 = 0 := hm14
            have HB14 := Lib.hid (HB13.out.trans (hb14.mono HB13.out.size))
            clear ho14 hb14 TC
            go_wp2_with fail
            go_ret
            exact ⟨rfl, HB14.out⟩
        by_cases hz : F1 = 0
        case neg =>
          have hz2 : (F1 != 0) = true := by simp [hz]
          have hge : 0 ≤ at_ := by omega
          have hlt2 : at_ < (m : Int) := by omega
          go_wp2_with fail
          go_ret
          exact ⟨rfl, HB13.out⟩
        subst hz
        obtain ⟨ka, rfl⟩ : ∃ ka : Nat, at_ = ka := ⟨at_.toNat, by omega⟩
        have hka : ka < m := by omega
        have hkaL : ka < X.length := by rw [HM.out]; exact hka
        have HRDm := Lib.hid (HRD.out.below HB13.out)
        obtain ⟨b, o, rfl, _, hcell⟩ := HRDm.out ka hkaL
        obtain ⟨xx, hxx⟩ : ∃ xx, xx = X[ka] := ⟨_, rfl⟩
        have HTW := Lib.hid (show targL X (ka : Int) = wantL m ka xx by rw [targL_want X ka hkaL, ← hxx, HM.out])
        have TC := Lib.hid (fun W (hW : Below w13.heap.size w13 W) => targets_any A3 c3 st (ka : Int) X W (by rw [HM.out]; have := HM200.out; omega) HAT.out ((HR7.out.below HR13.out).below hW))
        rw [HTW.out, HM.out] at TC
        rw [← hxx] at hcell
        have r0 := hcell 0 _ rfl
        have r1 := hcell 1 _ rfl
        have r2 := hcell 2 _ rfl
        simp only [Nat.add_zero] at r0
        have HK13 := Lib.hid (HK7.out.below HR13.out)
        obtain ⟨i0, hi, hz0, hz1, hz2⟩ := info_parts infoIntC
        have m200 := HM200.out
        clear hcell hxx hkaL k0 k1 HR13
        go_wp2_with fail
        have g1 : decide ((ka : Int) < 0) = false := decide_eq_false (by omega)
        have g2 : decide (m ≤ ka) = false := decide_eq_false (by omega)
        rw [g1, g2, Bool.or_self]
        clear hlo hhi f0 g1 g2
        go_loopw [21, 22] (fun v i wr2 => ∃ (k : Nat) (A7 : Option Addr) (c7 n7 : Nat), k ≤ m ∧ n7 ≤ k ∧ i = .int .i64 k ∧ v = .slice A7 n7 c7 ∧ Hid (n7 = (wantL k ka xx).length) ∧ Hid (wr2.ownsRow w13.heap.size 3 1 (.slice A7 n7 c7) n7 ((wantL k ka xx).flatMap intc)) ∧ Hid (Below w13.heap.size w13 wr2)) (fun v i _ => m - (intOf i).toNat)
        case atStart => exact ⟨0, none, 0, 0, Nat.zero_le _, Nat.le_refl _, rfl, rfl, Lib.hid rfl, Lib.hid (World.ownsRow_nil _ _ _ _), Lib.hid (Below.refl _ _)⟩
        case round =>
          obtain ⟨k, A7, c7, n7, hk, hnk, rfl, rfl, HN7, HO7, HR7b⟩ := hrel
          by_cases hlt : k < m
          · have s0 := cell_keep HR7b.out r0
            have s1 := cell_keep HR7b.out r1
            have s2 := cell_keep HR7b.out r2
            have HWS := Lib.hid (wantL_succ k ka xx)
            obtain ⟨g, hg⟩ : ∃ g, wantB ka xx k = g := ⟨_, rfl⟩
            rw [hg] at HWS
            have PCX := Lib.hid (PC.out xx.op wr)
            obtain ⟨pax, hpax⟩ : ∃ d, placeA xx.op = d := ⟨_, rfl⟩
            obtain ⟨pbx, hpbx⟩ : ∃ d, placeB xx.op = d := ⟨_, rfl⟩
            obtain ⟨e1, he1⟩ : ∃ d, ((k : Int) == (ka : Int) + 1) = d := ⟨_, rfl⟩
            obtain ⟨n18, hn18⟩ : ∃ d, (xx.op != 18) = d := ⟨_, rfl⟩
            obtain ⟨n40, hn40⟩ : ∃ d, (xx.op != 40) = d := ⟨_, rfl⟩
            obtain ⟨n41, hn41⟩ : ∃ d, (xx.op != 41) = d := ⟨_, rfl⟩
            obtain ⟨ea, hea⟩ : ∃ d, (xx.a == (k : Int)) = d := ⟨_, rfl⟩
            obtain ⟨eb, heb⟩ : ∃ d, (xx.b == (k : Int)) = d := ⟨_, rfl⟩
            have he1n : (k == ka + 1) = e1 := by rw [← he1, Bool.eq_iff_iff, beq_iff_eq, beq_iff_eq]; omega
            obtain ⟨nx, hnx⟩ : ∃ d, (e1 && n18 && n40 && n41) = d := ⟨_, rfl⟩
            have HNX := Lib.hid hnx
            have HG := Lib.hid (show (nx || (pax && ea) || (pbx && eb)) = g by
              rw [← hg, ← hnx]
              unfold wantB
              rw [he1n, hn18, hn40, hn41, hpax, hpbx, hea, heb])
            rw [hpax, hpbx] at PCX
            generalize hxo : xx.op = xo at *
            generalize hxa : xx.a = xa at *
            generalize hxb : xx.b = xb at *
            clear hxo hxa hxb
            clear hg hnx he1n hpax hpbx
            go_wp2_with fail
            refine PCX.out.mono ?_
            rintro e w15 ⟨rfl, rfl⟩
            clear PCX
            go_upto_region 28 with (fail)
            go_cut [25] from 132 to 203 (fun v wx => v = .bool nx ∧ w15 = wx)
            case first =>
              cases e1
              · go_wp2_with fail
                go_meet
                exact ⟨by rw [← HNX.out]; rfl, rfl⟩
              · cases n18
                · go_wp2_with fail
                  go_meet
                  exact ⟨by rw [← HNX.out]; rfl, rfl⟩
                · cases n40
                  · go_wp2_with fail
                    go_meet
                    exact ⟨by rw [← HNX.out]; rfl, rfl⟩
                  · cases n41
                    · go_wp2_with fail
                      go_meet
                      exact ⟨by rw [← HNX.out]; rfl, rfl⟩
                    · go_wp2_with fail
                      go_meet
                      exact ⟨by rw [← HNX.out]; rfl, rfl⟩
            case rest =>
            obtain ⟨rfl, rfl⟩ := hcut
            clear he1 hn18 hn40 hn41 HNX s0
            go_upto_region 29 with (fail)
            go_cut [199] from 132 to 203 (fun v wx => v = .bool g ∧ w15 = wx)
            case first =>
              cases nx
              · cases pax
                · cases pbx
                  · go_wp2_with fail
                    go_meet
                    exact ⟨by rw [← HG.out]; rfl, rfl⟩
                  · cases eb
                    · go_wp2_with fail
                      go_meet
                      exact ⟨by rw [← HG.out]; rfl, rfl⟩
                    · go_wp2_with fail
                      go_meet
                      exact ⟨by rw [← HG.out]; rfl, rfl⟩
                · cases ea
                  · cases pbx
                    · go_wp2_with fail
                      go_meet
                      exact ⟨by rw [← HG.out]; rfl, rfl⟩
                    · cases eb
                      · go_wp2_with fail
                        go_meet
                        exact ⟨by rw [← HG.out]; rfl, rfl⟩
                      · go_wp2_with fail
                        go_meet
                        exact ⟨by rw [← HG.out]; rfl, rfl⟩
                  · go_wp2_with fail
                    go_meet
                    exact ⟨by rw [← HG.out]; rfl, rfl⟩
              · go_wp2_with fail
                go_meet
                exact ⟨by rw [← HG.out]; rfl, rfl⟩
            case rest =>
            obtain ⟨rfl, rfl⟩ := hcut
            clear hea heb HG s1 s2
            have hwz : w13.heap.size ≤ w15.heap.size := HR7b.out.size
            cases g
            · have HW2 := Lib.hid (show wantL (k + 1) ka xx = wantL k ka xx by rw [HWS.out]; simp)
              clear HWS
              go_wp2_with fail
              go_roundw
              case rel => exact ⟨k + 1, A7, c7, n7, by omega, by omega, by go_num, rfl, Lib.hid (by rw [HW2.out]; exact HN7.out), Lib.hid (by rw [HW2.out]; exact HO7.out), HR7b⟩
              case measure => simp [intOf]; omega
            · have HW2 := Lib.hid (show wantL (k + 1) ka xx = wantL k ka xx ++ [(k : Int)] by rw [HWS.out, if_pos rfl])
              have ho := HO7.out
              clear HWS
              go_wp2_with (at_builtin; refine wpList_push rfl _ _ _ rfl Tryd.underlying45 hi hz0 hz1 hz2 rfl (by decide) ho rfl rfl rfl (by simp [Value.oneCell']) (by omega) (by decide) hwz ?_; intro A8 c8 w8 ho8 hb8 hoo8)
              go_roundw
              case rel => exact ⟨k + 1, A8, c8, n7 + 1, by omega, by omega, by go_num, rfl, Lib.hid (by rw [HW2.out, List.length_append, ← HN7.out]; rfl), Lib.hid (by rw [HW2.out, List.flatMap_append]; exact ho8), Lib.hid (HR7b.out.trans hb8)⟩
              case measure => simp [intOf]; omega
          · obtain rfl : k = m := by omega
            have k0 := (HK13.out.below HR7b.out).cell 0
            have k1 := (HK13.out.below HR7b.out).cell 1
            simp only [List.getElem?_toArray, List.getElem?_cons_zero, List.getElem?_cons_succ] at k0 k1
            have HB15 := Lib.hid (HB13.out.trans (HR7b.out.mono HB13.out.size))
            generalize wantL k ka xx = WL at *
            have hown := HO7.out
            have HRW := Lib.hid (own_ints hown HN7.out)
            clear hown r0 r1 r2
            go_wp2_with fail
            refine (TC.out _ HR7b.out).mono ?_
            rintro e w16 ⟨A16, c16, m16, hm16, rfl, ho16, hb16⟩
            have HB16 := Lib.hid (HB15.out.trans (hb16.mono HB15.out.size))
            have hr16 := own_ints ho16 hm16
            have SI := Lib.hid (sameints_any A16 A7 c16 c7 WL WL w16 hr16 (HRW.out.below hb16) (by rw [← HN7.out]; omega) (by rw [← HN7.out]; omega))
            rw [SameI_self, ← HN7.out] at SI
            obtain rfl : m16 = n7 := by rw [hm16, HN7.out]
            clear ho16 hb16 hr16 TC hm16
            go_wp2_with fail
            refine SI.out.mono ?_
            rintro e w17 ⟨rfl, hb17⟩
            have HB17 := Lib.hid (HB16.out.trans (hb17.mono HB16.out.size))
            clear hb17 SI
            go_wp2_with fail
            go_ret
            exact ⟨rfl, HB17.out⟩
end Go.Proofs.YtpogngdddendiaaDoor
