/- The walk over ThreadKeeps. Bounds on the lengths. -/
import Derived.Test.YtpogngdddendiaaDoorGenE1
import Derived.Test.YtpogngdddendiaaDoorGW
import Derived.Test.YtpogngdddendiaaDoorGQ
import Derived.Test.YtpogngdddendiaaDoorGO
set_option linter.unusedVariables false
set_option linter.unusedSimpArgs false
namespace Go.Proofs.YtpogngdddendiaaDoor
open Go.RowKit

theorem codeG_ok {t : Tr} {X : List Ins} {st : Nat} (h : CodeG t X st) (hl : (flat t).length ≤ 200) : okC X ∧ Last41 X := by
  have hp := h.pos
  have hx := List.getElem?_eq_getElem (show X.length - 1 < X.length by omega)
  have h41 := h.last (by omega)
  exact ⟨⟨hp, by have := h.len; omega, h.ok, ⟨_, hx, .inl h41⟩⟩, ⟨_, hx, h41⟩⟩
theorem lastK {Y : List Ins} (h : okC Y) : ∀ h2 : Y.length - 1 < Y.length, Y[Y.length - 1].op = 41 ∨ Y[Y.length - 1].op = 40 ∨ Y[Y.length - 1].op = 18 := fun h2 => by
  obtain ⟨x, hx, he⟩ := h.last
  rw [List.getElem?_eq_getElem h2] at hx
  injection hx with hx
  rw [hx]
  exact he
theorem measK {k m : Nat} (h : k < m) : m - (intOf (.int .i64 ((k : Int) + 1))).toNat < m - (intOf (.int .i64 (k : Int))).toNat := by
  show m - ((k : Int) + 1).toNat < m - ((k : Int)).toNat
  omega
/-- A code, the passed one, and what of the first is reached. -/
structure KpW (w0 w : World) (g4 g6 gl cl gd cd gr b0 : Nat) (X Y : List Ins) (st : Nat) : Prop where
  k4 : Blk w g4 29 #[.slice (some ⟨gl, 0, none⟩) X.length cl, .int .i64 (st : Int)]
  k6 : Blk w g6 29 #[.slice (some ⟨gd, 0, none⟩) Y.length cd, .int .i64 (st : Int)]
  x : RdL w 4 insc (some ⟨gl, 0, none⟩) X
  y : RdL w 4 insc (some ⟨gd, 0, none⟩) Y
  r : rowB w b0 gr X.length (reachL (tgN X) X.length)
  b : Below w0.heap.size w0 w
theorem KpW.below {w0 w w' : World} {g4 g6 gl cl gd cd gr b0 : Nat} {X Y : List Ins} {st : Nat} (h : KpW w0 w g4 g6 gl cl gd cd gr b0 X Y st) (hb : Below w.heap.size w w') : KpW w0 w' g4 g6 gl cl gd cd gr b0 X Y st :=
  ⟨h.k4.below hb, h.k6.below hb, h.x.below hb, h.y.below hb, h.r.below hb, h.b.trans (hb.mono h.b.size)⟩
theorem cntP_le (P : Nat → Bool) : ∀ n, cntP P n ≤ n
  | 0 => Nat.le_refl _
  | n + 1 => by have := cntP_le P n; rw [cntP]; split <;> omega
set_option maxRecDepth 100000 in
set_option maxHeartbeats 8000000 in
theorem thrkeeps_walk (A : Option Addr) (cp : Nat) (N : List Nd) (aN aT aM : Addr) (w : World) (hrd : RdL w 5 ndc A N) (hc : N.length ≤ cp) (hm : cp ≤ maxLen) (hA : A = none → cp = 0) (hnd : ∀ x ∈ N, NdOk x) (hE : ErrW w aN aT aM) :
    Calls Tryd.prog 3 #[.slice A N.length cp] w (Ret w (.bool true)) := by
  have HF := Lib.hid (first24_any w)
  have HV := Lib.hid (show SlRd w (.slice A N.length cp) N from ⟨A, cp, rfl, hrd, hc, hm, hA, trivial⟩)
  have HRD := Lib.hid hrd
  have HND := Lib.hid hnd
  have HE := Lib.hid hE
  obtain ⟨m, hml⟩ : ∃ m, m = N.length := ⟨_, rfl⟩
  rw [← hml] at hc ⊢
  have HM := Lib.hid hml
  unfold maxLen at hm
  clear hrd hA hml hnd hE
  go_enter Tryd.func3, Tryd.ntmps3
  go_wp2_with fail
  refine HF.out.mono ?_
  rintro e w1 ⟨rfl, hb⟩
  clear HF
  rcases Nat.lt_or_ge 200 m with h200 | h200
  · have hg : decide ((200 : Int) < (m : Int)) = true := decide_eq_true (by omega)
    go_wp2_with fail
    go_ret
    exact ⟨rfl, hb⟩
  have hg : decide ((200 : Int) < (m : Int)) = false := decide_eq_false (by omega)
  have CK := Lib.hid (check_any A cp N aN aT aM w1 (by rw [← HM.out]; omega) HND.out (HRD.out.below hb) (HE.out.below hb))
  rw [← HM.out] at CK
  by_cases hbad : manyB N = true ∨ checkP N ≠ none
  · go_wp2_with fail
    refine CK.out.mono ?_
    rintro e w4 ⟨v1, rfl, hv1, hb4⟩
    have hb14 := hb.trans (hb4.mono hb.size)
    by_cases hmn : manyB N = true
    · rw [if_pos hmn] at hv1
      subst hv1
      go_wp2_with fail
      go_ret
      exact ⟨rfl, hb14⟩
    · rw [if_neg hmn] at hv1
      cases hcp : checkP N with
      | none => exact absurd hcp (hbad.resolve_left hmn)
      | some z =>
        obtain ⟨i, nest⟩ := z
        rw [hcp] at hv1
        obtain ⟨g, rfl, _, _, _⟩ := hv1
        go_wp2_with fail
        go_ret
        exact ⟨rfl, hb14⟩
  have hmb : manyB N = false := by
    cases hq : manyB N
    · rfl
    · exact absurd (.inl hq) hbad
  have hck : checkP N = none := by
    cases hq : checkP N with
    | none => rfl
    | some z => exact absurd (.inr (by rw [hq]; simp)) hbad
  have h0 : N.length ≠ 0 := by
    intro h0
    rw [manyB, h0] at hmb
    simp at hmb
  obtain ⟨t, ht1, ht2⟩ := (check_tree N h0).1 hck
  subst ht2
  have hdl := heightT_len t
  have HCV := Lib.hid (show ∀ w' v, (if manyB (flat t) = true then v = .iface 226 (.pointer (some aM)) else LookV w' w1.heap.size aN aT (checkP (flat t)) v) → v = .nilIface from fun w' v h => by
    rw [if_neg (by rw [hmb]; simp), hck] at h
    exact h)
  have CC := Lib.hid (fun W (hW : Below w1.heap.size w1 W) => compile_ok A cp t aN aT aM W (by rw [← HM.out]; omega) HND.out ((HRD.out.below hb).below hW) ((HV.out.below hb).below hW) ((HE.out.below hb).below hW) ht1)
  rw [← HM.out] at CC
  have HTL := Lib.hid (show heightT t ≤ 200 by rw [← HM.out] at hdl; omega)
  have HFL := Lib.hid (show (flat t).length ≤ 200 by rw [← HM.out]; omega)
  have HB1 := Lib.hid hb
  clear hbad hmb hck h0 ht1 hdl hb
  go_wp2_with fail
  refine CK.out.mono ?_
  rintro e w2 ⟨v1, rfl, hv1, hb2⟩
  obtain rfl := HCV.out _ _ hv1
  have HB2 := Lib.hid (HB1.out.trans (hb2.mono HB1.out.size))
  have HC2 := Lib.hid (CC.out w2 hb2)
  clear hv1 hb2 CC CK HCV HB1
  go_wp2_with fail
  refine HC2.out.mono ?_
  rintro e w3 ⟨A2, cl, X, st, rfl, hb3, ho3, hg3⟩
  obtain ⟨h1, h2⟩ := codeG_ok hg3 HFL.out
  have HOK := Lib.hid h1
  have HL41 := Lib.hid h2
  have HST := Lib.hid (show st ≤ 200 from Nat.le_trans hg3.st HTL.out)
  obtain ⟨gl, rfl⟩ : ∃ gl, A2 = some ⟨gl, 0, none⟩ := by
    obtain ⟨A3, c3, he, _, _, hA3, hn3⟩ := own_form ho3
    injection he with he1 _ he3
    subst he1 he3
    cases A2 with
    | none => have := (hn3 rfl).1; have := hg3.pos; omega
    | some q =>
      obtain ⟨q1, q2, q3⟩ := q
      obtain ⟨_, _, h1, h2⟩ := hA3 _ rfl
      simp only at h1 h2
      subst h1 h2
      exact ⟨q1, rfl⟩
  have HX3 := Lib.hid (rdI_of ho3 rfl)
  have HB3 := Lib.hid (HB2.out.trans (hb3.mono HB2.out.size))
  obtain ⟨n0, hn0⟩ : ∃ n, X.length = n := ⟨_, rfl⟩
  have HN0 := Lib.hid hn0
  have hn09 : n0 ≤ 9000 := by rw [← hn0]; exact h1.most
  unfold codeV
  rw [hn0]
  clear h1 h2 hn0 ho3 hg3 hb3 HC2 HB2 HTL HFL
  go_upto_region 5 with (fail)
  obtain ⟨W4, hW4⟩ : ∃ W4, W4 = w3.alloc (.cells #[.slice (some ⟨gl, 0, none⟩) n0 cl, .int .i64 (st : Int)] 29) := ⟨_, rfl⟩
  have hb4 : Below w3.heap.size w3 W4 := by rw [hW4]; exact (Below.refl _ _).alloc (Nat.le_refl _) _
  have HK4 := Lib.hid (show Blk W4 w3.heap.size 29 #[.slice (some ⟨gl, 0, none⟩) n0 cl, .int .i64 (st : Int)] by rw [hW4]; exact Blk.new w3 _ _)
  have HX4 := Lib.hid (HX3.out.below hb4)
  have HB4 := Lib.hid (HB3.out.trans (hb4.mono HB3.out.size))
  rw [← hW4]
  clear hW4 hb4 HX3 HB3
  generalize w3.heap.size = g4 at *
  have z0 := HK4.out.cell 0
  have z1 := HK4.out.cell 1
  simp only [List.getElem?_toArray, List.getElem?_cons_zero, List.getElem?_cons_succ] at z0 z1
  have HPS := Lib.hid (pass_any gl 0 cl X st W4 HX4.out HOK.out (by have := HST.out; omega))
  rw [HN0.out] at HPS
  go_wp2_with fail
  refine HPS.out.mono ?_
  rintro e w5 ⟨gd, cd, Y, rfl, ho5, hpt5, hb5⟩
  have HPT := Lib.hid hpt5
  have HOY := Lib.hid (hpt5.ok HOK.out)
  have HY5 := Lib.hid (rdI_of ho5 rfl)
  have HK5 := Lib.hid (HK4.out.below hb5)
  have HX5 := Lib.hid (HX4.out.below hb5)
  have HB5 := Lib.hid (HB4.out.trans (hb5.mono HB4.out.size))
  obtain ⟨n, hn⟩ : ∃ n, Y.length = n := ⟨_, rfl⟩
  have HN := Lib.hid hn
  have hn9 : n ≤ 9000 := by rw [← hn]; exact HOY.out.most
  rw [hn]
  clear hn ho5 hpt5 hb5 HPS z0 z1 HK4 HX4 HB4
  go_upto_region 8 with (fail)
  obtain ⟨W6, hW6⟩ : ∃ W6, W6 = w5.alloc (.cells #[.slice (some ⟨gd, 0, none⟩) n cd, .int .i64 (st : Int)] 29) := ⟨_, rfl⟩
  have hb6 : Below w5.heap.size w5 W6 := by rw [hW6]; exact (Below.refl _ _).alloc (Nat.le_refl _) _
  have HD6 := Lib.hid (show Blk W6 w5.heap.size 29 #[.slice (some ⟨gd, 0, none⟩) n cd, .int .i64 (st : Int)] by rw [hW6]; exact Blk.new w5 _ _)
  have HK6 := Lib.hid (HK5.out.below hb6)
  have HX6 := Lib.hid (HX5.out.below hb6)
  have HY6 := Lib.hid (HY5.out.below hb6)
  have HB6 := Lib.hid (HB5.out.trans (hb6.mono HB5.out.size))
  rw [← hW6]
  clear hW6 hb6 HK5 HX5 HY5 HB5
  generalize w5.heap.size = g6 at *
  have z0 := HK6.out.cell 0
  have z1 := HK6.out.cell 1
  simp only [List.getElem?_toArray, List.getElem?_cons_zero, List.getElem?_cons_succ] at z0 z1
  have HR := Lib.hid (reached_any (some ⟨gl, 0, none⟩) cl X (st : Int) W6 HX6.out HOK.out.pos HOK.out.most)
  rw [HN0.out] at HR
  go_wp2_with fail
  refine HR.out.mono ?_
  rintro e w7 ⟨gr, rfl, hr7, hb7⟩
  rw [HN0.out]
  have HS := Lib.hid (show KpW w w7 g4 g6 gl cl gd cd gr W6.heap.size X Y st from ⟨by rw [HN0.out]; exact HK6.out.below hb7, by rw [HN.out]; exact HD6.out.below hb7, HX6.out.below hb7, HY6.out.below hb7, hr7, HB6.out.trans (hb7.mono HB6.out.size)⟩)
  clear hr7 hb7 HR z0 z1 HK6 HD6 HX6 HY6 HB6
  generalize W6.heap.size = b0 at *
  have z4 := HS.out.k4.cell 0
  have z6 := HS.out.k6.cell 0
  simp only [List.getElem?_toArray, List.getElem?_cons_zero] at z4 z6
  rw [HN0.out] at z4
  rw [HN.out] at z6
  go_wp2_with fail
  go_loopw [8] (fun v8 wr => ∃ op : Nat, 1 ≤ op ∧ op ≤ 42 ∧ v8 = .int .i64 op ∧ w7 = wr) (fun v8 _ => 42 - (intOf v8).toNat)
  case atStart => exact ⟨1, Nat.le_refl _, by decide, rfl, rfl⟩
  case round =>
    obtain ⟨op, hop1, hop2, rfl, rfl⟩ := hrel
    by_cases hlt : op < 42
    · by_cases h18 : op = 18
      · subst h18
        go_wp2_with fail
        go_roundw
        case rel => exact ⟨19, by decide, by decide, rfl, by first | rfl | trivial⟩
        case measure => simp [intOf]
      by_cases h41 : op = 41
      · subst h41
        go_wp2_with fail
        go_roundw
        case rel => exact ⟨42, by decide, by decide, rfl, by first | rfl | trivial⟩
        case measure => simp [intOf]
      have e18 : ((op : Int) == 18) = false := by simp; omega
      have e41 : ((op : Int) == 41) = false := by simp; omega
      have HKE := Lib.hid (pass_keeps HOK.out HL41.out HPT.out (op := (op : Int)) (by omega) (by omega))
      unfold cntR at HKE
      rw [HN0.out, HN.out] at HKE
      go_wp2_with fail
      go_loopw [9, 11] (fun v9 v11 wr => ∃ i : Nat, i ≤ n0 ∧ v11 = .int .i64 i ∧ v9 = .int .i64 (cntP (fun j => opAt X (op : Int) j && reachB X j) i : Nat) ∧ w7 = wr) (fun _ v11 _ => n0 - (intOf v11).toNat)
      case atStart => exact ⟨0, Nat.zero_le _, rfl, rfl, rfl⟩
      case round =>
        obtain ⟨i, hi, rfl, rfl, rfl⟩ := hrel
        by_cases hin : i < n0
        · have hiL : i < X.length := by rw [HN0.out]; exact hin
          obtain ⟨x, hx⟩ := at_some hiL
          have hcell := (HS.out.x.at_ hiL).2
          rw [getElem_of? hiL hx] at hcell
          have c0 := hcell 0 _ rfl
          simp only [Nat.add_zero, Nat.zero_add] at c0
          obtain ⟨rb, hrb⟩ : ∃ rb, reachB X i = rb := ⟨_, rfl⟩
          have hget := reachL_get (X := X) (n := X.length) hiL
          rw [hrb] at hget
          have r0 := HS.out.r.cell hget
          obtain ⟨eo, heo⟩ : ∃ b, (x.op == (op : Int)) = b := ⟨_, rfl⟩
          have HC := Lib.hid (show cntP (fun j => opAt X (op : Int) j && reachB X j) (i + 1) = cntP (fun j => opAt X (op : Int) j && reachB X j) i + if (eo && rb) = true then 1 else 0 by
            rw [cntP, opAt_of hx, heo, hrb])
          have hcl := cntP_le (fun j => opAt X (op : Int) j && reachB X j) i
          generalize cntP (fun j => opAt X (op : Int) j && reachB X j) i = q at *
          clear hcell hx hget hrb hiL
          cases eo with
          | false =>
            go_wp2_with fail
            go_roundw
            case rel => exact ⟨i + 1, Nat.succ_le_of_lt hin, by go_num, by rw [HC.out]; rfl, by first | rfl | trivial⟩
            case measure => exact measK hin
          | true =>
            cases rb with
            | false =>
              go_wp2_with fail
              go_roundw
              case rel => exact ⟨i + 1, Nat.succ_le_of_lt hin, by go_num, by rw [HC.out]; rfl, by first | rfl | trivial⟩
              case measure => exact measK hin
            | true =>
              go_wp2_with fail
              go_roundw
              case rel => exact ⟨i + 1, Nat.succ_le_of_lt hin, by go_num, by rw [HC.out]; show _ = Value.int .i64 ((q + 1 : Nat) : Int); go_num, by first | rfl | trivial⟩
              case measure => exact measK hin
        · have hin2 : n0 = i := by omega
          subst hin2
          generalize cntP (fun j => opAt X (op : Int) j && reachB X j) n0 = q at *
          clear hin hi
          go_wp2_with fail
          go_loopw [10, 12] (fun v10 v12 wr => ∃ i : Nat, i ≤ n ∧ v12 = .int .i64 i ∧ v10 = .int .i64 (cntP (opAt Y (op : Int)) i : Nat) ∧ w7 = wr) (fun _ v12 _ => n - (intOf v12).toNat)
          case atStart => exact ⟨0, Nat.zero_le _, rfl, rfl, rfl⟩
          case round =>
            obtain ⟨i, hi, rfl, rfl, rfl⟩ := hrel
            by_cases hin : i < n
            · have hiL : i < Y.length := by rw [HN.out]; exact hin
              obtain ⟨x, hx⟩ := at_some hiL
              have hcell := (HS.out.y.at_ hiL).2
              rw [getElem_of? hiL hx] at hcell
              have c0 := hcell 0 _ rfl
              simp only [Nat.add_zero, Nat.zero_add] at c0
              obtain ⟨eo, heo⟩ : ∃ b, (x.op == (op : Int)) = b := ⟨_, rfl⟩
              have HC := Lib.hid (show cntP (opAt Y (op : Int)) (i + 1) = cntP (opAt Y (op : Int)) i + if eo = true then 1 else 0 by
                rw [cntP, opAt_of hx, heo])
              have hcl := cntP_le (opAt Y (op : Int)) i
              generalize cntP (opAt Y (op : Int)) i = p at *
              clear hcell hx hiL
              cases eo with
              | false =>
                go_wp2_with fail
                go_roundw
                case rel => exact ⟨i + 1, Nat.succ_le_of_lt hin, by go_num, by rw [HC.out]; rfl, by first | rfl | trivial⟩
                case measure => exact measK hin
              | true =>
                go_wp2_with fail
                go_roundw
                case rel => exact ⟨i + 1, Nat.succ_le_of_lt hin, by go_num, by rw [HC.out, if_pos rfl]; go_num, by first | rfl | trivial⟩
                case measure => exact measK hin
            · have hin2 : n = i := by omega
              subst hin2
              rw [HKE.out]
              have hqq : ((q : Int) != (q : Int)) = false := bne_self_eq_false _
              clear hin hi
              go_wp2_with fail
              go_roundw
              case rel => exact ⟨op + 1, by omega, by omega, by go_num, by first | rfl | trivial⟩
              case measure => exact measK hlt
    · have hop3 : op = 42 := by omega
      subst hop3
      clear z4 z6 hlt hop1 hop2
      have z40 := HS.out.k4.cell 0
      have z41 := HS.out.k4.cell 1
      have z60 := HS.out.k6.cell 0
      have z61 := HS.out.k6.cell 1
      simp only [List.getElem?_toArray, List.getElem?_cons_zero, List.getElem?_cons_succ] at z40 z41 z60 z61
      rw [HN0.out] at z40
      rw [HN.out] at z60
      have HCK := Lib.hid (ccheck_fine (some ⟨gd, 0, none⟩) cd st Y w7 HOY.out.pos HOY.out.most (by have := HST.out; omega) HOY.out.ok (lastK HOY.out) HS.out.y)
      rw [HN.out] at HCK
      go_wp2_with fail
      refine HCK.out.mono ?_
      rintro e w8 ⟨rfl, hb8⟩
      replace HS := Lib.hid (HS.out.below hb8)
      clear hb8 z40 z41 z60 z61 HCK
      have z40 := HS.out.k4.cell 0
      have z41 := HS.out.k4.cell 1
      have z60 := HS.out.k6.cell 0
      have z61 := HS.out.k6.cell 1
      simp only [List.getElem?_toArray, List.getElem?_cons_zero, List.getElem?_cons_succ] at z40 z41 z60 z61
      rw [HN0.out] at z40
      rw [HN.out] at z60
      have hnn : (n : Int) ≤ 9000 := by omega
      go_wp2_with fail
      go_ret
      exact ⟨by simp [hn9], HS.out.b⟩
theorem wf_leK {n : Int} (h : (Lit.int .i64 n).wf = true) : n ≤ 9223372036854775807 := by
  simp only [Lit.wf, Bool.and_eq_true, decide_eq_true_eq] at h
  have h2 : IntKind.i64.max = 9223372036854775807 := by decide
  rw [h2] at h
  exact h.2
theorem thrkeeps_upto (A : Option Addr) (cp : Nat) (L : List Nd) (aN aT' aM : Addr) (w : World) (hrd : RdL w 5 ndc A L) (hc : L.length ≤ cp) (hm : cp ≤ maxLen) (hA : A = none → cp = 0) (hi : ∀ y ∈ L, NdIn y) (hb : L.length ≤ 1048576 ∧ ∀ y ∈ L, y.s.length ≤ 1048576) (hE : ErrW w aN aT' aM) :
    Calls Tryd.prog 3 #[.slice A L.length cp] w fun e w' => e = .returned (.bool true) ∧ Below w.heap.size w w' :=
  thrkeeps_walk A cp L aN aT' aM w hrd hc hm hA (fun y hy => ⟨by have := hb.2 y hy; omega, wf_leK (hi y hy).2.2.2.1⟩) hE
end Go.Proofs.YtpogngdddendiaaDoor
