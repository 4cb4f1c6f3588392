/- The walk over consts.text. Bounds on the lengths. -/
import Derived.Test.YtpogngdddendiaaDoorHI
import Derived.Test.YtpogngdddendiaaDoorHJ
import Derived.Test.YtpogngdddendiaaDoorHK
set_option linter.unusedVariables false
set_option linter.unusedSimpArgs false
namespace Go.Proofs.YtpogngdddendiaaDoor
open Go.RowKit

set_option maxRecDepth 100000 in
set_option maxHeartbeats 4000000 in
theorem ctext_any (B : Nat) (x kid : Tr) (A Ak : Option Addr) (n c nk ck : Nat) (w : World) (hB : B ≤ w.heap.size) (hk : x.kind = 8 ∨ x.kind = 7 ∨ x.kind = 6 ∨ x.kind = 5) (hs : isLit kid = true → kid.str.length ≤ 2000) (hx : OwnNd w B (.slice A n c) (flat x)) (hkid : OwnNd w B (.slice Ak nk ck) (flat kid)) :
    Calls Tryd.prog 134 #[.slice A n c, .slice Ak nk ck] w (OwnRet B (flat (textK x kid)) w) := by
  obtain ⟨b, o, rfl, h0, -, -, -, c0, -, -, -, -⟩ := head_cells hx.rd
  obtain ⟨bk, ok, rfl, hk0, -, -, -, -, -, -, -, d4⟩ := head_cells hkid.rd
  have HX := Lib.hid hx
  have LC := Lib.hid (clit_v (some ⟨bk, ok, none⟩) nk ck kid w hkid.rd)
  cases hl : isLit kid
  · have HE := Lib.hid (show textK x kid = x by unfold textK; rw [hl]; rfl)
    rw [hl] at LC
    have hbx := Below.refl w.heap.size w
    clear hl hx hkid hs hk
    go_enter Tryd.func134, Tryd.ntmps134
    go_wp2_with fail
    refine LC.out.mono ?_
    rintro e w1 ⟨rfl, rfl⟩
    go_wp2_with fail
    go_ret
    exact ⟨_, _, _, rfl, by rw [HE.out]; exact HX.out.below hbx, hbx⟩
  rw [hl] at LC
  have h2 := hs hl
  obtain ⟨S, hS⟩ : ∃ S : ByteArray, S = ⟨kid.str.toArray⟩ := ⟨_, rfl⟩
  have hSl : S.data.toList = kid.str := by rw [hS]
  have hSz : S.size ≤ 2000 := by rw [hS]; show kid.str.toArray.size ≤ 2000; simpa using h2
  have HE := Lib.hid (show textK x kid = if x.kind == 8 then (if (escapeL kid.str).length ≤ 2000 then .mk 1 1 (escapeL kid.str) [] else x) else if x.kind == 7 then .mk 1 0 (plainL kid.str) [] else if x.kind == 6 then (if liveL kid.str then x else .mk 1 0 (plainL kid.str) []) else if x.kind == 5 then splitK x (splitL kid.str) else x by unfold textK; rw [hl]; rfl)
  have EC := Lib.hid (fun W => escape_any S W (by omega))
  have PC := Lib.hid (fun W => plain_any S W (by omega))
  have VC := Lib.hid (fun W => live_any S W (by omega))
  have SC := Lib.hid (fun W => split_any S W (by omega))
  rw [hSl] at EC PC VC SC
  rw [← hS] at d4
  obtain ⟨kd, hkd⟩ : ∃ kd, x.kind = kd := ⟨_, rfl⟩
  rw [hkd] at hk c0 HE
  have hsl : ∀ p ∈ splitL kid.str, p.length ≤ 2000 := fun p hp => Nat.le_trans (split_len kid.str p hp) h2
  generalize kid.str = s at *
  clear hkd hS hSl hl hs hx hkid h2
  rcases hk with rfl | rfl | rfl | rfl
  · clear PC VC SC
    obtain ⟨E, hE⟩ : ∃ E, E = escapeL s := ⟨_, rfl⟩
    rw [← hE] at EC HE
    obtain ⟨q, hq⟩ : ∃ q, q = E.length := ⟨_, rfl⟩
    have HQ := Lib.hid hq
    rw [← hq] at HE
    have hql : E.length = q := hq.symm
    clear hE hq hsl
    go_enter Tryd.func134, Tryd.ntmps134
    go_wp2_with fail
    refine LC.out.mono ?_
    rintro e w1 ⟨rfl, rfl⟩
    by_cases hle : q ≤ 2000
    · rw [show (if q ≤ 2000 then Tr.mk 1 1 E [] else x) = Tr.mk 1 1 E [] from if_pos hle] at HE
      have g1 : decide ((q : Int) ≤ 2000) = true := decide_eq_true (by omega)
      go_wp2_with fail
      refine (EC.out _).mono ?_
      rintro e w2 ⟨rfl, hbx⟩
      go_wp2_with fail
      refine (newT_any 1 1 E none 0 0 [] _ (KdRd.nil _ _) rfl (of_decide_eq_true (by kernel_rfl))).mono ?_
      rintro e w5 ⟨A5, n5, c5, rfl, o5, hb5⟩
      have O5 := Lib.hid (o5.mono (Nat.le_trans hB hbx.size))
      have hbx5 := hbx.trans (hb5.mono hbx.size)
      clear o5
      go_wp2_with fail
      go_ret
      exact ⟨_, _, _, rfl, by rw [HE.out]; exact O5.out, hbx5⟩
    · rw [show (if q ≤ 2000 then Tr.mk 1 1 E [] else x) = x from if_neg hle] at HE
      have g1 : decide ((q : Int) ≤ 2000) = false := decide_eq_false (by omega)
      go_wp2_with fail
      refine (EC.out _).mono ?_
      rintro e w2 ⟨rfl, hbx⟩
      go_wp2_with fail
      go_ret
      exact ⟨_, _, _, rfl, by rw [HE.out]; exact HX.out.below hbx, hbx⟩
  · clear EC VC SC
    generalize plainL s = E at *
    clear hsl
    go_enter Tryd.func134, Tryd.ntmps134
    go_wp2_with fail
    refine LC.out.mono ?_
    rintro e w1 ⟨rfl, rfl⟩
    go_wp2_with fail
    refine (PC.out _).mono ?_
    rintro e w2 ⟨rfl, hbx⟩
    go_wp2_with fail
    refine (litT_any E _).mono ?_
    rintro e w5 ⟨A5, n5, c5, rfl, o5, hb5⟩
    have O5 := Lib.hid (o5.mono (Nat.le_trans hB hbx.size))
    have hbx5 := hbx.trans (hb5.mono hbx.size)
    clear o5
    go_wp2_with fail
    go_ret
    exact ⟨_, _, _, rfl, by rw [HE.out]; exact O5.out, hbx5⟩
  · clear EC SC
    generalize plainL s = E at *
    obtain ⟨lv, hlv⟩ : ∃ lv, liveL s = lv := ⟨_, rfl⟩
    rw [hlv] at VC HE
    clear hsl hlv
    go_enter Tryd.func134, Tryd.ntmps134
    go_wp2_with fail
    refine LC.out.mono ?_
    rintro e w1 ⟨rfl, rfl⟩
    cases lv
    · go_wp2_with fail
      refine (VC.out _).mono ?_
      rintro e w2 ⟨rfl, hb2⟩
      go_wp2_with fail
      refine (PC.out _).mono ?_
      rintro e w3 ⟨rfl, hb3⟩
      have hbx := hb2.trans (hb3.mono hb2.size)
      go_wp2_with fail
      refine (litT_any E _).mono ?_
      rintro e w5 ⟨A5, n5, c5, rfl, o5, hb5⟩
      have O5 := Lib.hid (o5.mono (Nat.le_trans hB hbx.size))
      have hbx5 := hbx.trans (hb5.mono hbx.size)
      clear o5
      go_wp2_with fail
      go_ret
      exact ⟨_, _, _, rfl, by rw [HE.out]; exact O5.out, hbx5⟩
    · go_wp2_with fail
      refine (VC.out _).mono ?_
      rintro e w2 ⟨rfl, hbx⟩
      go_wp2_with fail
      go_ret
      exact ⟨_, _, _, rfl, by rw [HE.out]; exact HX.out.below hbx, hbx⟩
  · clear EC PC VC
    have HSL := Lib.hid hsl
    generalize splitL s = P at *
    clear hsl
    go_enter Tryd.func134, Tryd.ntmps134
    go_wp2_with fail
    refine LC.out.mono ?_
    rintro e w1 ⟨rfl, rfl⟩
    go_wp2_with fail
    refine (SC.out _).mono ?_
    rintro e w2 ⟨A2, c2, rfl, ho2, hbx⟩
    obtain ⟨_, _, he, -, -, hrd, -⟩ := RdL.of_own strc_len ho2 rfl
    injection he with he _ _
    subst he
    clear ho2
    match P, HE, HSL, hrd with
    | [], HE, HSL, hrd =>
      go_wp2_with fail
      refine (cnone_any _).mono ?_
      rintro e w5 ⟨A5, n5, c5, rfl, o5, hb5⟩
      have O5 := Lib.hid (o5.mono (Nat.le_trans hB hbx.size))
      have hbx5 := hbx.trans (hb5.mono hbx.size)
      clear o5
      go_wp2_with fail
      go_ret
      exact ⟨_, _, _, rfl, by rw [HE.out]; exact O5.out, hbx5⟩
    | [p], HE, HSL, hrd =>
      obtain ⟨b2, o2, rfl, -, hc2⟩ := hrd 0 (by simp)
      have e0 := hc2 0 _ rfl
      simp only [List.getElem_cons_zero, Nat.zero_mul, Nat.add_zero] at e0
      have hp := HSL.out p (List.mem_singleton.2 rfl)
      have hpl : p.length ≤ 2000 := hp
      have CC := Lib.hid (fun W => closed_any ⟨p.toArray⟩ W (by show p.toArray.size ≤ 4000000; simp; omega))
      rw [show (⟨p.toArray⟩ : ByteArray).data.toList = p from rfl] at CC
      obtain ⟨op, hop⟩ : ∃ op, openOf p = op := ⟨_, rfl⟩
      rw [hop] at CC
      cases op
      · replace HE := Lib.hid (HE.out.trans (show splitK x [p] = .mk 1 1 p [] by show (if openOf p then x else Tr.mk 1 1 p []) = _; rw [hop]; rfl))
        clear hop hc2 hp hpl
        go_wp2_with fail
        refine (CC.out _).mono ?_
        rintro e w3 ⟨rfl, hb3⟩
        have e3 := cell_keep hb3 e0
        have hbx := hbx.trans (hb3.mono hbx.size)
        go_wp2_with fail
        refine (newT_any 1 1 p none 0 0 [] _ (KdRd.nil _ _) rfl (of_decide_eq_true (by kernel_rfl))).mono ?_
        rintro e w5 ⟨A5, n5, c5, rfl, o5, hb5⟩
        have O5 := Lib.hid (o5.mono (Nat.le_trans hB hbx.size))
        have hbx5 := hbx.trans (hb5.mono hbx.size)
        clear o5
        go_wp2_with fail
        go_ret
        exact ⟨_, _, _, rfl, by rw [HE.out]; exact O5.out, hbx5⟩
      · replace HE := Lib.hid (HE.out.trans (show splitK x [p] = x by show (if openOf p then x else Tr.mk 1 1 p []) = _; rw [hop]; rfl))
        clear hop hc2 hp hpl
        go_wp2_with fail
        refine (CC.out _).mono ?_
        rintro e w3 ⟨rfl, hb3⟩
        have hbx := hbx.trans (hb3.mono hbx.size)
        go_wp2_with fail
        go_ret
        exact ⟨_, _, _, rfl, by rw [HE.out]; exact HX.out.below hbx, hbx⟩
    | p :: q :: P, HE, HSL, hrd =>
      obtain ⟨q2, hq2⟩ : ∃ q2, q2 = P.length := ⟨_, rfl⟩
      have hlen : (p :: q :: P).length = q2 + 2 := by rw [hq2]; rfl
      rw [hlen]
      have g1 : ((q2 : Int) + 2 == 1) = false := by rw [beq_eq_false_iff_ne]; omega
      have g2 : ((q2 : Int) + 2 == 0) = false := by rw [beq_eq_false_iff_ne]; omega
      clear hlen hq2 hrd
      go_wp2_with fail
      go_ret
      exact ⟨_, _, _, rfl, by rw [HE.out]; exact HX.out.below hbx, hbx⟩
end Go.Proofs.YtpogngdddendiaaDoor
