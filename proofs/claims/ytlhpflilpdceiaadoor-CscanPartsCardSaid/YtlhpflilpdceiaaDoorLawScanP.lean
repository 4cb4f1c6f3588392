/- The walk over CscanParts: for every two texts, and either mark between, the law returns true. The condition: what the package-level errors hold. -/
import Derived.Test.YtlhpflilpdceiaaDoorLawScanB
import Derived.Test.YtlhpflilpdceiaaDoorScanV4
set_option linter.unusedVariables false
set_option linter.unusedSimpArgs false
namespace Go.Proofs.YtlhpflilpdceiaaDoor
open Go.RowKit

theorem OwnC.at_ {tp tw tc : TypeId} {w : World} {B : Nat} {v : Value} {l : List CCmd} (h : OwnC tp tw tc w B v l) {k : Nat} (hk : k < l.length) : ∃ b o c vw, v = .slice (some ⟨b, o, none⟩) l.length c ∧ w.cell? ⟨b, o + k * 2, none⟩ = some (.int .i64 l[k].pos) ∧ w.cell? ⟨b, o + k * 2 + 1, none⟩ = some vw ∧ OwnW tp tw w B vw l[k].words := by
  obtain ⟨vs, hvs, hown, hall⟩ := h
  have hlen : l.length = vs.length := by rw [← hvs, List.length_map]
  obtain ⟨A, c, rfl, -, -, hrd, -⟩ := RdL.of_own cmc_len hown hlen
  obtain ⟨b, o, rfl, -⟩ := hrd.addr (by omega)
  have hk' : k < vs.length := by omega
  obtain ⟨h0, h1⟩ := RdL.ccmds hrd hk'
  have hf : vs[k].1 = l[k] := by
    subst hvs
    rw [List.getElem_map]
  exact ⟨b, o, c, vs[k].2, rfl, by rw [← hf]; exact h0, h1, by rw [← hf]; exact hall _ (List.getElem_mem hk')⟩
/-- One command just laid. -/
theorem RdC.one {w : World} {g : Nat} {t : TypeId} {pos : Nat} {vw : Value} {ws : List CWord} (h : Blk w g t #[.int .i64 pos, vw]) (hw : RdW w vw ws) : RdC w (.slice (some ⟨g, 0, none⟩) 1 1) [⟨pos, ws⟩] := by
  refine ⟨some ⟨g, 0, none⟩, 1, [(⟨pos, ws⟩, vw)], rfl, rfl, ?_, ?_, (fun h => by cases h), Nat.le_refl _, by decide⟩
  · intro k hk
    obtain rfl : k = 0 := by simp at hk; omega
    refine ⟨g, 0, rfl, h.lt, fun j u hu => ?_⟩
    rw [Nat.zero_mul, Nat.add_zero, Nat.zero_add, h.cell j]
    simpa [cmc] using hu
  · intro p hp
    simp only [List.mem_singleton] at hp
    subst hp
    exact hw
/-- One command of a row of commands. -/
theorem RdC.sub {w : World} {b o c : Nat} {l : List CCmd} (h : RdC w (.slice (some ⟨b, o, none⟩) l.length c) l) {k : Nat} (hk : k < l.length) : RdC w (.slice (some ⟨b, o + k * 2, none⟩) 1 (c - k)) [l[k]] := by
  obtain ⟨A, c', vs, he, hvs, hrd, hall, hAc, hlc, hcm⟩ := h
  injection he with he1 _ he3
  subst he1 he3
  have hlen : vs.length = l.length := by rw [← hvs, List.length_map]
  have hk' : k < vs.length := by omega
  have hf : vs[k].1 = l[k] := by
    subst hvs
    rw [List.getElem_map]
  refine ⟨some ⟨b, o + k * 2, none⟩, c - k, [vs[k]], rfl, by rw [← hf]; rfl, ?_, ?_, (fun h => by cases h), by simp; omega, by omega⟩
  · intro j hj
    obtain rfl : j = 0 := by simp at hj; omega
    obtain ⟨h1, h2⟩ := hrd.at_ hk'
    refine ⟨b, o + k * 2, rfl, h1, fun j u hu => ?_⟩
    rw [Nat.zero_mul, Nat.add_zero]
    exact h2 j u hu
  · intro p hp
    simp only [List.mem_singleton] at hp
    subst hp
    exact hall _ (List.getElem_mem hk')
theorem okCs_of {n : Nat} {l : List CCmd} (h : smallL n l) (hn : n ≤ 100000) : okCs l :=
  ⟨Nat.le_trans h.1 hn, fun c hc => ⟨Nat.le_trans (h.2 c hc).2.1 hn, fun x hx => Nat.le_trans ((h.2 c hc).2.2 x hx).2.1 hn⟩⟩
theorem scan_small0 {l : List UInt8} {a : List CCmd} (h : scanL 0 l [] [] = .ok a) : smallL (l.length + 1) a := by
  have := scan_small l.length 0 l [] [] a (Nat.le_refl _) (Nat.le_refl _) (Nat.le_refl _) (fun w h => by cases h) (fun c h => by cases h) h
  simpa using this
theorem no_take (L : List UInt8) {k : Nat} (h : k < L.length) (ha : ∀ c ∈ L.take k, c ≠ 92 ∧ c ≠ 35) (h1 : L[k] ≠ 92) (h2 : L[k] ≠ 35) : ∀ c ∈ L.take (k + 1), c ≠ 92 ∧ c ≠ 35 := by
  intro c hc
  rw [List.take_succ_eq_append_getElem h] at hc
  rcases List.mem_append.1 hc with hc | hc
  · exact ha c hc
  · simp only [List.mem_singleton] at hc
    subst hc
    exact ⟨h1, h2⟩
theorem sep_list (s t : ByteArray) (c : UInt8) : (s ++ ⟨#[c]⟩ ++ t : ByteArray).data.toList = s.data.toList ++ c :: t.data.toList := by simp
/-- A value that reads as one command. -/
def oneC (x : CCmd) : TT := ⟨fun _ => True, ⟨undef, trivial⟩, fun v y => RdC y v [x], fun _ _ _ h hb => h.below hb⟩
set_option maxRecDepth 100000 in
set_option maxHeartbeats 8000000 in
theorem scanparts_card (s t : ByteArray) (semi : Bool) (Ls : List Addr) (w : World) (hE : SenW w Ls) : Calls Tryd.prog 4 #[.string s, .string t, .bool semi] w (Ret w (.bool true)) := by
  have HE := Lib.hid hE
  have H1 := Lib.hid (first14_any Ls w hE)
  clear hE
  by_cases hs : s.size ≤ 700
  · by_cases ht : t.size ≤ 700
    · obtain ⟨L, hL⟩ : ∃ L, L = s.data.toList := ⟨_, rfl⟩
      obtain ⟨T, hT⟩ : ∃ T, T = t.data.toList := ⟨_, rfl⟩
      have HN1 := Lib.hid (show L.length = s.size by rw [hL]; rfl)
      have HN2 := Lib.hid (show T.length = t.size by rw [hT]; rfl)
      have HAT := Lib.hid (show ∀ (k : Nat) (hk : k < s.size) (hk2 : k < L.length), s[k]'hk = L[k]'hk2 from fun k hk hk2 => by subst hL; rfl)
      obtain ⟨RA, hRA⟩ : ∃ R, R = scanL 0 L [] [] := ⟨_, rfl⟩
      obtain ⟨RB, hRB⟩ : ∃ R, R = scanL 0 T [] [] := ⟨_, rfl⟩
      have X1 := Lib.hid (fun (W : World) (hb : Below w.heap.size w W) => scan_of s L RA Ls W (HE.out.below hb) hL.symm hRA.symm (by have := HN1.out; omega))
      have X2 := Lib.hid (fun (W : World) (hb : Below w.heap.size w W) => scan_of t T RB Ls W (HE.out.below hb) hT.symm hRB.symm (by have := HN2.out; omega))
      obtain ⟨sp, hsp⟩ : ∃ sp : UInt8, sp = if semi then 59 else 10 := ⟨_, rfl⟩
      have hsp2 : sp = 59 ∨ sp = 10 := by rw [hsp]; cases semi <;> simp
      have X3 := Lib.hid (fun (a b : List CCmd) (ha : RA = .ok a) (hb2 : RB = .ok b) (hp : ∀ c ∈ L, c ≠ 92 ∧ c ≠ 35) (W : World) (hb : Below w.heap.size w W) => scan_of (s ++ ⟨#[sp]⟩ ++ t) (L ++ sp :: T) (.ok (a ++ b.map (shC (L.length + 1)))) Ls W (HE.out.below hb) (by rw [sep_list, hL, hT]) (scan_both sp L T a b hsp2 hp (by rw [← hRA, ha]) (by rw [← hRB, hb2])) (by have := HN1.out; have := HN2.out; simp; omega))
      have HS3 := Lib.hid (fun (a b : List CCmd) (ha : RA = .ok a) (hb2 : RB = .ok b) (hp : ∀ c ∈ L, c ≠ 92 ∧ c ≠ 35) => show smallL (L.length + T.length + 2) (a ++ b.map (shC (L.length + 1))) from by
        have := scan_small0 (scan_both sp L T a b hsp2 hp (by rw [← hRA, ha]) (by rw [← hRB, hb2]))
        simpa [Nat.add_assoc] using this)
      have HSA0 := Lib.hid (fun (a : List CCmd) (ha : RA = .ok a) => scan_small0 (show scanL 0 L [] [] = .ok a by rw [← hRA, ha]))
      have HSB0 := Lib.hid (fun (b : List CCmd) (hb : RB = .ok b) => scan_small0 (show scanL 0 T [] [] = .ok b by rw [← hRB, hb]))
      have HSP := Lib.hid hsp
      clear hL hT hRA hRB hsp hsp2
      go_enter Tryd.func4, Tryd.ntmps4
      go_wp2_with fail
      refine H1.out.mono ?_
      rintro e w1 ⟨rfl, hb⟩
      clear H1
      go_wp2_with fail
      go_loopw [8] (fun i wr => ∃ k : Nat, k ≤ s.size ∧ i = .int .i64 k ∧ w1 = wr ∧ Hid (∀ c ∈ L.take k, c ≠ 92 ∧ c ≠ 35)) (fun i _ => s.size - (intOf i).toNat)
      case atStart => exact ⟨0, Nat.zero_le _, rfl, rfl, fun c hc => by simp at hc⟩
      case round =>
        obtain ⟨k, hk, rfl, hwr, H⟩ := hrel
        subst hwr
        by_cases hlt : k < s.size
        · have hlt' : k < L.length := by have := HN1.out; omega
          obtain ⟨c, hc⟩ : ∃ c, c = L[k] := ⟨_, rfl⟩
          have hxk : ∀ h, s[k]'h = c := fun h => by rw [hc]; exact HAT.out k h hlt'
          by_cases h92 : c = 92
          · subst h92
            clear hc H
            go_wp2_with fail
            go_ret
            exact ⟨rfl, hb⟩
          · by_cases h35 : c = 35
            · subst h35
              clear hc H
              go_wp2_with fail
              go_ret
              exact ⟨rfl, hb⟩
            · have HT := Lib.hid (no_take L hlt' H.out (by rw [← hc]; exact h92) (by rw [← hc]; exact h35))
              have n1 : ((c.toNat : Int) == 92) = false := by rw [beq_eq_false_iff_ne]; exact int_ne (toNat_ne (d := 92) (by decide) h92)
              have n2 : ((c.toNat : Int) == 35) = false := by rw [beq_eq_false_iff_ne]; exact int_ne (toNat_ne (d := 35) (by decide) h35)
              clear hc H h92 h35
              go_wp2_with fail
              go_roundw
              case rel => exact ⟨k + 1, by omega, by go_num, trivial, HT⟩
              case measure => simp [intOf]; omega
        · obtain rfl : k = s.size := by omega
          have HP := Lib.hid (show ∀ c ∈ L, c ≠ 92 ∧ c ≠ 35 by
            have := H.out
            rwa [List.take_of_length_le (by have := HN1.out; omega)] at this)
          clear H
          go_wp2_with fail
          refine (X1.out _ hb).mono ?_
          cases RA with
          | err ka pa =>
            rintro e w2 ⟨v1, rfl, hE1, hb2⟩
            obtain ⟨_, _, ge, _, _, hv, _, _⟩ := hE1
            subst hv
            replace hb := hb.trans (hb2.mono hb.size)
            clear hb2 X1 X3 HS3 HSA0
            go_wp2_with fail
            refine (X2.out _ hb).mono ?_
            cases RB with
            | err kb pb =>
              rintro e w3 ⟨v2, rfl, hE2, hb3⟩
              go_wp2_with fail
              go_ret
              exact ⟨rfl, hb.trans (hb3.mono hb.size)⟩
            | ok b =>
              rintro e w3 ⟨v2, rfl, hO2, hb3⟩
              go_wp2_with fail
              go_ret
              exact ⟨rfl, hb.trans (hb3.mono hb.size)⟩
          | ok a =>
            rintro e w2 ⟨v1, rfl, hO1, hb2⟩
            have HV1 := Lib.hid hO1.rd
            have HSA := Lib.hid (HSA0.out a rfl)
            replace hb := hb.trans (hb2.mono hb.size)
            clear hb2 hO1 X1 HSA0
            go_wp2_with fail
            refine (X2.out _ hb).mono ?_
            cases RB with
            | err kb pb =>
              rintro e w3 ⟨v2, rfl, hE2, hb3⟩
              obtain ⟨_, _, ge, _, _, hv, _, _⟩ := hE2
              subst hv
              go_wp2_with fail
              go_ret
              exact ⟨rfl, hb.trans (hb3.mono hb.size)⟩
            | ok b =>
              rintro e w3 ⟨v2, rfl, hO2, hb3⟩
              have HV2 := Lib.hid hO2.rd
              replace HV1 := Lib.hid (HV1.out.below hb3)
              have HSB := Lib.hid (HSB0.out b rfl)
              replace hb := hb.trans (hb3.mono hb.size)
              clear hb3 hO2 X2 HSB0
              cases semi with
              | true =>
                have he := HSP.out
                simp only [if_true] at he
                subst he
                clear HSP
                go_wp2_with fail
                refine (X3.out _ _ rfl rfl HP.out _ hb).mono ?_
                rintro e w4 ⟨v3, rfl, hO3, hb4⟩
                have HVa := Lib.hid (HV1.out.below hb4)
                have HVb := Lib.hid (HV2.out.below hb4)
                have HVc := Lib.hid hO3.rd
                replace hb := hb.trans (hb4.mono hb.size)
                clear hO3 hb4 X3 HV1 HV2
                have HVA := Lib.hid HVa.out
                have HVB := Lib.hid HVb.out
                have HVC := Lib.hid HVc.out
                obtain ⟨A1, c1, vs1, rfl, -⟩ := HVa.out
                obtain ⟨A2, c2, vs2, rfl, -⟩ := HVb.out
                obtain ⟨A3, c3, vs3, rfl, -, -, -, -, hc3, -⟩ := HVc.out
                clear HVa HVb HVc
                have MA := Lib.hid (fun (W : World) (h : RdC W (.slice A1 a.length c1) a) => made_any a _ W h (okCs_of HSA.out (by have := HN1.out; omega)))
                have MB := Lib.hid (fun (W : World) (h : RdC W (.slice A2 b.length c2) b) => made_any b _ W h (okCs_of HSB.out (by have := HN2.out; omega)))
                have hd : L.length + 1 = s.size + 1 := by rw [HN1.out]
                have SH := Lib.hid (fun (c : CCmd) (hc : c ∈ b) (v : Value) (W : World) (h : RdW W v c.words) => shifted_any c (L.length + 1) (T.length + 1) v W h (HSB.out.2 c hc) (by have := HN2.out; omega) (by have := HN1.out; omega))
                have HEL := Lib.hid (fun (k : Nat) (h : k < (a ++ b.map (shC (L.length + 1))).length) (h2 : k < a.length) => show (a ++ b.map (shC (L.length + 1)))[k] = a[k] from List.getElem_append_left h2)
                have HER := Lib.hid (fun (k : Nat) (h : k < (a ++ b.map (shC (L.length + 1))).length) (h2 : ¬ k < a.length) (h3 : k - a.length < b.length) => show (a ++ b.map (shC (L.length + 1)))[k] = shC (L.length + 1) b[k - a.length] from by rw [List.getElem_append_right (by omega), List.getElem_map])
                have HSC := Lib.hid (show smallL 100000 (a ++ b.map (shC (L.length + 1))) from by
                  have h1 := HS3.out a b rfl rfl HP.out
                  exact ⟨Nat.le_trans h1.1 (by have := HN1.out; have := HN2.out; omega), fun c hc => (h1.2 c hc).mono (by have := HN1.out; have := HN2.out; omega)⟩)
                have HLC := Lib.hid (show (a ++ b.map (shC (L.length + 1))).length = a.length + b.length by rw [List.length_append, List.length_map])
                generalize a ++ b.map (shC (L.length + 1)) = C at *
                obtain ⟨na, hna⟩ : ∃ na, na = a.length := ⟨_, rfl⟩
                obtain ⟨nb, hnb⟩ : ∃ nb, nb = b.length := ⟨_, rfl⟩
                obtain ⟨nc, hnc⟩ : ∃ nc, nc = C.length := ⟨_, rfl⟩
                have HNA := Lib.hid hna
                have HNB := Lib.hid hnb
                have HNC := Lib.hid hnc
                have hsum : nc = na + nb := by rw [hnc, hna, hnb]; exact HLC.out
                have hneq : ((nc : Int) != (na : Int) + (nb : Int)) = false := by rw [bne_eq_false_iff_eq]; omega
                have hnc1 : nc ≤ 100000 := by rw [hnc]; exact HSC.out.1
                have hna1 : na ≤ 100000 := by omega
                have hnb1 : nb ≤ 100000 := by omega
                rw [← hna] at HVA MA ⊢
                rw [← hnb] at HVB MB ⊢
                rw [← hnc] at HVC hc3 ⊢
                have HSUM := Lib.hid hsum
                clear hna hnb hnc hsum hd
                go_wp2_with fail
                clear hneq
                go_loopw [16] (fun i wr => ∃ k : Nat, k ≤ nc ∧ i = .int .i64 k ∧ Below w4.heap.size w4 wr) (fun i _ => nc - (intOf i).toNat)
                case atStart => exact ⟨0, Nat.zero_le _, rfl, Below.refl _ _⟩
                case round =>
                  obtain ⟨k, hk, rfl, hbr⟩ := hrel
                  have HBR := Lib.hid hbr
                  have HBB := Lib.hid hb
                  clear hbr hb
                  by_cases hlt : k < nc
                  · have hlt' : k < C.length := by rw [← HNC.out]; exact hlt
                    have MC0 := fun (W : World) (v : Value) (h : RdC W v [C[k]]) => made_any [C[k]] v W h ⟨by simp, fun c hc => by simp only [List.mem_singleton] at hc; subst hc; exact (okCs_of HSC.out (Nat.le_refl _)).2 _ (List.getElem_mem hlt')⟩
                    have SC0 := fun (va vb : Value) (W : World) (h : RdC W va [C[k]]) (h' : RdC W vb [C[k]]) => samecommands_any [C[k]] va vb W h h' ⟨by simp, fun c hc => by simp only [List.mem_singleton] at hc; subst hc; exact (okCs_of HSC.out (Nat.le_refl _)).2 _ (List.getElem_mem hlt')⟩
                    have hsub : ∀ W, Below w4.heap.size w4 W → ∃ b3 o3, A3 = some ⟨b3, o3, none⟩ ∧ RdC W (.slice (some ⟨b3, o3 + k * 2, none⟩) 1 (c3 - k)) [C[k]] := fun W hW => by
                      have h1 := HVC.out.below hW
                      obtain ⟨b3, o3, c3', vw, he, -⟩ := h1.at_ hlt'
                      injection he with he1 he2 he3
                      subst he1
                      refine ⟨b3, o3, rfl, ?_⟩
                      rw [HNC.out] at h1
                      exact h1.sub hlt'
                    obtain ⟨b3, o3, hA3, -⟩ := hsub w4 (Below.refl _ _)
                    subst hA3
                    have HSUB0 := Lib.hid (fun (W : World) (hW : Below w4.heap.size w4 W) => show RdC W (.slice (some ⟨b3, o3 + k * 2, none⟩) 1 (c3 - k)) [C[k]] from by
                      obtain ⟨b4, o4, he, h⟩ := hsub W hW
                      injection he with he
                      injection he with he1 he2
                      subst he1 he2
                      exact h)
                    clear hsub
                    go_upto_region 23 with (fail)
                    have hbx : Below wr.heap.size wr (wr.alloc (.cells #[.int .i64 0, .slice none 0 0] 41)) := (Below.refl _ _).alloc (Nat.le_refl _) _
                    have hX := Blk.new wr 41 #[.int .i64 0, .slice none 0 0]
                    obtain ⟨gx, hgx⟩ : ∃ gx, gx = wr.heap.size := ⟨_, rfl⟩
                    rw [← hgx] at hX ⊢
                    have HB5 := Lib.hid (HBR.out.trans (hbx.mono HBR.out.size))
                    have HGX := Lib.hid (show w4.heap.size ≤ gx by rw [hgx]; exact HBR.out.size)
                    have HX := Lib.hid hX
                    clear hbx hX hgx
                    generalize wr.alloc (.cells #[.int .i64 0, .slice none 0 0] 41) = w5 at *
                    by_cases hka : k < na
                    · have hka' : k < a.length := by rw [← HNA.out]; exact hka
                      have hCk := HEL.out k hlt' hka'
                      go_wp2_with fail
                      refine (MA.out w5 (HVA.out.below HB5.out)).mono ?_
                      rintro e w6 ⟨v6, rfl, hO6, hb6⟩
                      obtain ⟨b6, o6, c6, vw, rfl, d0, d1, hOW⟩ := hO6.at_ hka'
                      rw [← HNA.out]
                      rw [hCk] at MC0 SC0 HSUB0
                      have hX6 := HX.out.below hb6
                      have HB6 := Lib.hid (HB5.out.trans (hb6.mono HB5.out.size))
                      obtain ⟨x, hx⟩ : ∃ x, x = a[k] := ⟨_, rfl⟩
                      rw [← hx] at d0 hOW
                      rw [← hx] at MC0 SC0 HSUB0
                      obtain ⟨pos, ws⟩ := x
                      simp only at d0 hOW
                      obtain ⟨vsq, -, hoq, -⟩ := id hOW
                      obtain ⟨A7, c7, hvw, -, -, -, -⟩ := own_form hoq
                      subst hvw
                      clear hoq
                      have x0 := hX6.cell 0
                      have x1 := hX6.cell 1
                      have y0 := hX6.frozen 0
                      have y1 := hX6.frozen 1
                      simp only [List.getElem?_toArray, List.getElem?_cons_zero, List.getElem?_cons_succ] at x0 x1
                      have HX6 := Lib.hid hX6
                      have HOW := Lib.hid hOW
                      clear hx hCk hka' hO6 hb6 hX6 hOW
                      have MC := Lib.hid (fun (W : World) h => MC0 W (.slice (some ⟨b3, o3 + k * 2, none⟩) 1 (c3 - k)) h)
                      have SC := Lib.hid (fun (va vb : Value) (W : World) h h' => SC0 va vb W h h')
                      clear MC0 SC0
                      go_upto_region 27 with (fail)
                      have hX7 := HX6.out.set2 (.int .i64 pos) (.slice A7 ws.length c7)
                      have hB7 := But.set2 gx w6 (.int .i64 pos) (.slice A7 ws.length c7)
                      have HXW := Lib.hid (HOW.out.but hB7 HX6.out (by decide) (by decide)).rd
                      have HBY := Lib.hid (HB6.out.trans (hB7.below HGX.out HB6.out.size))
                      have t0 := hX7.cell 0
                      have t1 := hX7.cell 1
                      simp only [List.getElem?_toArray, List.getElem?_cons_zero, List.getElem?_cons_succ] at t0 t1
                      clear hB7 x0 x1 y0 y1 d0 d1 HX6 HOW hX7
                      generalize (w6.setCell ⟨gx, 0, none⟩ (.int .i64 pos)).setCell ⟨gx, 1, none⟩ (.slice A7 ws.length c7) = w7 at *
                      have HSUB := Lib.hid (HSUB0.out w7 HBY.out)
                      clear HSUB0
                      apply wp_region_rel [eqT _, eqT _, eqT _, eqT _, eqT _, oneC ⟨pos, ws⟩, eqT _, oneC ⟨pos, ws⟩, eqT _, eqT _] (by kernel_rfl) (by kernel_rfl) rfl
                      focus
                        refine ⟨?_, ?_⟩
                        focus
                          unfold opGoal
                          rw [if_pos (by kernel_rfl)]
                          intro x hb hd K hk
                          clear hd
                          go_wp2_with fail
                          exact hk _ _ rfl trivial (Below.refl _ _)
                        rintro _ rfl
                        simp only [Act.put, List.setIfInBounds_toArray, List.set_cons_succ, List.set_cons_zero]
                        refine ⟨?_, ?_⟩
                        focus
                          unfold opGoal
                          rw [if_pos (by kernel_rfl)]
                          intro x hb hd K hk
                          clear hd
                          go_wp2_with fail
                          exact hk _ _ rfl trivial (Below.refl _ _)
                        rintro _ rfl
                        simp only [Act.put, List.setIfInBounds_toArray, List.set_cons_succ, List.set_cons_zero]
                        refine ⟨?_, ?_⟩
                        focus
                          unfold opGoal
                          rw [if_pos (by kernel_rfl)]
                          intro x hb hd K hk
                          clear hd
                          go_wp2_with fail
                          exact hk _ _ rfl trivial (Below.refl _ _)
                        rintro _ rfl
                        simp only [Act.put, List.setIfInBounds_toArray, List.set_cons_succ, List.set_cons_zero]
                        refine ⟨?_, ?_⟩
                        focus
                          unfold opGoal
                          rw [if_pos (by kernel_rfl)]
                          intro x hb hd K hk
                          clear hd
                          go_wp2_with fail
                          exact hk _ _ rfl trivial (Below.refl _ _)
                        rintro _ rfl
                        simp only [Act.put, List.setIfInBounds_toArray, List.set_cons_succ, List.set_cons_zero]
                        refine ⟨?_, ?_⟩
                        focus
                          unfold opGoal
                          rw [if_pos (by kernel_rfl)]
                          intro x hb hd K hk
                          clear hd
                          go_wp2_with fail
                          exact hk _ _ rfl trivial (Below.refl _ _)
                        rintro _ rfl
                        simp only [Act.put, List.setIfInBounds_toArray, List.set_cons_succ, List.set_cons_zero]
                        refine ⟨?_, ?_⟩
                        focus
                          unfold opGoal
                          rw [if_pos (by kernel_rfl)]
                          intro x hb hd K hk
                          clear hd
                          go_wp2_with fail
                          refine (MC.out x (HSUB.out.below hb)).mono ?_
                          rintro e x' ⟨v', rfl, hO, hb'⟩
                          exact hk _ _ trivial hO.rd hb'
                        rintro vm -
                        simp only [Act.put, List.setIfInBounds_toArray, List.set_cons_succ, List.set_cons_zero]
                        refine ⟨?_, ?_⟩
                        focus
                          unfold opGoal
                          rw [if_pos (by kernel_rfl)]
                          intro x hb hd K hk
                          clear hd
                          have l0 := cell_keep hb t0
                          have l1 := cell_keep hb t1
                          go_wp2_with fail
                          exact hk _ _ rfl trivial (Below.refl _ _)
                        rintro _ rfl
                        simp only [Act.put, List.setIfInBounds_toArray, List.set_cons_succ, List.set_cons_zero]
                        refine ⟨?_, ?_⟩
                        focus
                          unfold opGoal
                          rw [if_pos (by kernel_rfl)]
                          intro x hb hd K hk
                          clear hd
                          go_wp2_with fail
                          refine hk _ _ trivial ?_ ((Below.refl _ _).alloc (Nat.le_refl _) _)
                          exact RdC.one (Blk.new x _ _) ((HXW.out.below hb).below ((Below.refl _ _).alloc (Nat.le_refl _) _))
                        rintro vn -
                        simp only [Act.put, List.setIfInBounds_toArray, List.set_cons_succ, List.set_cons_zero]
                        refine ⟨?_, ?_⟩
                        focus
                          unfold opGoal
                          rw [if_pos (by kernel_rfl)]
                          intro x hb hd K hk
                          have h1 : RdC x vm [⟨pos, ws⟩] := hd ⟨5, .data⟩ (by simp) rfl _ _ rfl rfl
                          have h2 : RdC x vn [⟨pos, ws⟩] := hd ⟨7, .data⟩ (by simp) rfl _ _ rfl rfl
                          clear hd
                          go_wp2_with fail
                          refine (SC.out _ _ x h1 h2).mono ?_
                          rintro e x' ⟨rfl, hb'⟩
                          exact hk _ _ rfl trivial hb'
                        rintro _ rfl
                        simp only [Act.put, List.setIfInBounds_toArray, List.set_cons_succ, List.set_cons_zero]
                        refine ⟨?_, ?_⟩
                        focus
                          unfold opGoal
                          rw [if_pos (by kernel_rfl)]
                          intro x hb hd K hk
                          clear hd
                          go_wp2_with fail
                          exact hk _ _ rfl trivial (Below.refl _ _)
                        rintro _ rfl
                        simp only [Act.put, List.setIfInBounds_toArray, List.set_cons_succ, List.set_cons_zero]
                        intro x hbx hf
                        clear hf
                        have HBX := Lib.hid hbx
                        clear hbx
                        go_wp2_with fail
                        go_roundw
                        case rel => exact ⟨k + 1, by omega, by go_num, HBY.out.trans (HBX.out.mono HBY.out.size)⟩
                        case measure => simp [intOf]; omega
                    · have hkb' : k - a.length < b.length := by rw [← HNA.out, ← HNB.out]; have := HSUM.out; omega
                      have hCk := HER.out k hlt' (by rw [← HNA.out]; exact hka) hkb'
                      go_wp2_with fail
                      refine (MB.out w5 (HVB.out.below HB5.out)).mono ?_
                      rintro e w6 ⟨v6, rfl, hO6, hb6⟩
                      obtain ⟨b6, o6, c6, vw, rfl, d0, d1, hOW⟩ := hO6.at_ hkb'
                      rw [← HNB.out]
                      have SHX := fun v W h => SH.out _ (List.getElem_mem hkb') v W h
                      obtain ⟨x, hx⟩ : ∃ x, x = b[k - a.length] := ⟨_, rfl⟩
                      rw [hCk] at MC0 SC0 HSUB0
                      rw [← hx] at d0 hOW SHX
                      rw [← hx] at MC0 SC0 HSUB0
                      rw [← HNA.out] at d0 d1
                      obtain ⟨pos, ws⟩ := x
                      simp only at d0 hOW SHX
                      obtain ⟨vsq, -, hoq, -⟩ := id hOW
                      obtain ⟨A7, c7, hvw, -, -, -, -⟩ := own_form hoq
                      subst hvw
                      clear hoq
                      have HCAST := Lib.hid (show (k : Int) - (na : Int) = ((k - na : Nat) : Int) by omega)
                      have hX6 := HX.out.below hb6
                      have HB6 := Lib.hid (HB5.out.trans (hb6.mono HB5.out.size))
                      have x0 := hX6.cell 0
                      have x1 := hX6.cell 1
                      have y0 := hX6.frozen 0
                      have y1 := hX6.frozen 1
                      simp only [List.getElem?_toArray, List.getElem?_cons_zero, List.getElem?_cons_succ] at x0 x1
                      have HX6 := Lib.hid hX6
                      have HOW := Lib.hid hOW
                      clear hx hCk hkb' hO6 hb6 hX6 hOW
                      have MC := Lib.hid (fun (W : World) h => MC0 W (.slice (some ⟨b3, o3 + k * 2, none⟩) 1 (c3 - k)) h)
                      have SC := Lib.hid (fun (va vb : Value) (W : World) h h' => SC0 va vb W h h')
                      clear MC0 SC0
                      have hkc : k - na < nb := by have := HSUM.out; omega
                      have hkn : na ≤ k := by omega
                      go_upto_region 26 with (fail)
                      have hX7 := HX6.out.set2 (.int .i64 pos) (.slice A7 ws.length c7)
                      have hB7 := But.set2 gx w6 (.int .i64 pos) (.slice A7 ws.length c7)
                      have HXV := Lib.hid (HOW.out.but hB7 HX6.out (by decide) (by decide)).rd
                      have HBZ := Lib.hid (HB6.out.trans (hB7.below HGX.out HB6.out.size))
                      have t0 := hX7.cell 0
                      have t1 := hX7.cell 1
                      simp only [List.getElem?_toArray, List.getElem?_cons_zero, List.getElem?_cons_succ] at t0 t1
                      have HX7 := Lib.hid hX7
                      clear hB7 x0 x1 y0 y1 d0 d1 HX6 HOW hX7 hkc hkn
                      generalize (w6.setCell ⟨gx, 0, none⟩ (.int .i64 pos)).setCell ⟨gx, 1, none⟩ (.slice A7 ws.length c7) = w7 at *
                      have HSH := Lib.hid (SHX _ w7 HXV.out)
                      have hs700 : s.size ≤ 700 := hs
                      have HLE := Lib.hid (show ((L.length + 1 : Nat) : Int) = (s.size : Int) + 1 by rw [HN1.out]; rfl)
                      simp only [HLE.out] at HSH
                      clear SHX
                      go_wp2_with fail
                      refine HSH.out.mono ?_
                      rintro e w8 ⟨v8, rfl, hO8, hb8⟩
                      obtain ⟨vsr, -, hor, -⟩ := id hO8
                      obtain ⟨A8, c8, hvr, -, -, -, -⟩ := own_form hor
                      subst hvr
                      clear hor
                      have hX8 := HX7.out.below hb8
                      have HB8 := Lib.hid (HBZ.out.trans (hb8.mono HBZ.out.size))
                      have x0 := hX8.cell 0
                      have x1 := hX8.cell 1
                      have y0 := hX8.frozen 0
                      have y1 := hX8.frozen 1
                      simp only [List.getElem?_toArray, List.getElem?_cons_zero, List.getElem?_cons_succ] at x0 x1
                      obtain ⟨pos2, hpos2⟩ : ∃ q, q = (shC (L.length + 1) ⟨pos, ws⟩).pos := ⟨_, rfl⟩
                      obtain ⟨ws2, hws2⟩ : ∃ q, q = (shC (L.length + 1) ⟨pos, ws⟩).words := ⟨_, rfl⟩
                      have hcc : shC (L.length + 1) ⟨pos, ws⟩ = ⟨pos2, ws2⟩ := by rw [hpos2, hws2]
                      rw [hcc] at MC SC HSUB0
                      rw [← hpos2]
                      rw [← hws2] at hO8 ⊢
                      have HX8 := Lib.hid hX8
                      have HOW := Lib.hid hO8
                      have hgz : w4.heap.size ≤ w7.heap.size := HBZ.out.size
                      clear t0 t1 hX8 hO8 hb8 hpos2 hws2 hcc HSH HX7 HXV
                      go_upto_region 27 with (fail)
                      have hX9 := HX8.out.set2 (.int .i64 pos2) (.slice A8 ws2.length c8)
                      have hB9 := But.set2 gx w8 (.int .i64 pos2) (.slice A8 ws2.length c8)
                      have HXW := Lib.hid (HOW.out.but hB9 HX8.out (by decide) (by decide)).rd
                      have HBY := Lib.hid (HB8.out.trans (hB9.below HGX.out HB8.out.size))
                      have t0 := hX9.cell 0
                      have t1 := hX9.cell 1
                      simp only [List.getElem?_toArray, List.getElem?_cons_zero, List.getElem?_cons_succ] at t0 t1
                      clear hB9 x0 x1 y0 y1 HX8 HOW hX9 hgz
                      generalize (w8.setCell ⟨gx, 0, none⟩ (.int .i64 pos2)).setCell ⟨gx, 1, none⟩ (.slice A8 ws2.length c8) = w9 at *
                      have HSUB := Lib.hid (HSUB0.out w9 HBY.out)
                      clear HSUB0
                      apply wp_region_rel [eqT _, eqT _, eqT _, eqT _, eqT _, oneC ⟨pos2, ws2⟩, eqT _, oneC ⟨pos2, ws2⟩, eqT _, eqT _] (by kernel_rfl) (by kernel_rfl) rfl
                      focus
                        refine ⟨?_, ?_⟩
                        focus
                          unfold opGoal
                          rw [if_pos (by kernel_rfl)]
                          intro x hb hd K hk
                          clear hd
                          go_wp2_with fail
                          exact hk _ _ rfl trivial (Below.refl _ _)
                        rintro _ rfl
                        simp only [Act.put, List.setIfInBounds_toArray, List.set_cons_succ, List.set_cons_zero]
                        refine ⟨?_, ?_⟩
                        focus
                          unfold opGoal
                          rw [if_pos (by kernel_rfl)]
                          intro x hb hd K hk
                          clear hd
                          go_wp2_with fail
                          exact hk _ _ rfl trivial (Below.refl _ _)
                        rintro _ rfl
                        simp only [Act.put, List.setIfInBounds_toArray, List.set_cons_succ, List.set_cons_zero]
                        refine ⟨?_, ?_⟩
                        focus
                          unfold opGoal
                          rw [if_pos (by kernel_rfl)]
                          intro x hb hd K hk
                          clear hd
                          go_wp2_with fail
                          exact hk _ _ rfl trivial (Below.refl _ _)
                        rintro _ rfl
                        simp only [Act.put, List.setIfInBounds_toArray, List.set_cons_succ, List.set_cons_zero]
                        refine ⟨?_, ?_⟩
                        focus
                          unfold opGoal
                          rw [if_pos (by kernel_rfl)]
                          intro x hb hd K hk
                          clear hd
                          go_wp2_with fail
                          exact hk _ _ rfl trivial (Below.refl _ _)
                        rintro _ rfl
                        simp only [Act.put, List.setIfInBounds_toArray, List.set_cons_succ, List.set_cons_zero]
                        refine ⟨?_, ?_⟩
                        focus
                          unfold opGoal
                          rw [if_pos (by kernel_rfl)]
                          intro x hb hd K hk
                          clear hd
                          go_wp2_with fail
                          exact hk _ _ rfl trivial (Below.refl _ _)
                        rintro _ rfl
                        simp only [Act.put, List.setIfInBounds_toArray, List.set_cons_succ, List.set_cons_zero]
                        refine ⟨?_, ?_⟩
                        focus
                          unfold opGoal
                          rw [if_pos (by kernel_rfl)]
                          intro x hb hd K hk
                          clear hd
                          go_wp2_with fail
                          refine (MC.out x (HSUB.out.below hb)).mono ?_
                          rintro e x' ⟨v', rfl, hO, hb'⟩
                          exact hk _ _ trivial hO.rd hb'
                        rintro vm -
                        simp only [Act.put, List.setIfInBounds_toArray, List.set_cons_succ, List.set_cons_zero]
                        refine ⟨?_, ?_⟩
                        focus
                          unfold opGoal
                          rw [if_pos (by kernel_rfl)]
                          intro x hb hd K hk
                          clear hd
                          have l0 := cell_keep hb t0
                          have l1 := cell_keep hb t1
                          go_wp2_with fail
                          exact hk _ _ rfl trivial (Below.refl _ _)
                        rintro _ rfl
                        simp only [Act.put, List.setIfInBounds_toArray, List.set_cons_succ, List.set_cons_zero]
                        refine ⟨?_, ?_⟩
                        focus
                          unfold opGoal
                          rw [if_pos (by kernel_rfl)]
                          intro x hb hd K hk
                          clear hd
                          go_wp2_with fail
                          refine hk _ _ trivial ?_ ((Below.refl _ _).alloc (Nat.le_refl _) _)
                          exact RdC.one (Blk.new x _ _) ((HXW.out.below hb).below ((Below.refl _ _).alloc (Nat.le_refl _) _))
                        rintro vn -
                        simp only [Act.put, List.setIfInBounds_toArray, List.set_cons_succ, List.set_cons_zero]
                        refine ⟨?_, ?_⟩
                        focus
                          unfold opGoal
                          rw [if_pos (by kernel_rfl)]
                          intro x hb hd K hk
                          have h1 : RdC x vm [⟨pos2, ws2⟩] := hd ⟨5, .data⟩ (by simp) rfl _ _ rfl rfl
                          have h2 : RdC x vn [⟨pos2, ws2⟩] := hd ⟨7, .data⟩ (by simp) rfl _ _ rfl rfl
                          clear hd
                          go_wp2_with fail
                          refine (SC.out _ _ x h1 h2).mono ?_
                          rintro e x' ⟨rfl, hb'⟩
                          exact hk _ _ rfl trivial hb'
                        rintro _ rfl
                        simp only [Act.put, List.setIfInBounds_toArray, List.set_cons_succ, List.set_cons_zero]
                        refine ⟨?_, ?_⟩
                        focus
                          unfold opGoal
                          rw [if_pos (by kernel_rfl)]
                          intro x hb hd K hk
                          clear hd
                          go_wp2_with fail
                          exact hk _ _ rfl trivial (Below.refl _ _)
                        rintro _ rfl
                        simp only [Act.put, List.setIfInBounds_toArray, List.set_cons_succ, List.set_cons_zero]
                        intro x hbx hf
                        clear hf
                        have HBX := Lib.hid hbx
                        clear hbx
                        go_wp2_with fail
                        go_roundw
                        case rel => exact ⟨k + 1, by omega, by go_num, HBY.out.trans (HBX.out.mono HBY.out.size)⟩
                        case measure => simp [intOf]; omega
                  · obtain rfl : k = nc := by omega
                    go_wp2_with fail
                    go_ret
                    exact ⟨rfl, HBB.out.trans (HBR.out.mono HBB.out.size)⟩
              | false =>
                have he := HSP.out
                simp only [Bool.false_eq_true, if_false] at he
                subst he
                clear HSP
                go_wp2_with fail
                refine (X3.out _ _ rfl rfl HP.out _ hb).mono ?_
                rintro e w4 ⟨v3, rfl, hO3, hb4⟩
                have HVa := Lib.hid (HV1.out.below hb4)
                have HVb := Lib.hid (HV2.out.below hb4)
                have HVc := Lib.hid hO3.rd
                replace hb := hb.trans (hb4.mono hb.size)
                clear hO3 hb4 X3 HV1 HV2
                have HVA := Lib.hid HVa.out
                have HVB := Lib.hid HVb.out
                have HVC := Lib.hid HVc.out
                obtain ⟨A1, c1, vs1, rfl, -⟩ := HVa.out
                obtain ⟨A2, c2, vs2, rfl, -⟩ := HVb.out
                obtain ⟨A3, c3, vs3, rfl, -, -, -, -, hc3, -⟩ := HVc.out
                clear HVa HVb HVc
                have MA := Lib.hid (fun (W : World) (h : RdC W (.slice A1 a.length c1) a) => made_any a _ W h (okCs_of HSA.out (by have := HN1.out; omega)))
                have MB := Lib.hid (fun (W : World) (h : RdC W (.slice A2 b.length c2) b) => made_any b _ W h (okCs_of HSB.out (by have := HN2.out; omega)))
                have hd : L.length + 1 = s.size + 1 := by rw [HN1.out]
                have SH := Lib.hid (fun (c : CCmd) (hc : c ∈ b) (v : Value) (W : World) (h : RdW W v c.words) => shifted_any c (L.length + 1) (T.length + 1) v W h (HSB.out.2 c hc) (by have := HN2.out; omega) (by have := HN1.out; omega))
                have HEL := Lib.hid (fun (k : Nat) (h : k < (a ++ b.map (shC (L.length + 1))).length) (h2 : k < a.length) => show (a ++ b.map (shC (L.length + 1)))[k] = a[k] from List.getElem_append_left h2)
                have HER := Lib.hid (fun (k : Nat) (h : k < (a ++ b.map (shC (L.length + 1))).length) (h2 : ¬ k < a.length) (h3 : k - a.length < b.length) => show (a ++ b.map (shC (L.length + 1)))[k] = shC (L.length + 1) b[k - a.length] from by rw [List.getElem_append_right (by omega), List.getElem_map])
                have HSC := Lib.hid (show smallL 100000 (a ++ b.map (shC (L.length + 1))) from by
                  have h1 := HS3.out a b rfl rfl HP.out
                  exact ⟨Nat.le_trans h1.1 (by have := HN1.out; have := HN2.out; omega), fun c hc => (h1.2 c hc).mono (by have := HN1.out; have := HN2.out; omega)⟩)
                have HLC := Lib.hid (show (a ++ b.map (shC (L.length + 1))).length = a.length + b.length by rw [List.length_append, List.length_map])
                generalize a ++ b.map (shC (L.length + 1)) = C at *
                obtain ⟨na, hna⟩ : ∃ na, na = a.length := ⟨_, rfl⟩
                obtain ⟨nb, hnb⟩ : ∃ nb, nb = b.length := ⟨_, rfl⟩
                obtain ⟨nc, hnc⟩ : ∃ nc, nc = C.length := ⟨_, rfl⟩
                have HNA := Lib.hid hna
                have HNB := Lib.hid hnb
                have HNC := Lib.hid hnc
                have hsum : nc = na + nb := by rw [hnc, hna, hnb]; exact HLC.out
                have hneq : ((nc : Int) != (na : Int) + (nb : Int)) = false := by rw [bne_eq_false_iff_eq]; omega
                have hnc1 : nc ≤ 100000 := by rw [hnc]; exact HSC.out.1
                have hna1 : na ≤ 100000 := by omega
                have hnb1 : nb ≤ 100000 := by omega
                rw [← hna] at HVA MA ⊢
                rw [← hnb] at HVB MB ⊢
                rw [← hnc] at HVC hc3 ⊢
                have HSUM := Lib.hid hsum
                clear hna hnb hnc hsum hd
                go_wp2_with fail
                clear hneq
                go_loopw [16] (fun i wr => ∃ k : Nat, k ≤ nc ∧ i = .int .i64 k ∧ Below w4.heap.size w4 wr) (fun i _ => nc - (intOf i).toNat)
                case atStart => exact ⟨0, Nat.zero_le _, rfl, Below.refl _ _⟩
                case round =>
                  obtain ⟨k, hk, rfl, hbr⟩ := hrel
                  have HBR := Lib.hid hbr
                  have HBB := Lib.hid hb
                  clear hbr hb
                  by_cases hlt : k < nc
                  · have hlt' : k < C.length := by rw [← HNC.out]; exact hlt
                    have MC0 := fun (W : World) (v : Value) (h : RdC W v [C[k]]) => made_any [C[k]] v W h ⟨by simp, fun c hc => by simp only [List.mem_singleton] at hc; subst hc; exact (okCs_of HSC.out (Nat.le_refl _)).2 _ (List.getElem_mem hlt')⟩
                    have SC0 := fun (va vb : Value) (W : World) (h : RdC W va [C[k]]) (h' : RdC W vb [C[k]]) => samecommands_any [C[k]] va vb W h h' ⟨by simp, fun c hc => by simp only [List.mem_singleton] at hc; subst hc; exact (okCs_of HSC.out (Nat.le_refl _)).2 _ (List.getElem_mem hlt')⟩
                    have hsub : ∀ W, Below w4.heap.size w4 W → ∃ b3 o3, A3 = some ⟨b3, o3, none⟩ ∧ RdC W (.slice (some ⟨b3, o3 + k * 2, none⟩) 1 (c3 - k)) [C[k]] := fun W hW => by
                      have h1 := HVC.out.below hW
                      obtain ⟨b3, o3, c3', vw, he, -⟩ := h1.at_ hlt'
                      injection he with he1 he2 he3
                      subst he1
                      refine ⟨b3, o3, rfl, ?_⟩
                      rw [HNC.out] at h1
                      exact h1.sub hlt'
                    obtain ⟨b3, o3, hA3, -⟩ := hsub w4 (Below.refl _ _)
                    subst hA3
                    have HSUB0 := Lib.hid (fun (W : World) (hW : Below w4.heap.size w4 W) => show RdC W (.slice (some ⟨b3, o3 + k * 2, none⟩) 1 (c3 - k)) [C[k]] from by
                      obtain ⟨b4, o4, he, h⟩ := hsub W hW
                      injection he with he
                      injection he with he1 he2
                      subst he1 he2
                      exact h)
                    clear hsub
                    go_upto_region 23 with (fail)
                    have hbx : Below wr.heap.size wr (wr.alloc (.cells #[.int .i64 0, .slice none 0 0] 41)) := (Below.refl _ _).alloc (Nat.le_refl _) _
                    have hX := Blk.new wr 41 #[.int .i64 0, .slice none 0 0]
                    obtain ⟨gx, hgx⟩ : ∃ gx, gx = wr.heap.size := ⟨_, rfl⟩
                    rw [← hgx] at hX ⊢
                    have HB5 := Lib.hid (HBR.out.trans (hbx.mono HBR.out.size))
                    have HGX := Lib.hid (show w4.heap.size ≤ gx by rw [hgx]; exact HBR.out.size)
                    have HX := Lib.hid hX
                    clear hbx hX hgx
                    generalize wr.alloc (.cells #[.int .i64 0, .slice none 0 0] 41) = w5 at *
                    by_cases hka : k < na
                    · have hka' : k < a.length := by rw [← HNA.out]; exact hka
                      have hCk := HEL.out k hlt' hka'
                      go_wp2_with fail
                      refine (MA.out w5 (HVA.out.below HB5.out)).mono ?_
                      rintro e w6 ⟨v6, rfl, hO6, hb6⟩
                      obtain ⟨b6, o6, c6, vw, rfl, d0, d1, hOW⟩ := hO6.at_ hka'
                      rw [← HNA.out]
                      rw [hCk] at MC0 SC0 HSUB0
                      have hX6 := HX.out.below hb6
                      have HB6 := Lib.hid (HB5.out.trans (hb6.mono HB5.out.size))
                      obtain ⟨x, hx⟩ : ∃ x, x = a[k] := ⟨_, rfl⟩
                      rw [← hx] at d0 hOW
                      rw [← hx] at MC0 SC0 HSUB0
                      obtain ⟨pos, ws⟩ := x
                      simp only at d0 hOW
                      obtain ⟨vsq, -, hoq, -⟩ := id hOW
                      obtain ⟨A7, c7, hvw, -, -, -, -⟩ := own_form hoq
                      subst hvw
                      clear hoq
                      have x0 := hX6.cell 0
                      have x1 := hX6.cell 1
                      have y0 := hX6.frozen 0
                      have y1 := hX6.frozen 1
                      simp only [List.getElem?_toArray, List.getElem?_cons_zero, List.getElem?_cons_succ] at x0 x1
                      have HX6 := Lib.hid hX6
                      have HOW := Lib.hid hOW
                      clear hx hCk hka' hO6 hb6 hX6 hOW
                      have MC := Lib.hid (fun (W : World) h => MC0 W (.slice (some ⟨b3, o3 + k * 2, none⟩) 1 (c3 - k)) h)
                      have SC := Lib.hid (fun (va vb : Value) (W : World) h h' => SC0 va vb W h h')
                      clear MC0 SC0
                      go_upto_region 27 with (fail)
                      have hX7 := HX6.out.set2 (.int .i64 pos) (.slice A7 ws.length c7)
                      have hB7 := But.set2 gx w6 (.int .i64 pos) (.slice A7 ws.length c7)
                      have HXW := Lib.hid (HOW.out.but hB7 HX6.out (by decide) (by decide)).rd
                      have HBY := Lib.hid (HB6.out.trans (hB7.below HGX.out HB6.out.size))
                      have t0 := hX7.cell 0
                      have t1 := hX7.cell 1
                      simp only [List.getElem?_toArray, List.getElem?_cons_zero, List.getElem?_cons_succ] at t0 t1
                      clear hB7 x0 x1 y0 y1 d0 d1 HX6 HOW hX7
                      generalize (w6.setCell ⟨gx, 0, none⟩ (.int .i64 pos)).setCell ⟨gx, 1, none⟩ (.slice A7 ws.length c7) = w7 at *
                      have HSUB := Lib.hid (HSUB0.out w7 HBY.out)
                      clear HSUB0
                      apply wp_region_rel [eqT _, eqT _, eqT _, eqT _, eqT _, oneC ⟨pos, ws⟩, eqT _, oneC ⟨pos, ws⟩, eqT _, eqT _] (by kernel_rfl) (by kernel_rfl) rfl
                      focus
                        refine ⟨?_, ?_⟩
                        focus
                          unfold opGoal
                          rw [if_pos (by kernel_rfl)]
                          intro x hb hd K hk
                          clear hd
                          go_wp2_with fail
                          exact hk _ _ rfl trivial (Below.refl _ _)
                        rintro _ rfl
                        simp only [Act.put, List.setIfInBounds_toArray, List.set_cons_succ, List.set_cons_zero]
                        refine ⟨?_, ?_⟩
                        focus
                          unfold opGoal
                          rw [if_pos (by kernel_rfl)]
                          intro x hb hd K hk
                          clear hd
                          go_wp2_with fail
                          exact hk _ _ rfl trivial (Below.refl _ _)
                        rintro _ rfl
                        simp only [Act.put, List.setIfInBounds_toArray, List.set_cons_succ, List.set_cons_zero]
                        refine ⟨?_, ?_⟩
                        focus
                          unfold opGoal
                          rw [if_pos (by kernel_rfl)]
                          intro x hb hd K hk
                          clear hd
                          go_wp2_with fail
                          exact hk _ _ rfl trivial (Below.refl _ _)
                        rintro _ rfl
                        simp only [Act.put, List.setIfInBounds_toArray, List.set_cons_succ, List.set_cons_zero]
                        refine ⟨?_, ?_⟩
                        focus
                          unfold opGoal
                          rw [if_pos (by kernel_rfl)]
                          intro x hb hd K hk
                          clear hd
                          go_wp2_with fail
                          exact hk _ _ rfl trivial (Below.refl _ _)
                        rintro _ rfl
                        simp only [Act.put, List.setIfInBounds_toArray, List.set_cons_succ, List.set_cons_zero]
                        refine ⟨?_, ?_⟩
                        focus
                          unfold opGoal
                          rw [if_pos (by kernel_rfl)]
                          intro x hb hd K hk
                          clear hd
                          go_wp2_with fail
                          exact hk _ _ rfl trivial (Below.refl _ _)
                        rintro _ rfl
                        simp only [Act.put, List.setIfInBounds_toArray, List.set_cons_succ, List.set_cons_zero]
                        refine ⟨?_, ?_⟩
                        focus
                          unfold opGoal
                          rw [if_pos (by kernel_rfl)]
                          intro x hb hd K hk
                          clear hd
                          go_wp2_with fail
                          refine (MC.out x (HSUB.out.below hb)).mono ?_
                          rintro e x' ⟨v', rfl, hO, hb'⟩
                          exact hk _ _ trivial hO.rd hb'
                        rintro vm -
                        simp only [Act.put, List.setIfInBounds_toArray, List.set_cons_succ, List.set_cons_zero]
                        refine ⟨?_, ?_⟩
                        focus
                          unfold opGoal
                          rw [if_pos (by kernel_rfl)]
                          intro x hb hd K hk
                          clear hd
                          have l0 := cell_keep hb t0
                          have l1 := cell_keep hb t1
                          go_wp2_with fail
                          exact hk _ _ rfl trivial (Below.refl _ _)
                        rintro _ rfl
                        simp only [Act.put, List.setIfInBounds_toArray, List.set_cons_succ, List.set_cons_zero]
                        refine ⟨?_, ?_⟩
                        focus
                          unfold opGoal
                          rw [if_pos (by kernel_rfl)]
                          intro x hb hd K hk
                          clear hd
                          go_wp2_with fail
                          refine hk _ _ trivial ?_ ((Below.refl _ _).alloc (Nat.le_refl _) _)
                          exact RdC.one (Blk.new x _ _) ((HXW.out.below hb).below ((Below.refl _ _).alloc (Nat.le_refl _) _))
                        rintro vn -
                        simp only [Act.put, List.setIfInBounds_toArray, List.set_cons_succ, List.set_cons_zero]
                        refine ⟨?_, ?_⟩
                        focus
                          unfold opGoal
                          rw [if_pos (by kernel_rfl)]
                          intro x hb hd K hk
                          have h1 : RdC x vm [⟨pos, ws⟩] := hd ⟨5, .data⟩ (by simp) rfl _ _ rfl rfl
                          have h2 : RdC x vn [⟨pos, ws⟩] := hd ⟨7, .data⟩ (by simp) rfl _ _ rfl rfl
                          clear hd
                          go_wp2_with fail
                          refine (SC.out _ _ x h1 h2).mono ?_
                          rintro e x' ⟨rfl, hb'⟩
                          exact hk _ _ rfl trivial hb'
                        rintro _ rfl
                        simp only [Act.put, List.setIfInBounds_toArray, List.set_cons_succ, List.set_cons_zero]
                        refine ⟨?_, ?_⟩
                        focus
                          unfold opGoal
                          rw [if_pos (by kernel_rfl)]
                          intro x hb hd K hk
                          clear hd
                          go_wp2_with fail
                          exact hk _ _ rfl trivial (Below.refl _ _)
                        rintro _ rfl
                        simp only [Act.put, List.setIfInBounds_toArray, List.set_cons_succ, List.set_cons_zero]
                        intro x hbx hf
                        clear hf
                        have HBX := Lib.hid hbx
                        clear hbx
                        go_wp2_with fail
                        go_roundw
                        case rel => exact ⟨k + 1, by omega, by go_num, HBY.out.trans (HBX.out.mono HBY.out.size)⟩
                        case measure => simp [intOf]; omega
                    · have hkb' : k - a.length < b.length := by rw [← HNA.out, ← HNB.out]; have := HSUM.out; omega
                      have hCk := HER.out k hlt' (by rw [← HNA.out]; exact hka) hkb'
                      go_wp2_with fail
                      refine (MB.out w5 (HVB.out.below HB5.out)).mono ?_
                      rintro e w6 ⟨v6, rfl, hO6, hb6⟩
                      obtain ⟨b6, o6, c6, vw, rfl, d0, d1, hOW⟩ := hO6.at_ hkb'
                      rw [← HNB.out]
                      have SHX := fun v W h => SH.out _ (List.getElem_mem hkb') v W h
                      obtain ⟨x, hx⟩ : ∃ x, x = b[k - a.length] := ⟨_, rfl⟩
                      rw [hCk] at MC0 SC0 HSUB0
                      rw [← hx] at d0 hOW SHX
                      rw [← hx] at MC0 SC0 HSUB0
                      rw [← HNA.out] at d0 d1
                      obtain ⟨pos, ws⟩ := x
                      simp only at d0 hOW SHX
                      obtain ⟨vsq, -, hoq, -⟩ := id hOW
                      obtain ⟨A7, c7, hvw, -, -, -, -⟩ := own_form hoq
                      subst hvw
                      clear hoq
                      have HCAST := Lib.hid (show (k : Int) - (na : Int) = ((k - na : Nat) : Int) by omega)
                      have hX6 := HX.out.below hb6
                      have HB6 := Lib.hid (HB5.out.trans (hb6.mono HB5.out.size))
                      have x0 := hX6.cell 0
                      have x1 := hX6.cell 1
                      have y0 := hX6.frozen 0
                      have y1 := hX6.frozen 1
                      simp only [List.getElem?_toArray, List.getElem?_cons_zero, List.getElem?_cons_succ] at x0 x1
                      have HX6 := Lib.hid hX6
                      have HOW := Lib.hid hOW
                      clear hx hCk hkb' hO6 hb6 hX6 hOW
                      have MC := Lib.hid (fun (W : World) h => MC0 W (.slice (some ⟨b3, o3 + k * 2, none⟩) 1 (c3 - k)) h)
                      have SC := Lib.hid (fun (va vb : Value) (W : World) h h' => SC0 va vb W h h')
                      clear MC0 SC0
                      have hkc : k - na < nb := by have := HSUM.out; omega
                      have hkn : na ≤ k := by omega
                      go_upto_region 26 with (fail)
                      have hX7 := HX6.out.set2 (.int .i64 pos) (.slice A7 ws.length c7)
                      have hB7 := But.set2 gx w6 (.int .i64 pos) (.slice A7 ws.length c7)
                      have HXV := Lib.hid (HOW.out.but hB7 HX6.out (by decide) (by decide)).rd
                      have HBZ := Lib.hid (HB6.out.trans (hB7.below HGX.out HB6.out.size))
                      have t0 := hX7.cell 0
                      have t1 := hX7.cell 1
                      simp only [List.getElem?_toArray, List.getElem?_cons_zero, List.getElem?_cons_succ] at t0 t1
                      have HX7 := Lib.hid hX7
                      clear hB7 x0 x1 y0 y1 d0 d1 HX6 HOW hX7 hkc hkn
                      generalize (w6.setCell ⟨gx, 0, none⟩ (.int .i64 pos)).setCell ⟨gx, 1, none⟩ (.slice A7 ws.length c7) = w7 at *
                      have HSH := Lib.hid (SHX _ w7 HXV.out)
                      have hs700 : s.size ≤ 700 := hs
                      have HLE := Lib.hid (show ((L.length + 1 : Nat) : Int) = (s.size : Int) + 1 by rw [HN1.out]; rfl)
                      simp only [HLE.out] at HSH
                      clear SHX
                      go_wp2_with fail
                      refine HSH.out.mono ?_
                      rintro e w8 ⟨v8, rfl, hO8, hb8⟩
                      obtain ⟨vsr, -, hor, -⟩ := id hO8
                      obtain ⟨A8, c8, hvr, -, -, -, -⟩ := own_form hor
                      subst hvr
                      clear hor
                      have hX8 := HX7.out.below hb8
                      have HB8 := Lib.hid (HBZ.out.trans (hb8.mono HBZ.out.size))
                      have x0 := hX8.cell 0
                      have x1 := hX8.cell 1
                      have y0 := hX8.frozen 0
                      have y1 := hX8.frozen 1
                      simp only [List.getElem?_toArray, List.getElem?_cons_zero, List.getElem?_cons_succ] at x0 x1
                      obtain ⟨pos2, hpos2⟩ : ∃ q, q = (shC (L.length + 1) ⟨pos, ws⟩).pos := ⟨_, rfl⟩
                      obtain ⟨ws2, hws2⟩ : ∃ q, q = (shC (L.length + 1) ⟨pos, ws⟩).words := ⟨_, rfl⟩
                      have hcc : shC (L.length + 1) ⟨pos, ws⟩ = ⟨pos2, ws2⟩ := by rw [hpos2, hws2]
                      rw [hcc] at MC SC HSUB0
                      rw [← hpos2]
                      rw [← hws2] at hO8 ⊢
                      have HX8 := Lib.hid hX8
                      have HOW := Lib.hid hO8
                      have hgz : w4.heap.size ≤ w7.heap.size := HBZ.out.size
                      clear t0 t1 hX8 hO8 hb8 hpos2 hws2 hcc HSH HX7 HXV
                      go_upto_region 27 with (fail)
                      have hX9 := HX8.out.set2 (.int .i64 pos2) (.slice A8 ws2.length c8)
                      have hB9 := But.set2 gx w8 (.int .i64 pos2) (.slice A8 ws2.length c8)
                      have HXW := Lib.hid (HOW.out.but hB9 HX8.out (by decide) (by decide)).rd
                      have HBY := Lib.hid (HB8.out.trans (hB9.below HGX.out HB8.out.size))
                      have t0 := hX9.cell 0
                      have t1 := hX9.cell 1
                      simp only [List.getElem?_toArray, List.getElem?_cons_zero, List.getElem?_cons_succ] at t0 t1
                      clear hB9 x0 x1 y0 y1 HX8 HOW hX9 hgz
                      generalize (w8.setCell ⟨gx, 0, none⟩ (.int .i64 pos2)).setCell ⟨gx, 1, none⟩ (.slice A8 ws2.length c8) = w9 at *
                      have HSUB := Lib.hid (HSUB0.out w9 HBY.out)
                      clear HSUB0
                      apply wp_region_rel [eqT _, eqT _, eqT _, eqT _, eqT _, oneC ⟨pos2, ws2⟩, eqT _, oneC ⟨pos2, ws2⟩, eqT _, eqT _] (by kernel_rfl) (by kernel_rfl) rfl
                      focus
                        refine ⟨?_, ?_⟩
                        focus
                          unfold opGoal
                          rw [if_pos (by kernel_rfl)]
                          intro x hb hd K hk
                          clear hd
                          go_wp2_with fail
                          exact hk _ _ rfl trivial (Below.refl _ _)
                        rintro _ rfl
                        simp only [Act.put, List.setIfInBounds_toArray, List.set_cons_succ, List.set_cons_zero]
                        refine ⟨?_, ?_⟩
                        focus
                          unfold opGoal
                          rw [if_pos (by kernel_rfl)]
                          intro x hb hd K hk
                          clear hd
                          go_wp2_with fail
                          exact hk _ _ rfl trivial (Below.refl _ _)
                        rintro _ rfl
                        simp only [Act.put, List.setIfInBounds_toArray, List.set_cons_succ, List.set_cons_zero]
                        refine ⟨?_, ?_⟩
                        focus
                          unfold opGoal
                          rw [if_pos (by kernel_rfl)]
                          intro x hb hd K hk
                          clear hd
                          go_wp2_with fail
                          exact hk _ _ rfl trivial (Below.refl _ _)
                        rintro _ rfl
                        simp only [Act.put, List.setIfInBounds_toArray, List.set_cons_succ, List.set_cons_zero]
                        refine ⟨?_, ?_⟩
                        focus
                          unfold opGoal
                          rw [if_pos (by kernel_rfl)]
                          intro x hb hd K hk
                          clear hd
                          go_wp2_with fail
                          exact hk _ _ rfl trivial (Below.refl _ _)
                        rintro _ rfl
                        simp only [Act.put, List.setIfInBounds_toArray, List.set_cons_succ, List.set_cons_zero]
                        refine ⟨?_, ?_⟩
                        focus
                          unfold opGoal
                          rw [if_pos (by kernel_rfl)]
                          intro x hb hd K hk
                          clear hd
                          go_wp2_with fail
                          exact hk _ _ rfl trivial (Below.refl _ _)
                        rintro _ rfl
                        simp only [Act.put, List.setIfInBounds_toArray, List.set_cons_succ, List.set_cons_zero]
                        refine ⟨?_, ?_⟩
                        focus
                          unfold opGoal
                          rw [if_pos (by kernel_rfl)]
                          intro x hb hd K hk
                          clear hd
                          go_wp2_with fail
                          refine (MC.out x (HSUB.out.below hb)).mono ?_
                          rintro e x' ⟨v', rfl, hO, hb'⟩
                          exact hk _ _ trivial hO.rd hb'
                        rintro vm -
                        simp only [Act.put, List.setIfInBounds_toArray, List.set_cons_succ, List.set_cons_zero]
                        refine ⟨?_, ?_⟩
                        focus
                          unfold opGoal
                          rw [if_pos (by kernel_rfl)]
                          intro x hb hd K hk
                          clear hd
                          have l0 := cell_keep hb t0
                          have l1 := cell_keep hb t1
                          go_wp2_with fail
                          exact hk _ _ rfl trivial (Below.refl _ _)
                        rintro _ rfl
                        simp only [Act.put, List.setIfInBounds_toArray, List.set_cons_succ, List.set_cons_zero]
                        refine ⟨?_, ?_⟩
                        focus
                          unfold opGoal
                          rw [if_pos (by kernel_rfl)]
                          intro x hb hd K hk
                          clear hd
                          go_wp2_with fail
                          refine hk _ _ trivial ?_ ((Below.refl _ _).alloc (Nat.le_refl _) _)
                          exact RdC.one (Blk.new x _ _) ((HXW.out.below hb).below ((Below.refl _ _).alloc (Nat.le_refl _) _))
                        rintro vn -
                        simp only [Act.put, List.setIfInBounds_toArray, List.set_cons_succ, List.set_cons_zero]
                        refine ⟨?_, ?_⟩
                        focus
                          unfold opGoal
                          rw [if_pos (by kernel_rfl)]
                          intro x hb hd K hk
                          have h1 : RdC x vm [⟨pos2, ws2⟩] := hd ⟨5, .data⟩ (by simp) rfl _ _ rfl rfl
                          have h2 : RdC x vn [⟨pos2, ws2⟩] := hd ⟨7, .data⟩ (by simp) rfl _ _ rfl rfl
                          clear hd
                          go_wp2_with fail
                          refine (SC.out _ _ x h1 h2).mono ?_
                          rintro e x' ⟨rfl, hb'⟩
                          exact hk _ _ rfl trivial hb'
                        rintro _ rfl
                        simp only [Act.put, List.setIfInBounds_toArray, List.set_cons_succ, List.set_cons_zero]
                        refine ⟨?_, ?_⟩
                        focus
                          unfold opGoal
                          rw [if_pos (by kernel_rfl)]
                          intro x hb hd K hk
                          clear hd
                          go_wp2_with fail
                          exact hk _ _ rfl trivial (Below.refl _ _)
                        rintro _ rfl
                        simp only [Act.put, List.setIfInBounds_toArray, List.set_cons_succ, List.set_cons_zero]
                        intro x hbx hf
                        clear hf
                        have HBX := Lib.hid hbx
                        clear hbx
                        go_wp2_with fail
                        go_roundw
                        case rel => exact ⟨k + 1, by omega, by go_num, HBY.out.trans (HBX.out.mono HBY.out.size)⟩
                        case measure => simp [intOf]; omega
                  · obtain rfl : k = nc := by omega
                    go_wp2_with fail
                    go_ret
                    exact ⟨rfl, HBB.out.trans (HBR.out.mono HBB.out.size)⟩
    · go_enter Tryd.func4, Tryd.ntmps4
      go_wp2_with fail
      refine H1.out.mono ?_
      rintro e w1 ⟨rfl, hb⟩
      go_wp2_with fail
      go_ret
      exact ⟨rfl, hb⟩
  · go_enter Tryd.func4, Tryd.ntmps4
    go_wp2_with fail
    refine H1.out.mono ?_
    rintro e w1 ⟨rfl, hb⟩
    go_wp2_with fail
    go_ret
    exact ⟨rfl, hb⟩
end Go.Proofs.YtlhpflilpdceiaaDoor
