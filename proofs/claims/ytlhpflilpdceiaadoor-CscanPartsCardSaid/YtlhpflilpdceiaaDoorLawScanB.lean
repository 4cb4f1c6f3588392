/- The walk over CscanBraces: for every number and text the law returns true. The condition: what the package-level errors hold. -/
import Derived.Test.YtlhpflilpdceiaaDoorScanWG
set_option linter.unusedVariables false
set_option linter.unusedSimpArgs false
namespace Go.Proofs.YtlhpflilpdceiaaDoor
open Go.RowKit

theorem bits_and_low (x : Int) (m : Nat) (hm : m < 1024) : ∃ r : Nat, bits .and .i64 x (m : Int) = (r : Int) ∧ r ≤ m := by
  refine ⟨(BitVec.ofInt 64 x &&& BitVec.ofInt 64 (m : Int)).toNat, ?_, ?_⟩
  · show IntKind.i64.wrap ((BitVec.ofInt 64 x &&& BitVec.ofInt 64 (m : Int)).toNat : Int) = _
    have h2 : (BitVec.ofInt 64 (m : Int)).toNat = m := by
      rw [BitVec.ofInt_natCast, BitVec.toNat_ofNat]; exact Nat.mod_eq_of_lt (by omega)
    have h3 : (BitVec.ofInt 64 x &&& BitVec.ofInt 64 (m : Int)).toNat ≤ m := by
      rw [BitVec.toNat_and, h2]; exact Nat.and_le_right
    rw [IntKind.wrap_i64]
    omega
  · have h2 : (BitVec.ofInt 64 (m : Int)).toNat = m := by
      rw [BitVec.ofInt_natCast, BitVec.toNat_ofNat]; exact Nat.mod_eq_of_lt (by omega)
    rw [BitVec.toNat_and, h2]; exact Nat.and_le_right
def repV (k : Nat) (c : UInt8) : Value := .string ⟨(List.replicate k c).toArray⟩
theorem rep_snoc (k : Nat) (c : UInt8) : (⟨(List.replicate k c).toArray⟩ ++ ⟨#[c]⟩ : ByteArray) = ⟨(List.replicate (k + 1) c).toArray⟩ := by
  rw [List.replicate_succ']
  exact ba_app _ [c]
theorem rep_size (k : Nat) (c : UInt8) : (⟨(List.replicate k c).toArray⟩ : ByteArray).size = k := by
  show (List.replicate k c).toArray.size = k
  simp
theorem plain_take (L : List UInt8) {k : Nat} (h : k < L.length) (ha : (L.take k).all plainB = true) (h1 : L[k] ≠ 123) (h2 : L[k] ≠ 125) (h3 : L[k] ≠ 91) (h4 : L[k] ≠ 93) (h5 : L[k] ≠ 92) : (L.take (k + 1)).all plainB = true := by
  rw [List.take_succ_eq_append_getElem h, List.all_append, ha]
  simp [plainB, h1, h2, h3, h4, h5]
theorem inB_eq (n : Nat) (a b : UInt8) (s A B : ByteArray) (hA : A = ⟨(List.replicate n a).toArray⟩) (hB : B = ⟨(List.replicate n b).toArray⟩) : (⟨(inB n a b s.data.toList).toArray⟩ : ByteArray) = A ++ s ++ B := by
  subst hA hB
  apply ByteArray.ext
  apply Array.ext'
  simp [inB]
theorem inB_list (n : Nat) (a b : UInt8) (s A B : ByteArray) (hA : A = ⟨(List.replicate n a).toArray⟩) (hB : B = ⟨(List.replicate n b).toArray⟩) (pre post : List UInt8) : ((⟨pre.toArray⟩ ++ A ++ s ++ B ++ ⟨post.toArray⟩ : ByteArray)).data.toList = pre ++ (inB n a b s.data.toList ++ post) := by
  subst hA hB
  simp [inB]
theorem inB_list0 (n : Nat) (a b : UInt8) (s A B : ByteArray) (hA : A = ⟨(List.replicate n a).toArray⟩) (hB : B = ⟨(List.replicate n b).toArray⟩) (pre : List UInt8) : ((⟨pre.toArray⟩ ++ A ++ s ++ B : ByteArray)).data.toList = pre ++ inB n a b s.data.toList := by
  subst hA hB
  simp [inB]
theorem size_list (s : ByteArray) : s.size = s.data.toList.length := rfl
/-- A scan whose answer is known. -/
theorem scan_of (s : ByteArray) (l : List UInt8) (r : ScR) (Ls : List Addr) (w : World) (hE : SenW w Ls) (hl : s.data.toList = l) (hr : scanL 0 l [] [] = r) (hs : l.length ≤ 8192) : Calls Tryd.prog 12 #[.string s] w (ScanRet r Ls w) := by
  have := scan_any s Ls w hE (by rw [size_list, hl]; exact hs)
  rwa [hl, hr] at this
set_option maxRecDepth 100000 in
set_option maxHeartbeats 8000000 in
theorem scanbraces_card (x : Int) (s : ByteArray) (Ls : List Addr) (w : World) (hE : SenW w Ls) : Calls Tryd.prog 5 #[.int .i64 x, .string s] w (Ret w (.bool true)) := by
  have HE := Lib.hid hE
  have H1 := Lib.hid (first14_any Ls w hE)
  obtain ⟨n, hn, hn2⟩ := bits_and_low x 255 (by decide)
  have hn' : bits .and .i64 x 255 = (n : Int) := hn
  clear hE hn
  by_cases h100 : s.size ≤ 100
  · obtain ⟨L, hL⟩ : ∃ L, L = s.data.toList := ⟨_, rfl⟩
    have HL := Lib.hid hL
    have HN := Lib.hid (show L.length = s.size by rw [hL]; rfl)
    have HAT := Lib.hid (show ∀ (k : Nat) (hk : k < s.size) (hk2 : k < L.length), s[k]'hk = L[k]'hk2 from fun k hk hk2 => by subst hL; rfl)
    clear hL
    go_enter Tryd.func5, Tryd.ntmps5
    go_wp2_with fail
    refine H1.out.mono ?_
    rintro e w1 ⟨rfl, hb⟩
    clear H1
    go_wp2_with fail
    go_loopw [6] (fun i wr => ∃ k : Nat, k ≤ s.size ∧ i = .int .i64 k ∧ w1 = wr ∧ Hid ((L.take k).all plainB = true)) (fun i _ => s.size - (intOf i).toNat)
    case atStart => exact ⟨0, Nat.zero_le _, rfl, rfl, rfl⟩
    case round =>
      obtain ⟨k, hk, rfl, hwr, H⟩ := hrel
      subst hwr
      by_cases hlt : k < s.size
      · have hlt' : k < L.length := by have := HN.out; omega
        obtain ⟨c, hc⟩ : ∃ c, c = L[k] := ⟨_, rfl⟩
        have hxk : ∀ h, s[k]'h = c := fun h => by rw [hc]; exact HAT.out k h hlt'
        by_cases h123 : c = 123
        · subst h123
          clear hc H
          go_wp2_with fail
          go_ret
          exact ⟨rfl, hb⟩
        · by_cases h125 : c = 125
          · subst h125
            clear hc H
            go_wp2_with fail
            go_ret
            exact ⟨rfl, hb⟩
          · by_cases h91 : c = 91
            · subst h91
              clear hc H
              go_wp2_with fail
              go_ret
              exact ⟨rfl, hb⟩
            · by_cases h93 : c = 93
              · subst h93
                clear hc H
                go_wp2_with fail
                go_ret
                exact ⟨rfl, hb⟩
              · by_cases h92 : c = 92
                · subst h92
                  clear hc H
                  go_wp2_with fail
                  go_ret
                  exact ⟨rfl, hb⟩
                · have HT := Lib.hid (plain_take L hlt' H.out (by rw [← hc]; exact h123) (by rw [← hc]; exact h125) (by rw [← hc]; exact h91) (by rw [← hc]; exact h93) (by rw [← hc]; exact h92))
                  have n1 : ((c.toNat : Int) == 123) = false := by rw [beq_eq_false_iff_ne]; exact int_ne (toNat_ne (d := 123) (by decide) h123)
                  have n2 : ((c.toNat : Int) == 125) = false := by rw [beq_eq_false_iff_ne]; exact int_ne (toNat_ne (d := 125) (by decide) h125)
                  have n3 : ((c.toNat : Int) == 91) = false := by rw [beq_eq_false_iff_ne]; exact int_ne (toNat_ne (d := 91) (by decide) h91)
                  have n4 : ((c.toNat : Int) == 93) = false := by rw [beq_eq_false_iff_ne]; exact int_ne (toNat_ne (d := 93) (by decide) h93)
                  have n5 : ((c.toNat : Int) == 92) = false := by rw [beq_eq_false_iff_ne]; exact int_ne (toNat_ne (d := 92) (by decide) h92)
                  clear hc H h123 h125 h91 h93 h92
                  go_wp2_with fail
                  go_roundw
                  case rel => exact ⟨k + 1, by omega, by go_num, trivial, HT⟩
                  case measure => simp [intOf]; omega
      · obtain rfl : k = s.size := by omega
        have HP := Lib.hid (show L.all plainB = true by
          have := H.out
          rwa [List.take_of_length_le (by have := HN.out; omega)] at this)
        clear H
        go_wp2_with fail
        go_loopw [7, 8, 9, 10, 11] (fun a b c d i wr => ∃ k : Nat, k ≤ n ∧ i = .int .i64 k ∧ a = repV k 123 ∧ b = repV k 125 ∧ c = repV k 91 ∧ d = repV k 93 ∧ w1 = wr) (fun _ _ _ _ i _ => n - (intOf i).toNat)
        case atStart => exact ⟨0, Nat.zero_le _, rfl, rfl, rfl, rfl, rfl, rfl⟩
        case round =>
          obtain ⟨k, hk, rfl, rfl, rfl, rfl, rfl, hwr⟩ := hrel
          subst hwr
          unfold repV
          by_cases hlt : k < n
          · have R1 := Lib.hid (rep_snoc k 123)
            have R2 := Lib.hid (rep_snoc k 125)
            have R3 := Lib.hid (rep_snoc k 91)
            have R4 := Lib.hid (rep_snoc k 93)
            have S1 := rep_size k 123
            have S2 := rep_size k 125
            have S3 := rep_size k 91
            have S4 := rep_size k 93
            obtain ⟨A1, hA1⟩ : ∃ A : ByteArray, A = ⟨(List.replicate k 123).toArray⟩ := ⟨_, rfl⟩
            obtain ⟨A2, hA2⟩ : ∃ A : ByteArray, A = ⟨(List.replicate k 125).toArray⟩ := ⟨_, rfl⟩
            obtain ⟨A3, hA3⟩ : ∃ A : ByteArray, A = ⟨(List.replicate k 91).toArray⟩ := ⟨_, rfl⟩
            obtain ⟨A4, hA4⟩ : ∃ A : ByteArray, A = ⟨(List.replicate k 93).toArray⟩ := ⟨_, rfl⟩
            rw [← hA1] at R1 S1 ⊢
            rw [← hA2] at R2 S2 ⊢
            rw [← hA3] at R3 S3 ⊢
            rw [← hA4] at R4 S4 ⊢
            clear hA1 hA2 hA3 hA4
            go_wp2_with fail
            go_roundw
            case rel => exact ⟨k + 1, by omega, by go_num, by rw [← R1.out], by rw [← R2.out], by rw [← R3.out], by rw [← R4.out], trivial⟩
            case measure => simp [intOf]; omega
          · obtain rfl : k = n := by omega
            have S1 := rep_size k 123
            have S2 := rep_size k 125
            have S3 := rep_size k 91
            have S4 := rep_size k 93
            obtain ⟨A1, hA1⟩ : ∃ A : ByteArray, A = ⟨(List.replicate k 123).toArray⟩ := ⟨_, rfl⟩
            obtain ⟨A2, hA2⟩ : ∃ A : ByteArray, A = ⟨(List.replicate k 125).toArray⟩ := ⟨_, rfl⟩
            obtain ⟨A3, hA3⟩ : ∃ A : ByteArray, A = ⟨(List.replicate k 91).toArray⟩ := ⟨_, rfl⟩
            obtain ⟨A4, hA4⟩ : ∃ A : ByteArray, A = ⟨(List.replicate k 93).toArray⟩ := ⟨_, rfl⟩
            rw [← hA1] at S1 ⊢
            rw [← hA2] at S2 ⊢
            rw [← hA3] at S3 ⊢
            rw [← hA4] at S4 ⊢
            have HA1 := Lib.hid hA1
            have HA2 := Lib.hid hA2
            have HA3 := Lib.hid hA3
            have HA4 := Lib.hid hA4
            have hLn : ∀ c d, (inB k c d s.data.toList).length ≤ 610 := fun c d => by
              rw [inB_len]
              have : s.data.toList.length = s.size := rfl
              omega
            have hPL : s.data.toList.all plainB = true := by rw [← HL.out]; exact HP.out
            have X1 := Lib.hid (fun (W : World) (hb : Below w.heap.size w W) => scan_of _ _ _ Ls W (HE.out.below hb) (inB_list k 123 125 s A1 A2 hA1 hA2 [123] [125]) (scan_brace k s.data.toList hPL) (by have := hLn 123 125; simp; omega))
            have X2 := Lib.hid (fun (W : World) (hb : Below w.heap.size w W) => scan_of _ _ _ Ls W (HE.out.below hb) (inB_list k 91 93 s A3 A4 hA3 hA4 [91] [93]) (scan_bracket k s.data.toList hPL) (by have := hLn 91 93; simp; omega))
            have X3 := Lib.hid (fun (W : World) (hb : Below w.heap.size w W) => scan_of _ _ _ Ls W (HE.out.below hb) (inB_list0 k 123 125 s A1 A2 hA1 hA2 [123]) (scan_brace_open k s.data.toList hPL) (by have := hLn 123 125; simp; omega))
            have X4 := Lib.hid (fun (W : World) (hb : Below w.heap.size w W) => scan_of _ _ _ Ls W (HE.out.below hb) (inB_list0 k 91 93 s A3 A4 hA3 hA4 [120, 32, 91]) (scan_bracket_open k s.data.toList hPL) (by have := hLn 91 93; simp; omega))
            have E1 := Lib.hid (inB_eq k 123 125 s A1 A2 hA1 hA2)
            have E2 := Lib.hid (inB_eq k 91 93 s A3 A4 hA3 hA4)
            have HP1 := Lib.hid (fun W => placed_any 105 0 W (by decide))
            have HP2 := Lib.hid (fun W => placed_any 104 2 W (by decide))
            generalize inB k 123 125 s.data.toList = I1 at *
            generalize inB k 91 93 s.data.toList = I2 at *
            clear hA1 hA2 hA3 hA4 hLn hPL
            go_wp2_with fail
            refine (X1.out _ hb).mono ?_
            rintro e w2 ⟨v2, rfl, hO2, hb2⟩
            have HV2 := Lib.hid hO2.rd
            replace hb := hb.trans (hb2.mono hb.size)
            clear hO2 hb2 X1
            go_wp2_with fail
            refine (X2.out _ hb).mono ?_
            rintro e w3 ⟨v3, rfl, hO3, hb3⟩
            have HV3 := Lib.hid hO3.rd
            replace HV2 := Lib.hid (HV2.out.below hb3)
            replace hb := hb.trans (hb3.mono hb.size)
            clear hO3 hb3 X2
            go_wp2_with fail
            refine (X3.out _ hb).mono ?_
            rintro e w4 ⟨v4, rfl, hE4, hb4⟩
            have HV4 := Lib.hid hE4.err
            replace HV2 := Lib.hid (HV2.out.below hb4)
            replace HV3 := Lib.hid (HV3.out.below hb4)
            replace hb := hb.trans (hb4.mono hb.size)
            clear hE4 hb4 X3
            go_wp2_with fail
            refine (X4.out _ hb).mono ?_
            rintro e w5 ⟨v5, rfl, hE5, hb5⟩
            have HV5 := Lib.hid hE5.err
            replace HV2 := Lib.hid (HV2.out.below hb5)
            replace HV3 := Lib.hid (HV3.out.below hb5)
            replace HV4 := Lib.hid (HV4.out.below hb5)
            replace hb := hb.trans (hb5.mono hb.size)
            clear hE5 hb5 X4
            obtain ⟨bl, ol, cl, m0, hv2, -, a1, hm0⟩ := HV2.out.at_ (k := 0) (by simp)
            subst hv2
            obtain ⟨bw, ow, cw, p0, hm0e, a2, a3, a4, hp0⟩ := hm0.at_ (k := 0) (by simp)
            subst hm0e
            obtain ⟨bm, om, cm, q0, hv3, -, b1, hq0⟩ := HV3.out.at_ (k := 0) (by simp)
            subst hv3
            obtain ⟨bn, on, cn, r0, hq0e, -, -, b2, hr0⟩ := hq0.at_ (k := 0) (by simp)
            subst hq0e
            obtain ⟨Aq, cq, hr0e, hqr, -⟩ := hr0
            subst hr0e
            obtain ⟨bq, oq, hAq, -⟩ := hqr.addr (by simp)
            subst hAq
            obtain ⟨b3, -, -, b4⟩ := RdL.cparts hqr (k := 0) (by simp)
            simp only [List.getElem_cons_zero, List.length_cons, List.length_nil, Nat.zero_mul, Nat.add_zero, Nat.zero_add] at a1 a2 a3 a4 b1 b2 b3 b4
            rw [E2.out] at b4
            have HT := Lib.hid (ctext_any ⟨0, true, [⟨1, 1, 0, I1⟩]⟩ p0 w5 hp0)
            rw [show textW ⟨0, true, [⟨1, 1, 0, I1⟩]⟩ = (I1, true) from rfl] at HT
            simp only at HT
            rw [E1.out] at HT
            clear hm0 hp0 hq0 hqr HV2 HV3 E1 E2
            go_wp2_with fail
            refine HT.out.mono ?_
            rintro e w6 ⟨rfl, hb6⟩
            replace HV4 := Lib.hid (HV4.out.below hb6)
            replace HV5 := Lib.hid (HV5.out.below hb6)
            replace hb := hb.trans (hb6.mono hb.size)
            replace b1 := cell_keep hb6 b1
            replace b2 := cell_keep hb6 b2
            replace b3 := cell_keep hb6 b3
            replace b4 := cell_keep hb6 b4
            clear hb6 HT a1 a2 a3 a4
            go_wp2_with fail
            refine (HP1.out _).mono ?_
            rintro e w7 ⟨u1, rfl, hF1, hb7⟩
            replace HV4 := Lib.hid (HV4.out.below hb7)
            replace HV5 := Lib.hid (HV5.out.below hb7)
            replace hb := hb.trans (hb7.mono hb.size)
            have HS1 := Lib.hid (seesame_any Ls _ v4 u1 _ 105 _ [0] (HE.out.below hb) HV4.out hF1 (by decide))
            rw [show ((100 + ((5 : Nat) : Int) == 105) && SameI [((0 : Nat) : Int)] [0]) = true by decide] at HS1
            clear hb7 hF1 HP1 b1 b2 b3 b4
            go_wp2_with fail
            refine HS1.out.mono ?_
            rintro e w8 ⟨rfl, hb8⟩
            replace HV5 := Lib.hid (HV5.out.below hb8)
            replace hb := hb.trans (hb8.mono hb.size)
            clear hb8 HS1 HV4
            go_wp2_with fail
            refine (HP2.out _).mono ?_
            rintro e w9 ⟨u2, rfl, hF2, hb9⟩
            replace HV5 := Lib.hid (HV5.out.below hb9)
            replace hb := hb.trans (hb9.mono hb.size)
            have HS2 := Lib.hid (seesame_any Ls _ v5 u2 _ 104 _ [2] (HE.out.below hb) HV5.out hF2 (by decide))
            rw [show ((100 + ((4 : Nat) : Int) == 104) && SameI [((2 : Nat) : Int)] [2]) = true by decide] at HS2
            clear hb9 hF2 HP2
            go_wp2_with fail
            refine HS2.out.mono ?_
            rintro e w10 ⟨rfl, hb10⟩
            go_wp2_with fail
            go_ret
            exact ⟨rfl, hb.trans (hb10.mono hb.size)⟩
  · go_enter Tryd.func5, Tryd.ntmps5
    go_wp2_with fail
    refine H1.out.mono ?_
    rintro e w1 ⟨rfl, hb⟩
    go_wp2_with fail
    go_ret
    exact ⟨rfl, hb⟩
end Go.Proofs.YtlhpflilpdceiaaDoor
