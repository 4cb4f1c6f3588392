/- The walks over package cscan's brace and bracket. Bounds on the lengths. -/
import Derived.Test.YtlhpflilpdceiaaDoorScanW3
set_option linter.unusedVariables false
set_option linter.unusedSimpArgs false
namespace Go.Proofs.YtlhpflilpdceiaaDoor
open Go.RowKit

def optV : Option Nat → Value
  | some k => .tuple #[.int .i64 k, .bool true]
  | none => .tuple #[.int .i64 0, .bool false]
theorem u8v {c : UInt8} {d : Nat} (hd : d < 256) (h : c = UInt8.ofNat d) : (c.toNat : Int) = (d : Int) := by
  subst h
  simp
  omega
theorem u8n {c : UInt8} {d : Nat} (hd : d < 256) (h : c ≠ UInt8.ofNat d) : ¬ (c.toNat : Int) = (d : Int) := fun he => h (by
  rw [← UInt8.toNat_inj, UInt8.toNat_ofNat']
  omega)
theorem HKof {L : List UInt8} {s : ByteArray} {k : Nat} (HB : ∀ k W, Calls Tryd.prog 45 #[.agg #[.string s], .int .i64 (k : Nat)] W (Ret W (byteV L k))) (h : k < L.length) {d : Nat} (hd : L[k].toNat = d) : ∀ W, Calls Tryd.prog 45 #[.agg #[.string s], .int .i64 (k : Nat)] W (Ret W (.tuple #[.int .u8 d, .bool true])) := fun W => by
  have := HB k W
  rwa [byteV_in h, hd] at this
theorem int_ne {m d : Nat} (h : m ≠ d) : ¬ (m : Int) = (d : Int) := by omega
theorem toNat_ne {c : UInt8} {d : Nat} (hd : d < 256) (h : c ≠ UInt8.ofNat d) : c.toNat ≠ d := fun he => h (by
  rw [← UInt8.toNat_inj, UInt8.toNat_ofNat']
  omega)
set_option maxRecDepth 100000 in
set_option maxHeartbeats 4000000 in
theorem brace_any (B S : Nat) (s : ByteArray) (p i : Nat) (w : World) (h : Rdr w B S s p) (hs : s.size ≤ 1000000) (hi : i ≤ s.size + 1) : Calls Tryd.prog 46 #[.pointer (some ⟨B, 0, none⟩), .int .i64 i] w (Ret w (optV (braceA s.data.toList i 0))) := by
  have c0 := h.c0
  have c2 := h.c2
  have HB := Lib.hid (fun k W => byte_any s k W)
  have HLN := Lib.hid (fun W => blen_any s W)
  obtain ⟨L, hL⟩ : ∃ L, L = s.data.toList := ⟨_, rfl⟩
  have HN := Lib.hid (show L.length = s.size by rw [hL]; rfl)
  rw [← hL] at HB ⊢
  obtain ⟨R, hR⟩ : ∃ R, R = braceA L i 0 := ⟨_, rfl⟩
  have HR := Lib.hid hR
  rw [← hR]
  clear hR hL h
  go_enter Tryd.func46, Tryd.ntmps46
  go_wp2_with fail
  go_loopw [1, 6] (fun t o wr => ∃ k q : Nat, k ≤ s.size + 1 ∧ t = .int .i64 k ∧ o = .int .i64 q ∧ q ≤ k ∧ Below w.heap.size w wr ∧ Hid (R = braceA L k q)) (fun t _ _ => s.size + 2 - (intOf t).toNat)
  case atStart => exact ⟨i, 0, hi, rfl, rfl, Nat.zero_le _, Below.refl _ _, HR⟩
  case round =>
    obtain ⟨k, q, hk, rfl, rfl, hq, hbw, H⟩ := hrel
    have q0 := cell_keep hbw c0
    have q2 := cell_keep hbw c2
    by_cases hlt : k < s.size
    · have hlt' : k < L.length := by have := HN.out; omega
      by_cases h92 : L[k] = 92
      · have HK := Lib.hid (HKof HB.out hlt' (d := 92) (by rw [h92]; rfl))
        have HR2 := Lib.hid (show R = braceA L (k + 2) q by rw [H.out]; exact braceA_esc q hlt' h92)
        clear h92 H hlt'
        go_wp2_with fail
        refine (HLN.out _).mono ?_
        rintro e w1 ⟨rfl, hb1⟩
        replace q0 := cell_keep hb1 q0
        replace q2 := cell_keep hb1 q2
        replace hbw := hbw.trans (hb1.mono hbw.size)
        clear hb1
        go_wp2_with fail
        refine (HK.out _).mono ?_
        rintro e w2 ⟨rfl, hb2⟩
        replace q0 := cell_keep hb2 q0
        replace q2 := cell_keep hb2 q2
        replace hbw := hbw.trans (hb2.mono hbw.size)
        clear hb2
        go_wp2_with fail
        go_roundw
        case rel => exact ⟨(k + 2), q, by omega, by go_num, by go_num, by omega, hbw, HR2⟩
        case measure => simp [intOf]; omega
      · by_cases h123 : L[k] = 123
        · have HK := Lib.hid (HKof HB.out hlt' (d := 123) (by rw [h123]; rfl))
          have HR2 := Lib.hid (show R = braceA L (k + 1) (q + 1) by rw [H.out]; exact braceA_open q hlt' h123)
          clear h123 h92 H hlt'
          go_wp2_with fail
          refine (HLN.out _).mono ?_
          rintro e w1 ⟨rfl, hb1⟩
          replace q0 := cell_keep hb1 q0
          replace q2 := cell_keep hb1 q2
          replace hbw := hbw.trans (hb1.mono hbw.size)
          clear hb1
          go_wp2_with fail
          refine (HK.out _).mono ?_
          rintro e w2 ⟨rfl, hb2⟩
          replace q0 := cell_keep hb2 q0
          replace q2 := cell_keep hb2 q2
          replace hbw := hbw.trans (hb2.mono hbw.size)
          clear hb2
          go_wp2_with fail
          go_roundw
          case rel => exact ⟨(k + 1), (q + 1), by omega, by go_num, by go_num, by omega, hbw, HR2⟩
          case measure => simp [intOf]; omega
        · by_cases h125 : L[k] = 125
          · have HK := Lib.hid (HKof HB.out hlt' (d := 125) (by rw [h125]; rfl))
            by_cases hq0 : q = 0
            · subst hq0
              have HR2 := Lib.hid (show R = some k by rw [H.out]; exact braceA_shut hlt' h125)
              clear h123 h92 h125 H hlt'
              go_wp2_with fail
              refine (HLN.out _).mono ?_
              rintro e w1 ⟨rfl, hb1⟩
              replace q0 := cell_keep hb1 q0
              replace q2 := cell_keep hb1 q2
              replace hbw := hbw.trans (hb1.mono hbw.size)
              clear hb1
              go_wp2_with fail
              refine (HK.out _).mono ?_
              rintro e w2 ⟨rfl, hb2⟩
              replace q0 := cell_keep hb2 q0
              replace q2 := cell_keep hb2 q2
              replace hbw := hbw.trans (hb2.mono hbw.size)
              clear hb2
              go_wp2_with fail
              go_ret2
              rw [HR2.out]
              exact ⟨rfl, hbw⟩
            · have HR2 := Lib.hid (show R = braceA L (k + 1) (q - 1) by rw [H.out]; exact braceA_less q hlt' h125 hq0)
              clear h123 h92 h125 H hlt'
              go_wp2_with fail
              refine (HLN.out _).mono ?_
              rintro e w1 ⟨rfl, hb1⟩
              replace q0 := cell_keep hb1 q0
              replace q2 := cell_keep hb1 q2
              replace hbw := hbw.trans (hb1.mono hbw.size)
              clear hb1
              go_wp2_with fail
              refine (HK.out _).mono ?_
              rintro e w2 ⟨rfl, hb2⟩
              replace q0 := cell_keep hb2 q0
              replace q2 := cell_keep hb2 q2
              replace hbw := hbw.trans (hb2.mono hbw.size)
              clear hb2
              go_wp2_with fail
              go_roundw
              case rel => exact ⟨(k + 1), (q - 1), by omega, by go_num, by go_num, by omega, hbw, HR2⟩
              case measure => simp [intOf]; omega
          · have HK := Lib.hid (HKof HB.out hlt' rfl)
            have HR2 := Lib.hid (show R = braceA L (k + 1) q by rw [H.out]; exact braceA_on q hlt' h92 h123 h125)
            have n1 := int_ne (toNat_ne (d := 92) (by decide) h92)
            have n2 := int_ne (toNat_ne (d := 123) (by decide) h123)
            have n3 := int_ne (toNat_ne (d := 125) (by decide) h125)
            clear h123 h92 h125 H
            generalize (L[k]).toNat = m at *
            clear hlt'
            go_wp2_with fail
            refine (HLN.out _).mono ?_
            rintro e w1 ⟨rfl, hb1⟩
            replace q0 := cell_keep hb1 q0
            replace q2 := cell_keep hb1 q2
            replace hbw := hbw.trans (hb1.mono hbw.size)
            clear hb1
            go_wp2_with fail
            refine (HK.out _).mono ?_
            rintro e w2 ⟨rfl, hb2⟩
            replace q0 := cell_keep hb2 q0
            replace q2 := cell_keep hb2 q2
            replace hbw := hbw.trans (hb2.mono hbw.size)
            clear hb2
            go_wp2_with fail
            go_roundw
            case rel => exact ⟨(k + 1), q, by omega, by go_num, by go_num, by omega, hbw, HR2⟩
            case measure => simp [intOf]; omega
    · have HR2 := Lib.hid (show R = none by rw [H.out]; exact braceA_end q (by have := HN.out; omega))
      clear H
      go_wp2_with fail
      refine (HLN.out _).mono ?_
      rintro e w1 ⟨rfl, hb1⟩
      replace q0 := cell_keep hb1 q0
      replace q2 := cell_keep hb1 q2
      replace hbw := hbw.trans (hb1.mono hbw.size)
      clear hb1
      go_wp2_with fail
      go_ret2
      rw [HR2.out]
      exact ⟨rfl, hbw⟩
set_option maxRecDepth 100000 in
set_option maxHeartbeats 8000000 in
theorem bracket_any (B S : Nat) (s : ByteArray) (p i : Nat) (w : World) (h : Rdr w B S s p) (hs : s.size ≤ 1000000) (hi : i ≤ s.size + 1) : Calls Tryd.prog 83 #[.pointer (some ⟨B, 0, none⟩), .int .i64 i] w (Ret w (optV (bracketA s.data.toList i 0))) := by
  have c0 := h.c0
  have c2 := h.c2
  have HB := Lib.hid (fun k W => byte_any s k W)
  have HLN := Lib.hid (fun W => blen_any s W)
  have HBR := Lib.hid (fun (k : Nat) (W : World) (hk : k ≤ s.size + 1) (hb : Below w.heap.size w W) => brace_any B S s p k W (h.below hb) hs hk)
  obtain ⟨L, hL⟩ : ∃ L, L = s.data.toList := ⟨_, rfl⟩
  have HN := Lib.hid (show L.length = s.size by rw [hL]; rfl)
  rw [← hL] at HB HBR ⊢
  obtain ⟨R, hR⟩ : ∃ R, R = bracketA L i 0 := ⟨_, rfl⟩
  have HR := Lib.hid hR
  rw [← hR]
  clear hR hL h
  go_enter Tryd.func83, Tryd.ntmps83
  go_wp2_with fail
  go_loopw [1, 6] (fun t o wr => ∃ k q : Nat, k ≤ s.size + 1 ∧ t = .int .i64 k ∧ o = .int .i64 q ∧ q ≤ k ∧ Below w.heap.size w wr ∧ Hid (R = bracketA L k q)) (fun t _ _ => s.size + 2 - (intOf t).toNat)
  case atStart => exact ⟨i, 0, hi, rfl, rfl, Nat.zero_le _, Below.refl _ _, HR⟩
  case round =>
    obtain ⟨k, q, hk, rfl, rfl, hq, hbw, H⟩ := hrel
    have q0 := cell_keep hbw c0
    have q2 := cell_keep hbw c2
    by_cases hlt : k < s.size
    · have hlt' : k < L.length := by have := HN.out; omega
      by_cases h92 : L[k] = 92
      · have HK := Lib.hid (HKof HB.out hlt' (d := 92) (by rw [h92]; rfl))
        have HR2 := Lib.hid (show R = bracketA L (k + 2) q by rw [H.out]; exact bracketA_esc q hlt' h92)
        clear h92 H hlt'
        go_wp2_with fail
        refine (HLN.out _).mono ?_
        rintro e w1 ⟨rfl, hb1⟩
        replace q0 := cell_keep hb1 q0
        replace q2 := cell_keep hb1 q2
        replace hbw := hbw.trans (hb1.mono hbw.size)
        clear hb1
        go_wp2_with fail
        refine (HK.out _).mono ?_
        rintro e w2 ⟨rfl, hb2⟩
        replace q0 := cell_keep hb2 q0
        replace q2 := cell_keep hb2 q2
        replace hbw := hbw.trans (hb2.mono hbw.size)
        clear hb2
        go_wp2_with fail
        go_roundw
        case rel => exact ⟨(k + 2), q, by omega, by go_num, by go_num, by omega, hbw, HR2⟩
        case measure => simp [intOf]; omega
      · by_cases h123 : L[k] = 123
        · have HK := Lib.hid (HKof HB.out hlt' (d := 123) (by rw [h123]; rfl))
          cases hbr : braceA L (k + 1) 0 with
          | none =>
            have HR2 := Lib.hid (show R = none by rw [H.out]; exact bracketA_none q hlt' h123 hbr)
            have HC := Lib.hid (fun W hb => HBR.out (k + 1) W (by omega) hb)
            rw [hbr] at HC
            unfold optV at HC
            clear h123 h92 H hlt' hbr
            go_wp2_with fail
            refine (HLN.out _).mono ?_
            rintro e w1 ⟨rfl, hb1⟩
            replace q0 := cell_keep hb1 q0
            replace q2 := cell_keep hb1 q2
            replace hbw := hbw.trans (hb1.mono hbw.size)
            clear hb1
            go_wp2_with fail
            refine (HK.out _).mono ?_
            rintro e w2 ⟨rfl, hb2⟩
            replace q0 := cell_keep hb2 q0
            replace q2 := cell_keep hb2 q2
            replace hbw := hbw.trans (hb2.mono hbw.size)
            clear hb2
            go_wp2_with fail
            refine (HC.out _ hbw).mono ?_
            rintro e w3 ⟨rfl, hb3⟩
            replace hbw := hbw.trans (hb3.mono hbw.size)
            go_wp2_with fail
            go_ret2
            rw [HR2.out]
            exact ⟨rfl, hbw⟩
          | some z =>
            have HR2 := Lib.hid (show R = bracketA L (z + 1) q by rw [H.out]; exact bracketA_brace q hlt' h123 hbr)
            have HC := Lib.hid (fun W hb => HBR.out (k + 1) W (by omega) hb)
            have hz := braceA_lt hbr
            have hz2 : z < s.size := by have := HN.out; omega
            rw [hbr] at HC
            unfold optV at HC
            clear h123 h92 H hlt' hbr
            go_wp2_with fail
            refine (HLN.out _).mono ?_
            rintro e w1 ⟨rfl, hb1⟩
            replace q0 := cell_keep hb1 q0
            replace q2 := cell_keep hb1 q2
            replace hbw := hbw.trans (hb1.mono hbw.size)
            clear hb1
            go_wp2_with fail
            refine (HK.out _).mono ?_
            rintro e w2 ⟨rfl, hb2⟩
            replace q0 := cell_keep hb2 q0
            replace q2 := cell_keep hb2 q2
            replace hbw := hbw.trans (hb2.mono hbw.size)
            clear hb2
            go_wp2_with fail
            refine (HC.out _ hbw).mono ?_
            rintro e w3 ⟨rfl, hb3⟩
            replace hbw := hbw.trans (hb3.mono hbw.size)
            clear hb3
            go_wp2_with fail
            go_roundw
            case rel => exact ⟨(z + 1), q, by omega, by go_num, by go_num, by omega, hbw, HR2⟩
            case measure => simp [intOf]; omega
        · by_cases h91 : L[k] = 91
          · have HK := Lib.hid (HKof HB.out hlt' (d := 91) (by rw [h91]; rfl))
            have HR2 := Lib.hid (show R = bracketA L (k + 1) (q + 1) by rw [H.out]; exact bracketA_open q hlt' h91)
            clear h123 h92 h91 H hlt'
            go_wp2_with fail
            refine (HLN.out _).mono ?_
            rintro e w1 ⟨rfl, hb1⟩
            replace q0 := cell_keep hb1 q0
            replace q2 := cell_keep hb1 q2
            replace hbw := hbw.trans (hb1.mono hbw.size)
            clear hb1
            go_wp2_with fail
            refine (HK.out _).mono ?_
            rintro e w2 ⟨rfl, hb2⟩
            replace q0 := cell_keep hb2 q0
            replace q2 := cell_keep hb2 q2
            replace hbw := hbw.trans (hb2.mono hbw.size)
            clear hb2
            go_wp2_with fail
            go_roundw
            case rel => exact ⟨(k + 1), (q + 1), by omega, by go_num, by go_num, by omega, hbw, HR2⟩
            case measure => simp [intOf]; omega
          · by_cases h93 : L[k] = 93
            · have HK := Lib.hid (HKof HB.out hlt' (d := 93) (by rw [h93]; rfl))
              by_cases hq0 : q = 0
              · subst hq0
                have HR2 := Lib.hid (show R = some k by rw [H.out]; exact bracketA_shut hlt' h93)
                clear h123 h92 h91 h93 H hlt'
                go_wp2_with fail
                refine (HLN.out _).mono ?_
                rintro e w1 ⟨rfl, hb1⟩
                replace q0 := cell_keep hb1 q0
                replace q2 := cell_keep hb1 q2
                replace hbw := hbw.trans (hb1.mono hbw.size)
                clear hb1
                go_wp2_with fail
                refine (HK.out _).mono ?_
                rintro e w2 ⟨rfl, hb2⟩
                replace q0 := cell_keep hb2 q0
                replace q2 := cell_keep hb2 q2
                replace hbw := hbw.trans (hb2.mono hbw.size)
                clear hb2
                go_wp2_with fail
                go_ret2
                rw [HR2.out]
                exact ⟨rfl, hbw⟩
              · have HR2 := Lib.hid (show R = bracketA L (k + 1) (q - 1) by rw [H.out]; exact bracketA_less q hlt' h93 hq0)
                clear h123 h92 h91 h93 H hlt'
                go_wp2_with fail
                refine (HLN.out _).mono ?_
                rintro e w1 ⟨rfl, hb1⟩
                replace q0 := cell_keep hb1 q0
                replace q2 := cell_keep hb1 q2
                replace hbw := hbw.trans (hb1.mono hbw.size)
                clear hb1
                go_wp2_with fail
                refine (HK.out _).mono ?_
                rintro e w2 ⟨rfl, hb2⟩
                replace q0 := cell_keep hb2 q0
                replace q2 := cell_keep hb2 q2
                replace hbw := hbw.trans (hb2.mono hbw.size)
                clear hb2
                go_wp2_with fail
                go_roundw
                case rel => exact ⟨(k + 1), (q - 1), by omega, by go_num, by go_num, by omega, hbw, HR2⟩
                case measure => simp [intOf]; omega
            · have HK := Lib.hid (HKof HB.out hlt' rfl)
              have HR2 := Lib.hid (show R = bracketA L (k + 1) q by rw [H.out]; exact bracketA_on q hlt' h92 h123 h91 h93)
              have n1 := int_ne (toNat_ne (d := 92) (by decide) h92)
              have n2 := int_ne (toNat_ne (d := 123) (by decide) h123)
              have n3 := int_ne (toNat_ne (d := 91) (by decide) h91)
              have n4 := int_ne (toNat_ne (d := 93) (by decide) h93)
              clear h123 h92 h91 h93 H
              generalize (L[k]).toNat = m at *
              clear hlt'
              go_wp2_with fail
              refine (HLN.out _).mono ?_
              rintro e w1 ⟨rfl, hb1⟩
              replace q0 := cell_keep hb1 q0
              replace q2 := cell_keep hb1 q2
              replace hbw := hbw.trans (hb1.mono hbw.size)
              clear hb1
              go_wp2_with fail
              refine (HK.out _).mono ?_
              rintro e w2 ⟨rfl, hb2⟩
              replace q0 := cell_keep hb2 q0
              replace q2 := cell_keep hb2 q2
              replace hbw := hbw.trans (hb2.mono hbw.size)
              clear hb2
              go_wp2_with fail
              go_roundw
              case rel => exact ⟨(k + 1), q, by omega, by go_num, by go_num, by omega, hbw, HR2⟩
              case measure => simp [intOf]; omega
    · have HR2 := Lib.hid (show R = none by rw [H.out]; exact bracketA_end q (by have := HN.out; omega))
      clear H
      go_wp2_with fail
      refine (HLN.out _).mono ?_
      rintro e w1 ⟨rfl, hb1⟩
      replace q0 := cell_keep hb1 q0
      replace q2 := cell_keep hb1 q2
      replace hbw := hbw.trans (hb1.mono hbw.size)
      clear hb1
      go_wp2_with fail
      go_ret2
      rw [HR2.out]
      exact ⟨rfl, hbw⟩
end Go.Proofs.YtlhpflilpdceiaaDoor
