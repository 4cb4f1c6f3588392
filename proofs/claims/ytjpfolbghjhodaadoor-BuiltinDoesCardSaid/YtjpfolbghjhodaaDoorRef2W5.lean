/- The walk over patoisref2.has: whether a byte is in a set. Bounds on the lengths. -/
import Derived.Test.YtjpfolbghjhodaaDoorRef2W4
import Derived.Outline
set_option linter.unusedVariables false
set_option linter.unusedSimpArgs false
namespace Go.Proofs.YtjpfolbghjhodaaDoor
open Go.RowKit

theorem u8_le2 {a b : UInt8} : a ≤ b ↔ (a.toNat : Int) ≤ (b.toNat : Int) := by rw [UInt8.le_iff_toNat_le]; omega
theorem u8_eq2 {a b : UInt8} : a = b ↔ (a.toNat : Int) = (b.toNat : Int) := by rw [← UInt8.toNat_inj]; omega
set_option maxRecDepth 100000 in
set_option maxHeartbeats 4000000 in
theorem has_any (A : Option Addr) (cap : Nat) (l : List Piece) (c : UInt8) (w : World) (hl : RdL w 2 bcs A l) (hn : l.length ≤ 4000000) :
    Calls Tryd.prog 74 #[.slice A l.length cap, .int .u8 c.toNat] w fun e w' => e = .returned (.bool (amongL l c)) ∧ w' = w := by
  obtain ⟨m, hm⟩ : ∃ m, m = l.length := ⟨_, rfl⟩
  have HM := Lib.hid hm
  rw [← hm] at hn ⊢
  clear hm
  go_enter Tryd.func74, Tryd.ntmps74
  go_wp2_with fail
  go_loopw [5] (fun v wr => ∃ k : Nat, k ≤ m ∧ v = .int .i64 k ∧ w = wr ∧ Hid (amongL l c = amongL (l.drop k) c)) (fun v _ => m - (intOf v).toNat)
  case atStart => exact ⟨0, Nat.zero_le _, rfl, rfl, rfl⟩
  case round =>
    obtain ⟨k, hk, rfl, rfl, H⟩ := hrel
    by_cases hlt : k < m
    · have hlt' : k < l.length := by rw [← HM.out]; exact hlt
      obtain ⟨b, o, rfl, _⟩ := hl.addr (by omega)
      have c0 := (hl.at_ hlt').2 0 _ rfl
      simp only [Nat.add_zero] at c0
      have HPl := Lib.hid (show (∀ q r t', l.drop (k + 1) = q :: r :: t' → q.isB 45 = false) → amongL l c = if l[k].c = c then true else amongL (l.drop (k + 1)) c from by
        intro h
        rw [H.out, List.drop_eq_getElem_cons hlt']
        exact amongL_plain h)
      by_cases h2 : k + 2 < m
      · have h2' : k + 2 < l.length := by rw [← HM.out]; exact h2
        have d0 := (hl.at_ (show k + 1 < l.length by omega)).2 0 _ rfl
        have d1 := (hl.at_ (show k + 1 < l.length by omega)).2 1 _ rfl
        have e0 := (hl.at_ h2').2 0 _ rfl
        simp only [Nat.add_zero] at d0 e0
        have hd1 : l.drop (k + 1) = l[k + 1] :: l[k + 2] :: l.drop (k + 3) := by
          rw [List.drop_eq_getElem_cons (show k + 1 < l.length by omega), List.drop_eq_getElem_cons h2']
        obtain ⟨p, hp⟩ : ∃ p, p = l[k] := ⟨_, rfl⟩
        obtain ⟨q, hq⟩ : ∃ q, q = l[k + 1] := ⟨_, rfl⟩
        obtain ⟨r, hr2⟩ : ∃ r, r = l[k + 2] := ⟨_, rfl⟩
        have hri := H.out
        rw [List.drop_eq_getElem_cons hlt', hd1, ← hp, ← hq, ← hr2] at hri
        rw [← hq, ← hr2] at hd1
        rw [← hp] at HPl c0
        rw [← hq] at d0 d1
        rw [← hr2] at e0
        have HD := Lib.hid hd1
        have HR := Lib.hid hri
        clear hd1 hri hp hq hr2 H
        obtain ⟨qc, hqc⟩ : ∃ qc, ((q.c.toNat : Int) == 45) = qc := ⟨_, rfl⟩
        obtain ⟨qd, hqd⟩ : ∃ qd, q.dead = qd := ⟨_, rfl⟩
        have HB := Lib.hid (show q.isB 45 = (qc && !qd) by unfold Piece.isB; rw [hqc, hqd])
        rw [hqd] at d1
        generalize q.c.toNat = qn at *
        have hpl : q.isB 45 = false → amongL l c = if p.c = c then true else amongL (l.drop (k + 1)) c := fun hB => HPl.out (by
          intro q' r' t' h
          rw [HD.out] at h
          injection h with h _
          rw [← h]; exact hB)
        have HPL := Lib.hid hpl
        clear hqd hpl HPl
        cases qc
        case false =>
          have HP := Lib.hid (HPL.out (by rw [HB.out]; rfl))
          clear HPL HB HD HR
          by_cases hpc : (p.c.toNat : Int) = c.toNat
          · have hpb : ((p.c.toNat : Int) == c.toNat) = true := by simpa using hpc
            have hpe := Lib.hid (u8_eq2.2 hpc)
            clear hpc
            go_wp2_with fail
            go_ret
            exact ⟨name_ret2 (by rw [HP.out, if_pos hpe.out]), rfl⟩
          · have hpb : ((p.c.toNat : Int) == c.toNat) = false := by simpa using hpc
            have hpe := Lib.hid (fun h => hpc (u8_eq2.1 h))
            clear hpc
            go_wp2_with fail
            go_roundw
            case rel => exact ⟨k + 1, by omega, by go_num, trivial, Lib.hid (by rw [HP.out, if_neg hpe.out])⟩
            case measure => simp [intOf]; omega
        case true =>
        cases qd
        case true =>
          have HP := Lib.hid (HPL.out (by rw [HB.out]; rfl))
          clear HPL HB HD HR
          by_cases hpc : (p.c.toNat : Int) = c.toNat
          · have hpb : ((p.c.toNat : Int) == c.toNat) = true := by simpa using hpc
            have hpe := Lib.hid (u8_eq2.2 hpc)
            clear hpc
            go_wp2_with fail
            go_ret
            exact ⟨name_ret2 (by rw [HP.out, if_pos hpe.out]), rfl⟩
          · have hpb : ((p.c.toNat : Int) == c.toNat) = false := by simpa using hpc
            have hpe := Lib.hid (fun h => hpc (u8_eq2.1 h))
            clear hpc
            go_wp2_with fail
            go_roundw
            case rel => exact ⟨k + 1, by omega, by go_num, trivial, Lib.hid (by rw [HP.out, if_neg hpe.out])⟩
            case measure => simp [intOf]; omega
        case false =>
          have HP := Lib.hid (show amongL l c = if p.c ≤ c ∧ c ≤ r.c then true else amongL (l.drop (k + 3)) c from by rw [HR.out, amongL_range (by rw [HB.out]; rfl)])
          clear HPL HB HD HR
          by_cases h3 : (p.c.toNat : Int) ≤ c.toNat
          · by_cases h4 : (c.toNat : Int) ≤ r.c.toNat
            · go_wp2_with fail
              go_ret
              exact ⟨name_ret2 (by rw [HP.out, if_pos ⟨u8_le2.2 h3, u8_le2.2 h4⟩]), rfl⟩
            · go_wp2_with fail
              go_roundw
              case rel => exact ⟨k + 3, by omega, by go_num, trivial, Lib.hid (by rw [HP.out, if_neg (fun h => by have := u8_le2.1 h.2; omega)])⟩
              case measure => simp [intOf]; omega
          · go_wp2_with fail
            go_roundw
            case rel => exact ⟨k + 3, by omega, by go_num, trivial, Lib.hid (by rw [HP.out, if_neg (fun h => by have := u8_le2.1 h.1; omega)])⟩
            case measure => simp [intOf]; omega
      · have HP := Lib.hid (show amongL l c = if l[k].c = c then true else amongL (l.drop (k + 1)) c from HPl.out (by
          intro q' r' t' h
          have := congrArg List.length h
          rw [List.length_drop, ← HM.out] at this
          simp at this; omega))
        clear HPl H
        obtain ⟨p, hp⟩ : ∃ p, p = l[k] := ⟨_, rfl⟩
        rw [← hp] at HP c0
        clear hp
        by_cases hpc : (p.c.toNat : Int) = c.toNat
        · have hpb : ((p.c.toNat : Int) == c.toNat) = true := by simpa using hpc
          have hpe := Lib.hid (u8_eq2.2 hpc)
          clear hpc
          go_wp2_with fail
          go_ret
          exact ⟨name_ret2 (by rw [HP.out, if_pos hpe.out]), rfl⟩
        · have hpb : ((p.c.toNat : Int) == c.toNat) = false := by simpa using hpc
          have hpe := Lib.hid (fun h => hpc (u8_eq2.1 h))
          clear hpc
          go_wp2_with fail
          go_roundw
          case rel => exact ⟨k + 1, by omega, by go_num, trivial, Lib.hid (by rw [HP.out, if_neg hpe.out])⟩
          case measure => simp [intOf]; omega
    · have HF := Lib.hid (show amongL l c = false by rw [H.out, List.drop_of_length_le (by rw [← HM.out]; omega)]; rfl)
      clear H
      go_wp2_with fail
      go_ret
      exact ⟨name_ret2 HF.out.symm, rfl⟩
end Go.Proofs.YtjpfolbghjhodaaDoor
