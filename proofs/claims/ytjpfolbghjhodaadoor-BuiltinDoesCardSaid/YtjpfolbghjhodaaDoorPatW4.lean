/- The walks over package pattern's among and in: whether a byte is one of a set. Fewer than a million pieces. -/
import Derived.Test.YtjpfolbghjhodaaDoorPatW1
set_option linter.unusedVariables false
set_option linter.unusedSimpArgs false
namespace Go.Proofs.YtjpfolbghjhodaaDoor
open Go.RowKit

theorem u8_le {a b : UInt8} : a ≤ b ↔ (a.toNat : Int) ≤ (b.toNat : Int) := by rw [UInt8.le_iff_toNat_le]; omega
theorem u8_eq {a b : UInt8} : a = b ↔ (a.toNat : Int) = (b.toNat : Int) := by rw [← UInt8.toNat_inj]; omega

/-- What a piece of the list gives the walk. -/
theorem piece_cells {w : World} {b o : Nat} {l : List Piece} (h : RdL w 3 pcs (some ⟨b, o, none⟩) l) {k : Nat} (hk : k < l.length) :
    w.cell? ⟨b, o + k * 3, none⟩ = some (.int .u8 l[k].c.toNat) ∧ w.cell? ⟨b, o + k * 3 + 1, none⟩ = some (.bool l[k].dead) ∧ w.cell? ⟨b, o + k * 3 + 2, none⟩ = some (.int .i64 l[k].frm) := by
  have := (h.at_ hk).2
  exact ⟨by simpa using this 0 _ rfl, this 1 _ rfl, this 2 _ rfl⟩

set_option maxHeartbeats 1000000 in
theorem among_any (A : Option Addr) (cap : Nat) (l : List Piece) (c : UInt8) (w : World) (hl : RdL w 3 pcs A l) (hn : l.length ≤ 1000000) :
    Calls Tryd.prog 129 #[.slice A l.length cap, .int .u8 c.toNat] w (Ret w (.bool (amongL l c))) := by
  go_enter Tryd.func129, Tryd.ntmps129
  go_wp2_with fail
  go_loopw [5] (fun v wr => ∃ k : Nat, k ≤ l.length ∧ v = .int .i64 k ∧ Below w.heap.size w wr ∧ Hid (amongL l c = amongL (l.drop k) c)) (fun v _ => l.length - (intOf v).toNat)
  case atStart => exact ⟨0, Nat.zero_le _, rfl, Below.refl _ _, rfl⟩
  case round =>
    obtain ⟨k, hk, rfl, hb, H⟩ := hrel
    by_cases hlt : k < l.length
    · have hr := hl.below hb
      obtain ⟨b, o, rfl⟩ : ∃ b o, A = some ⟨b, o, none⟩ := let ⟨b, o, h, _⟩ := hr k hlt; ⟨b, o, h⟩
      clear hl
      obtain ⟨c0, c1, c2⟩ := piece_cells hr hlt
      clear c1 c2
      have HPl := Lib.hid (show (∀ q r t', l.drop (k + 1) = q :: r :: t' → q.isB 45 = false) → amongL l c = if l[k].c = c then true else amongL (l.drop (k + 1)) c from by
        intro h
        rw [H.out, List.drop_eq_getElem_cons hlt]
        exact amongL_plain h)
      by_cases h2 : k + 2 < l.length
      · obtain ⟨d0, d1, d2⟩ := piece_cells hr (show k + 1 < l.length by omega)
        obtain ⟨e0, e1, e2⟩ := piece_cells hr h2
        clear e1 e2
        have hd1 : l.drop (k + 1) = l[k + 1] :: l[k + 2] :: l.drop (k + 3) := by
          rw [List.drop_eq_getElem_cons (show k + 1 < l.length by omega), List.drop_eq_getElem_cons h2]
        obtain ⟨p, hp⟩ : ∃ p, p = l[k] := ⟨_, rfl⟩
        obtain ⟨q, hq⟩ : ∃ q, q = l[k + 1] := ⟨_, rfl⟩
        obtain ⟨r, hr2⟩ : ∃ r, r = l[k + 2] := ⟨_, rfl⟩
        have hri := H.out
        rw [List.drop_eq_getElem_cons hlt, hd1, ← hp, ← hq, ← hr2] at hri
        rw [← hq, ← hr2] at hd1
        rw [← hp] at HPl c0
        rw [← hq] at d0 d1 d2
        rw [← hr2] at e0
        have HD := Lib.hid hd1
        have HR := Lib.hid hri
        clear hd1 hri hp hq hr2 H
        go_wp2_with fail
        refine (is_any q 45 _).mono ?_
        cases hB : q.isB 45
        · have HP := Lib.hid (show amongL l c = if p.c = c then true else amongL (l.drop (k + 1)) c from HPl.out (by
            intro q' r' t' h
            rw [HD.out] at h
            injection h with h _
            rw [← h]; exact hB))
          clear HPl HD HR d0 d1 d2 e0
          rintro e w1 ⟨rfl, hb1⟩
          have hb2 := hb.trans (hb1.mono hb.size)
          have c0' := cell_keep hb1 c0
          clear c0 hr
          by_cases hpc : (p.c.toNat : Int) = c.toNat
          · have hpb : ((p.c.toNat : Int) == c.toNat) = true := by simpa using hpc
            have hpe := Lib.hid (u8_eq.2 hpc)
            clear hpc
            go_wp2_with fail
            go_ret
            exact ⟨by rw [HP.out, if_pos hpe.out]; rfl, hb2⟩
          · have hpb : ((p.c.toNat : Int) == c.toNat) = false := by simpa using hpc
            have hpe := Lib.hid (fun h => hpc (u8_eq.1 h))
            clear hpc
            go_wp2_with fail
            go_roundw
            case rel => exact ⟨k + 1, by omega, by go_num, hb2, by rw [HP.out, if_neg hpe.out]; exact rfl⟩
            case measure => simp [intOf]; omega
        · have HP := Lib.hid (show amongL l c = if p.c ≤ c ∧ c ≤ r.c then true else amongL (l.drop (k + 3)) c from by rw [HR.out, amongL_range hB])
          clear HPl HD HR d0 d1 d2
          rintro e w1 ⟨rfl, hb1⟩
          have hb2 := hb.trans (hb1.mono hb.size)
          have c0' := cell_keep hb1 c0
          have e0' := cell_keep hb1 e0
          clear c0 e0 hr
          by_cases h3 : (p.c.toNat : Int) ≤ c.toNat
          · by_cases h4 : (c.toNat : Int) ≤ r.c.toNat
            · go_wp2_with fail
              go_ret
              exact ⟨by rw [HP.out, if_pos ⟨u8_le.2 h3, u8_le.2 h4⟩]; rfl, hb2⟩
            · go_wp2_with fail
              go_roundw
              case rel => exact ⟨k + 3, by omega, by go_num, hb2, by rw [HP.out, if_neg (fun h => by have := u8_le.1 h.2; omega)]; exact rfl⟩
              case measure => simp [intOf]; omega
          · go_wp2_with fail
            go_roundw
            case rel => exact ⟨k + 3, by omega, by go_num, hb2, by rw [HP.out, if_neg (fun h => by have := u8_le.1 h.1; omega)]; exact rfl⟩
            case measure => simp [intOf]; omega
      · have HP := Lib.hid (show amongL l c = if l[k].c = c then true else amongL (l.drop (k + 1)) c from HPl.out (by
          intro q' r' t' h
          have := congrArg List.length h
          simp at this; omega))
        clear HPl H hr
        obtain ⟨p, hp⟩ : ∃ p, p = l[k] := ⟨_, rfl⟩
        rw [← hp] at HP c0
        clear hp
        by_cases hpc : (p.c.toNat : Int) = c.toNat
        · have hpb : ((p.c.toNat : Int) == c.toNat) = true := by simpa using hpc
          have hpe := Lib.hid (u8_eq.2 hpc)
          clear hpc
          go_wp2_with fail
          go_ret
          exact ⟨by rw [HP.out, if_pos hpe.out]; rfl, hb⟩
        · have hpb : ((p.c.toNat : Int) == c.toNat) = false := by simpa using hpc
          have hpe := Lib.hid (fun h => hpc (u8_eq.1 h))
          clear hpc
          go_wp2_with fail
          go_roundw
          case rel => exact ⟨k + 1, by omega, by go_num, hb, by rw [HP.out, if_neg hpe.out]; exact rfl⟩
          case measure => simp [intOf]; omega
    · obtain rfl : l.length = k := by omega
      have HF := Lib.hid (show amongL l c = false by rw [H.out, List.drop_length]; rfl)
      clear H
      go_wp2_with fail
      go_ret
      exact ⟨by rw [HF.out]; rfl, hb⟩

set_option maxHeartbeats 1000000 in
theorem in_any (A : Option Addr) (cap : Nat) (l : List Piece) (c : UInt8) (w : World) (hl : RdL w 3 pcs A l) (hn : l.length ≤ 1000000) (hcap : l.length ≤ cap) (hmax : cap ≤ 9223372036854775807) :
    Calls Tryd.prog 113 #[.slice A l.length cap, .int .u8 c.toNat] w (Ret w (.bool (inL l c))) := by
  match l, hl, hn, hcap with
  | [], hl, hn, hcap =>
    go_enter Tryd.func113, Tryd.ntmps113
    go_wp2_with fail
    refine (among_any _ cap [] c _ hl hn).mono ?_
    rintro e w1 ⟨rfl, hb1⟩
    go_wp2_with fail
    go_ret
    exact ⟨rfl, hb1⟩
  | [p], hl, hn, hcap =>
    go_enter Tryd.func113, Tryd.ntmps113
    go_wp2_with fail
    refine (among_any _ cap [p] c _ hl hn).mono ?_
    rintro e w1 ⟨rfl, hb1⟩
    go_wp2_with fail
    go_ret
    exact ⟨rfl, hb1⟩
  | p :: q :: t, hl, hn, hcap =>
    obtain ⟨b, o, rfl⟩ : ∃ b o, A = some ⟨b, o, none⟩ := let ⟨b, o, h, _⟩ := hl 0 (by simp); ⟨b, o, h⟩
    obtain ⟨c0, c1, c2⟩ := piece_cells hl (show 0 < (p :: q :: t).length by simp)
    simp only [Nat.zero_mul, Nat.add_zero, List.getElem_cons_zero] at c0 c1 c2
    have hlen : 1 < (p :: q :: t).length := by simp
    have HL := Lib.hid (show (p :: q :: t).length = (q :: t).length + 1 by simp)
    obtain ⟨n, hN⟩ : ∃ n, n = (p :: q :: t).length := ⟨_, rfl⟩
    rw [← hN] at hlen hn hcap ⊢
    have HN := Lib.hid hN
    clear hN
    go_enter Tryd.func113, Tryd.ntmps113
    go_wp2_with fail
    refine (is_any p 94 _).mono ?_
    cases hB : p.isB 94
    · rintro e w1 ⟨rfl, hb1⟩
      have hl1 := hl.below hb1
      clear c0 c1 c2 hl
      go_wp2_with fail
      rw [HN.out]
      refine (among_any _ cap (p :: q :: t) c _ hl1 (by rw [← HN.out]; exact hn)).mono ?_
      rintro e w2 ⟨rfl, hb2⟩
      go_wp2_with fail
      go_ret
      exact ⟨by simp [inL, hB], hb1.trans (hb2.mono hb1.size)⟩
    · rintro e w1 ⟨rfl, hb1⟩
      have hl1 := hl.below hb1
      clear c0 c1 c2 hl
      go_wp2_with fail
      have hd := hl1.drop 1 (A' := some ⟨b, o + 3, none⟩) (by
        intro b' o' h _
        simp only [Option.some.injEq, Addr.mk.injEq, and_true] at h
        rw [← h.1, ← h.2])
      rw [show n - 1 = (q :: t).length by rw [HN.out]; rfl]
      refine (among_any _ (cap - 1) (q :: t) c _ hd (by have := HN.out; simp at this ⊢; omega)).mono ?_
      rintro e w2 ⟨rfl, hb2⟩
      go_wp2_with fail
      go_ret
      exact ⟨by simp [inL, hB], hb1.trans (hb2.mono hb1.size)⟩
end Go.Proofs.YtjpfolbghjhodaaDoor
