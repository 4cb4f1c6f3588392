/- The walks over the document's store: what it tells. No condition. -/
import Derived.Test.YtcnkljbckpkgcaaStoD
set_option linter.unusedVariables false
set_option linter.unusedSimpArgs false
namespace Go.Proofs.Ytcnkljbckpkgcaa
open Go.RowKit Go.Maps Go.Sort
variable {X : Nat → Prop}

theorem look_drop {α : Type} {M : List (Txt × α)} {n : Txt} {k : Nat} (hk : k < M.length) : lookA (M.drop k) n = if M[k].1 = n then some M[k].2 else lookA (M.drop (k + 1)) n := by
  rw [List.drop_eq_getElem_cons hk]
  rfl
def DGetRet (X : Nat → Prop) (r : List Txt × Bool) (w : World) (e : Ending) (w' : World) : Prop := ∃ v, e = .returned (.tuple #[v, .bool r.2]) ∧ OT X w' v r.1 ∧ Below w.heap.size w w'
def DFunRet (X : Nat → Prop) (r : List Nd × Bool) (w : World) (e : Ending) (w' : World) : Prop := ∃ v, e = .returned (.tuple #[v, .bool r.2]) ∧ ON X w' v r.1 ∧ Below w.heap.size w w'
theorem ON.nil (w : World) : ON X w (.slice none 0 0) [] := ⟨⟨none, 0, rfl, World.ownsRow_nil _ _ _ _⟩, fun b o s n c e => by cases e⟩
theorem ON.form {w : World} {v : Value} {L : List Nd} (h : ON X w v L) : ∃ A c, v = .slice A L.length c := let ⟨⟨A, c, h1, _⟩, _⟩ := h; ⟨A, c, h1⟩
set_option maxHeartbeats 2000000 in
theorem dget_any (xb : Nat) (x : Sto) (F : List (Txt × List Nd)) (n : Txt) (w : World) (h : DocI X w xb x F) :
    Calls Try.prog 22 #[.pointer (some ⟨xb, 0, none⟩), .string ⟨n.toArray⟩] w (DGetRet X (getS x n) w) := by
  obtain ⟨vv, va, vf, hb, hvv, hva, _⟩ := h.blk
  have HB := Lib.hid hb
  have c0 := hb.cell 0
  have c1 := hb.cell 1
  simp only [List.getElem?_toArray, List.getElem?_cons_succ, List.getElem?_cons_zero] at c0 c1
  have HVA := Lib.hid hva
  obtain ⟨Aa, ca, rfl⟩ := hva.form
  cases hn : (n == star)
  · have hn' : n ≠ star := fun e => by rw [e] at hn; simp at hn
    have HG := Lib.hid (show getS x n = ((lookA x.vars n).getD [], (lookA x.vars n).isSome) by unfold getS; rw [if_neg hn'])
    obtain ⟨A, c, vs, rfl, hr, ha, _, hlc, hcm⟩ := hvv.rd
    obtain ⟨M, hM⟩ : ∃ M, M = x.vars := ⟨_, rfl⟩
    rw [← hM] at HG ha c0 HB
    obtain ⟨m, hm⟩ : ∃ m, m = M.length := ⟨_, rfl⟩
    rw [← hM, ← hm] at hlc
    have hm64 : m ≤ 9223372036854775807 := by unfold maxLen at hcm; omega
    clear hlc hcm
    rw [← hm] at c0 HB
    have HM := Lib.hid hm
    have HR := Lib.hid hr
    have HA := Lib.hid ha
    have hn2 : (n == [42]) = false := hn
    clear hb hvv hva hM hm hr ha hn hn' h c0 c1
    go_enter Try.func22, Try.ntmps22
    go_wp2_with fail
    go_loopw [6] (fun i wr => ∃ k : Nat, k ≤ m ∧ i = .int .i64 k ∧ Hid (lookA M n = lookA (M.drop k) n) ∧ Below w.heap.size w wr) (fun i _ => m - (intOf i).toNat)
    case atStart => exact ⟨0, Nat.zero_le _, rfl, Lib.hid (by rw [List.drop_zero]), Below.refl _ _⟩
    case round =>
      obtain ⟨k, hk, rfl, HL, hbr⟩ := hrel
      have c0 := (HB.out.below hbr).cell 0
      simp only [List.getElem?_toArray, List.getElem?_cons_succ, List.getElem?_cons_zero] at c0
      by_cases hlt : k < m
      · have hkM : k < M.length := by rw [← HM.out]; exact hlt
        have hkv : k < vs.length := by rw [HA.out.1]; exact hkM
        obtain ⟨b, o, rfl, _, hc⟩ := (HR.out.below hbr) k hkv
        have q0 := hc 0 _ rfl
        have q1 := hc 1 _ rfl
        obtain ⟨e1, e2⟩ := HA.out.2 k hkv hkM
        rw [e1] at q0
        obtain ⟨u, hu⟩ : ∃ u, u = vs[k].2 := ⟨_, rfl⟩
        rw [← hu] at q1 e2
        rw [look_drop hkM] at HL
        obtain ⟨p, hp⟩ : ∃ p, p = M[k] := ⟨_, rfl⟩
        rw [← hp] at q0 e2 HL
        obtain ⟨Au, cu, rfl⟩ := e2.form
        simp only [Nat.add_zero] at q0
        have HE := Lib.hid (e2.below hbr)
        clear hc hu hp e1 e2 hkM hkv
        cases hpn : (p.1 == n)
        · rw [if_neg (fun e => by rw [e] at hpn; simp at hpn)] at HL
          go_wp2_with fail
          go_roundw
          case rel => exact ⟨k + 1, by omega, by go_num, HL, hbr⟩
          case measure => simp [intOf]; omega
        · rw [if_pos (beq_iff_eq.1 hpn)] at HL
          have HG2 := Lib.hid (show getS x n = (p.2, true) by rw [HG.out, HL.out]; rfl)
          clear HG HL
          obtain ⟨p1, p2⟩ := p
          generalize hpl : p2.length = pl at *
          have HPL := Lib.hid hpl
          clear hpl
          go_wp2_with fail
          go_ret2
          exact ⟨.slice Au pl cu, by rw [HG2.out]; rfl, by rw [HG2.out]; exact HE.out, hbr⟩
      · obtain rfl : k = m := by omega
        have HG2 := Lib.hid (show getS x n = ([], false) by rw [HG.out, HL.out, List.drop_of_length_le (by rw [← HM.out]; exact Nat.le_refl _)]; rfl)
        clear HG HL
        go_wp2_with fail
        go_ret2
        exact ⟨.slice none 0 0, by rw [HG2.out]; rfl, by rw [HG2.out]; exact OT.nil _, hbr⟩
  · have HG := Lib.hid (show getS x n = (x.args, true) by unfold getS; rw [if_pos (beq_iff_eq.1 hn)])
    generalize hpl : x.args.length = pl at *
    have HPL := Lib.hid hpl
    obtain rfl : n = star := beq_iff_eq.1 hn
    have hn2 : (star == [42]) = true := hn
    clear hpl hn hb hvv hva c0
    go_enter Try.func22, Try.ntmps22
    go_wp2_with fail
    go_ret2
    exact ⟨.slice Aa pl ca, by rw [HG.out]; rfl, by rw [HG.out]; exact HVA.out, Below.refl _ _⟩
set_option maxHeartbeats 2000000 in
theorem dfun_any (xb : Nat) (x : Sto) (M : List (Txt × List Nd)) (n : Txt) (w : World) (h : DocI X w xb x M) :
    Calls Try.prog 23 #[.pointer (some ⟨xb, 0, none⟩), .string ⟨n.toArray⟩] w (DFunRet X (getF M n) w) := by
  obtain ⟨vv, va, vf, hb, _, _, hvv⟩ := h.blk
  have HB := Lib.hid hb
  have c0 := hb.cell 2
  simp only [List.getElem?_toArray, List.getElem?_cons_succ, List.getElem?_cons_zero] at c0
  have HG := Lib.hid (show getF M n = ((lookA M n).getD [], (lookA M n).isSome) from rfl)
  obtain ⟨A, c, vs, rfl, hr, ha, _, hlc, hcm⟩ := hvv.rd
  obtain ⟨m, hm⟩ : ∃ m, m = M.length := ⟨_, rfl⟩
  rw [← hm] at hlc
  have hm64 : m ≤ 9223372036854775807 := by unfold maxLen at hcm; omega
  clear hlc hcm
  rw [← hm] at c0 HB
  have HM := Lib.hid hm
  have HR := Lib.hid hr
  have HA := Lib.hid ha
  clear hb hvv hm hr ha h c0
  go_enter Try.func23, Try.ntmps23
  go_wp2_with fail
  go_loopw [6] (fun i wr => ∃ k : Nat, k ≤ m ∧ i = .int .i64 k ∧ Hid (lookA M n = lookA (M.drop k) n) ∧ Below w.heap.size w wr) (fun i _ => m - (intOf i).toNat)
  case atStart => exact ⟨0, Nat.zero_le _, rfl, Lib.hid (by rw [List.drop_zero]), Below.refl _ _⟩
  case round =>
    obtain ⟨k, hk, rfl, HL, hbr⟩ := hrel
    have c0 := (HB.out.below hbr).cell 2
    simp only [List.getElem?_toArray, List.getElem?_cons_succ, List.getElem?_cons_zero] at c0
    by_cases hlt : k < m
    · have hkM : k < M.length := by rw [← HM.out]; exact hlt
      have hkv : k < vs.length := by rw [HA.out.1]; exact hkM
      obtain ⟨b, o, rfl, _, hc⟩ := (HR.out.below hbr) k hkv
      have q0 := hc 0 _ rfl
      have q1 := hc 1 _ rfl
      obtain ⟨e1, e2⟩ := HA.out.2 k hkv hkM
      rw [e1] at q0
      obtain ⟨u, hu⟩ : ∃ u, u = vs[k].2 := ⟨_, rfl⟩
      rw [← hu] at q1 e2
      rw [look_drop hkM] at HL
      obtain ⟨p, hp⟩ : ∃ p, p = M[k] := ⟨_, rfl⟩
      rw [← hp] at q0 e2 HL
      obtain ⟨Au, cu, rfl⟩ := e2.form
      simp only [Nat.add_zero] at q0
      have HE := Lib.hid (e2.below hbr)
      clear hc hu hp e1 e2 hkM hkv
      cases hpn : (p.1 == n)
      · rw [if_neg (fun e => by rw [e] at hpn; simp at hpn)] at HL
        go_wp2_with fail
        go_roundw
        case rel => exact ⟨k + 1, by omega, by go_num, HL, hbr⟩
        case measure => simp [intOf]; omega
      · rw [if_pos (beq_iff_eq.1 hpn)] at HL
        have HG2 := Lib.hid (show getF M n = (p.2, true) by rw [HG.out, HL.out]; rfl)
        clear HG HL
        obtain ⟨p1, p2⟩ := p
        generalize hpl : p2.length = pl at *
        have HPL := Lib.hid hpl
        clear hpl
        go_wp2_with fail
        go_ret2
        exact ⟨.slice Au pl cu, by rw [HG2.out]; rfl, by rw [HG2.out]; exact HE.out, hbr⟩
    · obtain rfl : k = m := by omega
      have HG2 := Lib.hid (show getF M n = ([], false) by rw [HG.out, HL.out, List.drop_of_length_le (by rw [← HM.out]; exact Nat.le_refl _)]; rfl)
      clear HG HL
      go_wp2_with fail
      go_ret2
      exact ⟨.slice none 0 0, by rw [HG2.out]; rfl, by rw [HG2.out]; exact ON.nil _, hbr⟩
end Go.Proofs.Ytcnkljbckpkgcaa
