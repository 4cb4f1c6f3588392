/- The walks over the document's store: Unset, Set. Bounds on the lengths. -/
import Derived.Test.YtcnkljbckpkgcaaStoDW1
set_option linter.unusedVariables false
set_option linter.unusedSimpArgs false
namespace Go.Proofs.Ytcnkljbckpkgcaa
open Go.RowKit Go.Maps Go.Sort
variable {X : Nat → Prop}

theorem OG.of_own {α : Type} {R : World → Value → α → Prop} {T : TypeId} {w : World} {B n c : Nat} {A : Option Addr} {us : List (Txt × Value)} {M : List (Txt × α)} (h : w.ownsRow B T 2 (.slice A n c) n (us.flatMap valc)) (hn : n = M.length) (ha : AllG R w us M) (hX : ∀ b, X b → b < B) : OG X R T w (.slice A n c) M := by
  subst hn
  exact ⟨A, c, us, rfl, own_mono h (Nat.zero_le B), ha, fun b o s n' c' e hb => absurd (hX b hb) (Nat.not_lt.2 (own_apt h b o s n' c' e).1)⟩
theorem del_snoc {α : Type} (n : Txt) (M : List (Txt × α)) {k : Nat} (hk : k < M.length) : delA n (M.take (k + 1)) = delA n (M.take k) ++ (if M[k].1 = n then [] else [M[k]]) := by
  rw [List.take_succ_eq_append_getElem hk]
  unfold delA
  rw [List.filter_append]
  congr 1
  by_cases h : M[k].1 = n
  · rw [if_pos h]; simp [h]
  · rw [if_neg h]; simp [h]
def DSetRet (X : Nat → Prop) (xb : Nat) (x : Sto) (F : List (Txt × List Nd)) (w : World) (e : Ending) (w' : World) : Prop :=
  e = .returned (.tuple #[]) ∧ DocI X w' xb x F ∧ But xb w w'
set_option maxRecDepth 100000 in
set_option maxHeartbeats 4000000 in
theorem dunset_any (xb : Nat) (x : Sto) (F : List (Txt × List Nd)) (n : Txt) (w : World) (h : DocI X w xb x F) (hl : x.vars.length ≤ 1000000) :
    Calls Try.prog 21 #[.pointer (some ⟨xb, 0, none⟩), .string ⟨n.toArray⟩] w (DSetRet X xb (unsetS x n) F w) := by
  obtain ⟨i0, hi, hz0, hz1, hz2⟩ := info_parts infoVal
  obtain ⟨vv, va, vf, hb, hvv, hva, _⟩ := h.blk
  cases hn : (n == star)
  · have hn' : n ≠ star := fun e => by rw [e] at hn; simp at hn
    have HI := Lib.hid h
    have HB := Lib.hid hb
    have HG := Lib.hid (show unsetS x n = ⟨delA n x.vars, x.args⟩ by unfold unsetS; rw [if_neg hn'])
    obtain ⟨A, c, vs, rfl, hr, ha, _⟩ := hvv.rd
    obtain ⟨M, hM⟩ : ∃ M, M = x.vars := ⟨_, rfl⟩
    have HMV := Lib.hid hM
    rw [← hM] at HG ha HB hl
    obtain ⟨m, hm⟩ : ∃ m, m = M.length := ⟨_, rfl⟩
    rw [← hm] at HB hl
    have HM := Lib.hid hm
    have HR := Lib.hid hr
    have HA := Lib.hid ha
    have hn2 : (n == [42]) = false := hn
    obtain ⟨Aa, ca, rfl⟩ := hva.form
    generalize x.args.length = na at *
    clear hb hvv hva hM hm hr ha hn hn' h
    go_enter Try.func21, Try.ntmps21
    go_wp2_with fail
    go_loopw [4, 5] (fun u j wr => ∃ (k q : Nat) (A' : Option Addr) (c' : Nat) (us : List (Txt × Value)), k ≤ m ∧ q ≤ k ∧ j = .int .i64 k ∧ u = .slice A' q c' ∧ wr.ownsRow w.heap.size 34 2 (.slice A' q c') q (us.flatMap valc) ∧ Hid (AllG (OT X) wr us (delA n (M.take k)) ∧ q = (delA n (M.take k)).length) ∧ Below w.heap.size w wr) (fun _ j _ => m - (intOf j).toNat)
    case atStart => exact ⟨0, 0, none, 0, [], Nat.zero_le _, Nat.le_refl _, rfl, rfl, World.ownsRow_nil _ _ _ _, Lib.hid ⟨AllG.nil _ _, rfl⟩, Below.refl _ _⟩
    case round =>
      obtain ⟨k, q, A', c', us, hk, hqk, rfl, rfl, hown, HAL, hbr⟩ := hrel
      have c0 := (HB.out.below hbr).cell 0
      simp only [List.getElem?_toArray, List.getElem?_cons_succ, List.getElem?_cons_zero] at c0
      by_cases hlt : k < m
      · have hkM : k < M.length := by rw [← HM.out]; exact hlt
        have hkv : k < vs.length := by rw [HA.out.1]; exact hkM
        obtain ⟨b, o, rfl, _, hc⟩ := (HR.out.below hbr) k hkv
        have q0 := hc 0 _ rfl
        have q1 := hc 1 _ rfl
        obtain ⟨e1, e2⟩ := HA.out.2 k hkv hkM
        rw [e1] at q0
        obtain ⟨u, hu⟩ : ∃ u, u = vs[k].2 := ⟨_, rfl⟩
        rw [← hu] at q1 e2
        have hds := del_snoc n M hkM
        obtain ⟨p, hp⟩ : ∃ p, p = M[k] := ⟨_, rfl⟩
        rw [← hp] at q0 e2 hds
        obtain ⟨Au, cu, rfl⟩ := e2.form
        simp only [Nat.add_zero] at q0
        have HE := Lib.hid (e2.below hbr)
        clear hc hu hp e1 e2 hkM hkv
        cases hpn : (p.1 == n)
        · rw [if_neg (fun e => by rw [e] at hpn; simp at hpn)] at hds
          have hpn2 : (p.1 != n) = true := by simp [bne, hpn]
          have HDS := Lib.hid hds
          obtain ⟨p1, p2⟩ := p
          generalize p2.length = pl at *
          clear hds
          go_wp2_with (at_builtin; refine wpList_push rfl _ _ _ rfl Try.underlying22 hi hz0 hz1 hz2 rfl (by decide) hown rfl rfl rfl (by simp [Value.oneCell']) (by omega) (by decide) hbr.size ?_; intro A4 c4 w6 hown6 hb6 hoo6)
          go_roundw
          case rel =>
            refine ⟨k + 1, q + 1, A4, c4, us ++ [(p1, .slice Au pl cu)], by omega, by omega, by go_num, rfl, by rw [List.flatMap_append]; simpa [valc] using hown6, Lib.hid ?_, hbr.trans hb6⟩
            rw [HDS.out]
            refine ⟨(HAL.out.1.mono fun v l h => OT.others h hoo6 (by decide)).snoc (HE.out.others hoo6 (by decide)), ?_⟩
            rw [List.length_append, ← HAL.out.2]
            rfl
          case measure => simp [intOf]; omega
        · rw [if_pos (beq_iff_eq.1 hpn), List.append_nil] at hds
          have hpn2 : (p.1 != n) = false := by simp [bne, hpn]
          rw [← hds] at HAL
          obtain ⟨p1, p2⟩ := p
          generalize p2.length = pl at *
          clear hds
          go_wp2_with fail
          go_roundw
          case rel => exact ⟨k + 1, q, A', c', us, by omega, by omega, by go_num, rfl, hown, HAL, hbr⟩
          case measure => simp [intOf]; omega
      · obtain rfl : k = m := by omega
        rw [List.take_of_length_le (by rw [← HM.out]; exact Nat.le_refl _)] at HAL
        have HS := Lib.hid ((HI.out.below hbr).setVars (OG.of_own hown HAL.out.2 HAL.out.1 HI.out.lo) (by
          have := HI.out.sv
          rw [← HMV.out] at this
          exact sort_del this))
        have f0 := (HB.out.below hbr).frozen 0
        clear HAL hown
        go_wp2_with fail
        go_returns
        exact ⟨rfl, by rw [HG.out]; exact HS.out.1, (But.of hbr).trans HS.out.2⟩
  · have HG := Lib.hid (show unsetS x n = ⟨x.vars, []⟩ by unfold unsetS; rw [if_pos (beq_iff_eq.1 hn)])
    have HS := Lib.hid (h.setArgs (OT.nil w))
    obtain rfl : n = star := beq_iff_eq.1 hn
    have c1 := hb.cell 1
    simp only [List.getElem?_toArray, List.getElem?_cons_succ, List.getElem?_cons_zero] at c1
    have f1 := hb.frozen 1
    have hn2 : (star == [42]) = true := hn
    clear hn hb hvv hva h
    go_enter Try.func21, Try.ntmps21
    go_wp2_with fail
    go_returns
    exact ⟨rfl, by rw [HG.out]; exact HS.out.1, HS.out.2⟩
end Go.Proofs.Ytcnkljbckpkgcaa
