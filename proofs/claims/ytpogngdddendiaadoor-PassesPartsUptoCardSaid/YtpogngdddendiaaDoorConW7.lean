/- The walk over consts.cat. Bounds on the lengths. -/
import Derived.Test.YtpogngdddendiaaDoorHM
set_option linter.unusedVariables false
set_option linter.unusedSimpArgs false
namespace Go.Proofs.YtpogngdddendiaaDoor
open Go.RowKit

set_option maxHeartbeats 2000000 in
theorem ccat_any (P : Tr → Prop) (hP : Opens P) (B : Nat) (A : Option Addr) (m c : Nat) (ks : List Tr) (w : World) (hB : B ≤ w.heap.size) (hz : sizeL ks ≤ 1000000) (hp : ∀ t ∈ ks, P t) (hrow : RowO w B A m c ks) :
    Calls Tryd.prog 132 #[.slice A m c] w (OwnRet B (flat (catT ks)) w) := by
  have SC := Lib.hid (cspread_any P hP B A m c ks w hB hz hp hrow)
  obtain ⟨_, _, s3⟩ := spr_spec hP (sizeL ks) ks (Nat.le_refl _) hp
  have HE := Lib.hid (show catT ks = catO (spr (sizeL ks) ks) from rfl)
  generalize spr (sizeL ks) ks = F at *
  have hF : sizeL F ≤ 1000000 := by omega
  clear hP hp hrow s3
  go_enter Tryd.func132, Tryd.ntmps132
  go_wp2_with fail
  refine SC.out.mono ?_
  rintro e w1 ⟨A1, M, c1, rfl, hrow, hb⟩
  have HR := Lib.hid hrow
  have hml := hrow.len
  have hB1 := Nat.le_trans hB hb.size
  by_cases h1 : M = 1
  · subst h1
    obtain ⟨x, rfl⟩ := List.length_eq_one_iff.1 hml.symm
    obtain ⟨b, o, Ak, nk, ck, rfl, -, cc, own⟩ := hrow.at_ (k := 0) (by simp)
    simp only [List.getElem_cons_zero, Nat.add_zero] at cc own
    have HO := Lib.hid own
    clear own hrow hml
    go_wp2_with fail
    go_ret
    exact ⟨Ak, nk, ck, rfl, by rw [HE.out]; exact HO.out, hb⟩
  · have hne : catO F = .mk 3 0 [] F := catO_two fun x hx => h1 (by rw [hml, hx]; rfl)
    have HN := Lib.hid hne
    have hq : ((M : Int) == 1) = false := by rw [beq_eq_false_iff_ne]; omega
    have NC := Lib.hid (newT_any 3 0 [] A1 c1 M F w1 hrow.kd.kd hml (by unfold sizeL at hF; omega))
    clear hrow hml hne h1
    go_wp2_with fail
    refine NC.out.mono ?_
    rintro e w2 ⟨A2, n2, c2, rfl, o2, hb2⟩
    have O2 := Lib.hid (o2.mono hB1)
    have hb12 := hb.trans (hb2.mono hb.size)
    clear o2
    go_wp2_with fail
    go_ret
    exact ⟨A2, n2, c2, rfl, by rw [HE.out, HN.out]; exact O2.out, hb12⟩
end Go.Proofs.YtpogngdddendiaaDoor
