/- The four passes on good trees, as functions of their numbers; the walk over passes.by. No condition. -/
import Derived.Test.YtpogngdddendiaaDoorHN
import Derived.Test.YtpogngdddendiaaDoorDeadW5
import Derived.Test.YtpogngdddendiaaDoorDeadN
import Derived.Test.YtpogngdddendiaaDoorHP
import Derived.Test.YtpogngdddendiaaDoorHH
import Derived.Test.YtpogngdddendiaaDoorInlW3
import Derived.Test.YtpogngdddendiaaDoorPasI
set_option linter.unusedVariables false
set_option linter.unusedSimpArgs false
namespace Go.Proofs.YtpogngdddendiaaDoor
open Go.RowKit

def fnP (p : Int) : Nat := if p = 1 then 82 else if p = 2 then 83 else if p = 3 then 84 else 85
def okP (p : Int) : Bool := p == 1 || p == 2 || p == 3 || p == 4
def passT (p : Int) (t : Tr) : Tr := if p = 1 then constT t else if p = 2 then wholeT t else if p = 3 then passI t else fuseT t
/-- A program that may be passed. -/
def GoodT (t : Tr) : Prop := okT 30 false t = true ∧ (flat t).length ≤ 1000
theorem passT_good {p : Int} {t : Tr} (h : GoodT t) : GoodT (passT p t) := by
  obtain ⟨h1, h2⟩ := h
  unfold passT
  split
  · obtain ⟨a, _, b⟩ := const_spec 30 false t h1
    exact ⟨a, by omega⟩
  · split
    · exact ⟨whole_ok 30 false t h1, Nat.le_trans (wholeT_ar t (arT_ok 30 false t h1)).2 h2⟩
    · split
      · exact ⟨ipass_ok h1, by have := ipass_size t; omega⟩
      · exact ⟨fuse_ok 30 false t h1, Nat.le_trans (fuseT_le t) h2⟩
theorem passT_any (p : Int) (hp : okP p = true) (v : Value) (t : Tr) (aN aT aM : Addr) (w : World) (h : GoodT t) (hv : SlRd w v (flat t)) (hE : ErrW w aN aT aM) :
    Calls Tryd.prog (fnP p) #[v] w (VRet (flat (passT p t)) w) := by
  obtain ⟨h1, h2⟩ := h
  have hnd := ok_nd ⟨30, false, h1⟩ (by omega)
  unfold okP at hp
  simp only [Bool.or_eq_true, beq_iff_eq] at hp
  rcases hp with ((rfl | rfl) | rfl) | rfl
  · exact cpass_tree v t aN aT aM w h1 (by omega) hv hE
  · have h := dpass_any v (flat t) aN aT aM w (by omega) hnd hv hE
    rw [dpassL_tree h1 (by omega)] at h
    exact h.mono fun _ _ h => h.v
  · have h := ipass_any v (flat t) aN aT aM w (by omega) hnd hv hE
    unfold ipassL at h
    rw [theT_tree h1 (by omega)] at h
    simp only at h
    rw [passB_eq h1] at h
    exact h.mono fun _ _ h => h.v
  · have h := fpass_any v (flat t) aN aT aM w (by omega) hnd hv hE
    rw [fpassL_tree h1 (by omega)] at h
    exact h.mono fun _ _ h => h.v
theorem fnP_enter (p : Int) : ∀ args W, (callFunc (fnP p) args).run Tryd.prog W = .ok (.enter (fnP p) args) W := by
  intro args W
  unfold fnP
  split
  · kernel_rfl
  · split
    · kernel_rfl
    · split
      · kernel_rfl
      · kernel_rfl
def byV (p : Int) : Value := if okP p = true then .func (.func (fnP p)) #[] #[] else .nilFunc
set_option maxRecDepth 100000 in
theorem by_any (p : Int) (w : World) : Calls Tryd.prog 49 #[.int .i64 p] w fun e w' => e = .returned (byV p) ∧ w' = w := by
  by_cases h1 : p = 1
  · subst h1
    go_enter Tryd.func49, Tryd.ntmps49
    go_wp2_with fail
    go_ret
    exact ⟨rfl, rfl⟩
  by_cases h2 : p = 2
  · subst h2
    go_enter Tryd.func49, Tryd.ntmps49
    go_wp2_with fail
    go_ret
    exact ⟨rfl, rfl⟩
  by_cases h3 : p = 3
  · subst h3
    go_enter Tryd.func49, Tryd.ntmps49
    go_wp2_with fail
    go_ret
    exact ⟨rfl, rfl⟩
  by_cases h4 : p = 4
  · subst h4
    go_enter Tryd.func49, Tryd.ntmps49
    go_wp2_with fail
    go_ret
    exact ⟨rfl, rfl⟩
  have e1 : (p == 1) = false := by simp [h1]
  have e2 : (p == 2) = false := by simp [h2]
  have e3 : (p == 3) = false := by simp [h3]
  have e4 : (p == 4) = false := by simp [h4]
  have HB := Lib.hid (show byV p = .nilFunc by unfold byV okP; rw [e1, e2, e3, e4]; rfl)
  clear h1 h2 h3 h4
  go_enter Tryd.func49, Tryd.ntmps49
  go_wp2_with fail
  go_ret
  exact ⟨by rw [HB.out]; rfl, rfl⟩
/-- One pass behind the other. -/
def foldP (l : List Int) (t : Tr) : Tr := l.foldl (fun t p => passT p t) t
theorem foldP_good : ∀ (l : List Int) (t : Tr), GoodT t → GoodT (foldP l t)
  | [], t, h => h
  | p :: l, t, h => foldP_good l (passT p t) (passT_good h)
theorem foldP_snoc (l : List Int) (p : Int) (t : Tr) : foldP (l ++ [p]) t = passT p (foldP l t) := by unfold foldP; rw [List.foldl_append]; rfl
theorem foldP_app (a b : List Int) (t : Tr) : foldP (a ++ b) t = foldP b (foldP a t) := by unfold foldP; rw [List.foldl_append]
end Go.Proofs.YtpogngdddendiaaDoor
