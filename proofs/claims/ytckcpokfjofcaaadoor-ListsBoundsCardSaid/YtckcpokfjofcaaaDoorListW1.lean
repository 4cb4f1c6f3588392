/- The walks over lists.Fits, bound, some: which lists are too big; a list in memory of its own. Bounds on the lengths. -/
import Derived.Test.YtckcpokfjofcaaaDoorListM
import Derived.Test.YtckcpokfjofcaaaDoorPatF
import Derived.Deep.CutRange
import Derived.Outline
set_option linter.unusedVariables false
set_option linter.unusedSimpArgs false
namespace Go.Proofs.YtckcpokfjofcaaaDoor
open Go.RowKit

/-- What the error's variable holds. -/
def bigV (a : Addr) : Value := .iface 112 (.pointer (some a))
def BigW (w : World) (a : Addr) : Prop := w.cell? ⟨0, 0, none⟩ = some (bigV a)
theorem BigW.below {w w' : World} {a : Addr} (h : BigW w a) (hb : Below w.heap.size w w') : BigW w' a := cell_keep hb h
/-- A value that reads as a list of texts. -/
def SlS (w : World) (v : Value) (l : List (List UInt8)) : Prop := ∃ A c, v = .slice A l.length c ∧ RdL w 1 strc A l ∧ (A = none → c = 0) ∧ l.length ≤ c ∧ c ≤ maxLen
theorem SlS.below {w w' : World} {v : Value} {l : List (List UInt8)} (h : SlS w v l) (hb : Below w.heap.size w w') : SlS w' v l :=
  let ⟨A, c, h1, h2, h3⟩ := h
  ⟨A, c, h1, h2.below hb, h3⟩
/-- A list of the call's own. -/
def OwnS (w : World) (B : Nat) (v : Value) (l : List (List UInt8)) : Prop := w.ownsRow B 9 1 v l.length (l.flatMap strc)
theorem OwnS.rd {w : World} {B : Nat} {v : Value} {l : List (List UInt8)} (h : OwnS w B v l) : SlS w v l :=
  let ⟨A, c, h1, h2, h3, h4, h5⟩ := RdL.of_own strc_len h rfl
  ⟨A, c, h1, h4, h5, h2, h3⟩
theorem OwnS.below {w w' : World} {B : Nat} {v : Value} {l : List (List UInt8)} (h : OwnS w B v l) (hb : Below w.heap.size w w') : OwnS w' B v l := own_below h hb
theorem OwnS.mono {w : World} {B B' : Nat} {v : Value} {l : List (List UInt8)} (h : OwnS w B v l) (hb : B' ≤ B) : OwnS w B' v l := own_mono h hb
theorem OwnS.nil (w : World) (B : Nat) : OwnS w B (.slice none 0 0) [] := World.ownsRow_nil _ _ _ _
def OwnRet (l : List (List UInt8)) (w : World) (e : Ending) (w' : World) : Prop := ∃ v, e = .returned v ∧ OwnS w' w.heap.size v l ∧ Below w.heap.size w w'
/-- A list and no error, or the one error. -/
def ListRet (r : Option (List (List UInt8))) (a : Addr) (w : World) (e : Ending) (w' : World) : Prop := match r with
  | some l => ∃ v, e = .returned (.tuple #[v, .nilIface]) ∧ OwnS w' w.heap.size v l ∧ Below w.heap.size w w'
  | none => e = .returned (.tuple #[.slice none 0 0, bigV a]) ∧ Below w.heap.size w w'
theorem RdL.strs {w : World} {b o : Nat} {l : List (List UInt8)} (h : RdL w 1 strc (some ⟨b, o, none⟩) l) {k : Nat} (hk : k < l.length) : w.cell? ⟨b, o + k, none⟩ = some (.string ⟨l[k].toArray⟩) := by
  obtain ⟨b', o', he, _, hc⟩ := h k hk
  injection he with he
  injection he with h1 h2
  subst h1 h2
  have := hc 0 _ rfl
  rwa [Nat.mul_one, Nat.add_zero] at this
theorem RdL.ats {w : World} {A : Option Addr} {l : List (List UInt8)} (h : RdL w 1 strc A l) {k : Nat} (hk : k < l.length) : ∃ b o, A = some ⟨b, o, none⟩ :=
  let ⟨b, o, h1, _⟩ := h k hk
  ⟨b, o, h1⟩

theorem fits1_any (x : List UInt8) (w : World) : Calls Tryd.prog 26 #[.string ⟨x.toArray⟩] w fun e w' => e = .returned (.bool (longT x)) ∧ w' = w := by
  have hq : decide ((2000 : Int) < (x.length : Int)) = longT x := by unfold longT; exact decide_eq_decide.2 (by omega)
  generalize longT x = q at *
  go_enter Tryd.func26, Tryd.ntmps26
  go_wp2_with fail
  go_ret
  exact ⟨rfl, rfl⟩

def IdxRet (b : Bool) (w : World) (e : Ending) (w' : World) : Prop := ∃ r : Int, e = .returned (.int .i64 r) ∧ decide (0 ≤ r) = b ∧ Below w.heap.size w w'
set_option maxHeartbeats 2000000 in
theorem idxfits_any (A : Option Addr) (c : Nat) (L : List (List UInt8)) (w : World) (hrd : RdL w 1 strc A L) (hL : L.length ≤ 1000000) :
    Calls Tryd.prog 41 #[.slice A L.length c, .func (.func 26) #[] #[]] w (IdxRet (L.any longT) w) := by
  obtain ⟨m, hm⟩ : ∃ m, m = L.length := ⟨_, rfl⟩
  rw [← hm] at hL ⊢
  have HM := Lib.hid hm
  clear hm
  go_enter Tryd.func41, Tryd.ntmps41
  go_wp2_with fail
  go_loopw [8] (fun i wr => ∃ k : Nat, k ≤ m ∧ i = .int .i64 k ∧ Below w.heap.size w wr ∧ Hid ((L.take k).any longT = false)) (fun i _ => m - (intOf i).toNat)
  case atStart => exact ⟨0, Nat.zero_le _, rfl, Below.refl _ _, Lib.hid (by simp)⟩
  case round =>
    obtain ⟨k, hk, rfl, hbr, H⟩ := hrel
    by_cases hlt : k < m
    · have hkL : k < L.length := by rw [← HM.out]; exact hlt
      obtain ⟨b, o, rfl⟩ := hrd.ats hkL
      have c0 := (hrd.below hbr).strs hkL
      have HT := Lib.hid (List.take_succ_eq_append_getElem hkL)
      have HX := Lib.hid (List.getElem_mem hkL)
      obtain ⟨x, hxe⟩ : ∃ x, x = L[k] := ⟨_, rfl⟩
      rw [← hxe] at c0 HT HX
      clear hxe hkL
      have HC := Lib.hid (fits1_any x wr)
      obtain ⟨q, hq⟩ : ∃ q, longT x = q := ⟨_, rfl⟩
      rw [hq] at HC
      have HQ := Lib.hid hq
      clear hq
      cases q
      · have HN := Lib.hid (show (L.take (k + 1)).any longT = false by rw [HT.out, List.any_append, H.out, Bool.false_or, List.any_cons, List.any_nil, Bool.or_false]; exact HQ.out)
        go_wp2_with fail
        refine HC.out.mono ?_
        rintro e w1 ⟨rfl, rfl⟩
        clear c0
        go_wp2_with fail
        go_roundw
        case rel => exact ⟨k + 1, by omega, by go_num, hbr, HN⟩
        case measure => simp [intOf]; omega
      · have HT2 := Lib.hid (show L.any longT = true from List.any_eq_true.2 ⟨x, HX.out, HQ.out⟩)
        go_wp2_with fail
        refine HC.out.mono ?_
        rintro e w1 ⟨rfl, rfl⟩
        clear c0
        go_wp2_with fail
        go_ret
        exact ⟨k, rfl, by rw [HT2.out]; exact decide_eq_true (by omega), hbr⟩
    · obtain rfl : m = k := by omega
      have HF := Lib.hid (show L.any longT = false by
        have h := H.out
        rwa [List.take_of_length_le (by rw [← HM.out]; exact Nat.le_refl _)] at h)
      clear H
      go_wp2_with fail
      go_ret
      exact ⟨-1, rfl, by rw [HF.out]; rfl, hbr⟩
theorem confits_any (A : Option Addr) (c : Nat) (L : List (List UInt8)) (w : World) (hrd : RdL w 1 strc A L) (hL : L.length ≤ 1000000) :
    Calls Tryd.prog 25 #[.slice A L.length c, .func (.func 26) #[] #[]] w (Ret w (.bool (L.any longT))) := by
  have HC := Lib.hid (idxfits_any A c L w hrd hL)
  generalize (L.any longT) = q at *
  generalize L.length = m at *
  go_enter Tryd.func25, Tryd.ntmps25
  go_wp2_with fail
  refine HC.out.mono ?_
  rintro e w1 ⟨r, rfl, hr, hb1⟩
  go_wp2_with fail
  go_ret
  exact ⟨rfl, hb1⟩
/-- lists.Fits says which lists are too big. -/
theorem fits_any (v : Value) (L : List (List UInt8)) (a : Addr) (w : World) (hv : SlS w v L) (hL : L.length ≤ 1000000) (hE : BigW w a) :
    Calls Tryd.prog 12 #[v] w (Ret w (if bigL L then bigV a else .nilIface)) := by
  obtain ⟨A, c, rfl, hrd, _⟩ := hv
  have HC := Lib.hid (confits_any A c L w hrd hL)
  have HB := Lib.hid (show bigL L = (decide (100 < L.length) || L.any longT) from rfl)
  unfold BigW bigV at hE
  unfold bigV
  generalize L.any longT = q at *
  generalize bigL L = bb at *
  generalize L.length = m at *
  clear hrd
  by_cases h100 : 100 < m
  · obtain rfl : bb = true := by rw [HB.out, decide_eq_true h100]; rfl
    rw [if_pos rfl]
    go_enter Tryd.func12, Tryd.ntmps12
    go_wp2_with fail
    go_ret
    exact ⟨rfl, Below.refl _ _⟩
  · have hbq : bb = q := by rw [HB.out, decide_eq_false h100]; rfl
    subst hbq
    cases bb
    · rw [if_neg Bool.noConfusion]
      go_enter Tryd.func12, Tryd.ntmps12
      go_wp2_with fail
      refine HC.out.mono ?_
      rintro e w1 ⟨rfl, hb1⟩
      go_wp2_with fail
      go_ret
      exact ⟨rfl, hb1⟩
    · rw [if_pos rfl]
      go_enter Tryd.func12, Tryd.ntmps12
      go_wp2_with fail
      refine HC.out.mono ?_
      rintro e w1 ⟨rfl, hb1⟩
      have hE1 := cell_keep hb1 hE
      go_wp2_with fail
      go_ret
      exact ⟨rfl, hb1⟩
end Go.Proofs.YtckcpokfjofcaaaDoor
