/- The walks over lists.Fits, bound, some: which lists are too big; a list in memory of its own. Bounds on the lengths. -/
import Derived.Test.YtlhpflilpdceiaaGreatDoorJA
import Derived.Test.YtlhpflilpdceiaaGreatDoorPatF
import Derived.Deep.CutRange
import Derived.Outline
set_option linter.unusedVariables false
set_option linter.unusedSimpArgs false
namespace Go.Proofs.YtlhpflilpdceiaaGreatDoor
open Go.RowKit

/-- What the error's variable holds. -/
def bigV (a : Addr) : Value := .iface 160 (.pointer (some a))
def BigW (w : World) (a : Addr) : Prop := w.cell? ⟨0, 0, none⟩ = some (bigV a)
theorem BigW.below {w w' : World} {a : Addr} (h : BigW w a) (hb : Below w.heap.size w w') : BigW w' a := cell_keep hb h
/-- A value that reads as a list of texts. -/
def SlS (w : World) (v : Value) (l : List (List UInt8)) : Prop := ∃ A c, v = .slice A l.length c ∧ RdL w 1 strc A l ∧ (A = none → c = 0) ∧ l.length ≤ c ∧ c ≤ maxLen
theorem SlS.below {w w' : World} {v : Value} {l : List (List UInt8)} (h : SlS w v l) (hb : Below w.heap.size w w') : SlS w' v l :=
  let ⟨A, c, h1, h2, h3⟩ := h
  ⟨A, c, h1, h2.below hb, h3⟩
/-- A list of the call's own. -/
def OwnS (w : World) (B : Nat) (v : Value) (l : List (List UInt8)) : Prop := w.ownsRow B 9 1 v l.length (l.flatMap strc)
theorem OwnS.rd {w : World} {B : Nat} {v : Value} {l : List (List UInt8)} (h : OwnS w B v l) : SlS w v l :=
  let ⟨A, c, h1, h2, h3, h4, h5⟩ := RdL.of_own strc_len h rfl
  ⟨A, c, h1, h4, h5, h2, h3⟩
theorem OwnS.below {w w' : World} {B : Nat} {v : Value} {l : List (List UInt8)} (h : OwnS w B v l) (hb : Below w.heap.size w w') : OwnS w' B v l := own_below h hb
theorem OwnS.mono {w : World} {B B' : Nat} {v : Value} {l : List (List UInt8)} (h : OwnS w B v l) (hb : B' ≤ B) : OwnS w B' v l := own_mono h hb
theorem OwnS.nil (w : World) (B : Nat) : OwnS w B (.slice none 0 0) [] := World.ownsRow_nil _ _ _ _
def OwnRet (l : List (List UInt8)) (w : World) (e : Ending) (w' : World) : Prop := ∃ v, e = .returned v ∧ OwnS w' w.heap.size v l ∧ Below w.heap.size w w'
/-- A list and no error, or the one error. -/
def ListRet (r : Option (List (List UInt8))) (a : Addr) (w : World) (e : Ending) (w' : World) : Prop := match r with
  | some l => ∃ v, e = .returned (.tuple #[v, .nilIface]) ∧ OwnS w' w.heap.size v l ∧ Below w.heap.size w w'
  | none => e = .returned (.tuple #[.slice none 0 0, bigV a]) ∧ Below w.heap.size w w'
theorem RdL.strs {w : World} {b o : Nat} {l : List (List UInt8)} (h : RdL w 1 strc (some ⟨b, o, none⟩) l) {k : Nat} (hk : k < l.length) : w.cell? ⟨b, o + k, none⟩ = some (.string ⟨l[k].toArray⟩) := by
  obtain ⟨b', o', he, _, hc⟩ := h k hk
  injection he with he
  injection he with h1 h2
  subst h1 h2
  have := hc 0 _ rfl
  rwa [Nat.mul_one, Nat.add_zero] at this
theorem RdL.ats {w : World} {A : Option Addr} {l : List (List UInt8)} (h : RdL w 1 strc A l) {k : Nat} (hk : k < l.length) : ∃ b o, A = some ⟨b, o, none⟩ :=
  let ⟨b, o, h1, _⟩ := h k hk
  ⟨b, o, h1⟩

theorem fits1_any (x : List UInt8) (w : World) : Calls Tryz.prog 54 #[.string ⟨x.toArray⟩] w fun e w' => e = .returned (.bool (longT x)) ∧ w' = w := by
  have hq : decide ((2000 : Int) < (x.length : Int)) = longT x := by unfold longT; exact decide_eq_decide.2 (by omega)
  generalize longT x = q at *
  go_enter Tryz.func54, Tryz.ntmps54
  go_wp2_with fail
  go_ret
  exact ⟨rfl, rfl⟩

def IdxRet (b : Bool) (w : World) (e : Ending) (w' : World) : Prop := ∃ r : Int, e = .returned (.int .i64 r) ∧ decide (0 ≤ r) = b ∧ Below w.heap.size w w'
set_option maxHeartbeats 2000000 in
theorem idxfits_any (A : Option Addr) (c : Nat) (L : List (List UInt8)) (w : World) (hrd : RdL w 1 strc A L) (hL : L.length ≤ 1000000) :
    Calls Tryz.prog 84 #[.slice A L.length c, .func (.func 54) #[] #[]] w (IdxRet (L.any longT) w) := by
  obtain ⟨m, hm⟩ : ∃ m, m = L.length := ⟨_, rfl⟩
  rw [← hm] at hL ⊢
  have HM := Lib.hid hm
  clear hm
  go_enter Tryz.func84, Tryz.ntmps84
  go_wp2_with fail
  go_loopw [8] (fun i wr => ∃ k : Nat, k ≤ m ∧ i = .int .i64 k ∧ Below w.heap.size w wr ∧ Hid ((L.take k).any longT = false)) (fun i _ => m - (intOf i).toNat)
  case atStart => exact ⟨0, Nat.zero_le _, rfl, Below.refl _ _, Lib.hid (by simp)⟩
  case round =>
    obtain ⟨k, hk, rfl, hbr, H⟩ := hrel
    by_cases hlt : k < m
    · have hkL : k < L.length := by rw [← HM.out]; exact hlt
      obtain ⟨b, o, rfl⟩ := hrd.ats hkL
      have c0 := (hrd.below hbr).strs hkL
      have HT := Lib.hid (List.take_succ_eq_append_getElem hkL)
      have HX := Lib.hid (List.getElem_mem hkL)
      obtain ⟨x, hxe⟩ : ∃ x, x = L[k] := ⟨_, rfl⟩
      rw [← hxe] at c0 HT HX
      clear hxe hkL
      have HC := Lib.hid (fits1_any x wr)
      obtain ⟨q, hq⟩ : ∃ q, longT x = q := ⟨_, rfl⟩
      rw [hq] at HC
      have HQ := Lib.hid hq
      clear hq
      cases q
      · have HN := Lib.hid (show (L.take (k + 1)).any longT = false by rw [HT.out, List.any_append, H.out, Bool.false_or, List.any_cons, List.any_nil, Bool.or_false]; exact HQ.out)
        go_wp2_with fail
        refine HC.out.mono ?_
        rintro e w1 ⟨rfl, rfl⟩
        clear c0
        go_wp2_with fail
        go_roundw
        case rel => exact ⟨k + 1, by omega, by go_num, hbr, HN⟩
        case measure => simp [intOf]; omega
      · have HT2 := Lib.hid (show L.any longT = true from List.any_eq_true.2 ⟨x, HX.out, HQ.out⟩)
        go_wp2_with fail
        refine HC.out.mono ?_
        rintro e w1 ⟨rfl, rfl⟩
        clear c0
        go_wp2_with fail
        go_ret
        exact ⟨k, rfl, by rw [HT2.out]; exact decide_eq_true (by omega), hbr⟩
    · obtain rfl : m = k := by omega
      have HF := Lib.hid (show L.any longT = false by
        have h := H.out
        rwa [List.take_of_length_le (by rw [← HM.out]; exact Nat.le_refl _)] at h)
      clear H
      go_wp2_with fail
      go_ret
      exact ⟨-1, rfl, by rw [HF.out]; rfl, hbr⟩
theorem confits_any (A : Option Addr) (c : Nat) (L : List (List UInt8)) (w : World) (hrd : RdL w 1 strc A L) (hL : L.length ≤ 1000000) :
    Calls Tryz.prog 53 #[.slice A L.length c, .func (.func 54) #[] #[]] w (Ret w (.bool (L.any longT))) := by
  have HC := Lib.hid (idxfits_any A c L w hrd hL)
  generalize (L.any longT) = q at *
  generalize L.length = m at *
  go_enter Tryz.func53, Tryz.ntmps53
  go_wp2_with fail
  refine HC.out.mono ?_
  rintro e w1 ⟨r, rfl, hr, hb1⟩
  go_wp2_with fail
  go_ret
  exact ⟨rfl, hb1⟩
/-- lists.Fits says which lists are too big. -/
theorem fits_any (v : Value) (L : List (List UInt8)) (a : Addr) (w : World) (hv : SlS w v L) (hL : L.length ≤ 1000000) (hE : BigW w a) :
    Calls Tryz.prog 27 #[v] w (Ret w (if bigL L then bigV a else .nilIface)) := by
  obtain ⟨A, c, rfl, hrd, _⟩ := hv
  have HC := Lib.hid (confits_any A c L w hrd hL)
  have HB := Lib.hid (show bigL L = (decide (100 < L.length) || L.any longT) from rfl)
  unfold BigW bigV at hE
  unfold bigV
  generalize L.any longT = q at *
  generalize bigL L = bb at *
  generalize L.length = m at *
  clear hrd
  by_cases h100 : 100 < m
  · obtain rfl : bb = true := by rw [HB.out, decide_eq_true h100]; rfl
    rw [if_pos rfl]
    go_enter Tryz.func27, Tryz.ntmps27
    go_wp2_with fail
    go_ret
    exact ⟨rfl, Below.refl _ _⟩
  · have hbq : bb = q := by rw [HB.out, decide_eq_false h100]; rfl
    subst hbq
    cases bb
    · rw [if_neg Bool.noConfusion]
      go_enter Tryz.func27, Tryz.ntmps27
      go_wp2_with fail
      refine HC.out.mono ?_
      rintro e w1 ⟨rfl, hb1⟩
      go_wp2_with fail
      go_ret
      exact ⟨rfl, hb1⟩
    · rw [if_pos rfl]
      go_enter Tryz.func27, Tryz.ntmps27
      go_wp2_with fail
      refine HC.out.mono ?_
      rintro e w1 ⟨rfl, hb1⟩
      have hE1 := cell_keep hb1 hE
      go_wp2_with fail
      go_ret
      exact ⟨rfl, hb1⟩
end Go.Proofs.YtlhpflilpdceiaaGreatDoor

/- The walks over slices.Clone, lists.bound, some, Pick. Bounds on the lengths. -/
set_option linter.unusedVariables false
set_option linter.unusedSimpArgs false
namespace Go.Proofs.YtlhpflilpdceiaaGreatDoor
open Go.RowKit

set_option maxHeartbeats 2000000 in
theorem clones_any (v : Value) (L : List (List UInt8)) (w : World) (h : SlS w v L) (hl : L.length ≤ 1000000) : Calls Tryz.prog 55 #[v] w (OwnRet L w) := by
  obtain ⟨A, c, rfl, hrd, hA, hc, hm⟩ := h
  obtain ⟨i0, hi, hz0, hz1, hz2⟩ := info_parts infoStr
  have hE := fun (W : World) (a : Option Addr) (n c : Nat) => Lib.run_eql_slice_nil (P := Tryz.prog) W 23 9 a n c 0 0 Tryz.underlying23
  cases A with
  | none =>
    obtain rfl := hA rfl
    obtain rfl : L = [] := List.eq_nil_of_length_eq_zero (by omega)
    go_enter Tryz.func55, Tryz.ntmps55
    go_wp2_with fail
    go_ret
    exact ⟨_, rfl, OwnS.nil _ _, Below.refl _ _⟩
  | some ad =>
    have hown0 : (w.alloc (.cells #[] 9)).ownsRow w.heap.size 9 1 (.slice (some ⟨w.heap.size, 0, none⟩) 0 0) 0 [] := World.ownsRow_lit w #[] 0 (Nat.le_refl _) (by decide) rfl
    have hrd0 := hrd.alloc (.cells #[] 9)
    have hb0 : Below w.heap.size w (w.alloc (.cells #[] 9)) := (Below.refl _ _).alloc (Nat.le_refl _) _
    have hH := Lib.hid hA
    clear hA
    go_enter Tryz.func55, Tryz.ntmps55
    go_wp2_with (at_builtin; refine wpList_pushAll (enc := strc) rfl _ _ _ rfl Tryz.underlying23 hi hz0 hz1 hz2 rfl (by decide) hown0 rfl rfl rfl hrd0 hH.out trivial strc_len strc_one (by omega) (by decide) hb0.size ?_; intro A2 c2 w2 ho2 hb2 hoo2)
    go_ret
    exact ⟨_, rfl, by rw [Nat.zero_add, List.nil_append] at ho2; exact ho2, hb0.trans hb2⟩

/-- lists.bound: the list again, in memory of its own, if it is not too big. -/
theorem bound_any (v : Value) (L : List (List UInt8)) (a : Addr) (w : World) (hv : SlS w v L) (hL : L.length ≤ 1000000) (hE : BigW w a) :
    Calls Tryz.prog 29 #[v] w (ListRet (boundL L) a w) := by
  have HF := Lib.hid (fits_any v L a w hv hL hE)
  have HC := Lib.hid (fun W (hb : Below w.heap.size w W) => clones_any v L W (hv.below hb) hL)
  unfold boundL
  cases hbb : bigL L with
  | true =>
    rw [hbb, if_pos rfl] at HF
    unfold bigV at HF
    clear hbb HC
    rw [if_pos rfl]
    go_enter Tryz.func29, Tryz.ntmps29
    go_wp2_with fail
    refine HF.out.mono ?_
    rintro e w1 ⟨rfl, hb1⟩
    go_wp2_with fail
    go_ret2
    exact ⟨rfl, hb1⟩
  | false =>
    rw [hbb, if_neg Bool.noConfusion] at HF
    rw [if_neg Bool.noConfusion]
    clear hbb
    go_enter Tryz.func29, Tryz.ntmps29
    go_wp2_with fail
    refine HF.out.mono ?_
    rintro e w1 ⟨rfl, hb1⟩
    go_wp2_with fail
    refine (HC.out _ hb1).mono ?_
    rintro e w2 ⟨v2, rfl, ho2, hb2⟩
    go_wp2_with fail
    go_ret2
    exact ⟨v2, rfl, ho2.mono hb1.size, hb1.trans (hb2.mono hb1.size)⟩

theorem SlS.one (w : World) (s : List UInt8) : SlS (w.alloc (.cells #[.string ⟨s.toArray⟩] 9)) (.slice (some ⟨w.heap.size, 0, none⟩) 1 1) [s] :=
  OwnS.rd (B := w.heap.size) (l := [s]) (World.ownsRow_lit w #[.string ⟨s.toArray⟩] 1 (Nat.le_refl _) (by decide) rfl)
def SlRet (l : List (List UInt8)) (w : World) (e : Ending) (w' : World) : Prop := ∃ v, e = .returned v ∧ SlS w' v l ∧ Below w.heap.size w w'
theorem some_any (v : Value) (L : List (List UInt8)) (w : World) (hv : SlS w v L) (hL : L.length ≤ 1000000) : Calls Tryz.prog 31 #[v] w (SlRet (someL L) w) := by
  unfold someL
  by_cases h0 : L.length = 0
  · rw [if_pos h0]
    obtain ⟨A, c, rfl, hrd, hA, hc, hm⟩ := hv
    rw [h0]
    clear hrd hc
    go_enter Tryz.func31, Tryz.ntmps31
    go_wp2_with fail
    go_ret
    exact ⟨_, rfl, SlS.one w [], (Below.refl _ _).alloc (Nat.le_refl _) _⟩
  · rw [if_neg h0]
    have HV := Lib.hid hv
    obtain ⟨A, c, rfl, hrd, hA, hc, hm⟩ := hv
    have hq : ((L.length : Int) == 0) = false := by rw [beq_eq_false_iff_ne]; omega
    generalize hml : L.length = m at *
    clear hrd hml h0
    go_enter Tryz.func31, Tryz.ntmps31
    go_wp2_with fail
    go_ret
    exact ⟨_, rfl, HV.out, Below.refl _ _⟩
def pickL (l : List (List UInt8)) (n : Int) : List (List UInt8) := if n < 1 ∨ (l.length : Int) < n then [] else [l.getD (n - 1).toNat []]
theorem pick_any (v : Value) (L : List (List UInt8)) (n : Int) (w : World) (hv : SlS w v L) (hL : L.length ≤ 1000000) (hn : -1000000 ≤ n ∧ n ≤ 1000000) : Calls Tryz.prog 23 #[v, .int .i64 n] w (OwnRet (pickL L n) w) := by
  obtain ⟨A, c, rfl, hrd, hA, hc, hm⟩ := hv
  unfold pickL
  by_cases h1 : n < 1
  · rw [if_pos (.inl h1)]
    clear hrd
    generalize L.length = m at *
    go_enter Tryz.func23, Tryz.ntmps23
    go_wp2_with fail
    go_ret
    exact ⟨_, rfl, OwnS.nil _ _, Below.refl _ _⟩
  by_cases h2 : (L.length : Int) < n
  · rw [if_pos (.inr h2)]
    clear hrd
    generalize L.length = m at *
    go_enter Tryz.func23, Tryz.ntmps23
    go_wp2_with fail
    go_ret
    exact ⟨_, rfl, OwnS.nil _ _, Below.refl _ _⟩
  rw [if_neg (by omega)]
  obtain ⟨k, rfl⟩ : ∃ k : Nat, n = (k : Int) + 1 := ⟨(n - 1).toNat, by omega⟩
  have hk : k < L.length := by omega
  obtain ⟨b, o, rfl⟩ := hrd.ats hk
  have c0 := hrd.strs hk
  have HG := Lib.hid (show L.getD ((k : Int) + 1 - 1).toNat [] = L[k] by rw [show ((k : Int) + 1 - 1).toNat = k by omega, List.getD_eq_getElem?_getD, List.getElem?_eq_getElem hk]; rfl)
  obtain ⟨x, hx⟩ : ∃ x, x = L[k] := ⟨_, rfl⟩
  rw [HG.out, ← hx]
  rw [← hx] at c0
  clear hrd HG hx
  generalize L.length = m at *
  go_enter Tryz.func23, Tryz.ntmps23
  go_wp2_with fail
  go_ret
  exact ⟨_, rfl, World.ownsRow_lit w #[.string ⟨x.toArray⟩] 1 (Nat.le_refl _) (by decide) rfl, (Below.refl _ _).alloc (Nat.le_refl _) _⟩
end Go.Proofs.YtlhpflilpdceiaaGreatDoor
