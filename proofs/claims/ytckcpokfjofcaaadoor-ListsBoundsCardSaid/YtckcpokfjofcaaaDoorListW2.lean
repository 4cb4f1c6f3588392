/- The walks over slices.Clone, lists.bound, some, Pick. Bounds on the lengths. -/
import Derived.Test.YtckcpokfjofcaaaDoorListW1
set_option linter.unusedVariables false
set_option linter.unusedSimpArgs false
namespace Go.Proofs.YtckcpokfjofcaaaDoor
open Go.RowKit

set_option maxHeartbeats 2000000 in
theorem clones_any (v : Value) (L : List (List UInt8)) (w : World) (h : SlS w v L) (hl : L.length ≤ 1000000) : Calls Tryd.prog 40 #[v] w (OwnRet L w) := by
  obtain ⟨A, c, rfl, hrd, hA, hc, hm⟩ := h
  obtain ⟨i0, hi, hz0, hz1, hz2⟩ := info_parts infoStr
  have hE := fun (W : World) (a : Option Addr) (n c : Nat) => Lib.run_eql_slice_nil (P := Tryd.prog) W 22 9 a n c 0 0 Tryd.underlying22
  cases A with
  | none =>
    obtain rfl := hA rfl
    obtain rfl : L = [] := List.eq_nil_of_length_eq_zero (by omega)
    go_enter Tryd.func40, Tryd.ntmps40
    go_wp2_with fail
    go_ret
    exact ⟨_, rfl, OwnS.nil _ _, Below.refl _ _⟩
  | some ad =>
    have hown0 : (w.alloc (.cells #[] 9)).ownsRow w.heap.size 9 1 (.slice (some ⟨w.heap.size, 0, none⟩) 0 0) 0 [] := World.ownsRow_lit w #[] 0 (Nat.le_refl _) (by decide) rfl
    have hrd0 := hrd.alloc (.cells #[] 9)
    have hb0 : Below w.heap.size w (w.alloc (.cells #[] 9)) := (Below.refl _ _).alloc (Nat.le_refl _) _
    have hH := Lib.hid hA
    clear hA
    go_enter Tryd.func40, Tryd.ntmps40
    go_wp2_with (at_builtin; refine wpList_pushAll (enc := strc) rfl _ _ _ rfl Tryd.underlying22 hi hz0 hz1 hz2 rfl (by decide) hown0 rfl rfl rfl hrd0 hH.out trivial strc_len strc_one (by omega) (by decide) hb0.size ?_; intro A2 c2 w2 ho2 hb2 hoo2)
    go_ret
    exact ⟨_, rfl, by rw [Nat.zero_add, List.nil_append] at ho2; exact ho2, hb0.trans hb2⟩

/-- lists.bound: the list again, in memory of its own, if it is not too big. -/
theorem bound_any (v : Value) (L : List (List UInt8)) (a : Addr) (w : World) (hv : SlS w v L) (hL : L.length ≤ 1000000) (hE : BigW w a) :
    Calls Tryd.prog 24 #[v] w (ListRet (boundL L) a w) := by
  have HF := Lib.hid (fits_any v L a w hv hL hE)
  have HC := Lib.hid (fun W (hb : Below w.heap.size w W) => clones_any v L W (hv.below hb) hL)
  unfold boundL
  cases hbb : bigL L with
  | true =>
    rw [hbb, if_pos rfl] at HF
    unfold bigV at HF
    clear hbb HC
    rw [if_pos rfl]
    go_enter Tryd.func24, Tryd.ntmps24
    go_wp2_with fail
    refine HF.out.mono ?_
    rintro e w1 ⟨rfl, hb1⟩
    go_wp2_with fail
    go_ret2
    exact ⟨rfl, hb1⟩
  | false =>
    rw [hbb, if_neg Bool.noConfusion] at HF
    rw [if_neg Bool.noConfusion]
    clear hbb
    go_enter Tryd.func24, Tryd.ntmps24
    go_wp2_with fail
    refine HF.out.mono ?_
    rintro e w1 ⟨rfl, hb1⟩
    go_wp2_with fail
    refine (HC.out _ hb1).mono ?_
    rintro e w2 ⟨v2, rfl, ho2, hb2⟩
    go_wp2_with fail
    go_ret2
    exact ⟨v2, rfl, ho2.mono hb1.size, hb1.trans (hb2.mono hb1.size)⟩

theorem SlS.one (w : World) (s : List UInt8) : SlS (w.alloc (.cells #[.string ⟨s.toArray⟩] 9)) (.slice (some ⟨w.heap.size, 0, none⟩) 1 1) [s] :=
  OwnS.rd (B := w.heap.size) (l := [s]) (World.ownsRow_lit w #[.string ⟨s.toArray⟩] 1 (Nat.le_refl _) (by decide) rfl)
def SlRet (l : List (List UInt8)) (w : World) (e : Ending) (w' : World) : Prop := ∃ v, e = .returned v ∧ SlS w' v l ∧ Below w.heap.size w w'
theorem some_any (v : Value) (L : List (List UInt8)) (w : World) (hv : SlS w v L) (hL : L.length ≤ 1000000) : Calls Tryd.prog 27 #[v] w (SlRet (someL L) w) := by
  unfold someL
  by_cases h0 : L.length = 0
  · rw [if_pos h0]
    obtain ⟨A, c, rfl, hrd, hA, hc, hm⟩ := hv
    rw [h0]
    clear hrd hc
    go_enter Tryd.func27, Tryd.ntmps27
    go_wp2_with fail
    go_ret
    exact ⟨_, rfl, SlS.one w [], (Below.refl _ _).alloc (Nat.le_refl _) _⟩
  · rw [if_neg h0]
    have HV := Lib.hid hv
    obtain ⟨A, c, rfl, hrd, hA, hc, hm⟩ := hv
    have hq : ((L.length : Int) == 0) = false := by rw [beq_eq_false_iff_ne]; omega
    generalize hml : L.length = m at *
    clear hrd hml h0
    go_enter Tryd.func27, Tryd.ntmps27
    go_wp2_with fail
    go_ret
    exact ⟨_, rfl, HV.out, Below.refl _ _⟩
def pickL (l : List (List UInt8)) (n : Int) : List (List UInt8) := if n < 1 ∨ (l.length : Int) < n then [] else [l.getD (n - 1).toNat []]
theorem pick_any (v : Value) (L : List (List UInt8)) (n : Int) (w : World) (hv : SlS w v L) (hL : L.length ≤ 1000000) (hn : -1000000 ≤ n ∧ n ≤ 1000000) : Calls Tryd.prog 15 #[v, .int .i64 n] w (OwnRet (pickL L n) w) := by
  obtain ⟨A, c, rfl, hrd, hA, hc, hm⟩ := hv
  unfold pickL
  by_cases h1 : n < 1
  · rw [if_pos (.inl h1)]
    clear hrd
    generalize L.length = m at *
    go_enter Tryd.func15, Tryd.ntmps15
    go_wp2_with fail
    go_ret
    exact ⟨_, rfl, OwnS.nil _ _, Below.refl _ _⟩
  by_cases h2 : (L.length : Int) < n
  · rw [if_pos (.inr h2)]
    clear hrd
    generalize L.length = m at *
    go_enter Tryd.func15, Tryd.ntmps15
    go_wp2_with fail
    go_ret
    exact ⟨_, rfl, OwnS.nil _ _, Below.refl _ _⟩
  rw [if_neg (by omega)]
  obtain ⟨k, rfl⟩ : ∃ k : Nat, n = (k : Int) + 1 := ⟨(n - 1).toNat, by omega⟩
  have hk : k < L.length := by omega
  obtain ⟨b, o, rfl⟩ := hrd.ats hk
  have c0 := hrd.strs hk
  have HG := Lib.hid (show L.getD ((k : Int) + 1 - 1).toNat [] = L[k] by rw [show ((k : Int) + 1 - 1).toNat = k by omega, List.getD_eq_getElem?_getD, List.getElem?_eq_getElem hk]; rfl)
  obtain ⟨x, hx⟩ : ∃ x, x = L[k] := ⟨_, rfl⟩
  rw [HG.out, ← hx]
  rw [← hx] at c0
  clear hrd HG hx
  generalize L.length = m at *
  go_enter Tryd.func15, Tryd.ntmps15
  go_wp2_with fail
  go_ret
  exact ⟨_, rfl, World.ownsRow_lit w #[.string ⟨x.toArray⟩] 1 (Nat.le_refl _) (by decide) rfl, (Below.refl _ _).alloc (Nat.le_refl _) _⟩
end Go.Proofs.YtckcpokfjofcaaaDoor
