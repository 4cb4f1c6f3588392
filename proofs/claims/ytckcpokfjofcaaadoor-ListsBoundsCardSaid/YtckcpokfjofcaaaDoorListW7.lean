/- The walks over lists.Split, Plain, Esc, Glob. Bounds on the lengths. -/
import Derived.Test.YtckcpokfjofcaaaDoorListW6
import Derived.Test.YtckcpokfjofcaaaDoorFilesL
import Derived.Test.YtckcpokfjofcaaaDoorPartsL
import Derived.Shelf.Abstract
set_option linter.unusedVariables false
set_option linter.unusedSimpArgs false
namespace Go.Proofs.YtckcpokfjofcaaaDoor
open Go.RowKit

theorem StrsRet.sl {l : List (List UInt8)} {w : World} {e : Ending} {w' : World} (h : StrsRet l w e w') : SlRet l w e w' := by
  obtain ⟨A, c, rfl, ho, hb⟩ := h
  exact ⟨_, rfl, OwnS.rd (B := w.heap.size) ho, hb⟩
theorem lists_of_each {r : Option (List (List UInt8))} {a : Addr} {w : World} {e : Ending} {w' : World} (h : ListRet r a w e w') : ListRet r a w e w' := h

def Thin (l : List (List UInt8)) : Prop := l.length ≤ 1000000 ∧ ∀ s ∈ l, s.length ≤ 100000
theorem lsplit_any (v : Value) (L : List (List UInt8)) (a : Addr) (w : World) (hv : SlS w v L) (hL : Thin L) (hE : BigW w a) : Calls Tryd.prog 18 #[v] w (ListRet (eachL splitL L) a w) := by
  have CE := Lib.hid (each_any 33 #[] splitL v L a w hv hL.1 (fun s hs W _ => (split_any ⟨s.toArray⟩ W (by have := hL.2 s hs; simp [ByteArray.size]; omega)).mono fun _ _ h => StrsRet.sl h) (fun s hs => by have := hL.2 s hs; have := split_len s; omega) hE (enters_of Tryd.func33 (by kernel_rfl) rfl))
  generalize eachL splitL L = R at *
  clear hv hL
  go_enter Tryd.func18, Tryd.ntmps18
  go_wp2_with fail
  refine CE.out.mono ?_
  cases R with
  | none =>
    unfold ListRet bigV
    rintro e w2 ⟨rfl, hb2⟩
    go_wp2_with fail
    go_ret2
    exact ⟨rfl, hb2⟩
  | some r =>
    unfold ListRet
    rintro e w2 ⟨v2, rfl, ho2, hb2⟩
    go_wp2_with fail
    go_ret2
    exact ⟨v2, rfl, ho2, hb2⟩

theorem one1_any (g : Nat) (f : List UInt8 → List UInt8) (s : List UInt8) (B : Nat) (w : World) (hc : w.cell? ⟨B, 0, none⟩ = some (.func (.func g) #[] #[])) (hg : Calls Tryd.prog g #[.string ⟨s.toArray⟩] w (Ret w (.string ⟨(f s).toArray⟩))) (hent : ∀ args W, (callFunc g args).run Tryd.prog W = .ok (.enter g args) W) :
    Calls Tryd.prog 45 #[.string ⟨s.toArray⟩, .pointer (some ⟨B, 0, none⟩)] w (SlRet [f s] w) := by
  have CG := Lib.hid hg
  clear hg
  generalize f s = t at *
  go_enter Tryd.func45, Tryd.ntmps45
  go_wp2_with fail
  refine CG.out.mono ?_
  rintro e w2 ⟨rfl, hb2⟩
  go_wp2_with fail
  go_ret
  exact ⟨_, rfl, SlS.one w2 t, hb2.alloc hb2.size _⟩
theorem one_any (g : Nat) (w : World) : Calls Tryd.prog 31 #[.func (.func g) #[] #[]] w fun e w' => e = .returned (.func (.func 45) #[] #[.pointer (some ⟨w.heap.size, 0, none⟩)]) ∧ w' = w.alloc (.cells #[.func (.func g) #[] #[]] 47) := by
  go_enter Tryd.func31, Tryd.ntmps31
  go_wp2_with fail
  go_ret
  exact ⟨rfl, rfl⟩
theorem each1_any (B g : Nat) (f : List UInt8 → List UInt8) (v : Value) (L : List (List UInt8)) (a : Addr) (w : World) (hv : SlS w v L) (hL : Thin L) (hE : BigW w a) (hc : w.cell? ⟨B, 0, none⟩ = some (.func (.func g) #[] #[]))
    (hg : ∀ s ∈ L, ∀ W, Calls Tryd.prog g #[.string ⟨s.toArray⟩] W (Ret W (.string ⟨(f s).toArray⟩))) (hent : ∀ args W, (callFunc g args).run Tryd.prog W = .ok (.enter g args) W) :
    Calls Tryd.prog 30 #[v, .func (.func 45) #[] #[.pointer (some ⟨B, 0, none⟩)]] w (ListRet (eachL (fun s => [f s]) L) a w) :=
  each_any 45 #[.pointer (some ⟨B, 0, none⟩)] (fun s => [f s]) v L a w hv hL.1 (fun s hs W hb => one1_any g f s B W (cell_keep hb hc) (hg s hs W) hent) (fun s hs => by show 1 ≤ 1000000; decide) hE (enters_of Tryd.func45 (by kernel_rfl) rfl)
theorem lplain_any (v : Value) (L : List (List UInt8)) (a : Addr) (w : World) (hv : SlS w v L) (hL : Thin L) (hE : BigW w a) : Calls Tryd.prog 19 #[v] w (ListRet (eachL (fun s => [plainL s]) L) a w) := by
  obtain ⟨W0, hW0⟩ : ∃ W0, W0 = w.alloc (.cells #[.func (.func 34) #[] #[]] 47) := ⟨_, rfl⟩
  have hb0 : Below w.heap.size w W0 := by rw [hW0]; exact (Below.refl _ _).alloc (Nat.le_refl _) _
  have hB0 : W0.cell? ⟨w.heap.size, 0, none⟩ = some (.func (.func 34) #[] #[]) := by rw [hW0, cell_of_row _ _ _ _ _ _ (heap_alloc_new w _)]; rfl
  have CO := Lib.hid (one_any 34 w)
  rw [← hW0] at CO
  have CE := Lib.hid (each1_any w.heap.size 34 plainL v L a W0 (hv.below hb0) hL (hE.below hb0) hB0 (fun s hs W => plain_any ⟨s.toArray⟩ W (by have := hL.2 s hs; simp [ByteArray.size]; omega)) (enters_of Tryd.func34 (by kernel_rfl) rfl))
  generalize eachL (fun s => [plainL s]) L = R at *
  clear hv hL hB0 hE hW0
  go_enter Tryd.func19, Tryd.ntmps19
  go_wp2_with fail
  refine CO.out.mono ?_
  rintro e w1 ⟨rfl, rfl⟩
  go_wp2_with fail
  refine CE.out.mono ?_
  cases R with
  | none =>
    unfold ListRet bigV
    rintro e w2 ⟨rfl, hb2⟩
    go_wp2_with fail
    go_ret2
    exact ⟨rfl, hb0.trans (hb2.mono hb0.size)⟩
  | some r =>
    unfold ListRet
    rintro e w2 ⟨v2, rfl, ho2, hb2⟩
    go_wp2_with fail
    go_ret2
    exact ⟨v2, rfl, ho2.mono hb0.size, hb0.trans (hb2.mono hb0.size)⟩
theorem lesc_any (v : Value) (L : List (List UInt8)) (a : Addr) (w : World) (hv : SlS w v L) (hL : Thin L) (hE : BigW w a) : Calls Tryd.prog 17 #[v] w (ListRet (eachL (fun s => [escapeL s]) L) a w) := by
  obtain ⟨W0, hW0⟩ : ∃ W0, W0 = w.alloc (.cells #[.func (.func 32) #[] #[]] 47) := ⟨_, rfl⟩
  have hb0 : Below w.heap.size w W0 := by rw [hW0]; exact (Below.refl _ _).alloc (Nat.le_refl _) _
  have hB0 : W0.cell? ⟨w.heap.size, 0, none⟩ = some (.func (.func 32) #[] #[]) := by rw [hW0, cell_of_row _ _ _ _ _ _ (heap_alloc_new w _)]; rfl
  have CO := Lib.hid (one_any 32 w)
  rw [← hW0] at CO
  have CE := Lib.hid (each1_any w.heap.size 32 escapeL v L a W0 (hv.below hb0) hL (hE.below hb0) hB0 (fun s hs W => escape_any ⟨s.toArray⟩ W (by have := hL.2 s hs; simp [ByteArray.size]; omega)) (enters_of Tryd.func32 (by kernel_rfl) rfl))
  generalize eachL (fun s => [escapeL s]) L = R at *
  clear hv hL hB0 hE hW0
  go_enter Tryd.func17, Tryd.ntmps17
  go_wp2_with fail
  refine CO.out.mono ?_
  rintro e w1 ⟨rfl, rfl⟩
  go_wp2_with fail
  refine CE.out.mono ?_
  cases R with
  | none =>
    unfold ListRet bigV
    rintro e w2 ⟨rfl, hb2⟩
    go_wp2_with fail
    go_ret2
    exact ⟨rfl, hb0.trans (hb2.mono hb0.size)⟩
  | some r =>
    unfold ListRet
    rintro e w2 ⟨v2, rfl, ho2, hb2⟩
    go_wp2_with fail
    go_ret2
    exact ⟨v2, rfl, ho2.mono hb0.size, hb0.trans (hb2.mono hb0.size)⟩
end Go.Proofs.YtckcpokfjofcaaaDoor
