/- The walks over lists.Split, Plain, Esc, Glob. Bounds on the lengths. -/
import Derived.Test.YtlhpflilpdceiaaGreatDoorJF
import Derived.Test.YtlhpflilpdceiaaGreatDoorJG
import Derived.Test.YtlhpflilpdceiaaGreatDoorJB
import Derived.Shelf.Abstract
set_option linter.unusedVariables false
set_option linter.unusedSimpArgs false
namespace Go.Proofs.YtlhpflilpdceiaaGreatDoor
open Go.RowKit

theorem StrsRet.sl {l : List (List UInt8)} {w : World} {e : Ending} {w' : World} (h : StrsRet l w e w') : SlRet l w e w' := by
  obtain ⟨A, c, rfl, ho, hb⟩ := h
  exact ⟨_, rfl, OwnS.rd (B := w.heap.size) ho, hb⟩
theorem lists_of_each {r : Option (List (List UInt8))} {a : Addr} {w : World} {e : Ending} {w' : World} (h : ListRet r a w e w') : ListRet r a w e w' := h

def Thin (l : List (List UInt8)) : Prop := l.length ≤ 1000000 ∧ ∀ s ∈ l, s.length ≤ 100000
theorem lsplit_any (v : Value) (L : List (List UInt8)) (a : Addr) (w : World) (hv : SlS w v L) (hL : Thin L) (hE : BigW w a) : Calls Tryz.prog 11 #[v] w (ListRet (eachL splitL L) a w) := by
  have CE := Lib.hid (each_any 37 #[] splitL v L a w hv hL.1 (fun s hs W _ => (split_any ⟨s.toArray⟩ W (by have := hL.2 s hs; simp [ByteArray.size]; omega)).mono fun _ _ h => StrsRet.sl h) (fun s hs => by have := hL.2 s hs; have := split_len s; omega) hE (enters_of Tryz.func37 (by kernel_rfl) rfl))
  generalize eachL splitL L = R at *
  clear hv hL
  go_enter Tryz.func11, Tryz.ntmps11
  go_wp2_with fail
  refine CE.out.mono ?_
  cases R with
  | none =>
    unfold ListRet bigV
    rintro e w2 ⟨rfl, hb2⟩
    go_wp2_with fail
    go_ret2
    exact ⟨rfl, hb2⟩
  | some r =>
    unfold ListRet
    rintro e w2 ⟨v2, rfl, ho2, hb2⟩
    go_wp2_with fail
    go_ret2
    exact ⟨v2, rfl, ho2, hb2⟩

theorem one1_any (g : Nat) (f : List UInt8 → List UInt8) (s : List UInt8) (B : Nat) (w : World) (hc : w.cell? ⟨B, 0, none⟩ = some (.func (.func g) #[] #[])) (hg : Calls Tryz.prog g #[.string ⟨s.toArray⟩] w (Ret w (.string ⟨(f s).toArray⟩))) (hent : ∀ args W, (callFunc g args).run Tryz.prog W = .ok (.enter g args) W) :
    Calls Tryz.prog 61 #[.string ⟨s.toArray⟩, .pointer (some ⟨B, 0, none⟩)] w (SlRet [f s] w) := by
  have CG := Lib.hid hg
  clear hg
  generalize f s = t at *
  go_enter Tryz.func61, Tryz.ntmps61
  go_wp2_with fail
  refine CG.out.mono ?_
  rintro e w2 ⟨rfl, hb2⟩
  go_wp2_with fail
  go_ret
  exact ⟨_, rfl, SlS.one w2 t, hb2.alloc hb2.size _⟩
theorem one_any (g : Nat) (w : World) : Calls Tryz.prog 39 #[.func (.func g) #[] #[]] w fun e w' => e = .returned (.func (.func 61) #[] #[.pointer (some ⟨w.heap.size, 0, none⟩)]) ∧ w' = w.alloc (.cells #[.func (.func g) #[] #[]] 42) := by
  go_enter Tryz.func39, Tryz.ntmps39
  go_wp2_with fail
  go_ret
  exact ⟨rfl, rfl⟩
theorem each1_any (B g : Nat) (f : List UInt8 → List UInt8) (v : Value) (L : List (List UInt8)) (a : Addr) (w : World) (hv : SlS w v L) (hL : Thin L) (hE : BigW w a) (hc : w.cell? ⟨B, 0, none⟩ = some (.func (.func g) #[] #[]))
    (hg : ∀ s ∈ L, ∀ W, Calls Tryz.prog g #[.string ⟨s.toArray⟩] W (Ret W (.string ⟨(f s).toArray⟩))) (hent : ∀ args W, (callFunc g args).run Tryz.prog W = .ok (.enter g args) W) :
    Calls Tryz.prog 36 #[v, .func (.func 61) #[] #[.pointer (some ⟨B, 0, none⟩)]] w (ListRet (eachL (fun s => [f s]) L) a w) :=
  each_any 61 #[.pointer (some ⟨B, 0, none⟩)] (fun s => [f s]) v L a w hv hL.1 (fun s hs W hb => one1_any g f s B W (cell_keep hb hc) (hg s hs W) hent) (fun s hs => by show 1 ≤ 1000000; decide) hE (enters_of Tryz.func61 (by kernel_rfl) rfl)
theorem lplain_any (v : Value) (L : List (List UInt8)) (a : Addr) (w : World) (hv : SlS w v L) (hL : Thin L) (hE : BigW w a) : Calls Tryz.prog 13 #[v] w (ListRet (eachL (fun s => [plainL s]) L) a w) := by
  obtain ⟨W0, hW0⟩ : ∃ W0, W0 = w.alloc (.cells #[.func (.func 40) #[] #[]] 42) := ⟨_, rfl⟩
  have hb0 : Below w.heap.size w W0 := by rw [hW0]; exact (Below.refl _ _).alloc (Nat.le_refl _) _
  have hB0 : W0.cell? ⟨w.heap.size, 0, none⟩ = some (.func (.func 40) #[] #[]) := by rw [hW0, cell_of_row _ _ _ _ _ _ (heap_alloc_new w _)]; rfl
  have CO := Lib.hid (one_any 40 w)
  rw [← hW0] at CO
  have CE := Lib.hid (each1_any w.heap.size 40 plainL v L a W0 (hv.below hb0) hL (hE.below hb0) hB0 (fun s hs W => plain_any ⟨s.toArray⟩ W (by have := hL.2 s hs; simp [ByteArray.size]; omega)) (enters_of Tryz.func40 (by kernel_rfl) rfl))
  generalize eachL (fun s => [plainL s]) L = R at *
  clear hv hL hB0 hE hW0
  go_enter Tryz.func13, Tryz.ntmps13
  go_wp2_with fail
  refine CO.out.mono ?_
  rintro e w1 ⟨rfl, rfl⟩
  go_wp2_with fail
  refine CE.out.mono ?_
  cases R with
  | none =>
    unfold ListRet bigV
    rintro e w2 ⟨rfl, hb2⟩
    go_wp2_with fail
    go_ret2
    exact ⟨rfl, hb0.trans (hb2.mono hb0.size)⟩
  | some r =>
    unfold ListRet
    rintro e w2 ⟨v2, rfl, ho2, hb2⟩
    go_wp2_with fail
    go_ret2
    exact ⟨v2, rfl, ho2.mono hb0.size, hb0.trans (hb2.mono hb0.size)⟩
theorem lesc_any (v : Value) (L : List (List UInt8)) (a : Addr) (w : World) (hv : SlS w v L) (hL : Thin L) (hE : BigW w a) : Calls Tryz.prog 15 #[v] w (ListRet (eachL (fun s => [escapeL s]) L) a w) := by
  obtain ⟨W0, hW0⟩ : ∃ W0, W0 = w.alloc (.cells #[.func (.func 43) #[] #[]] 42) := ⟨_, rfl⟩
  have hb0 : Below w.heap.size w W0 := by rw [hW0]; exact (Below.refl _ _).alloc (Nat.le_refl _) _
  have hB0 : W0.cell? ⟨w.heap.size, 0, none⟩ = some (.func (.func 43) #[] #[]) := by rw [hW0, cell_of_row _ _ _ _ _ _ (heap_alloc_new w _)]; rfl
  have CO := Lib.hid (one_any 43 w)
  rw [← hW0] at CO
  have CE := Lib.hid (each1_any w.heap.size 43 escapeL v L a W0 (hv.below hb0) hL (hE.below hb0) hB0 (fun s hs W => escape_any ⟨s.toArray⟩ W (by have := hL.2 s hs; simp [ByteArray.size]; omega)) (enters_of Tryz.func43 (by kernel_rfl) rfl))
  generalize eachL (fun s => [escapeL s]) L = R at *
  clear hv hL hB0 hE hW0
  go_enter Tryz.func15, Tryz.ntmps15
  go_wp2_with fail
  refine CO.out.mono ?_
  rintro e w1 ⟨rfl, rfl⟩
  go_wp2_with fail
  refine CE.out.mono ?_
  cases R with
  | none =>
    unfold ListRet bigV
    rintro e w2 ⟨rfl, hb2⟩
    go_wp2_with fail
    go_ret2
    exact ⟨rfl, hb0.trans (hb2.mono hb0.size)⟩
  | some r =>
    unfold ListRet
    rintro e w2 ⟨v2, rfl, ho2, hb2⟩
    go_wp2_with fail
    go_ret2
    exact ⟨v2, rfl, ho2.mono hb0.size, hb0.trans (hb2.mono hb0.size)⟩
end Go.Proofs.YtlhpflilpdceiaaGreatDoor

/- The walk over lists.Glob. Bounds on the lengths. -/
set_option linter.unusedVariables false
set_option linter.unusedSimpArgs false
namespace Go.Proofs.YtlhpflilpdceiaaGreatDoor
open Go.RowKit

def globOf (N : List (List UInt8)) (s : List UInt8) : List (List UInt8) := if liveL s then (if 0 < (filesL s N).length then filesL s N else [plainL s]) else [plainL s]
set_option maxRecDepth 100000 in
theorem glob1_any (s : List UInt8) (B : Nat) (vN : Value) (N : List (List UInt8)) (w : World) (hc : w.cell? ⟨B, 0, none⟩ = some vN) (hv : SlS w vN N) (hN : Sml N) (hs : s.length ≤ 1000000) :
    Calls Tryz.prog 45 #[.string ⟨s.toArray⟩, .pointer (some ⟨B, 0, none⟩)] w (SlRet (globOf N s) w) := by
  obtain ⟨A, c, rfl, hrd, _⟩ := hv
  have HG := Lib.hid (show globOf N s = if liveL s then (if 0 < (filesL s N).length then filesL s N else [plainL s]) else [plainL s] from rfl)
  have C1 := Lib.hid (show Calls Tryz.prog 46 #[.string ⟨s.toArray⟩] w (Ret w (.bool (liveL s))) from live_any ⟨s.toArray⟩ w (by simp [ByteArray.size]; omega))
  have C2 := Lib.hid (fun W (hb : Below w.heap.size w W) => files_any s A c N W (hrd.below hb) hs hN.1 hN.2)
  have C3 := Lib.hid (show ∀ W, Calls Tryz.prog 40 #[.string ⟨s.toArray⟩] W (Ret W (.string ⟨(plainL s).toArray⟩)) from fun W => plain_any ⟨s.toArray⟩ W (by simp [ByteArray.size]; omega))
  generalize globOf N s = G at *
  generalize liveL s = q at *
  generalize filesL s N = F at *
  generalize plainL s = p at *
  obtain ⟨m, hm⟩ : ∃ m, m = F.length := ⟨_, rfl⟩
  have HM := Lib.hid hm
  generalize N.length = n at *
  clear hm hrd hN
  cases q with
  | false =>
    have HH := Lib.hid (show G = [p] from HG.out)
    clear HG
    go_enter Tryz.func45, Tryz.ntmps45
    go_wp2_with fail
    refine C1.out.mono ?_
    rintro e w1 ⟨rfl, hb1⟩
    go_wp2_with fail
    refine (C3.out _).mono ?_
    rintro e w2 ⟨rfl, hb2⟩
    replace hb1 := hb1.trans (hb2.mono hb1.size)
    go_wp2_with fail
    go_ret
    rw [HH.out]
    exact ⟨_, rfl, SlS.one w2 p, hb1.alloc hb1.size _⟩
  | true =>
    have HG2 := Lib.hid (show G = if 0 < F.length then F else [p] by rw [HG.out]; rfl)
    clear HG
    go_enter Tryz.func45, Tryz.ntmps45
    go_wp2_with fail
    refine C1.out.mono ?_
    rintro e w1 ⟨rfl, hb1⟩
    have c1 := cell_keep hb1 hc
    go_wp2_with fail
    refine (C2.out _ hb1).mono ?_
    rintro e w2 ⟨A2, c2, rfl, ho2, hb2⟩
    have HO := Lib.hid (OwnS.rd (B := w1.heap.size) ho2)
    rw [← HM.out] at HO ⊢
    replace hb1 := hb1.trans (hb2.mono hb1.size)
    clear ho2 hb2 c1
    by_cases h0 : 0 < m
    · have HH := Lib.hid (show G = F by rw [HG2.out, if_pos (by rw [← HM.out]; exact h0)])
      go_wp2_with fail
      go_ret
      rw [HH.out]
      exact ⟨_, rfl, HO.out, hb1⟩
    · have HH := Lib.hid (show G = [p] by rw [HG2.out, if_neg (by rw [← HM.out]; exact h0)])
      go_wp2_with fail
      refine (C3.out _).mono ?_
      rintro e w3 ⟨rfl, hb3⟩
      replace hb1 := hb1.trans (hb3.mono hb1.size)
      go_wp2_with fail
      go_ret
      rw [HH.out]
      exact ⟨_, rfl, SlS.one w3 p, hb1.alloc hb1.size _⟩
theorem globOf_len (N : List (List UInt8)) (s : List UInt8) (h : N.length ≤ 1000000) : (globOf N s).length ≤ 1000000 := by
  have := files_len s N
  unfold globOf
  repeat' split
  all_goals first | (show 1 ≤ 1000000; decide) | omega
theorem lglob_any (v vN : Value) (L N : List (List UInt8)) (a : Addr) (w : World) (hv : SlS w v L) (hL : Thin L) (hn : SlS w vN N) (hN : Sml N) (hE : BigW w a) : Calls Tryz.prog 18 #[v, vN] w (ListRet (eachL (globOf N) L) a w) := by
  obtain ⟨W0, hW0⟩ : ∃ W0, W0 = w.alloc (.cells #[vN] 23) := ⟨_, rfl⟩
  have hb0 : Below w.heap.size w W0 := by rw [hW0]; exact (Below.refl _ _).alloc (Nat.le_refl _) _
  have hB0 : W0.cell? ⟨w.heap.size, 0, none⟩ = some vN := by rw [hW0, cell_of_row _ _ _ _ _ _ (heap_alloc_new w _)]; rfl
  have CE := Lib.hid (each_any 45 #[.pointer (some ⟨w.heap.size, 0, none⟩)] (globOf N) v L a W0 (hv.below hb0) hL.1 (fun s hs W hb => glob1_any s w.heap.size vN N W (cell_keep hb hB0) ((hn.below hb0).below hb) hN (by have := hL.2 s hs; omega)) (fun s hs => globOf_len N s hN.1) (hE.below hb0) (enters_of Tryz.func45 (by kernel_rfl) rfl))
  generalize eachL (globOf N) L = R at *
  obtain ⟨A, c, rfl, _⟩ := hn
  clear hv hL hB0 hE hN
  go_enter Tryz.func18, Tryz.ntmps18
  go_wp2_with fail
  rw [← hW0]
  clear hW0
  refine CE.out.mono ?_
  cases R with
  | none =>
    unfold ListRet bigV
    rintro e w2 ⟨rfl, hb2⟩
    go_wp2_with fail
    go_ret2
    exact ⟨rfl, hb0.trans (hb2.mono hb0.size)⟩
  | some r =>
    unfold ListRet
    rintro e w2 ⟨v2, rfl, ho2, hb2⟩
    go_wp2_with fail
    go_ret2
    exact ⟨v2, rfl, ho2.mono hb0.size, hb0.trans (hb2.mono hb0.size)⟩
end Go.Proofs.YtlhpflilpdceiaaGreatDoor
