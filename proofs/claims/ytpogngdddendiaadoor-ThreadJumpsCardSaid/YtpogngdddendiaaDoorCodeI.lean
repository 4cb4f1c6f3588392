/- The walks over text.Number, code.line, code.together, code.Print. Bounds on the lengths. -/
import Derived.Test.YtpogngdddendiaaDoorGH
import Derived.Test.YtpogngdddendiaaDoorWrStr
import Derived.Lib.ItoaLen
import Derived.Lib.AppendIntMem
import Derived.Lib.LaidTab
import Derived.Outline
set_option linter.unusedVariables false
set_option linter.unusedSimpArgs false
namespace Go.Proofs.YtpogngdddendiaaDoor
open Go.RowKit

def PowI (w : World) : Prop := Lib.TabIs Tryd.prog w "internal/strconv.uint64pow10" .u64 Lib.pow10Tab
theorem tab_belowI {P : Program} {w w' : World} {nm : String} {k : IntKind} {zs : List Int} (h : Lib.TabIs P w nm k zs) (hb : Below w.heap.size w w') : Lib.TabIs P w' nm k zs := by
  unfold Lib.TabIs World.var? at *
  cases hg : P.globalNamed nm with
  | none => simp [hg] at h
  | some g =>
    simp only [hg] at h ⊢
    simp only [Option.bind_some] at h ⊢
    cases hx : w.heap[g]? with
    | none => rw [hx] at h; cases h
    | some o =>
      rw [hb.block g (Array.getElem?_eq_some_iff.1 hx).1]
      exact h
theorem PowI.below {w w' : World} (h : PowI w) (hb : Below w.heap.size w w') : PowI w' := tab_belowI h hb
def InI (n : Int) : Prop := -9223372036854775808 ≤ n ∧ n ≤ 9223372036854775807
theorem numberI_any (n : Int) (hn : InI n) (w : World) (hp : PowI w) : Calls Tryd.prog 87 #[.int .i64 n] w (Ret w (.string ⟨(Lib.itoa n).toArray⟩)) := by
  have HC := Lib.hid (Tryd.strconv_Itoa n hn.1 hn.2 w hp)
  generalize Lib.itoa n = d at *
  clear hp
  go_enter Tryd.func87, Tryd.ntmps87
  go_wp2_with fail
  refine HC.out.mono ?_
  rintro e w1 ⟨rfl, k, os, hw⟩
  have hb : Below w.heap.size w w1 := by rw [hw]; exact Lib.below_grow w.heap.size w (Nat.le_refl _) k os
  clear hw
  go_wp2_with fail
  go_ret
  exact ⟨rfl, hb⟩
theorem ba_appI (x y : List UInt8) : (⟨x.toArray⟩ ++ ⟨y.toArray⟩ : ByteArray) = ⟨(x ++ y).toArray⟩ := by apply ByteArray.ext; simp
def nameL (op : Int) : List UInt8 := (nameO op).data.toList
theorem nameO_L (op : Int) : nameO op = ⟨(nameL op).toArray⟩ := by unfold nameL; simp
/-- An instruction's line, its text quoted so. -/
def lineL (q : List UInt8) (x : Ins) : List UInt8 := nameL x.op ++ [32] ++ Lib.itoa x.a ++ [32] ++ Lib.itoa x.b ++ (if x.s = [] then [] else [32] ++ q) ++ [10]
theorem name_len (op : Int) : (nameL op).length ≤ 20 := by
  unfold nameL nameO
  split
  · rename_i h
    unfold inOp at h
    simp only [Bool.and_eq_true, decide_eq_true_eq] at h
    have hc : ∀ k : Fin 42, (nameS k.val).data.toList.length ≤ 20 := by decide
    have := hc ⟨op.toNat, by omega⟩
    exact this
  · simp
set_option maxRecDepth 100000 in
set_option maxHeartbeats 4000000 in
theorem line_any (x : Ins) (q : List UInt8) (w : World) (ha : InI x.a) (hb : InI x.b) (hq : q.length ≤ 20000) (hp : PowI w) (hQ : x.s ≠ [] → ∀ W, Below w.heap.size w W → Calls Tryd.prog 140 #[.string ⟨x.s.toArray⟩] W (Ret W (.string ⟨q.toArray⟩))) :
    Calls Tryd.prog 116 #[.agg #[.int .i64 x.op, .int .i64 x.a, .int .i64 x.b, .string ⟨x.s.toArray⟩]] w (Ret w (.string ⟨(lineL q x).toArray⟩)) := by
  obtain ⟨W0, hW0⟩ : ∃ W0, W0 = w.alloc (.cells #[.int .i64 x.op, .int .i64 x.a, .int .i64 x.b, .string ⟨x.s.toArray⟩] 36) := ⟨_, rfl⟩
  have hb0 : Below w.heap.size w W0 := by rw [hW0]; exact (Below.refl _ _).alloc (Nat.le_refl _) _
  have hB0 : Blk W0 w.heap.size 36 #[.int .i64 x.op, .int .i64 x.a, .int .i64 x.b, .string ⟨x.s.toArray⟩] := by rw [hW0]; exact Blk.new w _ _
  have z0 := hB0.cell 0
  have z1 := hB0.cell 1
  have z2 := hB0.cell 2
  have z3 := hB0.cell 3
  simp only [List.getElem?_toArray, List.getElem?_cons_zero, List.getElem?_cons_succ] at z0 z1 z2 z3
  have hpw := hp.below hb0
  have NC := Lib.hid (fun W (hW : Below W0.heap.size W0 W) => by have := name_all x.op W; rw [nameO_L] at this; exact this)
  have AC := Lib.hid (fun W (hW : Below W0.heap.size W0 W) => numberI_any x.a ha W (hpw.below hW))
  have BC := Lib.hid (fun W (hW : Below W0.heap.size W0 W) => numberI_any x.b hb W (hpw.below hW))
  have QC := Lib.hid hQ
  have HB0 := Lib.hid hb0
  have h1 := name_len x.op
  have h2 := Lib.itoa_length_le x.a ha.1 ha.2
  have h3 := Lib.itoa_length_le x.b hb.1 hb.2
  have HLL := Lib.hid (show lineL q x = nameL x.op ++ [32] ++ Lib.itoa x.a ++ [32] ++ Lib.itoa x.b ++ (if x.s = [] then [] else [32] ++ q) ++ [10] from rfl)
  generalize nameL x.op = nm at *
  generalize Lib.itoa x.a = la at *
  generalize Lib.itoa x.b = lb at *
  have A1 := Lib.hid (show (⟨nm.toArray⟩ ++ ⟨#[32]⟩ ++ ⟨la.toArray⟩ ++ ⟨#[32]⟩ ++ ⟨lb.toArray⟩ : ByteArray) = ⟨(nm ++ [32] ++ la ++ [32] ++ lb).toArray⟩ by apply ByteArray.ext; simp)
  have hlen : (nm ++ [32] ++ la ++ [32] ++ lb).length ≤ 100 := by simp; omega
  obtain ⟨l1, hl1⟩ : ∃ l, nm.length = l := ⟨_, rfl⟩
  obtain ⟨l2, hl2⟩ : ∃ l, la.length = l := ⟨_, rfl⟩
  obtain ⟨l3, hl3⟩ : ∃ l, lb.length = l := ⟨_, rfl⟩
  obtain ⟨l4, hl4⟩ : ∃ l, q.length = l := ⟨_, rfl⟩
  have HLE := Lib.hid (And.intro h1 (And.intro h2 (And.intro h3 (And.intro hq hlen))))
  rw [hl1] at h1
  rw [hl2] at h2
  rw [hl3] at h3
  rw [hl4] at hq
  clear hb0 hB0 hpw hp hQ ha hb hlen
  go_enter Tryd.func116, Tryd.ntmps116
  go_upto_region 1 with (fail)
  rw [← hW0]
  clear hW0
  have y0 := Later.cell z0
  have y1 := Later.cell z1
  have y2 := Later.cell z2
  refine wp_region_eq (by kernel_rfl) (by kernel_rfl) ?_
  apply EqGo.run
  focus
    kernel_rfl
  focus
    intro x K hK
    go_wp2_with fail
    first | exact hK x (Below.refl _ _) | exact Below.refl _ _
  simp only [Act.put, List.setIfInBounds_toArray, List.set_cons_succ, List.set_cons_zero]
  apply EqGo.run
  focus
    kernel_rfl
  focus
    intro x K hK
    go_wp2_with fail
    first | exact hK x (Below.refl _ _) | exact Below.refl _ _
  simp only [Act.put, List.setIfInBounds_toArray, List.set_cons_succ, List.set_cons_zero]
  apply EqGo.run
  focus
    kernel_rfl
  focus
    intro x K hK
    go_wp2_with fail
    refine (Hid.out NC x.val x.below).mono ?_
    rintro e x' ⟨rfl, hb'⟩
    exact hK ⟨x', x.below.trans (hb'.mono x.below.size)⟩ hb'
  simp only [Act.put, List.setIfInBounds_toArray, List.set_cons_succ, List.set_cons_zero]
  apply EqGo.run
  focus
    kernel_rfl
  focus
    intro x K hK
    go_wp2_with fail
    first | exact hK x (Below.refl _ _) | exact Below.refl _ _
  simp only [Act.put, List.setIfInBounds_toArray, List.set_cons_succ, List.set_cons_zero]
  apply EqGo.run
  focus
    kernel_rfl
  focus
    intro x K hK
    go_wp2_with fail
    first | exact hK x (Below.refl _ _) | exact Below.refl _ _
  simp only [Act.put, List.setIfInBounds_toArray, List.set_cons_succ, List.set_cons_zero]
  apply EqGo.run
  focus
    kernel_rfl
  focus
    intro x K hK
    go_wp2_with fail
    first | exact hK x (Below.refl _ _) | exact Below.refl _ _
  simp only [Act.put, List.setIfInBounds_toArray, List.set_cons_succ, List.set_cons_zero]
  apply EqGo.run
  focus
    kernel_rfl
  focus
    intro x K hK
    go_wp2_with fail
    refine (Hid.out AC x.val x.below).mono ?_
    rintro e x' ⟨rfl, hb'⟩
    exact hK ⟨x', x.below.trans (hb'.mono x.below.size)⟩ hb'
  simp only [Act.put, List.setIfInBounds_toArray, List.set_cons_succ, List.set_cons_zero]
  apply EqGo.run
  focus
    kernel_rfl
  focus
    intro x K hK
    go_wp2_with fail
    first | exact hK x (Below.refl _ _) | exact Below.refl _ _
  simp only [Act.put, List.setIfInBounds_toArray, List.set_cons_succ, List.set_cons_zero]
  apply EqGo.run
  focus
    kernel_rfl
  focus
    intro x K hK
    go_wp2_with fail
    first | exact hK x (Below.refl _ _) | exact Below.refl _ _
  simp only [Act.put, List.setIfInBounds_toArray, List.set_cons_succ, List.set_cons_zero]
  apply EqGo.run
  focus
    kernel_rfl
  focus
    intro x K hK
    go_wp2_with fail
    first | exact hK x (Below.refl _ _) | exact Below.refl _ _
  simp only [Act.put, List.setIfInBounds_toArray, List.set_cons_succ, List.set_cons_zero]
  apply EqGo.run
  focus
    kernel_rfl
  focus
    intro x K hK
    go_wp2_with fail
    first | exact hK x (Below.refl _ _) | exact Below.refl _ _
  simp only [Act.put, List.setIfInBounds_toArray, List.set_cons_succ, List.set_cons_zero]
  apply EqGo.run
  focus
    kernel_rfl
  focus
    intro x K hK
    go_wp2_with fail
    refine (Hid.out BC x.val x.below).mono ?_
    rintro e x' ⟨rfl, hb'⟩
    exact hK ⟨x', x.below.trans (hb'.mono x.below.size)⟩ hb'
  simp only [Act.put, List.setIfInBounds_toArray, List.set_cons_succ, List.set_cons_zero]
  apply EqGo.run
  focus
    kernel_rfl
  focus
    intro x K hK
    go_wp2_with fail
    first | exact hK x (Below.refl _ _) | exact Below.refl _ _
  simp only [Act.put, List.setIfInBounds_toArray, List.set_cons_succ, List.set_cons_zero]
  apply EqGo.run
  focus
    kernel_rfl
  focus
    intro x K hK
    go_wp2_with fail
    first | exact hK x (Below.refl _ _) | exact Below.refl _ _
  simp only [Act.put, List.setIfInBounds_toArray, List.set_cons_succ, List.set_cons_zero]
  intro y
  have y3 := cell_keep y.below z3
  have HY := Lib.hid (HB0.out.trans (y.below.mono HB0.out.size))
  generalize y.val = wy at *
  rw [A1.out]
  have HL5 := HLE.out.2.2.2.2
  obtain ⟨N, hN⟩ : ∃ N, (nm ++ [32] ++ la ++ [32] ++ lb) = N := ⟨_, rfl⟩
  rw [hN] at HL5 ⊢
  have HNN := Lib.hid hN
  obtain ⟨l5, hl5⟩ : ∃ l, N.length = l := ⟨_, rfl⟩
  rw [hl5] at HL5
  clear hN y0 y1 y2 NC AC BC z0 z1 z2 hl1 hl2 hl3 h1 h2 h3
  obtain ⟨s, hs⟩ : ∃ s, x.s = s := ⟨_, rfl⟩
  rw [hs] at y3 QC HLL
  clear hs z3
  cases s with
  | nil =>
    have HE := Lib.hid (show (⟨N.toArray⟩ ++ ⟨#[10]⟩ : ByteArray) = ⟨(lineL q x).toArray⟩ by rw [HLL.out, HNN.out]; apply ByteArray.ext; simp)
    clear QC
    go_wp2_with fail
    go_ret
    exact ⟨by rw [← HE.out]; rfl, HY.out⟩
  | cons c s =>
    have QC2 := Lib.hid (fun W hW => QC.out (by simp) W hW)
    have HE := Lib.hid (show (⟨N.toArray⟩ ++ (⟨#[32]⟩ ++ ⟨q.toArray⟩) ++ ⟨#[10]⟩ : ByteArray) = ⟨(lineL q x).toArray⟩ by rw [HLL.out, HNN.out]; apply ByteArray.ext; simp)
    clear QC
    go_wp2_with fail
    refine (QC2.out _ HY.out).mono ?_
    rintro e w2 ⟨rfl, hb2⟩
    have HY2 := Lib.hid (HY.out.trans (hb2.mono HY.out.size))
    go_wp2_with fail
    go_ret
    exact ⟨by rw [← HE.out]; rfl, HY2.out⟩
end Go.Proofs.YtpogngdddendiaaDoor
