/- The walks over package builtin's commands that hold arguments against one another, reckon, read and end. Bounds on the lengths; the library's table and bound are hypotheses. -/
import Derived.Test.YtjpfolbghjhodaaDoorBuiltW2
import Derived.Test.YtjpfolbghjhodaaDoorNameW
import Derived.Lib.AppendIntMem
import Derived.Lib.LaidTab
import Derived.Lib.IndexMore
set_option linter.unusedVariables false
set_option linter.unusedSimpArgs false
namespace Go.Proofs.YtjpfolbghjhodaaDoor
open Go.RowKit

theorem tab_below {P : Program} {w w' : World} {nm : String} {k : IntKind} {zs : List Int} (h : Lib.TabIs P w nm k zs) (hb : Below w.heap.size w w') : Lib.TabIs P w' nm k zs := by
  unfold Lib.TabIs World.var? at *
  cases hg : P.globalNamed nm with
  | none => simp [hg] at h
  | some g =>
    simp only [hg] at h ⊢
    simp only [Option.bind_some] at h ⊢
    cases hx : w.heap[g]? with
    | none => rw [hx] at h; cases h
    | some o =>
      rw [hb.block g (Array.getElem?_eq_some_iff.1 hx).1]
      exact h
/-- What the library's variables hold. -/
structure LibW (w : World) (m : Int) : Prop where
  pow : Lib.TabIs Tryd.prog w "internal/strconv.uint64pow10" .u64 Lib.pow10Tab
  max : w.cell? ⟨3, 0, none⟩ = some (.int .i64 m)
theorem LibW.below {w w' : World} {m : Int} (h : LibW w m) (hb : Below w.heap.size w w') : LibW w' m := ⟨tab_below h.pow hb, cell_keep hb h.max⟩
theorem tab_but {P : Program} {w w' : World} {nm : String} {k : IntKind} {zs : List Int} {B g0 : Nat} (h : Lib.TabIs P w nm k zs) (hb : But B w w') (hg0 : P.globalNamed nm = some g0) (hne : g0 ≠ B) : Lib.TabIs P w' nm k zs := by
  unfold Lib.TabIs World.var? at *
  simp only [hg0, Option.bind_some] at h ⊢
  cases hx : w.heap[g0]? with
  | none => rw [hx] at h; cases h
  | some o =>
    rw [hb.block g0 (Array.getElem?_eq_some_iff.1 hx).1 hne]
    exact h
theorem gPow : Tryd.prog.globalNamed "internal/strconv.uint64pow10" = some 4 := by kernel_rfl
theorem LibW.but {w w' : World} {m : Int} {B : Nat} (h : LibW w m) (hb : But B w w') (h1 : 4 ≠ B) (h2 : 3 ≠ B) : LibW w' m := ⟨tab_but h.pow hb gPow h1, hb.cell h.max h2⟩
theorem LibW.lts {w : World} {m : Int} (h : LibW w m) : 4 < w.heap.size ∧ 3 < w.heap.size := by
  refine ⟨?_, World.block_lt_of_cell? _ _ h.max⟩
  have hp := h.pow
  unfold Lib.TabIs World.var? at hp
  simp only [gPow, Option.bind_some] at hp
  cases hx : w.heap[4]? with
  | none => rw [hx] at hp; cases hp
  | some o => exact (Array.getElem?_eq_some_iff.1 hx).1
theorem numberT_any (n : Nat) (hn : n ≤ 1000000000) (w : World) (m : Int) (hp : LibW w m) : Calls Tryd.prog 86 #[.int .i64 n] w (Ret w (.string ⟨(Lib.decDigits n).toArray⟩)) := by
  have HC := Lib.hid (Tryd.strconv_Itoa n (by omega) (by omega) w hp.pow)
  have hz : Lib.itoa (n : Int) = Lib.decDigits n := by
    unfold Lib.itoa
    rw [if_neg (by omega)]
    rfl
  rw [hz] at HC
  generalize Lib.decDigits n = d at *
  clear hz hp
  go_enter Tryd.func86, Tryd.ntmps86
  go_wp2_with fail
  refine HC.out.mono ?_
  rintro e w1 ⟨rfl, k, os, hw⟩
  have hb : Below w.heap.size w w1 := by rw [hw]; exact Lib.below_grow w.heap.size w (Nat.le_refl _) k os
  clear hw
  go_wp2_with fail
  go_ret
  exact ⟨rfl, hb⟩
theorem RdL.str4 {w : World} {A : Option Addr} {l : List (List UInt8)} (h : RdL w 1 strc A l) {k : Nat} (hk : k < l.length) : ∃ b o, A = some ⟨b, o, none⟩ ∧ w.cell? ⟨b, o + k, none⟩ = some (.string ⟨l[k].toArray⟩) := by
  obtain ⟨b, o, hA, _, hc⟩ := h k hk
  have := hc 0 _ rfl
  rw [Nat.mul_one, Nat.add_zero] at this
  exact ⟨b, o, hA, this⟩
def cmI (w : World) (g : Nat) (o : Outc) : List Value → World → Prop
  | [], y => Below w.heap.size w y
  | [_], y => OcB y g o ∧ But g w y
  | _, _ => False
theorem cmI_0 {w : World} {g : Nat} {o : Outc} {n : Nat} (hn : n = 0) : ∀ (kv : List Value) (y : World), kv.length ≤ n → cmI w g o kv y → Below w.heap.size w y := by
  subst hn
  intro kv y hl h
  match kv, hl, h with
  | [], _, h => exact h
  | _ :: _, hl, _ => simp at hl
def eqA : List (List UInt8) → Bool
  | [a, b] => decide (a = b)
  | _ => false
def likeA : List (List UInt8) → Bool
  | [a, b] => matchL b a
  | _ => false
def numA : List (List UInt8) → Nat × Nat × Bool
  | [a, b] => ((parseL a).1, (parseL b).1, (parseL a).2 && (parseL b).2)
  | _ => (0, 0, false)
theorem not_two {L : List (List UInt8)} (h : L.length ≠ 2) : eqA L = false ∧ likeA L = false ∧ numA L = (0, 0, false) := by
  match L, h with
  | [], _ => exact ⟨rfl, rfl, rfl⟩
  | [_], _ => exact ⟨rfl, rfl, rfl⟩
  | [_, _], h => exact absurd rfl h
  | _ :: _ :: _ :: _, _ => exact ⟨rfl, rfl, rfl⟩
theorem two_of {L : List (List UInt8)} (h : L.length = 2) : ∃ a b, L = [a, b] := by
  match L, h with
  | [a, b], _ => exact ⟨a, b, rfl⟩
section
variable (g : Nat) (o : Outc) (w : World) (inn : Value) (A : Option Addr) (c : Nat) (L : List (List UInt8))
theorem OcB_below {g : Nat} {o : Outc} {w w' : World} (h : OcB w g o) (hb : Below w.heap.size w w') : OcB w' g o := Blk.below h hb
set_option maxRecDepth 100000 in
set_option maxHeartbeats 2000000 in
theorem eq_any (h : OcB w g o) (hrd : RdL w 1 strc A L) (hc : L.length ≤ c) (hsz : ∀ x ∈ L, x.length ≤ 1000000) :
    Calls Tryd.prog 64 #[.pointer (some ⟨g, 0, none⟩), inn, .slice A L.length c] w (CmdRet g { o with status := if eqA L then o.status else 1 } w) := by
  have H := Lib.hid h
  clear h
  obtain ⟨q, hq⟩ : ∃ q, q = eqA L := ⟨_, rfl⟩
  obtain ⟨o2, ho2⟩ : ∃ o2 : Outc, o2 = { o with status := if q then o.status else 1 } := ⟨_, rfl⟩
  rw [← hq, ← ho2]
  have HT := Lib.hid (fun (y : World) (hy : OcB y g o) => show Calls Tryd.prog 85 #[.pointer (some ⟨g, 0, none⟩), .bool q] y (CmdRet g o2 y) from by rw [ho2]; exact test_any g o y q hy)
  have HQE := Lib.hid hq
  clear hq ho2
  by_cases h2 : L.length = 2
  · obtain ⟨a, b, rfl⟩ := two_of h2
    obtain ⟨gb, go, hA, e0⟩ := hrd.str4 (k := 0) (by simp)
    subst hA
    obtain ⟨gb', go', hA, e1⟩ := hrd.str4 (k := 1) (by simp)
    simp only [Option.some.injEq, Addr.mk.injEq, and_true] at hA
    obtain ⟨rfl, rfl⟩ := hA
    simp only [List.getElem_cons_zero, List.getElem_cons_succ, List.length_cons, List.length_nil, Nat.add_zero] at e0 e1 hc ⊢
    have HE0 := Lib.hid (fun (kv : List Value) (y : World) (hl : kv.length ≤ 0) (hI : cmI w g o2 kv y) => cell_keep (cmI_0 rfl kv y hl hI) e0)
    have HE1 := Lib.hid (fun (kv : List Value) (y : World) (hl : kv.length ≤ 0) (hI : cmI w g o2 kv y) => cell_keep (cmI_0 rfl kv y hl hI) e1)
    have HQ := Lib.hid (show (a == b) = q by
      rw [HQE.out]
      show (a == b) = decide (a = b)
      rw [Bool.eq_iff_iff, beq_iff_eq, decide_eq_true_eq])
    clear h2 hrd hsz e0 e1
    go_enter Tryd.func64, Tryd.ntmps64
    go_upto_region 0 with (fail)
    apply wp_region_ph [13] (cmI w g o2) [opE _, opE _, opE _, opE _, opE _, opE _, opE _, opE _, opE _, opE _, opE _, opE (.bool q), opE _, keyAny] (by kernel_rfl) (by kernel_rfl) (by kernel_rfl) rfl rfl
    focus
      exact (Below.refl _ _).drew
    focus
      refine ⟨?_, ?_⟩
      focus
        refine phOp (by kernel_rfl) fun kv x hlo hhi hI K hk => ?_
        clear hlo hhi
        have HI := Lib.hid hI
        clear hI
        go_wp2_with fail
        exact hk _ _ rfl HI.out
      rintro _ rfl
      simp only [Act.put, List.setIfInBounds_toArray, List.set_cons_succ, List.set_cons_zero]
      refine ⟨?_, ?_⟩
      focus
        refine phOp (by kernel_rfl) fun kv x hlo hhi hI K hk => ?_
        clear hlo hhi
        have HI := Lib.hid hI
        clear hI
        go_wp2_with fail
        exact hk _ _ rfl HI.out
      rintro _ rfl
      simp only [Act.put, List.setIfInBounds_toArray, List.set_cons_succ, List.set_cons_zero]
      refine ⟨?_, ?_⟩
      focus
        refine phOp (by kernel_rfl) fun kv x hlo hhi hI K hk => ?_
        clear hlo hhi
        have HI := Lib.hid hI
        clear hI
        go_wp2_with fail
        exact hk _ _ rfl HI.out
      rintro _ rfl
      simp only [Act.put, List.setIfInBounds_toArray, List.set_cons_succ, List.set_cons_zero]
      refine ⟨?_, ?_⟩
      focus
        refine phOp (by kernel_rfl) fun kv x hlo hhi hI K hk => ?_
        clear hlo hhi
        have HI := Lib.hid hI
        clear hI
        go_wp2_with fail
        exact hk _ _ rfl HI.out
      rintro _ rfl
      simp only [Act.put, List.setIfInBounds_toArray, List.set_cons_succ, List.set_cons_zero]
      refine ⟨?_, ?_⟩
      focus
        refine phOp (by kernel_rfl) fun kv x hlo hhi hI K hk => ?_
        clear hlo hhi
        have HI := Lib.hid hI
        clear hI
        go_wp2_with fail
        exact hk _ _ rfl HI.out
      rintro _ rfl
      simp only [Act.put, List.setIfInBounds_toArray, List.set_cons_succ, List.set_cons_zero]
      refine ⟨?_, ?_⟩
      focus
        refine phOp (by kernel_rfl) fun kv x hlo hhi hI K hk => ?_
        clear hlo hhi
        have HI := Lib.hid hI
        clear hI
        go_wp2_with fail
        exact hk _ _ rfl HI.out
      rintro _ rfl
      simp only [Act.put, List.setIfInBounds_toArray, List.set_cons_succ, List.set_cons_zero]
      refine ⟨?_, ?_⟩
      focus
        refine phOp (by kernel_rfl) fun kv x hlo hhi hI K hk => ?_
        clear hlo hhi
        have HI := Lib.hid hI
        clear hI
        go_wp2_with fail
        exact hk _ _ rfl HI.out
      rintro _ rfl
      simp only [Act.put, List.setIfInBounds_toArray, List.set_cons_succ, List.set_cons_zero]
      refine ⟨?_, ?_⟩
      focus
        refine phOp (by kernel_rfl) fun kv x hlo hhi hI K hk => ?_
        have l0 := HE0.out kv x (phHi_le hhi (by kernel_rfl)) hI
        have HI := Lib.hid hI
        clear hI hlo hhi
        go_wp2_with fail
        exact hk _ _ rfl HI.out
      rintro _ rfl
      simp only [Act.put, List.setIfInBounds_toArray, List.set_cons_succ, List.set_cons_zero]
      refine ⟨?_, ?_⟩
      focus
        refine phOp (by kernel_rfl) fun kv x hlo hhi hI K hk => ?_
        clear hlo hhi
        have HI := Lib.hid hI
        clear hI
        go_wp2_with fail
        exact hk _ _ rfl HI.out
      rintro _ rfl
      simp only [Act.put, List.setIfInBounds_toArray, List.set_cons_succ, List.set_cons_zero]
      refine ⟨?_, ?_⟩
      focus
        refine phOp (by kernel_rfl) fun kv x hlo hhi hI K hk => ?_
        clear hlo hhi
        have HI := Lib.hid hI
        clear hI
        go_wp2_with fail
        exact hk _ _ rfl HI.out
      rintro _ rfl
      simp only [Act.put, List.setIfInBounds_toArray, List.set_cons_succ, List.set_cons_zero]
      refine ⟨?_, ?_⟩
      focus
        refine phOp (by kernel_rfl) fun kv x hlo hhi hI K hk => ?_
        have l0 := HE1.out kv x (phHi_le hhi (by kernel_rfl)) hI
        have HI := Lib.hid hI
        clear hI hlo hhi
        go_wp2_with fail
        exact hk _ _ rfl HI.out
      rintro _ rfl
      simp only [Act.put, List.setIfInBounds_toArray, List.set_cons_succ, List.set_cons_zero]
      refine ⟨?_, ?_⟩
      focus
        refine phOp (by kernel_rfl) fun kv x hlo hhi hI K hk => ?_
        have HI := Lib.hid hI
        clear hI hlo hhi
        go_wp2_with fail
        exact hk _ _ (congrArg Value.bool HQ.out) HI.out
      rintro _ rfl
      simp only [Act.put, List.setIfInBounds_toArray, List.set_cons_succ, List.set_cons_zero]
      refine ⟨?_, ?_⟩
      focus
        refine phOp (by kernel_rfl) fun kv x hlo hhi hI K hk => ?_
        clear hlo hhi
        have HI := Lib.hid hI
        clear hI
        go_wp2_with fail
        exact hk _ _ rfl HI.out
      rintro _ rfl
      simp only [Act.put, List.setIfInBounds_toArray, List.set_cons_succ, List.set_cons_zero]
      refine ⟨?_, ?_⟩
      focus
        refine phKey (by kernel_rfl) fun y hI K hk => ?_
        have HI := Lib.hid (show Below w.heap.size w y from hI)
        clear hI
        go_wp2_with fail
        refine (HT.out y (OcB_below H.out HI.out)).mono ?_
        rintro e y' ⟨rfl, hO', hB'⟩
        exact hk _ _ trivial ⟨hO', (But.of HI.out).trans hB'⟩
      rintro v4 -
      simp only [Act.put, List.setIfInBounds_toArray, List.set_cons_succ, List.set_cons_zero]
      intro y hI
      obtain ⟨hO, hB⟩ := hI
      go_wp2_with fail
      go_end0
      exact ⟨rfl, hO, hB⟩
  · obtain ⟨m, hm⟩ : ∃ m, m = L.length := ⟨_, rfl⟩
    have e2 : ((m : Int) == 2) = false := by rw [beq_eq_false_iff_ne]; omega
    have hqf : q = false := by rw [HQE.out, (not_two h2).1]
    subst hqf
    rw [← hm]
    clear h2 hrd hsz hm hc
    go_enter Tryd.func64, Tryd.ntmps64
    go_upto_region 0 with (fail)
    apply wp_region_ph [13] (cmI w g o2) [opE _, opE _, opE _, opE _, opE _, opE _, opE _, opE _, opE _, opE _, opE _, opE _, opE _, keyAny] (by kernel_rfl) (by kernel_rfl) (by kernel_rfl) rfl rfl
    focus
      exact (Below.refl _ _).drew
    focus
      refine ⟨?_, ?_⟩
      focus
        refine phOp (by kernel_rfl) fun kv x hlo hhi hI K hk => ?_
        clear hlo hhi
        have HI := Lib.hid hI
        clear hI
        go_wp2_with fail
        exact hk _ _ rfl HI.out
      rintro _ rfl
      simp only [Act.put, List.setIfInBounds_toArray, List.set_cons_succ, List.set_cons_zero]
      refine ⟨?_, ?_⟩
      focus
        refine phOp (by kernel_rfl) fun kv x hlo hhi hI K hk => ?_
        clear hlo hhi
        have HI := Lib.hid hI
        clear hI
        go_wp2_with fail
        exact hk _ _ rfl HI.out
      rintro _ rfl
      simp only [Act.put, List.setIfInBounds_toArray, List.set_cons_succ, List.set_cons_zero]
      refine ⟨?_, ?_⟩
      focus
        refine phOp (by kernel_rfl) fun kv x hlo hhi hI K hk => ?_
        clear hlo hhi
        have HI := Lib.hid hI
        clear hI
        go_wp2_with fail
        exact hk _ _ rfl HI.out
      rintro _ rfl
      simp only [Act.put, List.setIfInBounds_toArray, List.set_cons_succ, List.set_cons_zero]
      refine ⟨?_, ?_⟩
      focus
        refine phOp (by kernel_rfl) fun kv x hlo hhi hI K hk => ?_
        clear hlo hhi
        have HI := Lib.hid hI
        clear hI
        go_wp2_with fail
        exact hk _ _ rfl HI.out
      rintro _ rfl
      simp only [Act.put, List.setIfInBounds_toArray, List.set_cons_succ, List.set_cons_zero]
      refine ⟨?_, ?_⟩
      focus
        refine phOp (by kernel_rfl) fun kv x hlo hhi hI K hk => ?_
        clear hlo hhi
        have HI := Lib.hid hI
        clear hI
        go_wp2_with fail
        exact hk _ _ rfl HI.out
      rintro _ rfl
      simp only [Act.put, List.setIfInBounds_toArray, List.set_cons_succ, List.set_cons_zero]
      refine ⟨?_, ?_⟩
      focus
        exact phSkip (by kernel_rfl) rfl
      rintro _ rfl
      simp only [Act.put, List.setIfInBounds_toArray, List.set_cons_succ, List.set_cons_zero]
      refine ⟨?_, ?_⟩
      focus
        exact phSkip (by kernel_rfl) rfl
      rintro _ rfl
      simp only [Act.put, List.setIfInBounds_toArray, List.set_cons_succ, List.set_cons_zero]
      refine ⟨?_, ?_⟩
      focus
        exact phSkip (by kernel_rfl) rfl
      rintro _ rfl
      simp only [Act.put, List.setIfInBounds_toArray, List.set_cons_succ, List.set_cons_zero]
      refine ⟨?_, ?_⟩
      focus
        exact phSkip (by kernel_rfl) rfl
      rintro _ rfl
      simp only [Act.put, List.setIfInBounds_toArray, List.set_cons_succ, List.set_cons_zero]
      refine ⟨?_, ?_⟩
      focus
        exact phSkip (by kernel_rfl) rfl
      rintro _ rfl
      simp only [Act.put, List.setIfInBounds_toArray, List.set_cons_succ, List.set_cons_zero]
      refine ⟨?_, ?_⟩
      focus
        exact phSkip (by kernel_rfl) rfl
      rintro _ rfl
      simp only [Act.put, List.setIfInBounds_toArray, List.set_cons_succ, List.set_cons_zero]
      refine ⟨?_, ?_⟩
      focus
        exact phSkip (by kernel_rfl) rfl
      rintro _ rfl
      simp only [Act.put, List.setIfInBounds_toArray, List.set_cons_succ, List.set_cons_zero]
      refine ⟨?_, ?_⟩
      focus
        refine phOp (by kernel_rfl) fun kv x hlo hhi hI K hk => ?_
        clear hlo hhi
        have HI := Lib.hid hI
        clear hI
        go_wp2_with fail
        exact hk _ _ rfl HI.out
      rintro _ rfl
      simp only [Act.put, List.setIfInBounds_toArray, List.set_cons_succ, List.set_cons_zero]
      refine ⟨?_, ?_⟩
      focus
        refine phKey (by kernel_rfl) fun y hI K hk => ?_
        have HI := Lib.hid (show Below w.heap.size w y from hI)
        clear hI
        go_wp2_with fail
        refine (HT.out y (OcB_below H.out HI.out)).mono ?_
        rintro e y' ⟨rfl, hO', hB'⟩
        exact hk _ _ trivial ⟨hO', (But.of HI.out).trans hB'⟩
      rintro v4 -
      simp only [Act.put, List.setIfInBounds_toArray, List.set_cons_succ, List.set_cons_zero]
      intro y hI
      obtain ⟨hO, hB⟩ := hI
      go_wp2_with fail
      go_end0
      exact ⟨rfl, hO, hB⟩
set_option maxRecDepth 100000 in
set_option maxHeartbeats 2000000 in
theorem like_any (h : OcB w g o) (hrd : RdL w 1 strc A L) (hc : L.length ≤ c) (hsz : ∀ x ∈ L, x.length ≤ 1000000) :
    Calls Tryd.prog 68 #[.pointer (some ⟨g, 0, none⟩), inn, .slice A L.length c] w (CmdRet g { o with status := if likeA L then o.status else 1 } w) := by
  have H := Lib.hid h
  clear h
  obtain ⟨q, hq⟩ : ∃ q, q = likeA L := ⟨_, rfl⟩
  obtain ⟨o2, ho2⟩ : ∃ o2 : Outc, o2 = { o with status := if q then o.status else 1 } := ⟨_, rfl⟩
  rw [← hq, ← ho2]
  have HT := Lib.hid (fun (y : World) (hy : OcB y g o) => show Calls Tryd.prog 85 #[.pointer (some ⟨g, 0, none⟩), .bool q] y (CmdRet g o2 y) from by rw [ho2]; exact test_any g o y q hy)
  have HQE := Lib.hid hq
  clear hq ho2
  by_cases h2 : L.length = 2
  · obtain ⟨a, b, rfl⟩ := two_of h2
    obtain ⟨gb, go, hA, e0⟩ := hrd.str4 (k := 0) (by simp)
    subst hA
    obtain ⟨gb', go', hA, e1⟩ := hrd.str4 (k := 1) (by simp)
    simp only [Option.some.injEq, Addr.mk.injEq, and_true] at hA
    obtain ⟨rfl, rfl⟩ := hA
    simp only [List.getElem_cons_zero, List.getElem_cons_succ, List.length_cons, List.length_nil, Nat.add_zero] at e0 e1 hc ⊢
    have HM := Lib.hid (fun (W : World) => match_any ⟨b.toArray⟩ ⟨a.toArray⟩ W (by show b.toArray.size ≤ _; rw [List.size_toArray]; exact hsz b (by simp)) (by show a.toArray.size ≤ _; rw [List.size_toArray]; exact hsz a (by simp)))
    simp only [show matchL (⟨b.toArray⟩ : ByteArray).data.toList (⟨a.toArray⟩ : ByteArray).data.toList = q from HQE.out.symm] at HM
    have HE0 := Lib.hid (fun (kv : List Value) (y : World) (hl : kv.length ≤ 0) (hI : cmI w g o2 kv y) => cell_keep (cmI_0 rfl kv y hl hI) e0)
    have HE1 := Lib.hid (fun (kv : List Value) (y : World) (hl : kv.length ≤ 0) (hI : cmI w g o2 kv y) => cell_keep (cmI_0 rfl kv y hl hI) e1)
    clear h2 hrd hsz e0 e1
    go_enter Tryd.func68, Tryd.ntmps68
    go_upto_region 0 with (fail)
    apply wp_region_ph [13] (cmI w g o2) [opE _, opE _, opE _, opE _, opE _, opE _, opE _, opE _, opE _, opE _, opE _, opE _, opE _, keyAny] (by kernel_rfl) (by kernel_rfl) (by kernel_rfl) rfl rfl
    focus
      exact (Below.refl _ _).drew
    focus
      refine ⟨?_, ?_⟩
      focus
        refine phOp (by kernel_rfl) fun kv x hlo hhi hI K hk => ?_
        clear hlo hhi
        have HI := Lib.hid hI
        clear hI
        go_wp2_with fail
        exact hk _ _ rfl HI.out
      rintro _ rfl
      simp only [Act.put, List.setIfInBounds_toArray, List.set_cons_succ, List.set_cons_zero]
      refine ⟨?_, ?_⟩
      focus
        refine phOp (by kernel_rfl) fun kv x hlo hhi hI K hk => ?_
        clear hlo hhi
        have HI := Lib.hid hI
        clear hI
        go_wp2_with fail
        exact hk _ _ rfl HI.out
      rintro _ rfl
      simp only [Act.put, List.setIfInBounds_toArray, List.set_cons_succ, List.set_cons_zero]
      refine ⟨?_, ?_⟩
      focus
        refine phOp (by kernel_rfl) fun kv x hlo hhi hI K hk => ?_
        clear hlo hhi
        have HI := Lib.hid hI
        clear hI
        go_wp2_with fail
        exact hk _ _ rfl HI.out
      rintro _ rfl
      simp only [Act.put, List.setIfInBounds_toArray, List.set_cons_succ, List.set_cons_zero]
      refine ⟨?_, ?_⟩
      focus
        refine phOp (by kernel_rfl) fun kv x hlo hhi hI K hk => ?_
        clear hlo hhi
        have HI := Lib.hid hI
        clear hI
        go_wp2_with fail
        exact hk _ _ rfl HI.out
      rintro _ rfl
      simp only [Act.put, List.setIfInBounds_toArray, List.set_cons_succ, List.set_cons_zero]
      refine ⟨?_, ?_⟩
      focus
        refine phOp (by kernel_rfl) fun kv x hlo hhi hI K hk => ?_
        clear hlo hhi
        have HI := Lib.hid hI
        clear hI
        go_wp2_with fail
        exact hk _ _ rfl HI.out
      rintro _ rfl
      simp only [Act.put, List.setIfInBounds_toArray, List.set_cons_succ, List.set_cons_zero]
      refine ⟨?_, ?_⟩
      focus
        refine phOp (by kernel_rfl) fun kv x hlo hhi hI K hk => ?_
        clear hlo hhi
        have HI := Lib.hid hI
        clear hI
        go_wp2_with fail
        exact hk _ _ rfl HI.out
      rintro _ rfl
      simp only [Act.put, List.setIfInBounds_toArray, List.set_cons_succ, List.set_cons_zero]
      refine ⟨?_, ?_⟩
      focus
        refine phOp (by kernel_rfl) fun kv x hlo hhi hI K hk => ?_
        clear hlo hhi
        have HI := Lib.hid hI
        clear hI
        go_wp2_with fail
        exact hk _ _ rfl HI.out
      rintro _ rfl
      simp only [Act.put, List.setIfInBounds_toArray, List.set_cons_succ, List.set_cons_zero]
      refine ⟨?_, ?_⟩
      focus
        refine phOp (by kernel_rfl) fun kv x hlo hhi hI K hk => ?_
        have l0 := HE1.out kv x (phHi_le hhi (by kernel_rfl)) hI
        have HI := Lib.hid hI
        clear hI hlo hhi
        go_wp2_with fail
        exact hk _ _ rfl HI.out
      rintro _ rfl
      simp only [Act.put, List.setIfInBounds_toArray, List.set_cons_succ, List.set_cons_zero]
      refine ⟨?_, ?_⟩
      focus
        refine phOp (by kernel_rfl) fun kv x hlo hhi hI K hk => ?_
        clear hlo hhi
        have HI := Lib.hid hI
        clear hI
        go_wp2_with fail
        exact hk _ _ rfl HI.out
      rintro _ rfl
      simp only [Act.put, List.setIfInBounds_toArray, List.set_cons_succ, List.set_cons_zero]
      refine ⟨?_, ?_⟩
      focus
        refine phOp (by kernel_rfl) fun kv x hlo hhi hI K hk => ?_
        clear hlo hhi
        have HI := Lib.hid hI
        clear hI
        go_wp2_with fail
        exact hk _ _ rfl HI.out
      rintro _ rfl
      simp only [Act.put, List.setIfInBounds_toArray, List.set_cons_succ, List.set_cons_zero]
      refine ⟨?_, ?_⟩
      focus
        refine phOp (by kernel_rfl) fun kv x hlo hhi hI K hk => ?_
        have l0 := HE0.out kv x (phHi_le hhi (by kernel_rfl)) hI
        have HI := Lib.hid hI
        clear hI hlo hhi
        go_wp2_with fail
        exact hk _ _ rfl HI.out
      rintro _ rfl
      simp only [Act.put, List.setIfInBounds_toArray, List.set_cons_succ, List.set_cons_zero]
      refine ⟨?_, ?_⟩
      focus
        refine phOp (by kernel_rfl) fun kv x hlo hhi hI K hk => ?_
        have hkv : kv = [] := List.eq_nil_of_length_eq_zero (Nat.le_zero.1 (phHi_le (c := 0) hhi (by kernel_rfl)))
        subst hkv
        have HI := Lib.hid (show Below w.heap.size w x from hI)
        clear hI hlo hhi
        go_wp2_with fail
        refine (HM.out x).mono ?_
        rintro e x' ⟨rfl, hb'⟩
        exact hk _ _ rfl (show Below w.heap.size w x' from HI.out.trans (hb'.mono HI.out.size))
      rintro _ rfl
      simp only [Act.put, List.setIfInBounds_toArray, List.set_cons_succ, List.set_cons_zero]
      refine ⟨?_, ?_⟩
      focus
        refine phOp (by kernel_rfl) fun kv x hlo hhi hI K hk => ?_
        clear hlo hhi
        have HI := Lib.hid hI
        clear hI
        go_wp2_with fail
        exact hk _ _ rfl HI.out
      rintro _ rfl
      simp only [Act.put, List.setIfInBounds_toArray, List.set_cons_succ, List.set_cons_zero]
      refine ⟨?_, ?_⟩
      focus
        refine phKey (by kernel_rfl) fun y hI K hk => ?_
        have HI := Lib.hid (show Below w.heap.size w y from hI)
        clear hI
        go_wp2_with fail
        refine (HT.out y (OcB_below H.out HI.out)).mono ?_
        rintro e y' ⟨rfl, hO', hB'⟩
        exact hk _ _ trivial ⟨hO', (But.of HI.out).trans hB'⟩
      rintro v4 -
      simp only [Act.put, List.setIfInBounds_toArray, List.set_cons_succ, List.set_cons_zero]
      intro y hI
      obtain ⟨hO, hB⟩ := hI
      go_wp2_with fail
      go_end0
      exact ⟨rfl, hO, hB⟩
  · obtain ⟨m, hm⟩ : ∃ m, m = L.length := ⟨_, rfl⟩
    have e2 : ((m : Int) == 2) = false := by rw [beq_eq_false_iff_ne]; omega
    have hqf : q = false := by rw [HQE.out, (not_two h2).2.1]
    subst hqf
    rw [← hm]
    clear h2 hrd hsz hm hc
    go_enter Tryd.func68, Tryd.ntmps68
    go_upto_region 0 with (fail)
    apply wp_region_ph [13] (cmI w g o2) [opE _, opE _, opE _, opE _, opE _, opE _, opE _, opE _, opE _, opE _, opE _, opE _, opE _, keyAny] (by kernel_rfl) (by kernel_rfl) (by kernel_rfl) rfl rfl
    focus
      exact (Below.refl _ _).drew
    focus
      refine ⟨?_, ?_⟩
      focus
        refine phOp (by kernel_rfl) fun kv x hlo hhi hI K hk => ?_
        clear hlo hhi
        have HI := Lib.hid hI
        clear hI
        go_wp2_with fail
        exact hk _ _ rfl HI.out
      rintro _ rfl
      simp only [Act.put, List.setIfInBounds_toArray, List.set_cons_succ, List.set_cons_zero]
      refine ⟨?_, ?_⟩
      focus
        refine phOp (by kernel_rfl) fun kv x hlo hhi hI K hk => ?_
        clear hlo hhi
        have HI := Lib.hid hI
        clear hI
        go_wp2_with fail
        exact hk _ _ rfl HI.out
      rintro _ rfl
      simp only [Act.put, List.setIfInBounds_toArray, List.set_cons_succ, List.set_cons_zero]
      refine ⟨?_, ?_⟩
      focus
        refine phOp (by kernel_rfl) fun kv x hlo hhi hI K hk => ?_
        clear hlo hhi
        have HI := Lib.hid hI
        clear hI
        go_wp2_with fail
        exact hk _ _ rfl HI.out
      rintro _ rfl
      simp only [Act.put, List.setIfInBounds_toArray, List.set_cons_succ, List.set_cons_zero]
      refine ⟨?_, ?_⟩
      focus
        refine phOp (by kernel_rfl) fun kv x hlo hhi hI K hk => ?_
        clear hlo hhi
        have HI := Lib.hid hI
        clear hI
        go_wp2_with fail
        exact hk _ _ rfl HI.out
      rintro _ rfl
      simp only [Act.put, List.setIfInBounds_toArray, List.set_cons_succ, List.set_cons_zero]
      refine ⟨?_, ?_⟩
      focus
        refine phOp (by kernel_rfl) fun kv x hlo hhi hI K hk => ?_
        clear hlo hhi
        have HI := Lib.hid hI
        clear hI
        go_wp2_with fail
        exact hk _ _ rfl HI.out
      rintro _ rfl
      simp only [Act.put, List.setIfInBounds_toArray, List.set_cons_succ, List.set_cons_zero]
      refine ⟨?_, ?_⟩
      focus
        exact phSkip (by kernel_rfl) rfl
      rintro _ rfl
      simp only [Act.put, List.setIfInBounds_toArray, List.set_cons_succ, List.set_cons_zero]
      refine ⟨?_, ?_⟩
      focus
        exact phSkip (by kernel_rfl) rfl
      rintro _ rfl
      simp only [Act.put, List.setIfInBounds_toArray, List.set_cons_succ, List.set_cons_zero]
      refine ⟨?_, ?_⟩
      focus
        exact phSkip (by kernel_rfl) rfl
      rintro _ rfl
      simp only [Act.put, List.setIfInBounds_toArray, List.set_cons_succ, List.set_cons_zero]
      refine ⟨?_, ?_⟩
      focus
        exact phSkip (by kernel_rfl) rfl
      rintro _ rfl
      simp only [Act.put, List.setIfInBounds_toArray, List.set_cons_succ, List.set_cons_zero]
      refine ⟨?_, ?_⟩
      focus
        exact phSkip (by kernel_rfl) rfl
      rintro _ rfl
      simp only [Act.put, List.setIfInBounds_toArray, List.set_cons_succ, List.set_cons_zero]
      refine ⟨?_, ?_⟩
      focus
        exact phSkip (by kernel_rfl) rfl
      rintro _ rfl
      simp only [Act.put, List.setIfInBounds_toArray, List.set_cons_succ, List.set_cons_zero]
      refine ⟨?_, ?_⟩
      focus
        exact phSkip (by kernel_rfl) rfl
      rintro _ rfl
      simp only [Act.put, List.setIfInBounds_toArray, List.set_cons_succ, List.set_cons_zero]
      refine ⟨?_, ?_⟩
      focus
        refine phOp (by kernel_rfl) fun kv x hlo hhi hI K hk => ?_
        clear hlo hhi
        have HI := Lib.hid hI
        clear hI
        go_wp2_with fail
        exact hk _ _ rfl HI.out
      rintro _ rfl
      simp only [Act.put, List.setIfInBounds_toArray, List.set_cons_succ, List.set_cons_zero]
      refine ⟨?_, ?_⟩
      focus
        refine phKey (by kernel_rfl) fun y hI K hk => ?_
        have HI := Lib.hid (show Below w.heap.size w y from hI)
        clear hI
        go_wp2_with fail
        refine (HT.out y (OcB_below H.out HI.out)).mono ?_
        rintro e y' ⟨rfl, hO', hB'⟩
        exact hk _ _ trivial ⟨hO', (But.of HI.out).trans hB'⟩
      rintro v4 -
      simp only [Act.put, List.setIfInBounds_toArray, List.set_cons_succ, List.set_cons_zero]
      intro y hI
      obtain ⟨hO, hB⟩ := hI
      go_wp2_with fail
      go_end0
      exact ⟨rfl, hO, hB⟩
theorem numbers_any (hrd : RdL w 1 strc A L) (hc : L.length ≤ c) (hsz : ∀ x ∈ L, x.length ≤ 1000000) :
    Calls Tryd.prog 84 #[.slice A L.length c] w fun e w' => e = .returned (.tuple #[.int .i64 (numA L).1, .int .i64 (numA L).2.1, .bool (numA L).2.2]) ∧ w' = w := by
  by_cases h2 : L.length = 2
  · obtain ⟨a, b, rfl⟩ := two_of h2
    obtain ⟨gb, go, hA, e0⟩ := hrd.str4 (k := 0) (by simp)
    subst hA
    obtain ⟨gb', go', hA, e1⟩ := hrd.str4 (k := 1) (by simp)
    simp only [Option.some.injEq, Addr.mk.injEq, and_true] at hA
    obtain ⟨rfl, rfl⟩ := hA
    simp only [List.getElem_cons_zero, List.getElem_cons_succ, List.length_cons, List.length_nil, Nat.add_zero] at e0 e1 hc ⊢
    have HA := Lib.hid (parse_any ⟨a.toArray⟩ w (by show a.toArray.size ≤ _; rw [List.size_toArray]; exact Nat.le_trans (hsz a (by simp)) (by decide)))
    have HB := Lib.hid (parse_any ⟨b.toArray⟩ w (by show b.toArray.size ≤ _; rw [List.size_toArray]; exact Nat.le_trans (hsz b (by simp)) (by decide)))
    simp only [show (⟨a.toArray⟩ : ByteArray).data.toList = a from rfl] at HA
    simp only [show (⟨b.toArray⟩ : ByteArray).data.toList = b from rfl] at HB
    simp only [numA]
    generalize (parseL a).1 = x at *
    generalize (parseL b).1 = y at *
    generalize (parseL a).2 = p at *
    generalize (parseL b).2 = q at *
    clear h2 hrd hsz
    go_enter Tryd.func84, Tryd.ntmps84
    go_wp2_with fail
    refine HA.out.mono ?_
    rintro e w1 ⟨rfl, rfl⟩
    go_wp2_with fail
    refine HB.out.mono ?_
    rintro e w1 ⟨rfl, rfl⟩
    cases p with
    | true =>
      go_wp2_with fail
      refine bodyPost_ret (v := .tuple #[.int .i64 x, .int .i64 y, .bool q]) (by simp [results, Tryd.results84, go_sem]) rfl ⟨rfl, rfl⟩
    | false =>
      go_wp2_with fail
      refine bodyPost_ret (v := .tuple #[.int .i64 x, .int .i64 y, .bool false]) (by simp [results, Tryd.results84, go_sem]) rfl ⟨rfl, rfl⟩
  · obtain ⟨m, hm⟩ : ∃ m, m = L.length := ⟨_, rfl⟩
    have e2 : ((m : Int) != 2) = true := by rw [bne_iff_ne]; omega
    rw [(not_two h2).2.2, ← hm]
    clear h2 hrd hsz hm hc
    go_enter Tryd.func84, Tryd.ntmps84
    go_wp2_with fail
    refine bodyPost_ret (v := .tuple #[.int .i64 0, .int .i64 0, .bool false]) (by simp [results, Tryd.results84, go_sem]) rfl ⟨rfl, rfl⟩
theorem parse_lt (s : List UInt8) : (parseL s).1 < 1000000000 := by
  unfold parseL
  split
  · exact Nat.zero_lt_succ _
  · rename_i h
    split
    · rename_i ha
      exact val_small ha (by omega)
    · exact Nat.zero_lt_succ _
theorem num_lt (L : List (List UInt8)) : (numA L).1 < 1000000000 ∧ (numA L).2.1 < 1000000000 := by
  by_cases h2 : L.length = 2
  · obtain ⟨a, b, rfl⟩ := two_of h2
    exact ⟨parse_lt a, parse_lt b⟩
  · rw [(not_two h2).2.2]
    exact ⟨by decide, by decide⟩
def lessA (L : List (List UInt8)) : Bool := (numA L).2.2 && decide ((numA L).1 < (numA L).2.1)
set_option maxRecDepth 100000 in
set_option maxHeartbeats 2000000 in
theorem less_any (h : OcB w g o) (hrd : RdL w 1 strc A L) (hc : L.length ≤ c) (hsz : ∀ x ∈ L, x.length ≤ 1000000) :
    Calls Tryd.prog 67 #[.pointer (some ⟨g, 0, none⟩), inn, .slice A L.length c] w (CmdRet g { o with status := if lessA L then o.status else 1 } w) := by
  have HN := Lib.hid (numbers_any w A c L hrd hc hsz)
  have HT := Lib.hid (fun is => test_any g o w is h)
  obtain ⟨q, hq⟩ : ∃ q, q = lessA L := ⟨_, rfl⟩
  rw [← hq]
  unfold lessA at hq
  obtain ⟨o2, ho2⟩ : ∃ o2 : Outc, o2 = { o with status := if q then o.status else 1 } := ⟨_, rfl⟩
  rw [← ho2]
  have HT2 := Lib.hid (HT.out q)
  rw [← ho2] at HT2
  generalize (numA L).1 = x at *
  generalize (numA L).2.1 = y at *
  generalize (numA L).2.2 = p at *
  generalize L.length = m at *
  clear h hrd hc hsz ho2 HT
  cases p with
  | true =>
    rw [Bool.true_and] at hq
    cases q with
    | true =>
      have hxy := hq.symm
      clear hq
      go_enter Tryd.func67, Tryd.ntmps67
      go_wp2_with fail
      refine HN.out.mono ?_
      rintro e w1 ⟨rfl, rfl⟩
      go_wp2_with fail
      refine HT2.out.mono ?_
      rintro e w2 ⟨rfl, hO, hB⟩
      go_wp2_with fail
      go_end0
      exact ⟨rfl, hO, hB⟩
    | false =>
      have hxy := hq.symm
      clear hq
      go_enter Tryd.func67, Tryd.ntmps67
      go_wp2_with fail
      refine HN.out.mono ?_
      rintro e w1 ⟨rfl, rfl⟩
      go_wp2_with fail
      refine HT2.out.mono ?_
      rintro e w2 ⟨rfl, hO, hB⟩
      go_wp2_with fail
      go_end0
      exact ⟨rfl, hO, hB⟩
  | false =>
    rw [Bool.false_and] at hq
    subst hq
    go_enter Tryd.func67, Tryd.ntmps67
    go_wp2_with fail
    refine HN.out.mono ?_
    rintro e w1 ⟨rfl, rfl⟩
    go_wp2_with fail
    refine HT2.out.mono ?_
    rintro e w2 ⟨rfl, hO, hB⟩
    go_wp2_with fail
    go_end0
    exact ⟨rfl, hO, hB⟩
def addA (L : List (List UInt8)) (o : Outc) : Outc := if (numA L).2.2 then { o with out := Lib.decDigits (((numA L).1 + (numA L).2.1) % 1000000000) ++ [10] } else { o with status := 1 }
set_option maxRecDepth 100000 in
set_option maxHeartbeats 2000000 in
theorem add_any (m0 : Int) (hl : LibW w m0) (hn1 : 4 ≠ g) (hn2 : 3 ≠ g) (h : OcB w g o) (hrd : RdL w 1 strc A L) (hc : L.length ≤ c) (hsz : ∀ x ∈ L, x.length ≤ 1000000) :
    Calls Tryd.prog 61 #[.pointer (some ⟨g, 0, none⟩), inn, .slice A L.length c] w (CmdRet g (addA L o) w) := by
  have HN := Lib.hid (numbers_any w A c L hrd hc hsz)
  have HT := Lib.hid (fun is => test_any g o w is h)
  have HL := Lib.hid hl
  obtain ⟨hx, hy⟩ := num_lt L
  obtain ⟨o2, ho2⟩ : ∃ o2 : Outc, o2 = addA L o := ⟨_, rfl⟩
  rw [← ho2]
  unfold addA at ho2
  have HO2 := Lib.hid ho2
  clear ho2
  generalize (numA L).1 = x at *
  generalize (numA L).2.1 = y at *
  generalize (numA L).2.2 = p at *
  generalize L.length = m at *
  have HG := Lib.hid (show g < w.heap.size from Blk.lt h)
  clear h hrd hc hsz hl
  go_enter Tryd.func61, Tryd.ntmps61
  go_wp2_with fail
  refine HN.out.mono ?_
  rintro e w1 ⟨rfl, rfl⟩
  cases p with
  | true =>
    go_wp2_with fail
    refine (HT.out true).mono ?_
    rintro e w2 ⟨rfl, hO, hB⟩
    have hxy : (x : Int) + (y : Int) = ((x + y : Nat) : Int) := by omega
    have HMD := Lib.hid (show ((x : Int) + (y : Int)).tmod 1000000000 = (((x + y) % 1000000000 : Nat) : Int) by rw [hxy]; rfl)
    have HNU := Lib.hid (numberT_any ((x + y) % 1000000000) (by omega) w2 m0 (HL.out.but hB hn1 hn2))
    have hsz : (Lib.decDigits ((x + y) % 1000000000)).length ≤ 9 := dec_len 8 _ (Nat.mod_lt _ (by decide))
    have HA := Lib.hid (show ∀ u : List UInt8, (⟨u.toArray⟩ ++ ⟨#[10]⟩ : ByteArray) = ⟨(u ++ [10]).toArray⟩ from fun u => by apply ByteArray.ext; simp)
    obtain ⟨d, hd⟩ : ∃ d, d = Lib.decDigits ((x + y) % 1000000000) := ⟨_, rfl⟩
    rw [← hd] at HNU hsz HO2
    have hsz2 : (⟨d.toArray⟩ : ByteArray).size ≤ 9 := by show d.toArray.size ≤ 9; rw [List.size_toArray]; exact hsz
    obtain ⟨z, hz⟩ : ∃ z, z = (x + y) % 1000000000 := ⟨_, rfl⟩
    rw [← hz] at HNU HMD
    have HO := Lib.hid hO
    have HB := Lib.hid hB
    have hmod := HMD.out
    clear hd hz hO hB HMD hxy
    go_wp2_with fail
    refine HNU.out.mono ?_
    rintro e w3 ⟨rfl, hb3⟩
    have hO3 := OcB_below HO.out hb3
    unfold OcB at hO3
    have d0 := (hO3).cell 0
    have d1 := (hO3).cell 1
    have d2 := (hO3).cell 2
    have d3 := (hO3).cell 3
    have d4 := (hO3).cell 4
    have d5 := (hO3).cell 5
    have f0 := (hO3).frozen 0
    have f1 := (hO3).frozen 1
    have f2 := (hO3).frozen 2
    have f3 := (hO3).frozen 3
    have f4 := (hO3).frozen 4
    have f5 := (hO3).frozen 5
    simp only [List.getElem?_toArray, List.getElem?_cons_zero, List.getElem?_cons_succ] at d0 d1 d2 d3 d4 d5
    have HO3 := Lib.hid hO3
    have HB3 := Lib.hid (HB.out.trans (But.of hb3))
    clear hO3 hb3
    go_wp2_with fail
    go_end0
    rw [HO2.out]
    simp only [if_true]
    refine ⟨rfl, ?_, HB3.out.trans (But.set _ 0 _)⟩
    have := HO3.out.set 0 (.string (⟨d.toArray⟩ ++ ⟨#[10]⟩))
    rw [HA.out] at this ⊢
    exact this
  | false =>
    go_wp2_with fail
    refine (HT.out false).mono ?_
    rintro e w2 ⟨rfl, hO, hB⟩
    go_wp2_with fail
    go_end0
    rw [HO2.out]
    exact ⟨rfl, hO, hB⟩
theorem cut_nl : ∀ l : List UInt8, (Lib.cut l [10]).1 = (cutN l).1 ∧ (Lib.cut l [10]).2.1 = (cutN l).2
  | [] => ⟨rfl, rfl⟩
  | c :: t => by
    obtain ⟨h1, h2⟩ := cut_nl t
    unfold Lib.cut at *
    have hi : Lib.index (c :: t) [10] = if c = 10 then 0 else if Lib.index t [10] == -1 then -1 else Lib.index t [10] + 1 := by
      rw [Lib.index]
      have hp : List.isPrefixOf [10] (c :: t) = decide (c = 10) := by
        rw [List.isPrefixOf, List.isPrefixOf]
        rw [Bool.and_true, Bool.eq_iff_iff, beq_iff_eq, decide_eq_true_eq]
        exact ⟨fun h => h.symm, fun h => h.symm⟩
      rw [hp]
      by_cases hc : c = 10
      · rw [decide_eq_true hc, if_pos rfl, if_pos hc]
      · rw [decide_eq_false hc, if_neg (by decide), if_neg hc]
    rw [hi, cutN]
    have hge := Lib.index_ge t [10]
    by_cases hc : c = 10
    · subst hc
      simp
    · rw [if_neg hc, if_neg hc]
      by_cases hz : Lib.index t [10] = -1
      · rw [hz] at h1 h2 ⊢
        simp only [show ((-1 : Int) == -1) = true from rfl, if_true, show ¬ (0 : Int) ≤ -1 by decide, if_false] at h1 h2 ⊢
        exact ⟨by rw [← h1], by rw [← h2]⟩
      · have hb : (Lib.index t [10] == -1) = false := by rw [beq_eq_false_iff_ne]; exact hz
        have hn : (Lib.index t [10] + 1).toNat = (Lib.index t [10]).toNat + 1 := by omega
        rw [hb]
        simp only [Bool.false_eq_true, if_false]
        rw [if_pos (by omega)]
        rw [if_pos (by omega)] at h1 h2
        rw [hn]
        simp only at h1 h2 ⊢
        exact ⟨by rw [← h1]; rfl, by rw [← h2]; rfl⟩
def readA (inn : List UInt8) (L : List (List UInt8)) (o : Outc) : Outc := match L with
  | [n] => if nameB n && !inn.isEmpty then { o with name := n, value := (cutN inn).1, rest := (cutN inn).2 } else { o with status := 1 }
  | _ => { o with status := 1 }
set_option maxRecDepth 100000 in
set_option maxHeartbeats 2000000 in
theorem bread_any (inn : List UInt8) (m0 : Int) (hl : LibW w m0) (hn1 : 4 ≠ g) (hn2 : 3 ≠ g) (h : OcB w g o) (hrd : RdL w 1 strc A L) (hc : L.length ≤ c) (hsz : ∀ x ∈ L, x.length ≤ 1000000) (hin : inn.length ≤ 1000000) :
    Calls Tryd.prog 70 #[.pointer (some ⟨g, 0, none⟩), .string ⟨inn.toArray⟩, .slice A L.length c] w (CmdRet g (readA inn L o) w) := by
  have HT := Lib.hid (test_any g o w false h)
  have HL := Lib.hid hl
  have H := Lib.hid h
  clear h hl
  by_cases h1 : L.length = 1
  · obtain ⟨n, rfl⟩ := List.length_eq_one_iff.1 h1
    obtain ⟨gb, go, hA, e0⟩ := hrd.str4 (k := 0) (by simp)
    subst hA
    simp only [List.getElem_cons_zero, List.length_cons, List.length_nil, Nat.add_zero] at e0 hc ⊢
    have HNM := Lib.hid (tname_any n w (Nat.le_trans (hsz n (by simp)) (by decide)))
    simp only [readA]
    cases hnb : nameB n with
    | false =>
      rw [hnb] at HNM
      simp only [Bool.false_and, Bool.false_eq_true, if_false]
      clear h1 hrd hsz hnb hin
      go_enter Tryd.func70, Tryd.ntmps70
      go_wp2_with fail
      refine HNM.out.mono ?_
      rintro e w1 ⟨rfl, rfl⟩
      go_wp2_with fail
      refine HT.out.mono ?_
      rintro e w2 ⟨rfl, hO, hB⟩
      go_wp2_with fail
      go_end0
      exact ⟨rfl, hO, hB⟩
    | true =>
      rw [hnb] at HNM
      cases inn with
      | nil =>
        simp only [List.isEmpty_nil, Bool.not_true, Bool.and_false, Bool.false_eq_true, if_false]
        clear h1 hrd hsz hnb hin
        go_enter Tryd.func70, Tryd.ntmps70
        go_wp2_with fail
        refine HNM.out.mono ?_
        rintro e w1 ⟨rfl, rfl⟩
        go_wp2_with fail
        refine HT.out.mono ?_
        rintro e w2 ⟨rfl, hO, hB⟩
        go_wp2_with fail
        go_end0
        exact ⟨rfl, hO, hB⟩
      | cons ch t =>
        simp only [List.isEmpty_cons, Bool.not_false, Bool.and_true, if_true]
        have hne : (ch :: t).isEmpty = false := rfl
        have HCUT := Lib.hid (fun (W : World) (hW : W.cell? ⟨3, 0, none⟩ = some (.int .i64 m0)) => Tryd.strings_Cut ⟨(ch :: t).toArray⟩ ⟨#[10]⟩ m0 W (by show (ch :: t).toArray.size < _; rw [List.size_toArray]; omega) hW)
        obtain ⟨k1, k2⟩ := cut_nl (ch :: t)
        simp only [show (⟨(ch :: t).toArray⟩ : ByteArray).data.toList = ch :: t from rfl, show (⟨#[10]⟩ : ByteArray).data.toList = [10] from rfl, k1, k2] at HCUT
        generalize (Lib.cut (ch :: t) [10]).2.2 = tb at *
        generalize (cutN (ch :: t)).1 = u1 at *
        generalize (cutN (ch :: t)).2 = u2 at *
        clear k1 k2 h1 hrd hsz hnb hin
        generalize ch :: t = inn at *
        have hO := H.out
        unfold OcB at hO
        have d0 := (hO).cell 0
        have d1 := (hO).cell 1
        have d2 := (hO).cell 2
        have d3 := (hO).cell 3
        have d4 := (hO).cell 4
        have d5 := (hO).cell 5
        have f0 := (hO).frozen 0
        have f1 := (hO).frozen 1
        have f2 := (hO).frozen 2
        have f3 := (hO).frozen 3
        have f4 := (hO).frozen 4
        have f5 := (hO).frozen 5
        simp only [List.getElem?_toArray, List.getElem?_cons_zero, List.getElem?_cons_succ] at d0 d1 d2 d3 d4 d5
        have HO := Lib.hid hO
        clear hO HT
        go_enter Tryd.func70, Tryd.ntmps70
        go_wp2_with fail
        refine HNM.out.mono ?_
        rintro e w1 ⟨rfl, rfl⟩
        go_wp2_with fail
        have HO1 := Lib.hid (HO.out.set 3 (.string { data := n.toArray }))
        have HB1 := Lib.hid (But.set (B := g) w1 3 (.string { data := n.toArray }))
        have HM1 := HB1.out.cell HL.out.max hn2
        clear d0 d1 d2 d3 d4 d5 f0 f1 f2 f3 f4 f5 e0 HO H HL HNM
        generalize w1.setCell ⟨g, 3, none⟩ (.string { data := n.toArray }) = w2 at *
        refine (HCUT.out w2 HM1).mono ?_
        rintro e w3 ⟨rfl, nd, rfl⟩
        have hb3 : Below w2.heap.size w2 (w2.drewN nd) := ⟨rfl, rfl, rfl, Nat.le_refl _, fun _ _ => rfl⟩
        have hO3 := HO1.out.below hb3
        simp only [List.setIfInBounds_toArray, List.set_cons_succ, List.set_cons_zero] at hO3
        have d0 := (hO3).cell 0
        have d1 := (hO3).cell 1
        have d2 := (hO3).cell 2
        have d3 := (hO3).cell 3
        have d4 := (hO3).cell 4
        have d5 := (hO3).cell 5
        have f0 := (hO3).frozen 0
        have f1 := (hO3).frozen 1
        have f2 := (hO3).frozen 2
        have f3 := (hO3).frozen 3
        have f4 := (hO3).frozen 4
        have f5 := (hO3).frozen 5
        simp only [List.getElem?_toArray, List.getElem?_cons_zero, List.getElem?_cons_succ] at d0 d1 d2 d3 d4 d5
        have HO3 := Lib.hid hO3
        have HB3 := Lib.hid (HB1.out.trans (But.of hb3))
        clear hO3 hb3 HM1 HO1 HB1 HCUT
        generalize w2.drewN nd = w3 at *
        have k0 := HO3.out.set 4 (.string { data := u1.toArray })
        have y1 := k0.cell 1
        have z1 := k0.frozen 1
        simp only [List.setIfInBounds_toArray, List.set_cons_succ, List.set_cons_zero, List.getElem?_toArray, List.getElem?_cons_zero, List.getElem?_cons_succ] at y1
        clear k0
        go_wp2_with fail
        go_end0
        refine ⟨rfl, ?_, (HB3.out.trans (But.set _ 4 _)).trans (But.set _ 1 _)⟩
        exact (HO3.out.set 4 (.string { data := u1.toArray })).set 1 (.string { data := u2.toArray })
  · obtain ⟨m, hm⟩ : ∃ m, m = L.length := ⟨_, rfl⟩
    have e2 : ((m : Int) != 1) = true := by rw [bne_iff_ne]; omega
    have HR := Lib.hid (show readA inn L o = { o with status := 1 } by
      match L, h1 with
      | [], _ => rfl
      | [_], h1 => exact absurd rfl h1
      | _ :: _ :: _, _ => rfl)
    rw [HR.out, ← hm]
    clear h1 hrd hsz hm hc hin
    go_enter Tryd.func70, Tryd.ntmps70
    go_wp2_with fail
    refine HT.out.mono ?_
    rintro e w2 ⟨rfl, hO, hB⟩
    go_wp2_with fail
    go_end0
    exact ⟨rfl, hO, hB⟩
def exitA (L : List (List UInt8)) (o : Outc) : Outc := match L with
  | [] => { o with fin := true }
  | x :: _ => if (parseL x).2 && decide ((parseL x).1 ≤ 255) then { o with fin := true, status := (parseL x).1 } else { o with fin := true }
set_option maxRecDepth 100000 in
set_option maxHeartbeats 2000000 in
theorem exit_any (h : OcB w g o) (hgA : 0 < L.length → ∀ a, A = some a → a.block ≠ g) (hrd : RdL w 1 strc A L) (hc : L.length ≤ c) (hsz : ∀ x ∈ L, x.length ≤ 1000000) :
    Calls Tryd.prog 65 #[.pointer (some ⟨g, 0, none⟩), inn, .slice A L.length c] w (CmdRet g (exitA L o) w) := by
  have H := Lib.hid h
  unfold OcB at h
  have d0 := (h).cell 0
  have d1 := (h).cell 1
  have d2 := (h).cell 2
  have d3 := (h).cell 3
  have d4 := (h).cell 4
  have d5 := (h).cell 5
  have f0 := (h).frozen 0
  have f1 := (h).frozen 1
  have f2 := (h).frozen 2
  have f3 := (h).frozen 3
  have f4 := (h).frozen 4
  have f5 := (h).frozen 5
  simp only [List.getElem?_toArray, List.getElem?_cons_zero, List.getElem?_cons_succ] at d0 d1 d2 d3 d4 d5
  have hb1 := But.set (B := g) w 5 (.bool true)
  have HO1 := Lib.hid (H.out.set 5 (.bool true))
  have HB1 := Lib.hid hb1
  clear h
  cases L with
  | nil =>
    clear hrd hsz hb1
    go_enter Tryd.func65, Tryd.ntmps65
    go_wp2_with fail
    go_end0
    exact ⟨rfl, HO1.out, HB1.out⟩
  | cons x t =>
    obtain ⟨gb, go, hA, e0⟩ := hrd.str4 (k := 0) (by simp)
    subst hA
    simp only [List.getElem_cons_zero, Nat.add_zero] at e0
    have hgb : gb ≠ g := hgA (by simp) _ rfl
    have e1 := hb1.cell e0 hgb
    have HP := Lib.hid (fun W => parse_any ⟨x.toArray⟩ W (by show x.toArray.size ≤ _; rw [List.size_toArray]; exact Nat.le_trans (hsz x (by simp)) (by decide)))
    simp only [show (⟨x.toArray⟩ : ByteArray).data.toList = x from rfl] at HP
    have hlt := parse_lt x
    obtain ⟨o2, ho2⟩ : ∃ o2 : Outc, o2 = exitA (x :: t) o := ⟨_, rfl⟩
    rw [← ho2]
    simp only [exitA] at ho2
    generalize (parseL x).1 = n at *
    generalize (parseL x).2 = p at *
    have HO2 := Lib.hid ho2
    clear ho2
    obtain ⟨m, hm⟩ : ∃ m, m = (x :: t).length := ⟨_, rfl⟩
    have hm0 : ((m : Int) == 0) = false := by rw [beq_eq_false_iff_ne, hm]; simp; omega
    have hm1 : 0 < m := by rw [hm]; simp
    rw [← hm] at hc ⊢
    clear hrd hsz hb1 hm e0
    go_enter Tryd.func65, Tryd.ntmps65
    go_upto_region 1 with (fail)
    clear d0 d1 d2 d3 d4 d5 f0 f1 f2 f3 f4 f5
    generalize w.setCell ⟨g, 5, none⟩ (.bool true) = w1 at *
    go_wp2_with fail
    refine (HP.out w1).mono ?_
    rintro e w2 ⟨rfl, rfl⟩
    cases p with
    | false =>
      go_wp2_with fail
      go_end0
      rw [HO2.out]
      exact ⟨rfl, HO1.out, HB1.out⟩
    | true =>
      have hO1 := HO1.out
      simp only [List.setIfInBounds_toArray, List.set_cons_succ, List.set_cons_zero] at hO1
      have d0 := (hO1).cell 0
      have d1 := (hO1).cell 1
      have d2 := (hO1).cell 2
      have d3 := (hO1).cell 3
      have d4 := (hO1).cell 4
      have d5 := (hO1).cell 5
      have f0 := (hO1).frozen 0
      have f1 := (hO1).frozen 1
      have f2 := (hO1).frozen 2
      have f3 := (hO1).frozen 3
      have f4 := (hO1).frozen 4
      have f5 := (hO1).frozen 5
      simp only [List.getElem?_toArray, List.getElem?_cons_zero, List.getElem?_cons_succ] at d0 d1 d2 d3 d4 d5
      by_cases h255 : n ≤ 255
      · have q1 : decide ((n : Int) ≤ 255) = true := decide_eq_true (by omega)
        have q2 : (true && decide (n ≤ 255)) = true := by rw [decide_eq_true h255]; rfl
        have HQ2 := Lib.hid q2
        clear hO1 q2
        go_wp2_with fail
        go_end0
        rw [HO2.out, HQ2.out]
        exact ⟨rfl, HO1.out.set 2 (.int .i64 n), HB1.out.trans (But.set _ 2 _)⟩
      · have q1 : decide ((n : Int) ≤ 255) = false := decide_eq_false (by omega)
        have q2 : (true && decide (n ≤ 255)) = false := by rw [decide_eq_false h255]; rfl
        have HQ2 := Lib.hid q2
        clear hO1 q2
        go_wp2_with fail
        go_end0
        rw [HO2.out, HQ2.out]
        exact ⟨rfl, HO1.out, HB1.out⟩
end
end Go.Proofs.YtjpfolbghjhodaaDoor
