/- The walk over code.Targets: an instruction's targets, of any code. A bound on the length. -/
import Derived.Test.YtpogngdddendiaaDoorGH
import Derived.Test.YtpogngdddendiaaDoorShelf
import Derived.Sort.OwnSortedInts
import Derived.Lib.OwnBridge
import Derived.Test.YtpogngdddendiaaDoorWrStr
import Derived.Lib.ItoaLen
import Derived.Lib.AppendIntMem
import Derived.Lib.LaidTab
import Derived.Outline
set_option linter.unusedVariables false
set_option linter.unusedSimpArgs false
namespace Go.Proofs.YtpogngdddendiaaDoor
open Go.RowKit Go.Sort

def PlacesOwn (L : List Int) (w : World) (e : Ending) (w' : World) : Prop := ∃ A c m, m = L.length ∧ e = .returned (.slice A m c) ∧ w'.ownsRow w.heap.size 3 1 (.slice A m c) m (L.flatMap intc) ∧ Below w.heap.size w w'
set_option maxHeartbeats 4000000 in
theorem places_own (x : Ins) (w : World) : Calls Tryd.prog 40 #[.agg #[.int .i64 x.op, .int .i64 x.a, .int .i64 x.b, .string ⟨x.s.toArray⟩]] w (PlacesOwn (placesL x) w) := by
  obtain ⟨i0, hi, hz0, hz1, hz2⟩ := info_parts infoIntC
  obtain ⟨W0, hW0⟩ : ∃ W0, W0 = w.alloc (.cells #[.int .i64 x.op, .int .i64 x.a, .int .i64 x.b, .string ⟨x.s.toArray⟩] 36) := ⟨_, rfl⟩
  have hb0 : Below w.heap.size w W0 := by rw [hW0]; exact (Below.refl _ _).alloc (Nat.le_refl _) _
  have hB0 : Blk W0 w.heap.size 36 #[.int .i64 x.op, .int .i64 x.a, .int .i64 x.b, .string ⟨x.s.toArray⟩] := by rw [hW0]; exact Blk.new w _ _
  have HB := Lib.hid hb0
  have HBK := Lib.hid hB0
  have HJ := Lib.hid (jumps_any x.op W0)
  obtain ⟨L, hL⟩ : ∃ L, L = placesL x := ⟨_, rfl⟩
  rw [← hL]
  have HP := Lib.hid (show L = (if placeA x.op = true then [x.a] else []) ++ (if placeB x.op = true then [x.b] else []) from hL)
  clear hL
  generalize placeA x.op = pa at *
  generalize placeB x.op = pb at *
  have z0 := hB0.cell 0
  simp only [List.getElem?_toArray, List.getElem?_cons_zero] at z0
  clear hb0 hB0
  go_enter Tryd.func40, Tryd.ntmps40
  go_upto_region 1 with (fail)
  rw [← hW0]
  clear hW0
  go_wp2_with fail
  refine HJ.out.mono ?_
  rintro e w1 ⟨rfl, hb1⟩
  have HB1 := Lib.hid (HB.out.trans (hb1.mono HB.out.size))
  have HBK1 := Lib.hid (HBK.out.below hb1)
  have y1 := HBK1.out.cell 1
  have y2 := HBK1.out.cell 2
  simp only [List.getElem?_toArray, List.getElem?_cons_zero, List.getElem?_cons_succ] at y1 y2
  have hown0 : w1.ownsRow w.heap.size 3 1 (.slice none 0 0) 0 [] := ⟨by simp, .inl ⟨rfl, rfl⟩⟩
  clear z0 hb1 HJ HBK HB
  cases pa
  · cases pb
    · go_wp2_with fail
      go_ret
      exact ⟨none, 0, 0, by rw [HP.out]; rfl, rfl, by rw [HP.out]; exact World.ownsRow_nil _ _ _ _, HB1.out⟩
    · go_wp2_with (at_builtin; refine wpList_push rfl _ _ _ rfl Tryd.underlying45 hi hz0 hz1 hz2 rfl (by decide) hown0 rfl rfl rfl (by simp [Value.oneCell']) (by omega) (by decide) HB1.out.size ?_; intro A2 c2 w2 hown2 hb2 hoo2)
      go_ret
      exact ⟨A2, c2, 1, by rw [HP.out]; rfl, rfl, by rw [HP.out]; exact hown2, HB1.out.trans hb2⟩
  · cases pb
    · go_wp2_with (at_builtin; refine wpList_push rfl _ _ _ rfl Tryd.underlying45 hi hz0 hz1 hz2 rfl (by decide) hown0 rfl rfl rfl (by simp [Value.oneCell']) (by omega) (by decide) HB1.out.size ?_; intro A2 c2 w2 hown2 hb2 hoo2)
      go_ret
      exact ⟨A2, c2, 1, by rw [HP.out]; rfl, rfl, by rw [HP.out]; exact hown2, HB1.out.trans hb2⟩
    · go_upto_region 5 with (at_builtin; refine wpList_push rfl _ _ _ rfl Tryd.underlying45 hi hz0 hz1 hz2 rfl (by decide) hown0 rfl rfl rfl (by simp [Value.oneCell']) (by omega) (by decide) HB1.out.size ?_; intro A2 c2 w2 hown2 hb2 hoo2)
      clear y1 y2
      have y2 := (HBK1.out.others hoo2 (by decide)).cell 2
      simp only [List.getElem?_toArray, List.getElem?_cons_zero, List.getElem?_cons_succ] at y2
      clear hown0
      go_wp2_with (at_builtin; refine wpList_push rfl _ _ _ rfl Tryd.underlying45 hi hz0 hz1 hz2 rfl (by decide) hown2 rfl rfl rfl (by simp [Value.oneCell']) (by omega) (by decide) (Nat.le_trans HB1.out.size hb2.size) ?_; intro A3 c3 w3 hown3 hb3 hoo3)
      go_ret
      exact ⟨A3, c3, 2, by rw [HP.out]; rfl, rfl, by rw [HP.out]; exact hown3, (HB1.out.trans hb2).trans hb3⟩

theorem tg1_any (i : Int) (n c : Nat) (A : Option Addr) (B : Nat) (w : World) (hb : w.cell? ⟨B, 0, none⟩ = some (.slice A n c)) :
    Calls Tryd.prog 42 #[.int .i64 i, .pointer (some ⟨B, 0, none⟩)] w (fun e w' => e = .returned (.bool (outB n i)) ∧ w' = w) := by
  by_cases h1 : i < 0
  all_goals by_cases h2 : (n : Int) ≤ i
  all_goals
    go_enter Tryd.func42, Tryd.ntmps42
    go_wp2_with fail
    go_ret
    exact ⟨name_ret (by simp [outB, h1, h2]), rfl⟩
theorem intc_encI (l : List Int) : l.flatMap intc = l.map (Value.int .i64) := intc_flat l
theorem tg1_gives (i : Int) (n c : Nat) (A : Option Addr) (B : Nat) (w : World) (hb : w.cell? ⟨B, 0, none⟩ = some (.slice A n c)) :
    FnGives Tryd.prog 42 #[.pointer (some ⟨B, 0, none⟩)] #[.int .i64 i] (.bool (outB n i)) w := by
  refine (tg1_any i n c A B w hb).mono ?_
  rintro e w' ⟨rfl, rfl⟩
  exact ⟨rfl, 0, rfl⟩
theorem delF_any (base cb : Nat) (A : Option Addr) (n c : Nat) (v : Value) (L : List Int) (w : World) (hcb : cb < base) (hbw : base ≤ w.heap.size) (hc : w.cell? ⟨cb, 0, none⟩ = some (.slice A n c)) (hown : w.ownsRow base 3 1 v L.length (L.flatMap intc)) (hne : L ≠ []) (hl : L.length ≤ 1000000) :
    Calls Tryd.prog 41 #[v, .func (.func 42) #[] #[.pointer (some ⟨cb, 0, none⟩)]] w fun e w' => ∃ A' c', e = .returned (.slice A' (L.filter fun x => !outB n x).length c') ∧ w'.ownsRow base 3 1 (.slice A' (L.filter fun x => !outB n x).length c') (L.filter fun x => !outB n x).length ((L.filter fun x => !outB n x).flatMap intc) ∧ Below base w w' := by
  rw [intc_encI] at hown
  have h1 := hown
  rcases hown.2 with ⟨rfl, h0⟩ | ⟨g, cap, cur, rfl, hb, hg, hcc, hm, hcs, ht⟩
  · exact absurd (List.eq_nil_of_length_eq_zero h0) hne
  · have hH : Holds (Value.int .i64) w g 0 L.toArray := holds_of_blockI hg (by rw [Nat.mul_one] at ht; exact ht)
    have hle := List.length_filter_le (fun x => !outB n x) L
    have hcl : ∀ W, Below base w W → W.cell? ⟨cb, 0, none⟩ = some (.slice A n c) := fun W hW => by
      rw [← hc]
      unfold World.cell?
      rw [hW.block cb hcb]
    refine (Tryd.slices_DeleteFunc (Value.int .i64) (fun _ => rfl) (outB n) 42 #[.pointer (some ⟨cb, 0, none⟩)] (fun _ _ => by kernel_rfl) 0 (fun _ => by kernel_rfl) g 0 cap L.toArray w ?_ ?_ hH (by simp; omega) (by simpa using hcc)).mono ?_
    · exact fun W x hW => tg1_gives x n c A cb W (hcl W (hW.mono hbw))
    · exact fun m os dk x _ => tg1_gives x n c A cb _ (hcl _ ((Below.refl _ _).grown (grownBy_sortedI _) hbw (fun j hj => by cases hj; exact hb)))
    · rintro e w' ⟨rfl, q, rfl⟩
      refine ⟨_, _, rfl, ?_, Lib.below_putRow (Below.refl _ _) hb⟩
      rw [intc_encI]
      have hc2 := Lib.ownsRow_putRow (q := q) (k := (L.filter fun x => !outB n x).length) (ys := (L.filter fun x => !outB n x) ++ List.replicate (L.length - (L.filter fun x => !outB n x).length) 0) h1 (by simp only [List.length_append, List.length_replicate]; omega) hle
      rw [List.take_left] at hc2
      simpa using hc2
def sortZ (l : List Int) : List Int := l.mergeSort fun x y => decide (x ≤ y)
theorem sortZ_len (l : List Int) : (sortZ l).length = l.length := List.length_mergeSort l
theorem sortZ_any (base : Nat) (l : List Int) (v : Value) (w : World) (hown : w.ownsRow base 3 1 v l.length (l.flatMap intc)) (hl : l.length ≤ 1000000) :
    Calls Tryd.prog 43 #[v] w fun e w' => e = .returned (.tuple #[]) ∧ w'.ownsRow base 3 1 v l.length ((sortZ l).flatMap intc) ∧ Below base w w' := by
  rw [intc_encI] at hown
  rcases hown.2 with ⟨rfl, h0⟩ | ⟨g, cap, cur, rfl, hb, hg, hc, hm, hcs, ht⟩
  · have : l = [] := List.eq_nil_of_length_eq_zero h0
    subst this
    refine (Tryd.slices_Sort_int_none none 0 w).mono ?_
    rintro e w' ⟨rfl, rfl⟩
    rw [List.eq_nil_of_length_eq_zero (sortZ_len [])]
    exact ⟨rfl, World.ownsRow_nil _ _ _ _, Below.refl _ _⟩
  · have hH : Holds (Value.int .i64) w g 0 l.toArray := holds_of_blockI hg (by rw [Nat.mul_one] at ht; exact ht)
    refine (Tryd.slices_Sort_int g 0 cap l w hH (Array.getElem?_eq_some_iff.1 hg).1 (by omega)).mono ?_
    rintro e w' ⟨rfl, n, os, rfl⟩
    refine ⟨rfl, ?_, ?_⟩
    · rw [intc_encI]
      exact ownsRow_sortedI (sortZ_len l) hb hg hc hm hcs
    · exact (Below.refl _ _).grown (grownBy_sortedI _) (by have := (Array.getElem?_eq_some_iff.1 hg).1; omega) (fun j hj => by cases hj; exact hb)
theorem compactZ_any (base : Nat) (l : List Int) (v : Value) (w : World) (hown : w.ownsRow base 3 1 v l.length (l.flatMap intc)) (hl : l.length ≤ 1000000) :
    Calls Tryd.prog 44 #[v] w fun e w' => ∃ A c, e = .returned (.slice A (Lib.compact l).length c) ∧ w'.ownsRow base 3 1 (.slice A (Lib.compact l).length c) (Lib.compact l).length ((Lib.compact l).flatMap intc) ∧ Below base w w' := by
  rw [intc_encI] at hown
  have h1 := hown
  rcases hown.2 with ⟨rfl, h0⟩ | ⟨g, cap, cur, rfl, hb, hg, hc, hm, hcs, ht⟩
  · have : l = [] := List.eq_nil_of_length_eq_zero h0
    subst this
    refine (Tryd.slices_Compact_int_empty none 0 w).mono ?_
    rintro e w' ⟨rfl, rfl⟩
    exact ⟨none, 0, rfl, World.ownsRow_nil _ _ _ _, Below.refl _ _⟩
  · have hH : Holds (Value.int .i64) w g 0 l.toArray := holds_of_blockI hg (by rw [Nat.mul_one] at ht; exact ht)
    have hle := Lib.compact_length_le l
    refine (Tryd.slices_Compact_int g 0 cap l w hH (by omega) hc).mono ?_
    rintro e w' ⟨rfl, q, rfl⟩
    refine ⟨_, _, rfl, ?_, Lib.below_putRow (Below.refl _ _) hb⟩
    rw [intc_encI]
    have hc2 := Lib.ownsRow_putRow (q := q) (k := (Lib.compact l).length) (ys := Lib.compact l ++ List.replicate (l.length - (Lib.compact l).length) 0) h1 (by simp; omega) (by omega)
    rwa [List.take_left] at hc2
end Go.Proofs.YtpogngdddendiaaDoor

/- The walks over text.Number, code.line, code.together, code.Print. Bounds on the lengths. -/
set_option linter.unusedVariables false
set_option linter.unusedSimpArgs false
namespace Go.Proofs.YtpogngdddendiaaDoor
open Go.RowKit

def PowI (w : World) : Prop := Lib.TabIs Tryd.prog w "internal/strconv.uint64pow10" .u64 Lib.pow10Tab
theorem tab_belowI {P : Program} {w w' : World} {nm : String} {k : IntKind} {zs : List Int} (h : Lib.TabIs P w nm k zs) (hb : Below w.heap.size w w') : Lib.TabIs P w' nm k zs := by
  unfold Lib.TabIs World.var? at *
  cases hg : P.globalNamed nm with
  | none => simp [hg] at h
  | some g =>
    simp only [hg] at h ⊢
    simp only [Option.bind_some] at h ⊢
    cases hx : w.heap[g]? with
    | none => rw [hx] at h; cases h
    | some o =>
      rw [hb.block g (Array.getElem?_eq_some_iff.1 hx).1]
      exact h
theorem PowI.below {w w' : World} (h : PowI w) (hb : Below w.heap.size w w') : PowI w' := tab_belowI h hb
def InI (n : Int) : Prop := -9223372036854775808 ≤ n ∧ n ≤ 9223372036854775807
theorem numberI_any (n : Int) (hn : InI n) (w : World) (hp : PowI w) : Calls Tryd.prog 87 #[.int .i64 n] w (Ret w (.string ⟨(Lib.itoa n).toArray⟩)) := by
  have HC := Lib.hid (Tryd.strconv_Itoa n hn.1 hn.2 w hp)
  generalize Lib.itoa n = d at *
  clear hp
  go_enter Tryd.func87, Tryd.ntmps87
  go_wp2_with fail
  refine HC.out.mono ?_
  rintro e w1 ⟨rfl, k, os, hw⟩
  have hb : Below w.heap.size w w1 := by rw [hw]; exact Lib.below_grow w.heap.size w (Nat.le_refl _) k os
  clear hw
  go_wp2_with fail
  go_ret
  exact ⟨rfl, hb⟩
theorem ba_appI (x y : List UInt8) : (⟨x.toArray⟩ ++ ⟨y.toArray⟩ : ByteArray) = ⟨(x ++ y).toArray⟩ := by apply ByteArray.ext; simp
def nameL (op : Int) : List UInt8 := (nameO op).data.toList
theorem nameO_L (op : Int) : nameO op = ⟨(nameL op).toArray⟩ := by unfold nameL; simp
/-- An instruction's line, its text quoted so. -/
def lineL (q : List UInt8) (x : Ins) : List UInt8 := nameL x.op ++ [32] ++ Lib.itoa x.a ++ [32] ++ Lib.itoa x.b ++ (if x.s = [] then [] else [32] ++ q) ++ [10]
theorem name_len (op : Int) : (nameL op).length ≤ 20 := by
  unfold nameL nameO
  split
  · rename_i h
    unfold inOp at h
    simp only [Bool.and_eq_true, decide_eq_true_eq] at h
    have hc : ∀ k : Fin 42, (nameS k.val).data.toList.length ≤ 20 := by decide
    have := hc ⟨op.toNat, by omega⟩
    exact this
  · simp
set_option maxRecDepth 100000 in
set_option maxHeartbeats 4000000 in
theorem line_any (x : Ins) (q : List UInt8) (w : World) (ha : InI x.a) (hb : InI x.b) (hq : q.length ≤ 20000) (hp : PowI w) (hQ : x.s ≠ [] → ∀ W, Below w.heap.size w W → Calls Tryd.prog 140 #[.string ⟨x.s.toArray⟩] W (Ret W (.string ⟨q.toArray⟩))) :
    Calls Tryd.prog 116 #[.agg #[.int .i64 x.op, .int .i64 x.a, .int .i64 x.b, .string ⟨x.s.toArray⟩]] w (Ret w (.string ⟨(lineL q x).toArray⟩)) := by
  obtain ⟨W0, hW0⟩ : ∃ W0, W0 = w.alloc (.cells #[.int .i64 x.op, .int .i64 x.a, .int .i64 x.b, .string ⟨x.s.toArray⟩] 36) := ⟨_, rfl⟩
  have hb0 : Below w.heap.size w W0 := by rw [hW0]; exact (Below.refl _ _).alloc (Nat.le_refl _) _
  have hB0 : Blk W0 w.heap.size 36 #[.int .i64 x.op, .int .i64 x.a, .int .i64 x.b, .string ⟨x.s.toArray⟩] := by rw [hW0]; exact Blk.new w _ _
  have z0 := hB0.cell 0
  have z1 := hB0.cell 1
  have z2 := hB0.cell 2
  have z3 := hB0.cell 3
  simp only [List.getElem?_toArray, List.getElem?_cons_zero, List.getElem?_cons_succ] at z0 z1 z2 z3
  have hpw := hp.below hb0
  have NC := Lib.hid (fun W (hW : Below W0.heap.size W0 W) => by have := name_all x.op W; rw [nameO_L] at this; exact this)
  have AC := Lib.hid (fun W (hW : Below W0.heap.size W0 W) => numberI_any x.a ha W (hpw.below hW))
  have BC := Lib.hid (fun W (hW : Below W0.heap.size W0 W) => numberI_any x.b hb W (hpw.below hW))
  have QC := Lib.hid hQ
  have HB0 := Lib.hid hb0
  have h1 := name_len x.op
  have h2 := Lib.itoa_length_le x.a ha.1 ha.2
  have h3 := Lib.itoa_length_le x.b hb.1 hb.2
  have HLL := Lib.hid (show lineL q x = nameL x.op ++ [32] ++ Lib.itoa x.a ++ [32] ++ Lib.itoa x.b ++ (if x.s = [] then [] else [32] ++ q) ++ [10] from rfl)
  generalize nameL x.op = nm at *
  generalize Lib.itoa x.a = la at *
  generalize Lib.itoa x.b = lb at *
  have A1 := Lib.hid (show (⟨nm.toArray⟩ ++ ⟨#[32]⟩ ++ ⟨la.toArray⟩ ++ ⟨#[32]⟩ ++ ⟨lb.toArray⟩ : ByteArray) = ⟨(nm ++ [32] ++ la ++ [32] ++ lb).toArray⟩ by apply ByteArray.ext; simp)
  have hlen : (nm ++ [32] ++ la ++ [32] ++ lb).length ≤ 100 := by simp; omega
  obtain ⟨l1, hl1⟩ : ∃ l, nm.length = l := ⟨_, rfl⟩
  obtain ⟨l2, hl2⟩ : ∃ l, la.length = l := ⟨_, rfl⟩
  obtain ⟨l3, hl3⟩ : ∃ l, lb.length = l := ⟨_, rfl⟩
  obtain ⟨l4, hl4⟩ : ∃ l, q.length = l := ⟨_, rfl⟩
  have HLE := Lib.hid (And.intro h1 (And.intro h2 (And.intro h3 (And.intro hq hlen))))
  rw [hl1] at h1
  rw [hl2] at h2
  rw [hl3] at h3
  rw [hl4] at hq
  clear hb0 hB0 hpw hp hQ ha hb hlen
  go_enter Tryd.func116, Tryd.ntmps116
  go_upto_region 1 with (fail)
  rw [← hW0]
  clear hW0
  have y0 := Later.cell z0
  have y1 := Later.cell z1
  have y2 := Later.cell z2
  refine wp_region_eq (by kernel_rfl) (by kernel_rfl) ?_
  apply EqGo.run
  focus
    kernel_rfl
  focus
    intro x K hK
    go_wp2_with fail
    first | exact hK x (Below.refl _ _) | exact Below.refl _ _
  simp only [Act.put, List.setIfInBounds_toArray, List.set_cons_succ, List.set_cons_zero]
  apply EqGo.run
  focus
    kernel_rfl
  focus
    intro x K hK
    go_wp2_with fail
    first | exact hK x (Below.refl _ _) | exact Below.refl _ _
  simp only [Act.put, List.setIfInBounds_toArray, List.set_cons_succ, List.set_cons_zero]
  apply EqGo.run
  focus
    kernel_rfl
  focus
    intro x K hK
    go_wp2_with fail
    refine (Hid.out NC x.val x.below).mono ?_
    rintro e x' ⟨rfl, hb'⟩
    exact hK ⟨x', x.below.trans (hb'.mono x.below.size)⟩ hb'
  simp only [Act.put, List.setIfInBounds_toArray, List.set_cons_succ, List.set_cons_zero]
  apply EqGo.run
  focus
    kernel_rfl
  focus
    intro x K hK
    go_wp2_with fail
    first | exact hK x (Below.refl _ _) | exact Below.refl _ _
  simp only [Act.put, List.setIfInBounds_toArray, List.set_cons_succ, List.set_cons_zero]
  apply EqGo.run
  focus
    kernel_rfl
  focus
    intro x K hK
    go_wp2_with fail
    first | exact hK x (Below.refl _ _) | exact Below.refl _ _
  simp only [Act.put, List.setIfInBounds_toArray, List.set_cons_succ, List.set_cons_zero]
  apply EqGo.run
  focus
    kernel_rfl
  focus
    intro x K hK
    go_wp2_with fail
    first | exact hK x (Below.refl _ _) | exact Below.refl _ _
  simp only [Act.put, List.setIfInBounds_toArray, List.set_cons_succ, List.set_cons_zero]
  apply EqGo.run
  focus
    kernel_rfl
  focus
    intro x K hK
    go_wp2_with fail
    refine (Hid.out AC x.val x.below).mono ?_
    rintro e x' ⟨rfl, hb'⟩
    exact hK ⟨x', x.below.trans (hb'.mono x.below.size)⟩ hb'
  simp only [Act.put, List.setIfInBounds_toArray, List.set_cons_succ, List.set_cons_zero]
  apply EqGo.run
  focus
    kernel_rfl
  focus
    intro x K hK
    go_wp2_with fail
    first | exact hK x (Below.refl _ _) | exact Below.refl _ _
  simp only [Act.put, List.setIfInBounds_toArray, List.set_cons_succ, List.set_cons_zero]
  apply EqGo.run
  focus
    kernel_rfl
  focus
    intro x K hK
    go_wp2_with fail
    first | exact hK x (Below.refl _ _) | exact Below.refl _ _
  simp only [Act.put, List.setIfInBounds_toArray, List.set_cons_succ, List.set_cons_zero]
  apply EqGo.run
  focus
    kernel_rfl
  focus
    intro x K hK
    go_wp2_with fail
    first | exact hK x (Below.refl _ _) | exact Below.refl _ _
  simp only [Act.put, List.setIfInBounds_toArray, List.set_cons_succ, List.set_cons_zero]
  apply EqGo.run
  focus
    kernel_rfl
  focus
    intro x K hK
    go_wp2_with fail
    first | exact hK x (Below.refl _ _) | exact Below.refl _ _
  simp only [Act.put, List.setIfInBounds_toArray, List.set_cons_succ, List.set_cons_zero]
  apply EqGo.run
  focus
    kernel_rfl
  focus
    intro x K hK
    go_wp2_with fail
    refine (Hid.out BC x.val x.below).mono ?_
    rintro e x' ⟨rfl, hb'⟩
    exact hK ⟨x', x.below.trans (hb'.mono x.below.size)⟩ hb'
  simp only [Act.put, List.setIfInBounds_toArray, List.set_cons_succ, List.set_cons_zero]
  apply EqGo.run
  focus
    kernel_rfl
  focus
    intro x K hK
    go_wp2_with fail
    first | exact hK x (Below.refl _ _) | exact Below.refl _ _
  simp only [Act.put, List.setIfInBounds_toArray, List.set_cons_succ, List.set_cons_zero]
  apply EqGo.run
  focus
    kernel_rfl
  focus
    intro x K hK
    go_wp2_with fail
    first | exact hK x (Below.refl _ _) | exact Below.refl _ _
  simp only [Act.put, List.setIfInBounds_toArray, List.set_cons_succ, List.set_cons_zero]
  intro y
  have y3 := cell_keep y.below z3
  have HY := Lib.hid (HB0.out.trans (y.below.mono HB0.out.size))
  generalize y.val = wy at *
  rw [A1.out]
  have HL5 := HLE.out.2.2.2.2
  obtain ⟨N, hN⟩ : ∃ N, (nm ++ [32] ++ la ++ [32] ++ lb) = N := ⟨_, rfl⟩
  rw [hN] at HL5 ⊢
  have HNN := Lib.hid hN
  obtain ⟨l5, hl5⟩ : ∃ l, N.length = l := ⟨_, rfl⟩
  rw [hl5] at HL5
  clear hN y0 y1 y2 NC AC BC z0 z1 z2 hl1 hl2 hl3 h1 h2 h3
  obtain ⟨s, hs⟩ : ∃ s, x.s = s := ⟨_, rfl⟩
  rw [hs] at y3 QC HLL
  clear hs z3
  cases s with
  | nil =>
    have HE := Lib.hid (show (⟨N.toArray⟩ ++ ⟨#[10]⟩ : ByteArray) = ⟨(lineL q x).toArray⟩ by rw [HLL.out, HNN.out]; apply ByteArray.ext; simp)
    clear QC
    go_wp2_with fail
    go_ret
    exact ⟨by rw [← HE.out]; rfl, HY.out⟩
  | cons c s =>
    have QC2 := Lib.hid (fun W hW => QC.out (by simp) W hW)
    have HE := Lib.hid (show (⟨N.toArray⟩ ++ (⟨#[32]⟩ ++ ⟨q.toArray⟩) ++ ⟨#[10]⟩ : ByteArray) = ⟨(lineL q x).toArray⟩ by rw [HLL.out, HNN.out]; apply ByteArray.ext; simp)
    clear QC
    go_wp2_with fail
    refine (QC2.out _ HY.out).mono ?_
    rintro e w2 ⟨rfl, hb2⟩
    have HY2 := Lib.hid (HY.out.trans (hb2.mono HY.out.size))
    go_wp2_with fail
    go_ret
    exact ⟨by rw [← HE.out]; rfl, HY2.out⟩
end Go.Proofs.YtpogngdddendiaaDoor

/- The walk over code.Targets: an instruction's targets, of any code. A bound on the length. -/
set_option linter.unusedVariables false
set_option linter.unusedSimpArgs false
namespace Go.Proofs.YtpogngdddendiaaDoor
open Go.RowKit Go.Sort

theorem ownsRow_lower {w : World} {b b' : Nat} {e : TypeId} {sz : Nat} {v : Value} {n : Nat} {xs : List Value} (h : w.ownsRow b' e sz v n xs) (hb : b ≤ b') : w.ownsRow b e sz v n xs :=
  ⟨h.1, h.2.imp id fun ⟨g, cap, cur, h1, h2, h3⟩ => ⟨g, cap, cur, h1, Nat.le_trans hb h2, h3⟩⟩
/-- Where an instruction may go on, of a code of n. -/
def targX (n : Nat) (k : Int) (x : Ins) : List Int := Lib.compact (sortZ ((placesL x ++ (if x.op = 18 then [] else [k + 1])).filter fun y => !outB n y))
def targL (X : List Ins) (i : Int) : List Int :=
  if i < 0 ∨ (X.length : Int) ≤ i then [] else match X[i.toNat]? with
  | none => []
  | some x => if x.op = 41 ∨ x.op = 40 then [] else targX X.length i x
theorem placesL_len (x : Ins) : (placesL x).length ≤ 2 := by unfold placesL; cases placeA x.op <;> cases placeB x.op <;> simp
theorem tg_ne (x : Ins) (k : Int) : placesL x ++ (if x.op = 18 then [] else [k + 1]) ≠ [] := by
  by_cases h : x.op = 18
  · unfold placesL; rw [h]; simp [placeA]
  · rw [if_neg h]; simp
set_option maxRecDepth 100000 in
set_option maxHeartbeats 4000000 in
theorem targets_any (A : Option Addr) (c : Nat) (st i : Int) (X : List Ins) (w : World) (hlen : X.length ≤ 9000) (hi64 : InI i) (hrd : RdL w 4 insc A X) :
    Calls Tryd.prog 17 #[.agg #[.slice A X.length c, .int .i64 st], .int .i64 i] w (PlacesOwn (targL X i) w) := by
  obtain ⟨W0, hW0⟩ : ∃ W0, W0 = w.alloc (.cells #[.slice A X.length c, .int .i64 st] 29) := ⟨_, rfl⟩
  have hb0 : Below w.heap.size w W0 := by rw [hW0]; exact (Below.refl _ _).alloc (Nat.le_refl _) _
  have hB0 : Blk W0 w.heap.size 29 #[.slice A X.length c, .int .i64 st] := by rw [hW0]; exact Blk.new w _ _
  have hsz : W0.heap.size = w.heap.size + 1 := by rw [hW0]; exact Array.size_push _
  have HRD := Lib.hid (hrd.below hb0)
  have z0 := hB0.cell 0
  simp only [List.getElem?_toArray, List.getElem?_cons_zero] at z0
  have HB0 := Lib.hid hb0
  have HBK := Lib.hid hB0
  obtain ⟨i1, hi1⟩ := hi64
  obtain ⟨m, hm⟩ : ∃ m, X.length = m := ⟨_, rfl⟩
  have HM := Lib.hid hm
  have HSZ := Lib.hid hsz
  obtain ⟨T, hT⟩ : ∃ T, targL X i = T := ⟨_, rfl⟩
  have HT0 := Lib.hid hT
  rw [hm] at z0 hW0 hlen ⊢
  rw [hT]
  clear hb0 hB0 hrd hm hsz hT
  go_enter Tryd.func17, Tryd.ntmps17
  go_upto_region 1 with (fail)
  rw [← hW0]
  clear hW0
  by_cases hlo : i < 0
  · have HT := Lib.hid (show T = [] by rw [← HT0.out]; unfold targL; rw [if_pos (.inl hlo)])
    go_wp2_with fail
    go_ret
    exact ⟨none, 0, 0, by rw [HT.out]; rfl, rfl, by rw [HT.out]; exact World.ownsRow_nil _ _ _ _, HB0.out⟩
  by_cases hhi : (m : Int) ≤ i
  · have HT := Lib.hid (show T = [] by rw [← HT0.out]; unfold targL; rw [if_pos (.inr (by rw [HM.out]; exact hhi))])
    go_wp2_with fail
    go_ret
    exact ⟨none, 0, 0, by rw [HT.out]; rfl, rfl, by rw [HT.out]; exact World.ownsRow_nil _ _ _ _, HB0.out⟩
  obtain ⟨k, rfl⟩ : ∃ k : Nat, i = k := ⟨i.toNat, by omega⟩
  have hk : k < m := by omega
  have hkL : k < X.length := by rw [HM.out]; exact hk
  obtain ⟨b, o, rfl, _, hcell⟩ := HRD.out k hkL
  obtain ⟨x, hx⟩ : ∃ x, x = X[k] := ⟨_, rfl⟩
  rw [← hx] at hcell
  have HTX := Lib.hid (show T = if x.op = 41 ∨ x.op = 40 then [] else targX m (k : Int) x by
    rw [← HT0.out]
    unfold targL
    rw [if_neg (by rw [HM.out]; omega), Int.toNat_natCast, List.getElem?_eq_getElem hkL, ← hx, HM.out])
  have c0 := hcell 0 _ rfl
  have c1 := hcell 1 _ rfl
  have c2 := hcell 2 _ rfl
  have c3 := hcell 3 _ rfl
  simp only [Nat.add_zero] at c0
  clear hcell hx hkL HT0
  by_cases e41 : x.op = 41
  · have HT := Lib.hid (show T = [] by rw [HTX.out, if_pos (.inl e41)])
    rw [e41] at c0
    go_wp2_with fail
    go_ret
    exact ⟨none, 0, 0, by rw [HT.out]; rfl, rfl, by rw [HT.out]; exact World.ownsRow_nil _ _ _ _, HB0.out⟩
  by_cases e40 : x.op = 40
  · have HT := Lib.hid (show T = [] by rw [HTX.out, if_pos (.inr e40)])
    rw [e40] at c0
    go_wp2_with fail
    go_ret
    exact ⟨none, 0, 0, by rw [HT.out]; rfl, rfl, by rw [HT.out]; exact World.ownsRow_nil _ _ _ _, HB0.out⟩
  have HT := Lib.hid (show T = targX m (k : Int) x by rw [HTX.out, if_neg (by simp [e41, e40])])
  have HPC := Lib.hid (places_own x W0)
  have HLQ := Lib.hid (placesL_len x)
  have HNE := Lib.hid (tg_ne x (k : Int))
  have f41 : (x.op == 41) = false := by simp [e41]
  have f40 : (x.op == 40) = false := by simp [e40]
  clear HTX e41 e40
  go_upto_region 3 with (fail)
  go_wp2_with fail
  refine HPC.out.mono ?_
  rintro e w1 ⟨A1, cap1, n1, hn1, rfl, hown1, hb1⟩
  have HB1 := Lib.hid (HB0.out.trans (hb1.mono HB0.out.size))
  have HBK1 := Lib.hid (HBK.out.below hb1)
  have y0 := HBK1.out.cell 0
  have d0 := cell_keep hb1 c0
  simp only [List.getElem?_toArray, List.getElem?_cons_zero] at y0
  rw [HM.out] at y0
  have hown0 := ownsRow_lower (b := w.heap.size + 1) hown1 (by rw [HSZ.out]; exact Nat.le_refl _)
  have HBW := Lib.hid (show Below (w.heap.size + 1) W0 w1 from hb1.mono (by rw [HSZ.out]; exact Nat.le_refl _))
  have hsz1 : w.heap.size + 1 ≤ w1.heap.size := by have := hb1.size; rw [HSZ.out] at this; exact this
  clear hown1 hb1 c0 c1 c2 c3 HPC
  obtain ⟨P, hP⟩ : ∃ P, placesL x = P := ⟨_, rfl⟩
  have HP := Lib.hid hP
  rw [hP] at HLQ HNE hn1 hown0
  clear hP
  obtain ⟨i0, hi, hz0, hz1, hz2⟩ := info_parts infoIntC
  obtain ⟨g, hg⟩ : ∃ g, g = w.heap.size := ⟨_, rfl⟩
  have HG := Lib.hid hg
  rw [← hg] at hown0 hsz1 y0 HBW ⊢
  clear hg
  have hlq := HLQ.out
  have HPN := Lib.hid hn1.symm
  rw [← hn1] at hlq
  clear hn1
  generalize n1 = pn at *
  by_cases e18 : x.op = 18
  · have HL := Lib.hid (show T = Lib.compact (sortZ (P.filter fun y => !outB m y)) by rw [HT.out]; unfold targX; rw [if_pos e18, HP.out, List.append_nil])
    have HNP := Lib.hid (show P ≠ [] by have := HNE.out; rw [if_pos e18, List.append_nil] at this; exact this)
    have HDF := Lib.hid (delF_any (g + 1) g _ m c _ P w1 (Nat.lt_succ_self _) hsz1 y0 (by rw [HPN.out]; exact hown0) HNP.out (by rw [HPN.out]; omega))
    have HBX := Lib.hid HBW.out
    rw [e18] at d0
    clear e18 hown0 hsz1 HNE HT
    have HLL := Lib.hid (show P.length ≤ 3 by rw [HPN.out]; omega)
    obtain ⟨LF, hLF⟩ : ∃ LF, (P).filter (fun y => !outB m y) = LF := ⟨_, rfl⟩
    have HLF := Lib.hid (show LF.length ≤ 1000 by rw [← hLF]; refine Nat.le_trans (List.length_filter_le _ _) (Nat.le_trans HLL.out (by decide)))
    rw [hLF] at HDF HL
    clear hLF
    go_wp2_with fail
    refine HDF.out.mono ?_
    rintro e w3 ⟨A3, c3, rfl, hown3, hb3⟩
    have HS := Lib.hid (sortZ_any _ LF _ w3 hown3 (by have := HLF.out; omega))
    have HX3 := Lib.hid (HBX.out.trans hb3)
    obtain ⟨n3, hn3⟩ : ∃ n3, LF.length = n3 := ⟨_, rfl⟩
    have HN3 := Lib.hid hn3
    rw [hn3] at HS ⊢
    clear hown3 hb3 hn3 HDF HBX
    go_wp2_with fail
    refine HS.out.mono ?_
    rintro e w4 ⟨rfl, hown4, hb4⟩
    have HC := Lib.hid (compactZ_any _ (sortZ LF) _ w4 (by rw [sortZ_len, HN3.out]; exact hown4) (by rw [sortZ_len]; have := HLF.out; omega))
    have HX4 := Lib.hid (HX3.out.trans hb4)
    clear hown4 hb4 HS HX3
    go_wp2_with fail
    refine HC.out.mono ?_
    rw [← HL.out]
    rintro e w5 ⟨A5, c5, rfl, hown5, hb5⟩
    have HX5 := Lib.hid (HX4.out.trans hb5)
    have HO5 := Lib.hid (ownsRow_lower hown5 (Nat.le_succ _))
    obtain ⟨n5, hn5⟩ : ∃ n5, T.length = n5 := ⟨_, rfl⟩
    have HN5 := Lib.hid hn5
    rw [hn5] at HO5 ⊢
    clear hown5 hb5 hn5 HC HX4
    go_wp2_with fail
    go_ret
    exact ⟨_, _, n5, HN5.out.symm, rfl, by rw [← HG.out]; exact HO5.out, by rw [← HG.out]; exact (by have h0 := HB0.out; rw [← HG.out] at h0; exact h0.trans (HX5.out.mono (Nat.le_succ _)))⟩
  · have HL := Lib.hid (show T = Lib.compact (sortZ ((P ++ [(k : Int) + 1]).filter fun y => !outB m y)) by rw [HT.out]; unfold targX; rw [if_neg e18, HP.out])
    have f18 : (x.op != 18) = true := by simp [e18]
    have hkk : decide ((k : Int) + 1 ≤ 9223372036854775807) = true := by simp; omega
    clear e18 HNE HT
    go_upto_region 6 with (at_builtin; refine wpList_push rfl _ _ _ rfl Tryd.underlying45 hi hz0 hz1 hz2 rfl (by decide) hown0 rfl rfl rfl (by simp [Value.oneCell']) (by omega) (by decide) hsz1 ?_; intro A2 c2 w2 hown2 hb2 hoo2)
    have hsz2 : g + 1 ≤ w2.heap.size := Nat.le_trans hsz1 hb2.size
    have y2 : w2.cell? ⟨g, 0, none⟩ = some (.slice (some ⟨b, o, none⟩) m c) := by rw [← y0]; unfold World.cell?; rw [hb2.block g (Nat.lt_succ_self _)]
    have HDF := Lib.hid (delF_any (g + 1) g _ m c _ (P ++ [(k : Int) + 1]) w2 (Nat.lt_succ_self _) hsz2 y2 (by rw [List.length_append, HPN.out, List.flatMap_append]; exact hown2) (by simp) (by rw [List.length_append, HPN.out]; simp; omega))
    have HBX := Lib.hid (HBW.out.trans hb2)
    clear hown0 hown2 hsz1 hb2 hoo2 y0 d0
    obtain ⟨LL, hLL⟩ : ∃ LL, LL = P ++ [(k : Int) + 1] := ⟨_, rfl⟩
    have HLL := Lib.hid (show LL.length ≤ 3 by rw [hLL, List.length_append, HPN.out]; simp; omega)
    have HLN := Lib.hid (show LL.length = pn + 1 by rw [hLL, List.length_append, HPN.out]; rfl)
    rw [← hLL] at HDF HL
    clear hLL
    obtain ⟨LF, hLF⟩ : ∃ LF, (LL).filter (fun y => !outB m y) = LF := ⟨_, rfl⟩
    have HLF := Lib.hid (show LF.length ≤ 1000 by rw [← hLF]; refine Nat.le_trans (List.length_filter_le _ _) (Nat.le_trans HLL.out (by decide)))
    rw [hLF] at HDF HL
    clear hLF
    go_wp2_with fail
    refine HDF.out.mono ?_
    rintro e w3 ⟨A3, c3, rfl, hown3, hb3⟩
    have HS := Lib.hid (sortZ_any _ LF _ w3 hown3 (by have := HLF.out; omega))
    have HX3 := Lib.hid (HBX.out.trans hb3)
    obtain ⟨n3, hn3⟩ : ∃ n3, LF.length = n3 := ⟨_, rfl⟩
    have HN3 := Lib.hid hn3
    rw [hn3] at HS ⊢
    clear hown3 hb3 hn3 HDF HBX
    go_wp2_with fail
    refine HS.out.mono ?_
    rintro e w4 ⟨rfl, hown4, hb4⟩
    have HC := Lib.hid (compactZ_any _ (sortZ LF) _ w4 (by rw [sortZ_len, HN3.out]; exact hown4) (by rw [sortZ_len]; have := HLF.out; omega))
    have HX4 := Lib.hid (HX3.out.trans hb4)
    clear hown4 hb4 HS HX3
    go_wp2_with fail
    refine HC.out.mono ?_
    rw [← HL.out]
    rintro e w5 ⟨A5, c5, rfl, hown5, hb5⟩
    have HX5 := Lib.hid (HX4.out.trans hb5)
    have HO5 := Lib.hid (ownsRow_lower hown5 (Nat.le_succ _))
    obtain ⟨n5, hn5⟩ : ∃ n5, T.length = n5 := ⟨_, rfl⟩
    have HN5 := Lib.hid hn5
    rw [hn5] at HO5 ⊢
    clear hown5 hb5 hn5 HC HX4
    go_wp2_with fail
    go_ret
    exact ⟨_, _, n5, HN5.out.symm, rfl, by rw [← HG.out]; exact HO5.out, by rw [← HG.out]; exact (by have h0 := HB0.out; rw [← HG.out] at h0; exact h0.trans (HX5.out.mono (Nat.le_succ _)))⟩
end Go.Proofs.YtpogngdddendiaaDoor
