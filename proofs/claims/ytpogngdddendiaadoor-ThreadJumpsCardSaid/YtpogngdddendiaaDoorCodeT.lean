/- The walk over code.Targets: an instruction's targets, of any code. A bound on the length. -/
import Derived.Test.YtpogngdddendiaaDoorGH
import Derived.Test.YtpogngdddendiaaDoorShelf
import Derived.Sort.OwnSortedInts
import Derived.Lib.OwnBridge
set_option linter.unusedVariables false
set_option linter.unusedSimpArgs false
namespace Go.Proofs.YtpogngdddendiaaDoor
open Go.RowKit Go.Sort

def PlacesOwn (L : List Int) (w : World) (e : Ending) (w' : World) : Prop := ∃ A c m, m = L.length ∧ e = .returned (.slice A m c) ∧ w'.ownsRow w.heap.size 3 1 (.slice A m c) m (L.flatMap intc) ∧ Below w.heap.size w w'
set_option maxHeartbeats 4000000 in
theorem places_own (x : Ins) (w : World) : Calls Tryd.prog 40 #[.agg #[.int .i64 x.op, .int .i64 x.a, .int .i64 x.b, .string ⟨x.s.toArray⟩]] w (PlacesOwn (placesL x) w) := by
  obtain ⟨i0, hi, hz0, hz1, hz2⟩ := info_parts infoIntC
  obtain ⟨W0, hW0⟩ : ∃ W0, W0 = w.alloc (.cells #[.int .i64 x.op, .int .i64 x.a, .int .i64 x.b, .string ⟨x.s.toArray⟩] 36) := ⟨_, rfl⟩
  have hb0 : Below w.heap.size w W0 := by rw [hW0]; exact (Below.refl _ _).alloc (Nat.le_refl _) _
  have hB0 : Blk W0 w.heap.size 36 #[.int .i64 x.op, .int .i64 x.a, .int .i64 x.b, .string ⟨x.s.toArray⟩] := by rw [hW0]; exact Blk.new w _ _
  have HB := Lib.hid hb0
  have HBK := Lib.hid hB0
  have HJ := Lib.hid (jumps_any x.op W0)
  obtain ⟨L, hL⟩ : ∃ L, L = placesL x := ⟨_, rfl⟩
  rw [← hL]
  have HP := Lib.hid (show L = (if placeA x.op = true then [x.a] else []) ++ (if placeB x.op = true then [x.b] else []) from hL)
  clear hL
  generalize placeA x.op = pa at *
  generalize placeB x.op = pb at *
  have z0 := hB0.cell 0
  simp only [List.getElem?_toArray, List.getElem?_cons_zero] at z0
  clear hb0 hB0
  go_enter Tryd.func40, Tryd.ntmps40
  go_upto_region 1 with (fail)
  rw [← hW0]
  clear hW0
  go_wp2_with fail
  refine HJ.out.mono ?_
  rintro e w1 ⟨rfl, hb1⟩
  have HB1 := Lib.hid (HB.out.trans (hb1.mono HB.out.size))
  have HBK1 := Lib.hid (HBK.out.below hb1)
  have y1 := HBK1.out.cell 1
  have y2 := HBK1.out.cell 2
  simp only [List.getElem?_toArray, List.getElem?_cons_zero, List.getElem?_cons_succ] at y1 y2
  have hown0 : w1.ownsRow w.heap.size 3 1 (.slice none 0 0) 0 [] := ⟨by simp, .inl ⟨rfl, rfl⟩⟩
  clear z0 hb1 HJ HBK HB
  cases pa
  · cases pb
    · go_wp2_with fail
      go_ret
      exact ⟨none, 0, 0, by rw [HP.out]; rfl, rfl, by rw [HP.out]; exact World.ownsRow_nil _ _ _ _, HB1.out⟩
    · go_wp2_with (at_builtin; refine wpList_push rfl _ _ _ rfl Tryd.underlying45 hi hz0 hz1 hz2 rfl (by decide) hown0 rfl rfl rfl (by simp [Value.oneCell']) (by omega) (by decide) HB1.out.size ?_; intro A2 c2 w2 hown2 hb2 hoo2)
      go_ret
      exact ⟨A2, c2, 1, by rw [HP.out]; rfl, rfl, by rw [HP.out]; exact hown2, HB1.out.trans hb2⟩
  · cases pb
    · go_wp2_with (at_builtin; refine wpList_push rfl _ _ _ rfl Tryd.underlying45 hi hz0 hz1 hz2 rfl (by decide) hown0 rfl rfl rfl (by simp [Value.oneCell']) (by omega) (by decide) HB1.out.size ?_; intro A2 c2 w2 hown2 hb2 hoo2)
      go_ret
      exact ⟨A2, c2, 1, by rw [HP.out]; rfl, rfl, by rw [HP.out]; exact hown2, HB1.out.trans hb2⟩
    · go_upto_region 5 with (at_builtin; refine wpList_push rfl _ _ _ rfl Tryd.underlying45 hi hz0 hz1 hz2 rfl (by decide) hown0 rfl rfl rfl (by simp [Value.oneCell']) (by omega) (by decide) HB1.out.size ?_; intro A2 c2 w2 hown2 hb2 hoo2)
      clear y1 y2
      have y2 := (HBK1.out.others hoo2 (by decide)).cell 2
      simp only [List.getElem?_toArray, List.getElem?_cons_zero, List.getElem?_cons_succ] at y2
      clear hown0
      go_wp2_with (at_builtin; refine wpList_push rfl _ _ _ rfl Tryd.underlying45 hi hz0 hz1 hz2 rfl (by decide) hown2 rfl rfl rfl (by simp [Value.oneCell']) (by omega) (by decide) (Nat.le_trans HB1.out.size hb2.size) ?_; intro A3 c3 w3 hown3 hb3 hoo3)
      go_ret
      exact ⟨A3, c3, 2, by rw [HP.out]; rfl, rfl, by rw [HP.out]; exact hown3, (HB1.out.trans hb2).trans hb3⟩

theorem tg1_any (i : Int) (n c : Nat) (A : Option Addr) (B : Nat) (w : World) (hb : w.cell? ⟨B, 0, none⟩ = some (.slice A n c)) :
    Calls Tryd.prog 42 #[.int .i64 i, .pointer (some ⟨B, 0, none⟩)] w (fun e w' => e = .returned (.bool (outB n i)) ∧ w' = w) := by
  by_cases h1 : i < 0
  all_goals by_cases h2 : (n : Int) ≤ i
  all_goals
    go_enter Tryd.func42, Tryd.ntmps42
    go_wp2_with fail
    go_ret
    exact ⟨name_ret (by simp [outB, h1, h2]), rfl⟩
theorem intc_encI (l : List Int) : l.flatMap intc = l.map (Value.int .i64) := intc_flat l
theorem tg1_gives (i : Int) (n c : Nat) (A : Option Addr) (B : Nat) (w : World) (hb : w.cell? ⟨B, 0, none⟩ = some (.slice A n c)) :
    FnGives Tryd.prog 42 #[.pointer (some ⟨B, 0, none⟩)] #[.int .i64 i] (.bool (outB n i)) w := by
  refine (tg1_any i n c A B w hb).mono ?_
  rintro e w' ⟨rfl, rfl⟩
  exact ⟨rfl, 0, rfl⟩
theorem delF_any (base cb : Nat) (A : Option Addr) (n c : Nat) (v : Value) (L : List Int) (w : World) (hcb : cb < base) (hbw : base ≤ w.heap.size) (hc : w.cell? ⟨cb, 0, none⟩ = some (.slice A n c)) (hown : w.ownsRow base 3 1 v L.length (L.flatMap intc)) (hne : L ≠ []) (hl : L.length ≤ 1000000) :
    Calls Tryd.prog 41 #[v, .func (.func 42) #[] #[.pointer (some ⟨cb, 0, none⟩)]] w fun e w' => ∃ A' c', e = .returned (.slice A' (L.filter fun x => !outB n x).length c') ∧ w'.ownsRow base 3 1 (.slice A' (L.filter fun x => !outB n x).length c') (L.filter fun x => !outB n x).length ((L.filter fun x => !outB n x).flatMap intc) ∧ Below base w w' := by
  rw [intc_encI] at hown
  have h1 := hown
  rcases hown.2 with ⟨rfl, h0⟩ | ⟨g, cap, cur, rfl, hb, hg, hcc, hm, hcs, ht⟩
  · exact absurd (List.eq_nil_of_length_eq_zero h0) hne
  · have hH : Holds (Value.int .i64) w g 0 L.toArray := holds_of_blockI hg (by rw [Nat.mul_one] at ht; exact ht)
    have hle := List.length_filter_le (fun x => !outB n x) L
    have hcl : ∀ W, Below base w W → W.cell? ⟨cb, 0, none⟩ = some (.slice A n c) := fun W hW => by
      rw [← hc]
      unfold World.cell?
      rw [hW.block cb hcb]
    refine (Tryd.slices_DeleteFunc (Value.int .i64) (fun _ => rfl) (outB n) 42 #[.pointer (some ⟨cb, 0, none⟩)] (fun _ _ => by kernel_rfl) 0 (fun _ => by kernel_rfl) g 0 cap L.toArray w ?_ ?_ hH (by simp; omega) (by simpa using hcc)).mono ?_
    · exact fun W x hW => tg1_gives x n c A cb W (hcl W (hW.mono hbw))
    · exact fun m os dk x _ => tg1_gives x n c A cb _ (hcl _ ((Below.refl _ _).grown (grownBy_sortedI _) hbw (fun j hj => by cases hj; exact hb)))
    · rintro e w' ⟨rfl, q, rfl⟩
      refine ⟨_, _, rfl, ?_, Lib.below_putRow (Below.refl _ _) hb⟩
      rw [intc_encI]
      have hc2 := Lib.ownsRow_putRow (q := q) (k := (L.filter fun x => !outB n x).length) (ys := (L.filter fun x => !outB n x) ++ List.replicate (L.length - (L.filter fun x => !outB n x).length) 0) h1 (by simp only [List.length_append, List.length_replicate]; omega) hle
      rw [List.take_left] at hc2
      simpa using hc2
def sortZ (l : List Int) : List Int := l.mergeSort fun x y => decide (x ≤ y)
theorem sortZ_len (l : List Int) : (sortZ l).length = l.length := List.length_mergeSort l
theorem sortZ_any (base : Nat) (l : List Int) (v : Value) (w : World) (hown : w.ownsRow base 3 1 v l.length (l.flatMap intc)) (hl : l.length ≤ 1000000) :
    Calls Tryd.prog 43 #[v] w fun e w' => e = .returned (.tuple #[]) ∧ w'.ownsRow base 3 1 v l.length ((sortZ l).flatMap intc) ∧ Below base w w' := by
  rw [intc_encI] at hown
  rcases hown.2 with ⟨rfl, h0⟩ | ⟨g, cap, cur, rfl, hb, hg, hc, hm, hcs, ht⟩
  · have : l = [] := List.eq_nil_of_length_eq_zero h0
    subst this
    refine (Tryd.slices_Sort_int_none none 0 w).mono ?_
    rintro e w' ⟨rfl, rfl⟩
    rw [List.eq_nil_of_length_eq_zero (sortZ_len [])]
    exact ⟨rfl, World.ownsRow_nil _ _ _ _, Below.refl _ _⟩
  · have hH : Holds (Value.int .i64) w g 0 l.toArray := holds_of_blockI hg (by rw [Nat.mul_one] at ht; exact ht)
    refine (Tryd.slices_Sort_int g 0 cap l w hH (Array.getElem?_eq_some_iff.1 hg).1 (by omega)).mono ?_
    rintro e w' ⟨rfl, n, os, rfl⟩
    refine ⟨rfl, ?_, ?_⟩
    · rw [intc_encI]
      exact ownsRow_sortedI (sortZ_len l) hb hg hc hm hcs
    · exact (Below.refl _ _).grown (grownBy_sortedI _) (by have := (Array.getElem?_eq_some_iff.1 hg).1; omega) (fun j hj => by cases hj; exact hb)
theorem compactZ_any (base : Nat) (l : List Int) (v : Value) (w : World) (hown : w.ownsRow base 3 1 v l.length (l.flatMap intc)) (hl : l.length ≤ 1000000) :
    Calls Tryd.prog 44 #[v] w fun e w' => ∃ A c, e = .returned (.slice A (Lib.compact l).length c) ∧ w'.ownsRow base 3 1 (.slice A (Lib.compact l).length c) (Lib.compact l).length ((Lib.compact l).flatMap intc) ∧ Below base w w' := by
  rw [intc_encI] at hown
  have h1 := hown
  rcases hown.2 with ⟨rfl, h0⟩ | ⟨g, cap, cur, rfl, hb, hg, hc, hm, hcs, ht⟩
  · have : l = [] := List.eq_nil_of_length_eq_zero h0
    subst this
    refine (Tryd.slices_Compact_int_empty none 0 w).mono ?_
    rintro e w' ⟨rfl, rfl⟩
    exact ⟨none, 0, rfl, World.ownsRow_nil _ _ _ _, Below.refl _ _⟩
  · have hH : Holds (Value.int .i64) w g 0 l.toArray := holds_of_blockI hg (by rw [Nat.mul_one] at ht; exact ht)
    have hle := Lib.compact_length_le l
    refine (Tryd.slices_Compact_int g 0 cap l w hH (by omega) hc).mono ?_
    rintro e w' ⟨rfl, q, rfl⟩
    refine ⟨_, _, rfl, ?_, Lib.below_putRow (Below.refl _ _) hb⟩
    rw [intc_encI]
    have hc2 := Lib.ownsRow_putRow (q := q) (k := (Lib.compact l).length) (ys := Lib.compact l ++ List.replicate (l.length - (Lib.compact l).length) 0) h1 (by simp; omega) (by omega)
    rwa [List.take_left] at hc2
end Go.Proofs.YtpogngdddendiaaDoor
