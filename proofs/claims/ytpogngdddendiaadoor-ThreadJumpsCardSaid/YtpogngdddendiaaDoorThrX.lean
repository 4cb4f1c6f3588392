/- The walk over chapter 24's made: a code that may be, of any. A bound on the length. -/
import Derived.Test.YtpogngdddendiaaDoorGS
import Derived.Test.YtpogngdddendiaaDoorGC
import Derived.Test.YtpogngdddendiaaDoorCodeI
import Derived.Laws.BitsLemmas
set_option linter.unusedVariables false
set_option linter.unusedSimpArgs false
namespace Go.Proofs.YtpogngdddendiaaDoor
open Go.RowKit

theorem and7 (n : Int) : bits .and .i64 n 7 = n % 8 := by
  have h7 : (BitVec.ofInt 64 7).toNat = 2 ^ 3 - 1 := by decide
  have key : (BitVec.ofInt 64 n &&& BitVec.ofInt 64 7).toNat = (n % ((2 ^ 64 : Nat) : Int)).toNat % 2 ^ 3 := by
    rw [BitVec.toNat_and, BitVec.toNat_ofInt, h7, Nat.and_two_pow_sub_one_eq_mod]
  show IntKind.i64.wrap ((BitVec.ofInt 64 n &&& BitVec.ofInt 64 7).toNat : Nat) = n % 8
  rw [key, IntKind.wrap_i64]
  omega
def turn (n : Nat) (x : Int) : Int := (x.tmod ((n : Int) + 1) + n + 1).tmod ((n : Int) + 1)
def op24 (x : Int) : Int := (x.tmod 41 + 41).tmod 41 + 1
def mkI (n : Nat) (y : Ins) : Ins := ⟨op24 y.op, if placeA (op24 y.op) = true then turn n y.a else y.a % 8, if placeB (op24 y.op) = true then turn n y.b else y.b % 8, [115]⟩
def madeX (L : List Ins) : List Ins := L.map (mkI L.length) ++ [⟨41, 0, 0, []⟩]
theorem turn_in (n : Nat) (x : Int) : 0 ≤ turn n x ∧ turn n x ≤ n := by
  have hp : (0 : Int) < (n : Int) + 1 := by omega
  have h1 := Int.lt_tmod_of_pos x hp
  unfold turn
  have h3 := Int.tmod_nonneg ((n : Int) + 1) (show 0 ≤ x.tmod ((n : Int) + 1) + n + 1 by omega)
  have h4 := Int.tmod_lt_of_pos (x.tmod ((n : Int) + 1) + n + 1) hp
  omega
theorem op24_in (x : Int) : 1 ≤ op24 x ∧ op24 x ≤ 41 := by
  have h1 := Int.lt_tmod_of_pos x (show (0 : Int) < 41 by decide)
  unfold op24
  have h3 := Int.tmod_nonneg 41 (show 0 ≤ x.tmod 41 + 41 by omega)
  have h4 := Int.tmod_lt_of_pos (x.tmod 41 + 41) (show (0 : Int) < 41 by decide)
  omega
theorem mkI_ok (n : Nat) (y : Ins) : okI n (mkI n y) = true := by
  obtain ⟨h1, h2⟩ := op24_in y.op
  have h3 := turn_in n y.a
  have h4 := turn_in n y.b
  unfold okI mkI
  simp only [Bool.and_eq_true, Bool.or_eq_true, Bool.not_eq_true', decide_eq_true_eq]
  refine ⟨⟨⟨⟨⟨h1, h2⟩, ?_⟩, ?_⟩, ?_⟩, by decide⟩
  · cases placeA (op24 y.op) with
    | false => exact .inl rfl
    | true => exact .inr h3
  · cases placeB (op24 y.op) with
    | false => exact .inl rfl
    | true => exact .inr h4
  · right
    split
    · exact h3.1
    · omega
theorem madeX_length (L : List Ins) : (madeX L).length = L.length + 1 := by simp [madeX]
theorem madeX_ok {L : List Ins} (h : L.length ≤ 60) : okC (madeX L) := by
  refine ⟨by rw [madeX_length]; omega, by rw [madeX_length]; omega, fun x hx => ?_, ⟨⟨41, 0, 0, []⟩, ?_, .inl rfl⟩⟩
  · rw [madeX_length, Nat.add_sub_cancel]
    unfold madeX at hx
    rcases List.mem_append.1 hx with hx | hx
    · obtain ⟨y, _, rfl⟩ := List.mem_map.1 hx
      exact mkI_ok _ y
    · rw [List.mem_singleton] at hx
      subst hx
      unfold okI
      simp [placeA, placeB, countA]
  · rw [madeX_length, Nat.add_sub_cancel]
    unfold madeX
    rw [List.getElem?_append_right (by simp)]
    simp
def nwT (t : TypeId) (cs : Array Value) (B : Nat) : TT := ⟨fun v => ∃ g, v = .pointer (some ⟨g, 0, none⟩), ⟨_, 0, rfl⟩, fun v x => ∀ g, v = .pointer (some ⟨g, 0, none⟩) → Blk x g t cs ∧ B ≤ g, fun _ _ _ h hb g e => ⟨(h g e).1.below hb, (h g e).2⟩⟩
/-- A code of one's own. -/
def CodeOwn (X : List Ins) (st : Int) (w : World) (e : Ending) (w' : World) : Prop :=
  ∃ gl cl, e = .returned (.agg #[.slice (some ⟨gl, 0, none⟩) X.length cl, .int .i64 st]) ∧ w'.ownsRow w.heap.size 36 4 (.slice (some ⟨gl, 0, none⟩) X.length cl) X.length (X.flatMap insc) ∧ Below w.heap.size w w'
/-- Within made. -/
structure MdW (w0 w : World) (g2 g3 : Nat) (L : List Ins) (k : Nat) (A : Option Addr) (c : Nat) : Prop where
  o : w.ownsRow w0.heap.size 36 4 (.slice A k c) k (((L.take k).map (mkI L.length)).flatMap insc)
  b2 : Blk w g2 29 #[.slice none 0 0, .int .i64 0]
  b3 : Blk w g3 29 #[.slice A k c, .int .i64 0]
  b : Below w0.heap.size w0 w
theorem MdW.below {w0 w w' : World} {g2 g3 : Nat} {L : List Ins} {k : Nat} {A : Option Addr} {c : Nat} (h : MdW w0 w g2 g3 L k A c) (hb : Below w.heap.size w w') : MdW w0 w' g2 g3 L k A c :=
  ⟨own_below h.o hb, h.b2.below hb, h.b3.below hb, h.b.trans (hb.mono h.b.size)⟩
theorem MdW.put {w0 w w' : World} {g2 g3 gx : Nat} {L : List Ins} {k : Nat} {A : Option Addr} {c : Nat} {cs : Array Value} (h : MdW w0 w g2 g3 L k A c) (hb : But gx w w') (hx : Blk w gx 36 cs) (hne : (Value.slice A k c).ownBlock ≠ some gx) (hge : w0.heap.size ≤ gx) : MdW w0 w' g2 g3 L k A c :=
  ⟨own_but_ne h.o hb hne, hb.blk h.b2 (h.b2.apart hx (by decide)), hb.blk h.b3 (h.b3.apart hx (by decide)), h.b.trans (hb.below hge h.b.size)⟩
set_option maxRecDepth 100000 in
set_option maxHeartbeats 4000000 in
theorem made24_any (L : List Ins) (A : Option Addr) (c : Nat) (w : World) (hn : L.length ≤ 60) (hrd : RdL w 4 insc A L) (hin : ∀ y ∈ L, InI y.op ∧ InI y.a ∧ InI y.b) :
    Calls Tryd.prog 14 #[.slice A L.length c] w (CodeOwn (madeX L) 0 w) := by
  obtain ⟨i0, hi, hz0, hz1, hz2⟩ := info_parts infoIns
  obtain ⟨m, hm⟩ : ∃ m, L.length = m := ⟨_, rfl⟩
  have HM := Lib.hid hm
  have HRD := Lib.hid hrd
  have HIN := Lib.hid hin
  obtain ⟨W1, hW1⟩ : ∃ W1, W1 = w.alloc (.cells #[.slice none 0 0, .int .i64 0] 29) := ⟨_, rfl⟩
  obtain ⟨W2, hW2⟩ : ∃ W2, W2 = W1.alloc (.cells #[.slice none 0 0, .int .i64 0] 29) := ⟨_, rfl⟩
  have hsz1 : W1.heap.size = w.heap.size + 1 := by rw [hW1]; exact Array.size_push _
  have hb1 : Below w.heap.size w W1 := by rw [hW1]; exact (Below.refl _ _).alloc (Nat.le_refl _) _
  have hb2 : Below W1.heap.size W1 W2 := by rw [hW2]; exact (Below.refl _ _).alloc (Nat.le_refl _) _
  obtain ⟨g2, hg2⟩ : ∃ g2, g2 = w.heap.size := ⟨_, rfl⟩
  obtain ⟨g3, hg3⟩ : ∃ g3, g3 = w.heap.size + 1 := ⟨_, rfl⟩
  have HS := Lib.hid (show MdW w W2 g2 g3 L 0 none 0 from
    ⟨World.ownsRow_nil _ _ _ _, by
      have : Blk W1 g2 29 #[.slice none 0 0, .int .i64 0] := by rw [hW1, hg2]; exact Blk.new w _ _
      exact this.below hb2, by rw [hW2, hg3, ← hsz1]; exact Blk.new W1 _ _, hb1.trans (hb2.mono hb1.size)⟩)
  have HG3 := Lib.hid (show w.heap.size ≤ g3 by omega)
  have HG2 := Lib.hid (show w.heap.size ≤ g2 by omega)
  have HGN := Lib.hid (show g2 ≠ g3 by omega)
  have JC := Lib.hid (fun (op : Int) (W : World) => jumps_any op W)
  rw [hm] at hn ⊢
  go_enter Tryd.func14, Tryd.ntmps14
  go_upto_region 2 with (fail)
  rw [← hW1, ← hW2]
  rw [show w.heap.size + 1 = g3 from hg3.symm]
  rw [show w.heap.size = g2 from hg2.symm]
  clear hW1 hW2 hb1 hb2 hsz1 hg2 hg3 hrd hin hm
  go_wp2_with fail
  go_loopw [4] (fun v wr => ∃ (k : Nat) (A' : Option Addr) (c' : Nat), k ≤ m ∧ v = .int .i64 k ∧ Hid (MdW w wr g2 g3 L k A' c')) (fun v _ => m - (intOf v).toNat)
  case atStart => exact ⟨0, none, 0, Nat.zero_le _, rfl, HS⟩
  case round =>
    clear HS
    obtain ⟨k, A', c', hk, rfl, HS⟩ := hrel
    by_cases hlt : k < m
    · have HKX := Lib.hid (show k < L.length by rw [HM.out]; exact hlt)
      obtain ⟨b, o, rfl, hbl, hcell⟩ := (HRD.out.below HS.out.b) k HKX.out
      have HBL := Lib.hid hbl
      obtain ⟨y, hy⟩ := at_some HKX.out
      rw [getElem_of? HKX.out hy] at hcell
      have c0 := hcell 0 _ rfl
      have c1 := hcell 1 _ rfl
      have c2 := hcell 2 _ rfl
      simp only [Nat.add_zero] at c0
      have HY := Lib.hid hy
      obtain ⟨⟨i1, i2⟩, ⟨i3, i4⟩, ⟨i5, i6⟩⟩ := HIN.out y (List.mem_of_getElem? hy)
      obtain ⟨yo, hyo⟩ : ∃ yo, y.op = yo := ⟨_, rfl⟩
      obtain ⟨ya, hya⟩ : ∃ ya, y.a = ya := ⟨_, rfl⟩
      obtain ⟨yb, hyb⟩ : ∃ yb, y.b = yb := ⟨_, rfl⟩
      rw [hyo] at c0 i1 i2
      rw [hya] at c1 i3 i4
      rw [hyb] at c2 i5 i6
      have HLT := Lib.hid (show ∀ q, (Value.slice A' k c').ownBlock = some q → q < wr.heap.size from fun q hq => (HS.out.o.lt q hq).2)
      have HWZ := Lib.hid HS.out.b.size
      have HMK := Lib.hid (show mkI m y = ⟨op24 yo, if placeA (op24 yo) = true then turn m ya else ya % 8, if placeB (op24 yo) = true then turn m yb else yb % 8, [115]⟩ by unfold mkI; rw [hyo, hya, hyb])
      clear hcell hy hyo hya hyb hbl
      have a1 := and7 ya
      have a2 := and7 yb
      obtain ⟨r1, hr1⟩ : ∃ r1, yo.tmod 41 = r1 := ⟨_, rfl⟩
      have l1 : -41 < r1 := by rw [← hr1]; exact Int.lt_tmod_of_pos yo (by decide)
      have l2 : r1 < 41 := by rw [← hr1]; exact Int.tmod_lt_of_pos yo (by decide)
      obtain ⟨r2, hr2⟩ : ∃ r2, (r1 + 41).tmod 41 = r2 := ⟨_, rfl⟩
      have l3 : 0 ≤ r2 := by rw [← hr2]; exact Int.tmod_nonneg 41 (by omega)
      have l4 : r2 < 41 := by rw [← hr2]; exact Int.tmod_lt_of_pos _ (by decide)
      have HOP := Lib.hid (show op24 yo = r2 + 1 by unfold op24; rw [hr1, hr2])
      go_upto_region 5 with (fail)
      apply wp_region_relA 23 [eqT _, eqT _, eqT _, eqT _, eqT _, eqT _, eqT _, eqT _, eqT _, eqT _, eqT _, eqT _, eqT _, eqT _, eqT _, eqT _, eqT _, eqT _, eqT _, eqT _, eqT _, eqT _, nwT 36 #[.int .i64 0, .int .i64 0, .int .i64 0, .string ⟨#[]⟩] wr.heap.size] (by kernel_rfl) (by kernel_rfl) (by kernel_rfl) rfl
      focus
        refine ⟨?_, ?_⟩
        focus
          unfold opGoal
          rw [if_pos (by kernel_rfl)]
          intro x hb hd K hk
          clear hd
          go_wp2_with fail
          exact hk _ _ rfl trivial (Below.refl _ _)
        rintro _ rfl
        simp only [Act.put, List.setIfInBounds_toArray, List.set_cons_succ, List.set_cons_zero]
        refine ⟨?_, ?_⟩
        focus
          unfold opGoal
          rw [if_pos (by kernel_rfl)]
          intro x hb hd K hk
          clear hd
          go_wp2_with fail
          exact hk _ _ rfl trivial (Below.refl _ _)
        rintro _ rfl
        simp only [Act.put, List.setIfInBounds_toArray, List.set_cons_succ, List.set_cons_zero]
        refine ⟨?_, ?_⟩
        focus
          unfold opGoal
          rw [if_pos (by kernel_rfl)]
          intro x hb hd K hk
          clear hd
          go_wp2_with fail
          exact hk _ _ rfl trivial (Below.refl _ _)
        rintro _ rfl
        simp only [Act.put, List.setIfInBounds_toArray, List.set_cons_succ, List.set_cons_zero]
        refine ⟨?_, ?_⟩
        focus
          unfold opGoal
          rw [if_pos (by kernel_rfl)]
          intro x hb hd K hk
          clear hd
          go_wp2_with fail
          exact hk _ _ rfl trivial (Below.refl _ _)
        rintro _ rfl
        simp only [Act.put, List.setIfInBounds_toArray, List.set_cons_succ, List.set_cons_zero]
        refine ⟨?_, ?_⟩
        focus
          unfold opGoal
          rw [if_pos (by kernel_rfl)]
          intro x hb hd K hk
          clear hd
          have l0 := cell_keep hb c0
          go_wp2_with fail
          exact hk _ _ rfl trivial (Below.refl _ _)
        rintro _ rfl
        simp only [Act.put, List.setIfInBounds_toArray, List.set_cons_succ, List.set_cons_zero]
        refine ⟨?_, ?_⟩
        focus
          unfold opGoal
          rw [if_pos (by kernel_rfl)]
          intro x hb hd K hk
          clear hd
          go_wp2_with fail
          exact hk _ _ rfl trivial (Below.refl _ _)
        rintro _ rfl
        simp only [Act.put, List.setIfInBounds_toArray, List.set_cons_succ, List.set_cons_zero]
        refine ⟨?_, ?_⟩
        focus
          unfold opGoal
          rw [if_pos (by kernel_rfl)]
          intro x hb hd K hk
          clear hd
          go_wp2_with fail
          exact hk _ _ rfl trivial (Below.refl _ _)
        rintro _ rfl
        simp only [Act.put, List.setIfInBounds_toArray, List.set_cons_succ, List.set_cons_zero]
        refine ⟨?_, ?_⟩
        focus
          unfold opGoal
          rw [if_pos (by kernel_rfl)]
          intro x hb hd K hk
          clear hd
          go_wp2_with fail
          exact hk _ _ rfl trivial (Below.refl _ _)
        rintro _ rfl
        simp only [Act.put, List.setIfInBounds_toArray, List.set_cons_succ, List.set_cons_zero]
        refine ⟨?_, ?_⟩
        focus
          unfold opGoal
          rw [if_pos (by kernel_rfl)]
          intro x hb hd K hk
          clear hd
          go_wp2_with fail
          exact hk _ _ rfl trivial (Below.refl _ _)
        rintro _ rfl
        simp only [Act.put, List.setIfInBounds_toArray, List.set_cons_succ, List.set_cons_zero]
        refine ⟨?_, ?_⟩
        focus
          unfold opGoal
          rw [if_pos (by kernel_rfl)]
          intro x hb hd K hk
          clear hd
          go_wp2_with fail
          exact hk _ _ rfl trivial (Below.refl _ _)
        rintro _ rfl
        simp only [Act.put, List.setIfInBounds_toArray, List.set_cons_succ, List.set_cons_zero]
        refine ⟨?_, ?_⟩
        focus
          unfold opGoal
          rw [if_pos (by kernel_rfl)]
          intro x hb hd K hk
          clear hd
          go_wp2_with fail
          exact hk _ _ rfl trivial (Below.refl _ _)
        rintro _ rfl
        simp only [Act.put, List.setIfInBounds_toArray, List.set_cons_succ, List.set_cons_zero]
        refine ⟨?_, ?_⟩
        focus
          unfold opGoal
          rw [if_pos (by kernel_rfl)]
          intro x hb hd K hk
          clear hd
          go_wp2_with fail
          exact hk _ _ rfl trivial (Below.refl _ _)
        rintro _ rfl
        simp only [Act.put, List.setIfInBounds_toArray, List.set_cons_succ, List.set_cons_zero]
        refine ⟨?_, ?_⟩
        focus
          unfold opGoal
          rw [if_pos (by kernel_rfl)]
          intro x hb hd K hk
          clear hd
          go_wp2_with fail
          exact hk _ _ rfl trivial (Below.refl _ _)
        rintro _ rfl
        simp only [Act.put, List.setIfInBounds_toArray, List.set_cons_succ, List.set_cons_zero]
        refine ⟨?_, ?_⟩
        focus
          unfold opGoal
          rw [if_pos (by kernel_rfl)]
          intro x hb hd K hk
          clear hd
          have l0 := cell_keep hb c1
          go_wp2_with fail
          exact hk _ _ rfl trivial (Below.refl _ _)
        rintro _ rfl
        simp only [Act.put, List.setIfInBounds_toArray, List.set_cons_succ, List.set_cons_zero]
        refine ⟨?_, ?_⟩
        focus
          unfold opGoal
          rw [if_pos (by kernel_rfl)]
          intro x hb hd K hk
          clear hd
          go_wp2_with fail
          exact hk _ _ rfl trivial (Below.refl _ _)
        rintro _ rfl
        simp only [Act.put, List.setIfInBounds_toArray, List.set_cons_succ, List.set_cons_zero]
        refine ⟨?_, ?_⟩
        focus
          unfold opGoal
          rw [if_pos (by kernel_rfl)]
          intro x hb hd K hk
          clear hd
          go_wp2_with fail
          exact hk _ _ rfl trivial (Below.refl _ _)
        rintro _ rfl
        simp only [Act.put, List.setIfInBounds_toArray, List.set_cons_succ, List.set_cons_zero]
        refine ⟨?_, ?_⟩
        focus
          unfold opGoal
          rw [if_pos (by kernel_rfl)]
          intro x hb hd K hk
          clear hd
          go_wp2_with fail
          exact hk _ _ rfl trivial (Below.refl _ _)
        rintro _ rfl
        simp only [Act.put, List.setIfInBounds_toArray, List.set_cons_succ, List.set_cons_zero]
        refine ⟨?_, ?_⟩
        focus
          unfold opGoal
          rw [if_pos (by kernel_rfl)]
          intro x hb hd K hk
          clear hd
          go_wp2_with fail
          exact hk _ _ rfl trivial (Below.refl _ _)
        rintro _ rfl
        simp only [Act.put, List.setIfInBounds_toArray, List.set_cons_succ, List.set_cons_zero]
        refine ⟨?_, ?_⟩
        focus
          unfold opGoal
          rw [if_pos (by kernel_rfl)]
          intro x hb hd K hk
          clear hd
          go_wp2_with fail
          exact hk _ _ rfl trivial (Below.refl _ _)
        rintro _ rfl
        simp only [Act.put, List.setIfInBounds_toArray, List.set_cons_succ, List.set_cons_zero]
        refine ⟨?_, ?_⟩
        focus
          unfold opGoal
          rw [if_pos (by kernel_rfl)]
          intro x hb hd K hk
          clear hd
          have l0 := cell_keep hb c2
          go_wp2_with fail
          exact hk _ _ rfl trivial (Below.refl _ _)
        rintro _ rfl
        simp only [Act.put, List.setIfInBounds_toArray, List.set_cons_succ, List.set_cons_zero]
        refine ⟨?_, ?_⟩
        focus
          unfold opGoal
          rw [if_pos (by kernel_rfl)]
          intro x hb hd K hk
          clear hd
          go_wp2_with fail
          exact hk _ _ rfl trivial (Below.refl _ _)
        rintro _ rfl
        simp only [Act.put, List.setIfInBounds_toArray, List.set_cons_succ, List.set_cons_zero]
        refine ⟨?_, ?_⟩
        focus
          unfold opGoal
          rw [if_pos (by kernel_rfl)]
          intro x hb hd K hk
          clear hd
          go_wp2_with fail
          exact hk _ _ rfl trivial (Below.refl _ _)
        rintro _ rfl
        simp only [Act.put, List.setIfInBounds_toArray, List.set_cons_succ, List.set_cons_zero]
        refine ⟨?_, ?_⟩
        focus
          unfold opGoal
          rw [if_pos (by kernel_rfl)]
          intro x hb hd K hk
          clear hd
          go_wp2_with fail
          refine hk _ _ ⟨_, rfl⟩ ?_ ((Below.refl _ _).alloc (Nat.le_refl _) _)
          intro g hg
          injection hg with hg
          injection hg with hg
          injection hg with hg
          subst hg
          exact ⟨Blk.new x _ _, hb.size⟩
        rintro _ ⟨gx, rfl⟩
        simp only [Act.put, List.setIfInBounds_toArray, List.set_cons_succ, List.set_cons_zero]
        intro x hbx hf
        simp only [List.drop_succ_cons, List.drop_zero]
        obtain ⟨hgx, hgw⟩ := (hf 22 (nwT 36 #[.int .i64 0, .int .i64 0, .int .i64 0, .string ⟨#[]⟩] wr.heap.size) (.pointer (some ⟨gx, 0, none⟩)) (by kernel_rfl) (by kernel_rfl)) gx rfl
        have HX := Lib.hid hgx
        have HGX := Lib.hid hgw
        replace HS := Lib.hid (HS.out.below hbx)
        have m0 := hgx.cell 0
        have m1 := hgx.cell 1
        have m2 := hgx.cell 2
        have m3 := hgx.cell 3
        have f0 := hgx.frozen 0
        have f1 := hgx.frozen 1
        have f2 := hgx.frozen 2
        have f3 := hgx.frozen 3
        simp only [List.getElem?_toArray, List.getElem?_cons_zero, List.getElem?_cons_succ] at m0 m1 m2 m3
        replace c1 := cell_keep hbx c1
        replace c2 := cell_keep hbx c2
        clear hf hgx hgw hbx c0
        go_upto_region 6 with (fail)
        have HB4 := Lib.hid (show But gx x ((((x.setCell ⟨gx, 0, none⟩ (.int .i64 (r2 + 1))).setCell ⟨gx, 1, none⟩ (.int .i64 (ya % 8))).setCell ⟨gx, 2, none⟩ (.int .i64 (yb % 8))).setCell ⟨gx, 3, none⟩ (.string ⟨#[115]⟩)) from
          (((But.set x 0 _).trans (But.set _ 1 _)).trans (But.set _ 2 _)).trans (But.set _ 3 _))
        have HX4 := Lib.hid (show Blk ((((x.setCell ⟨gx, 0, none⟩ (.int .i64 (r2 + 1))).setCell ⟨gx, 1, none⟩ (.int .i64 (ya % 8))).setCell ⟨gx, 2, none⟩ (.int .i64 (yb % 8))).setCell ⟨gx, 3, none⟩ (.string ⟨#[115]⟩)) gx 36 #[.int .i64 (r2 + 1), .int .i64 (ya % 8), .int .i64 (yb % 8), .string ⟨#[115]⟩] from by
          have := (((HX.out.set 0 (.int .i64 (r2 + 1))).set 1 (.int .i64 (ya % 8))).set 2 (.int .i64 (yb % 8))).set 3 (.string ⟨#[115]⟩)
          simpa using this)
        have HNE := Lib.hid (show (Value.slice A' k c').ownBlock ≠ some gx from fun e => by have := HLT.out gx e; have := HGX.out; omega)
        have HGW := Lib.hid (show w.heap.size ≤ gx from Nat.le_trans HWZ.out HGX.out)
        replace HS := Lib.hid (HS.out.put HB4.out HX.out HNE.out HGW.out)
        have HBB := Lib.hid (show b ≠ gx from fun e => by have := HBL.out; have := HGX.out; omega)
        replace c1 := HB4.out.cell c1 HBB.out
        replace c2 := HB4.out.cell c2 HBB.out
        replace HX := HX4
        clear HX4 HB4 m0 m1 m2 m3 f0 f1 f2 f3 HLT HWZ HGX
        generalize (((x.setCell ⟨gx, 0, none⟩ (.int .i64 (r2 + 1))).setCell ⟨gx, 1, none⟩ (.int .i64 (ya % 8))).setCell ⟨gx, 2, none⟩ (.int .i64 (yb % 8))).setCell ⟨gx, 3, none⟩ (.string ⟨#[115]⟩) = wy at *
        obtain ⟨op, hop⟩ : ∃ op, r2 + 1 = op := ⟨_, rfl⟩
        rw [hop] at HX HOP ⊢
        clear a1 a2 hr1 l1 l2 hr2 l3 l4 hop HBL
        have y0 := HX.out.cell 0
        simp only [List.getElem?_toArray, List.getElem?_cons_zero] at y0
        go_wp2_with fail
        refine (JC.out op wy).mono ?_
        rintro e w10 ⟨rfl, hb10⟩
        replace HS := Lib.hid (HS.out.below hb10)
        replace HX := Lib.hid (HX.out.below hb10)
        replace c1 := cell_keep hb10 c1
        replace c2 := cell_keep hb10 c2
        obtain ⟨pa, hpa⟩ : ∃ pa, placeA op = pa := ⟨_, rfl⟩
        obtain ⟨pb, hpb⟩ : ∃ pb, placeB op = pb := ⟨_, rfl⟩
        rw [hpa, hpb]
        have HPA := Lib.hid hpa
        have HPB := Lib.hid hpb
        clear hb10 y0 hpa hpb
        cases pa with
        | false =>
          go_upto_region 9 with (fail)
          clear c1
          cases pb with
          | false =>
            go_upto_region 11 with (fail)
            clear c2
            have x0 := HX.out.cell 0
            have x1 := HX.out.cell 1
            have x2 := HX.out.cell 2
            have x3 := HX.out.cell 3
            have q0 := HS.out.b3.cell 0
            have hown := HS.out.o
            have hwz := HS.out.b.size
            simp only [List.getElem?_toArray, List.getElem?_cons_zero, List.getElem?_cons_succ] at x0 x1 x2 x3 q0
            have HMX := Lib.hid (show mkI m y = ⟨op, ((ya % 8)), (yb % 8), [115]⟩ by rw [HMK.out, HOP.out, HPA.out, HPB.out]; rfl)
            have HTK := Lib.hid (show ((L.take (k + 1)).map (mkI L.length)).flatMap insc = ((L.take k).map (mkI L.length)).flatMap insc ++ insc ⟨op, ((ya % 8)), (yb % 8), [115]⟩ by
              rw [List.take_add_one, HY.out, List.map_append, List.flatMap_append, HM.out]
              simp [HMX.out])
            clear HMK HOP HPA HPB HMX
            go_upto_region 4 with (at_builtin; refine wpList_push rfl _ _ _ rfl Tryd.underlying27 hi hz0 hz1 hz2 rfl (by decide) hown rfl rfl rfl (by simp [Value.oneCell']) (by omega) (by decide) hwz ?_; intro A8 c8 w8 ho8 hb8 hoo8; have HB3 := Lib.hid (HS.out.b3.others hoo8 (by decide)); have f8 := HB3.out.frozen 0; have q8 := HB3.out.cell 0; simp only [List.getElem?_toArray, List.getElem?_cons_zero] at q8)
            have HS3 := Lib.hid (show MdW w (w8.setCell ⟨g3, 0, none⟩ (.slice A8 (k + 1) c8)) g2 g3 L (k + 1) A8 c8 from
              ⟨by rw [HTK.out]; exact own_but ho8 (But.set w8 0 _) HB3.out (by decide), (But.set (B := g3) w8 0 _).blk (HS.out.b2.others hoo8 (by decide)) HGN.out, by have := HB3.out.set 0 (.slice A8 (k + 1) c8); simpa using this, (HS.out.b.trans hb8).trans ((But.set (B := g3) w8 0 _).below HG3.out (HS.out.b.trans hb8).size)⟩)
            generalize w8.setCell ⟨g3, 0, none⟩ (.slice A8 (k + 1) c8) = w9 at *
            clear x0 x1 x2 x3 q0 hown hwz HTK HB3 f8 q8 ho8 hb8 hoo8 HS HX
            go_wp2_with fail
            go_roundw
            case rel => exact ⟨k + 1, A8, c8, by omega, by go_num, HS3⟩
            case measure => simp [intOf]; omega
          | true =>
            have HX2 := Lib.hid (show Blk ((w10).setCell ⟨gx, 2, none⟩ (.int .i64 (turn m yb))) gx 36 #[.int .i64 op, .int .i64 ((ya % 8)), .int .i64 (turn m yb), .string ⟨#[115]⟩] from by
              have := HX.out.set 2 (.int .i64 (turn m yb))
              simpa using this)
            obtain ⟨t1, ht1⟩ : ∃ t1, (yb).tmod ((m : Int) + 1) = t1 := ⟨_, rfl⟩
            have e1 : -((m : Int) + 1) < t1 := by rw [← ht1]; exact Int.lt_tmod_of_pos _ (by omega)
            have e2 : t1 < (m : Int) + 1 := by rw [← ht1]; exact Int.tmod_lt_of_pos _ (by omega)
            have ht2 : (t1 + m + 1).tmod ((m : Int) + 1) = turn m yb := by unfold turn; rw [ht1]
            have e3 : ((m : Int) + 1 == 0) = false := by simp; omega
            have p2 := HX.out.cell 2
            have g2 := HX.out.frozen 2
            simp only [List.getElem?_toArray, List.getElem?_cons_zero, List.getElem?_cons_succ] at p2
            have HB9 := Lib.hid (But.set (B := gx) (w10) 2 (.int .i64 (turn m yb)))
            replace HS := Lib.hid (HS.out.put HB9.out HX.out HNE.out HGW.out)
            go_upto_region 11 with (fail)
            replace c2 := HB9.out.cell c2 HBB.out
            clear HB9 p2 g2 ht1 ht2 e1 e2 e3
            generalize (w10).setCell ⟨gx, 2, none⟩ (.int .i64 (turn m yb)) = wz at *
            replace HX := HX2
            clear HX2 c2
            have x0 := HX.out.cell 0
            have x1 := HX.out.cell 1
            have x2 := HX.out.cell 2
            have x3 := HX.out.cell 3
            have q0 := HS.out.b3.cell 0
            have hown := HS.out.o
            have hwz := HS.out.b.size
            simp only [List.getElem?_toArray, List.getElem?_cons_zero, List.getElem?_cons_succ] at x0 x1 x2 x3 q0
            have HMX := Lib.hid (show mkI m y = ⟨op, ((ya % 8)), (turn m yb), [115]⟩ by rw [HMK.out, HOP.out, HPA.out, HPB.out]; rfl)
            have HTK := Lib.hid (show ((L.take (k + 1)).map (mkI L.length)).flatMap insc = ((L.take k).map (mkI L.length)).flatMap insc ++ insc ⟨op, ((ya % 8)), (turn m yb), [115]⟩ by
              rw [List.take_add_one, HY.out, List.map_append, List.flatMap_append, HM.out]
              simp [HMX.out])
            clear HMK HOP HPA HPB HMX
            go_upto_region 4 with (at_builtin; refine wpList_push rfl _ _ _ rfl Tryd.underlying27 hi hz0 hz1 hz2 rfl (by decide) hown rfl rfl rfl (by simp [Value.oneCell']) (by omega) (by decide) hwz ?_; intro A8 c8 w8 ho8 hb8 hoo8; have HB3 := Lib.hid (HS.out.b3.others hoo8 (by decide)); have f8 := HB3.out.frozen 0; have q8 := HB3.out.cell 0; simp only [List.getElem?_toArray, List.getElem?_cons_zero] at q8)
            have HS3 := Lib.hid (show MdW w (w8.setCell ⟨g3, 0, none⟩ (.slice A8 (k + 1) c8)) g2 g3 L (k + 1) A8 c8 from
              ⟨by rw [HTK.out]; exact own_but ho8 (But.set w8 0 _) HB3.out (by decide), (But.set (B := g3) w8 0 _).blk (HS.out.b2.others hoo8 (by decide)) HGN.out, by have := HB3.out.set 0 (.slice A8 (k + 1) c8); simpa using this, (HS.out.b.trans hb8).trans ((But.set (B := g3) w8 0 _).below HG3.out (HS.out.b.trans hb8).size)⟩)
            generalize w8.setCell ⟨g3, 0, none⟩ (.slice A8 (k + 1) c8) = w9 at *
            clear x0 x1 x2 x3 q0 hown hwz HTK HB3 f8 q8 ho8 hb8 hoo8 HS HX
            go_wp2_with fail
            go_roundw
            case rel => exact ⟨k + 1, A8, c8, by omega, by go_num, HS3⟩
            case measure => simp [intOf]; omega
        | true =>
          have HX2 := Lib.hid (show Blk (w10.setCell ⟨gx, 1, none⟩ (.int .i64 (turn m ya))) gx 36 #[.int .i64 op, .int .i64 (turn m ya), .int .i64 (yb % 8), .string ⟨#[115]⟩] from by
            have := HX.out.set 1 (.int .i64 (turn m ya))
            simpa using this)
          obtain ⟨t1, ht1⟩ : ∃ t1, (ya).tmod ((m : Int) + 1) = t1 := ⟨_, rfl⟩
          have e1 : -((m : Int) + 1) < t1 := by rw [← ht1]; exact Int.lt_tmod_of_pos _ (by omega)
          have e2 : t1 < (m : Int) + 1 := by rw [← ht1]; exact Int.tmod_lt_of_pos _ (by omega)
          have ht2 : (t1 + m + 1).tmod ((m : Int) + 1) = turn m ya := by unfold turn; rw [ht1]
          have e3 : ((m : Int) + 1 == 0) = false := by simp; omega
          have p1 := HX.out.cell 1
          have g1 := HX.out.frozen 1
          simp only [List.getElem?_toArray, List.getElem?_cons_zero, List.getElem?_cons_succ] at p1
          have HB9 := Lib.hid (But.set (B := gx) w10 1 (.int .i64 (turn m ya)))
          replace HS := Lib.hid (HS.out.put HB9.out HX.out HNE.out HGW.out)
          go_upto_region 9 with (fail)
          replace c2 := HB9.out.cell c2 HBB.out
          clear HB9 p1 g1 ht1 ht2 e1 e2 e3
          generalize w10.setCell ⟨gx, 1, none⟩ (.int .i64 (turn m ya)) = w11 at *
          replace HX := HX2
          clear HX2 c1
          cases pb with
          | false =>
            go_upto_region 11 with (fail)
            clear c2
            have x0 := HX.out.cell 0
            have x1 := HX.out.cell 1
            have x2 := HX.out.cell 2
            have x3 := HX.out.cell 3
            have q0 := HS.out.b3.cell 0
            have hown := HS.out.o
            have hwz := HS.out.b.size
            simp only [List.getElem?_toArray, List.getElem?_cons_zero, List.getElem?_cons_succ] at x0 x1 x2 x3 q0
            have HMX := Lib.hid (show mkI m y = ⟨op, ((turn m ya)), (yb % 8), [115]⟩ by rw [HMK.out, HOP.out, HPA.out, HPB.out]; rfl)
            have HTK := Lib.hid (show ((L.take (k + 1)).map (mkI L.length)).flatMap insc = ((L.take k).map (mkI L.length)).flatMap insc ++ insc ⟨op, ((turn m ya)), (yb % 8), [115]⟩ by
              rw [List.take_add_one, HY.out, List.map_append, List.flatMap_append, HM.out]
              simp [HMX.out])
            clear HMK HOP HPA HPB HMX
            go_upto_region 4 with (at_builtin; refine wpList_push rfl _ _ _ rfl Tryd.underlying27 hi hz0 hz1 hz2 rfl (by decide) hown rfl rfl rfl (by simp [Value.oneCell']) (by omega) (by decide) hwz ?_; intro A8 c8 w8 ho8 hb8 hoo8; have HB3 := Lib.hid (HS.out.b3.others hoo8 (by decide)); have f8 := HB3.out.frozen 0; have q8 := HB3.out.cell 0; simp only [List.getElem?_toArray, List.getElem?_cons_zero] at q8)
            have HS3 := Lib.hid (show MdW w (w8.setCell ⟨g3, 0, none⟩ (.slice A8 (k + 1) c8)) g2 g3 L (k + 1) A8 c8 from
              ⟨by rw [HTK.out]; exact own_but ho8 (But.set w8 0 _) HB3.out (by decide), (But.set (B := g3) w8 0 _).blk (HS.out.b2.others hoo8 (by decide)) HGN.out, by have := HB3.out.set 0 (.slice A8 (k + 1) c8); simpa using this, (HS.out.b.trans hb8).trans ((But.set (B := g3) w8 0 _).below HG3.out (HS.out.b.trans hb8).size)⟩)
            generalize w8.setCell ⟨g3, 0, none⟩ (.slice A8 (k + 1) c8) = w9 at *
            clear x0 x1 x2 x3 q0 hown hwz HTK HB3 f8 q8 ho8 hb8 hoo8 HS HX
            go_wp2_with fail
            go_roundw
            case rel => exact ⟨k + 1, A8, c8, by omega, by go_num, HS3⟩
            case measure => simp [intOf]; omega
          | true =>
            have HX2 := Lib.hid (show Blk ((w11).setCell ⟨gx, 2, none⟩ (.int .i64 (turn m yb))) gx 36 #[.int .i64 op, .int .i64 ((turn m ya)), .int .i64 (turn m yb), .string ⟨#[115]⟩] from by
              have := HX.out.set 2 (.int .i64 (turn m yb))
              simpa using this)
            obtain ⟨t1, ht1⟩ : ∃ t1, (yb).tmod ((m : Int) + 1) = t1 := ⟨_, rfl⟩
            have e1 : -((m : Int) + 1) < t1 := by rw [← ht1]; exact Int.lt_tmod_of_pos _ (by omega)
            have e2 : t1 < (m : Int) + 1 := by rw [← ht1]; exact Int.tmod_lt_of_pos _ (by omega)
            have ht2 : (t1 + m + 1).tmod ((m : Int) + 1) = turn m yb := by unfold turn; rw [ht1]
            have e3 : ((m : Int) + 1 == 0) = false := by simp; omega
            have p2 := HX.out.cell 2
            have g2 := HX.out.frozen 2
            simp only [List.getElem?_toArray, List.getElem?_cons_zero, List.getElem?_cons_succ] at p2
            have HB9 := Lib.hid (But.set (B := gx) (w11) 2 (.int .i64 (turn m yb)))
            replace HS := Lib.hid (HS.out.put HB9.out HX.out HNE.out HGW.out)
            go_upto_region 11 with (fail)
            replace c2 := HB9.out.cell c2 HBB.out
            clear HB9 p2 g2 ht1 ht2 e1 e2 e3
            generalize (w11).setCell ⟨gx, 2, none⟩ (.int .i64 (turn m yb)) = wz at *
            replace HX := HX2
            clear HX2 c2
            have x0 := HX.out.cell 0
            have x1 := HX.out.cell 1
            have x2 := HX.out.cell 2
            have x3 := HX.out.cell 3
            have q0 := HS.out.b3.cell 0
            have hown := HS.out.o
            have hwz := HS.out.b.size
            simp only [List.getElem?_toArray, List.getElem?_cons_zero, List.getElem?_cons_succ] at x0 x1 x2 x3 q0
            have HMX := Lib.hid (show mkI m y = ⟨op, ((turn m ya)), (turn m yb), [115]⟩ by rw [HMK.out, HOP.out, HPA.out, HPB.out]; rfl)
            have HTK := Lib.hid (show ((L.take (k + 1)).map (mkI L.length)).flatMap insc = ((L.take k).map (mkI L.length)).flatMap insc ++ insc ⟨op, ((turn m ya)), (turn m yb), [115]⟩ by
              rw [List.take_add_one, HY.out, List.map_append, List.flatMap_append, HM.out]
              simp [HMX.out])
            clear HMK HOP HPA HPB HMX
            go_upto_region 4 with (at_builtin; refine wpList_push rfl _ _ _ rfl Tryd.underlying27 hi hz0 hz1 hz2 rfl (by decide) hown rfl rfl rfl (by simp [Value.oneCell']) (by omega) (by decide) hwz ?_; intro A8 c8 w8 ho8 hb8 hoo8; have HB3 := Lib.hid (HS.out.b3.others hoo8 (by decide)); have f8 := HB3.out.frozen 0; have q8 := HB3.out.cell 0; simp only [List.getElem?_toArray, List.getElem?_cons_zero] at q8)
            have HS3 := Lib.hid (show MdW w (w8.setCell ⟨g3, 0, none⟩ (.slice A8 (k + 1) c8)) g2 g3 L (k + 1) A8 c8 from
              ⟨by rw [HTK.out]; exact own_but ho8 (But.set w8 0 _) HB3.out (by decide), (But.set (B := g3) w8 0 _).blk (HS.out.b2.others hoo8 (by decide)) HGN.out, by have := HB3.out.set 0 (.slice A8 (k + 1) c8); simpa using this, (HS.out.b.trans hb8).trans ((But.set (B := g3) w8 0 _).below HG3.out (HS.out.b.trans hb8).size)⟩)
            generalize w8.setCell ⟨g3, 0, none⟩ (.slice A8 (k + 1) c8) = w9 at *
            clear x0 x1 x2 x3 q0 hown hwz HTK HB3 f8 q8 ho8 hb8 hoo8 HS HX
            go_wp2_with fail
            go_roundw
            case rel => exact ⟨k + 1, A8, c8, by omega, by go_num, HS3⟩
            case measure => simp [intOf]; omega
    · have hkm : m = k := by omega
      subst hkm
      have HT := Lib.hid (show L.take m = L from List.take_of_length_le (by rw [HM.out]; exact Nat.le_refl _))
      have hown := HS.out.o
      rw [HT.out] at hown
      have q0 := HS.out.b3.cell 0
      have hwz := HS.out.b.size
      simp only [List.getElem?_toArray, List.getElem?_cons_zero] at q0
      clear hlt hk
      go_upto_region 13 with (at_builtin; refine wpList_push rfl _ _ _ rfl Tryd.underlying27 hi hz0 hz1 hz2 rfl (by decide) hown rfl rfl rfl (by simp [Value.oneCell']) (by omega) (by decide) hwz ?_; intro A8 c8 w8 ho8 hb8 hoo8; have HB3 := Lib.hid (HS.out.b3.others hoo8 (by decide)); have f8 := HB3.out.frozen 0; have q8 := HB3.out.cell 0; simp only [List.getElem?_toArray, List.getElem?_cons_zero] at q8)
      have HO3 := Lib.hid (own_but ho8 (But.set w8 0 (.slice A8 (m + 1) c8)) HB3.out (by decide))
      have HB2 := Lib.hid ((But.set (B := g3) w8 0 (.slice A8 (m + 1) c8)).blk (HS.out.b2.others hoo8 (by decide)) HGN.out)
      have HBX := Lib.hid ((HS.out.b.trans hb8).trans ((But.set (B := g3) w8 0 (.slice A8 (m + 1) c8)).below HG3.out (HS.out.b.trans hb8).size))
      have HB3' := Lib.hid (show Blk (w8.setCell ⟨g3, 0, none⟩ (.slice A8 (m + 1) c8)) g3 29 #[.slice A8 (m + 1) c8, .int .i64 0] by have := HB3.out.set 0 (.slice A8 (m + 1) c8); simpa using this)
      generalize w8.setCell ⟨g3, 0, none⟩ (.slice A8 (m + 1) c8) = w9 at *
      clear q0 hown hwz HB3 f8 q8 ho8 hb8 hoo8 HS
      have hml : (madeX L).length = m + 1 := by rw [madeX_length, HM.out]
      have HML := Lib.hid hml
      obtain ⟨gl, rfl⟩ : ∃ gl, A8 = some ⟨gl, 0, none⟩ := by
        obtain ⟨A3, c3, he, _, _, hA3, hn3⟩ := own_form HO3.out
        injection he with he1 _ he3
        subst he1 he3
        cases A8 with
        | none => have := (hn3 rfl).1; omega
        | some q =>
          obtain ⟨q1, q2, q3⟩ := q
          obtain ⟨_, _, h1, h2⟩ := hA3 _ rfl
          simp only at h1 h2
          subst h1 h2
          exact ⟨q1, rfl⟩
      have z0 := HB3'.out.cell 0
      have z1 := HB3'.out.cell 1
      have y0 := HB2.out.cell 0
      have y1 := HB2.out.cell 1
      have q0 := HB2.out.frozen 0
      have q1 := HB2.out.frozen 1
      have hB2 := (HB2.out.set 0 (.slice (some ⟨gl, 0, none⟩) (m + 1) c8)).set 1 (.int .i64 0)
      have e0 := hB2.cell 0
      have e1 := hB2.cell 1
      simp only [List.getElem?_toArray, List.getElem?_cons_zero, List.getElem?_cons_succ, List.setIfInBounds_toArray, List.set_cons_succ, List.set_cons_zero] at e0 e1 z0 z1 y0 y1
      have E0 := Lib.hid e0
      have E1 := Lib.hid e1
      have HOF := Lib.hid (own_but (own_but HO3.out (But.set w9 0 (.slice (some ⟨gl, 0, none⟩) (m + 1) c8)) HB2.out (by decide)) (But.set _ 1 (.int .i64 0)) (HB2.out.set 0 (.slice (some ⟨gl, 0, none⟩) (m + 1) c8)) (by decide))
      have EF := Lib.hid ((HBX.out.setCell (p := ⟨g2, 0, none⟩) HG2.out (.slice (some ⟨gl, 0, none⟩) (m + 1) c8)).setCell (p := ⟨g2, 1, none⟩) HG2.out (.int .i64 0))
      clear hB2 e0 e1 hml
      go_wp2_with fail
      refine bodyPost_ret (v := .agg #[.slice (some ⟨gl, 0, none⟩) (m + 1) c8, .int .i64 0]) ?_ rfl ⟨gl, c8, by rw [HML.out], ?_, EF.out⟩
      · have e0 := E0.out
        have e1 := E1.out
        generalize ((w9.setCell ⟨g2, 0, none⟩ (.slice (some ⟨gl, 0, none⟩) (m + 1) c8)).setCell ⟨g2, 1, none⟩ (.int .i64 0)) = WF at *
        simp [results, Tryd.results14, go_sem, e0, e1]
      · rw [HML.out]
        have := HOF.out
        rw [show (madeX L).flatMap insc = (L.map (mkI L.length)).flatMap insc ++ [.int .i64 41, .int .i64 0, .int .i64 0, .string ⟨#[]⟩] by unfold madeX; rw [List.flatMap_append]; rfl]
        exact this
end Go.Proofs.YtpogngdddendiaaDoor
