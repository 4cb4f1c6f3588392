/- ListsBounds: whatever the two numbers, the law answers true. What the package-level error holds is a hypothesis. -/
import Derived.Test.YtckcpokfjofcaaaDoorListWF
import Derived.Test.YtckcpokfjofcaaaDoorListWE
import Derived.Test.YtckcpokfjofcaaaDoorListB
import Derived.Test.YtckcpokfjofcaaaDoorRelT
import Derived.Laws.Bits64b
import Derived.Laws.BitsLemmas
import Derived.OwnWalk
import Derived.LaidEql
set_option linter.unusedVariables false
set_option linter.unusedSimpArgs false
namespace Go.Proofs.YtckcpokfjofcaaaDoor
open Go.RowKit

theorem bits_and_low (x : Int) (m : Nat) (hm : m < 1024) : ∃ r : Nat, bits .and .i64 x (m : Int) = (r : Int) ∧ r ≤ m := by
  refine ⟨(BitVec.ofInt 64 x &&& BitVec.ofInt 64 (m : Int)).toNat, ?_, ?_⟩
  · show IntKind.i64.wrap ((BitVec.ofInt 64 x &&& BitVec.ofInt 64 (m : Int)).toNat : Int) = _
    have h2 : (BitVec.ofInt 64 (m : Int)).toNat = m := by
      rw [BitVec.ofInt_natCast, BitVec.toNat_ofNat]; exact Nat.mod_eq_of_lt (by omega)
    have h3 : (BitVec.ofInt 64 x &&& BitVec.ofInt 64 (m : Int)).toNat ≤ m := by
      rw [BitVec.toNat_and, h2]; exact Nat.and_le_right
    rw [IntKind.wrap_i64]
    omega
  · have h2 : (BitVec.ofInt 64 (m : Int)).toNat = m := by
      rw [BitVec.ofInt_natCast, BitVec.toNat_ofNat]; exact Nat.mod_eq_of_lt (by omega)
    rw [BitVec.toNat_and, h2]; exact Nat.and_le_right
/-- A value that reads as a list, whatever it is. -/
def rdS (n : Nat) (l : List (List UInt8)) : TT := ⟨fun v => ∃ g, v = .slice (some ⟨g, 0, none⟩) n n, ⟨_, 0, rfl⟩, fun v x => SlS x v l, fun _ _ _ h hb => h.below hb⟩
/-- A row of slice values that read as lists. -/
def kdS (n : Nat) (ls : List (List (List UInt8))) : TT := ⟨fun v => ∃ g, v = .slice (some ⟨g, 0, none⟩) n n, ⟨_, 0, rfl⟩, fun v x => ∃ A, v = .slice A n n ∧ KdS x A ls, fun _ _ _ h hb => let ⟨A, h1, h2⟩ := h; ⟨A, h1, h2.below hb⟩⟩
theorem infoPEb : (Tryd.prog.info? 112).map (·.comparable) = some true := by kernel_rfl
theorem infoEb : (Tryd.prog.info? 127).map (·.size) = some 1 := by kernel_rfl
theorem big_same (a : Addr) (W : World) : (binOp .eql 27 (bigV a) (bigV a)).run Tryd.prog W = .ok (.bool true) W := by
  obtain ⟨i, hi, hc⟩ := Option.map_eq_some_iff.1 infoPEb
  obtain ⟨j, hj, hs⟩ := Option.map_eq_some_iff.1 infoEb
  exact run_eql_iface_ptr_same W a Tryd.underlying27 Tryd.underlying112 hi hc hj
theorem big_nil (a : Addr) (W : World) : (binOp .eql 27 .nilIface (bigV a)).run Tryd.prog W = .ok (.bool false) W :=
  run_eql_iface_nil_left W _ _ Tryd.underlying27
def tupT (er : Value) (l : List (List UInt8)) : TT := ⟨fun v => ∃ A n c, v = .tuple #[.slice A n c, er], ⟨_, none, 0, 0, rfl⟩, fun v x => ∃ A n c, v = .tuple #[.slice A n c, er] ∧ SlS x (.slice A n c) l, fun _ _ _ h hb => let ⟨A, n, c, h1, h2⟩ := h; ⟨A, n, c, h1, h2.below hb⟩⟩
def slT (l : List (List UInt8)) : TT := ⟨fun v => ∃ A n c, v = .slice A n c, ⟨_, none, 0, 0, rfl⟩, fun v x => SlS x v l, fun _ _ _ h hb => h.below hb⟩
theorem SlS.cut {w : World} {b o n c : Nat} {L : List (List UInt8)} (h : SlS w (.slice (some ⟨b, o, none⟩) n c) L) {k : Nat} (hk : k ≤ n) : SlS w (.slice (some ⟨b, o, none⟩) k c) (L.take k) := by
  obtain ⟨A, c', he, hr, h1, h2, h3⟩ := h
  injection he with e1 e2 e3
  subst e1 e2 e3
  refine ⟨_, c, ?_, hr.take k, (fun h => by cases h), ?_, h3⟩
  · rw [List.length_take, Nat.min_eq_left hk]
  · rw [List.length_take]; omega
theorem SlS.rest {w : World} {b o n c : Nat} {L : List (List UInt8)} (h : SlS w (.slice (some ⟨b, o, none⟩) n c) L) {k : Nat} (hk : k ≤ n) : SlS w (.slice (some ⟨b, o + k, none⟩) (n - k) (c - k)) (L.drop k) := by
  obtain ⟨A, c', he, hr, h1, h2, h3⟩ := h
  injection he with e1 e2 e3
  subst e1 e2 e3
  refine ⟨_, c - k, ?_, hr.drop k (fun b' o' he _ => by injection he with he; injection he with e1 e2; subst e1 e2; rw [Nat.mul_one]), (fun h => by cases h), ?_, by omega⟩
  · rw [List.length_drop]
  · rw [List.length_drop]; omega
theorem SlS.len1 {w : World} {A : Option Addr} {n c : Nat} {x : List UInt8} (h : SlS w (.slice A n c) [x]) : n = 1 ∧ ∃ b o, A = some ⟨b, o, none⟩ ∧ w.cell? ⟨b, o, none⟩ = some (.string ⟨x.toArray⟩) ∧ 1 ≤ c := by
  obtain ⟨A', c', he, hr, h1, h2, h3⟩ := h
  injection he with e1 e2 e3
  subst e1 e2 e3
  obtain ⟨b, o, rfl⟩ := hr.ats (k := 0) (Nat.zero_lt_succ _)
  have h5 := hr.strs (k := 0) (Nat.zero_lt_succ _)
  rw [Nat.add_zero] at h5
  exact ⟨rfl, b, o, rfl, h5, h2⟩
theorem SlS.len {w : World} {A : Option Addr} {n c : Nat} {l : List (List UInt8)} (h : SlS w (.slice A n c) l) : n = l.length := by
  obtain ⟨A', c', he, _⟩ := h
  injection he
theorem ex_take (l : List UInt8) (k : Nat) : (⟨l.toArray⟩ : ByteArray).extract 0 k = ⟨(l.take k).toArray⟩ := by rw [extract_cell]; simp
theorem ex_drop (l : List UInt8) (k j : Nat) (hj : j = l.length) : (⟨l.toArray⟩ : ByteArray).extract k j = ⟨(l.drop k).toArray⟩ := by
  subst hj
  rw [extract_cell]
  simp
theorem xs_sml (m k : Nat) (hm : m ≤ 3000) : Sml [(xs m).take k] ∧ Sml [(xs m).drop k] := by
  constructor <;>
  · refine ⟨by show 1 ≤ 1000000; decide, fun s hs => ?_⟩
    rw [List.mem_singleton] at hs
    subst hs
    simp only [List.length_take, List.length_drop, xs_len]
    omega
theorem made_texts (n : Nat) : (madeCells (Value.string ByteArray.empty).cells (n * 1)).toList = (emp n).flatMap strc := by
  rw [Nat.mul_one]; show (madeCells #[.string ByteArray.empty] n).toList = _
  rw [toList_madeCells_one, emp]
  induction n with
  | zero => rfl
  | succ n ih => rw [List.replicate_succ, List.replicate_succ, List.flatMap_cons, ← ih]; rfl
set_option maxRecDepth 100000 in
set_option maxHeartbeats 8000000 in
theorem lbounds_card (x y : Int) (aB : Addr) (w : World) (hwx : (Lit.int .i64 x).wf = true) (hwy : (Lit.int .i64 y).wf = true) (hE : BigW w aB) :
    Calls Tryd.prog 5 #[.int .i64 x, .int .i64 y] w fun e w' => e = .returned (.bool true) ∧ Below w.heap.size w w' := by
  obtain ⟨i0, hi, hz0, hz1, hz2⟩ := info_parts infoStr
  have HE := Lib.hid hE
  have C1 := Lib.hid (first3_any aB w hE)
  obtain ⟨r, hr, hr7⟩ := bits_and_low x 7 (by decide)
  obtain ⟨q, hq, hq7⟩ := bits_and_low y 7 (by decide)
  obtain ⟨n, hn1, hn2, hr'⟩ : ∃ n : Nat, 97 ≤ n ∧ n ≤ 104 ∧ bits .and .i64 x 7 = (n : Int) - 97 := ⟨97 + r, by omega, by omega, by rw [show bits .and .i64 x 7 = (r : Int) from hr]; omega⟩
  obtain ⟨m, hm1, hm2, hq'⟩ : ∃ m : Nat, 1997 ≤ m ∧ m ≤ 2004 ∧ bits .and .i64 y 7 = (m : Int) - 1997 := ⟨1997 + q, by omega, by omega, by rw [show bits .and .i64 y 7 = (q : Int) from hq]; omega⟩
  have hn3 : (97 : Int) + ((n : Int) - 97) = n := by omega
  have hm3 : (1997 : Int) + ((m : Int) - 1997) = m := by omega
  clear hE hr hq hwx hwy hr7 hq7
  go_enter Tryd.func5, Tryd.ntmps5
  go_wp2_with fail
  refine C1.out.mono ?_
  rintro e w1 ⟨rfl, hb⟩
  clear C1
  go_wp2_with (at_make; refine wpList_make_full w1 rfl _ _ _ rfl w1.heap.size _ i0 _ 1 Tryd.underlying22 hi hz0 hz1 .i64 .i64 _ _ n rfl rfl (by omega) (by omega) (by rw [hz2]; omega) (by unfold maxLen; omega) (Nat.le_refl _) ?_; intro w2 ho2 hg2; rw [made_texts] at ho2; have hb2 := (Below.refl w1.heap.size w1).grown hg2 (Nat.le_refl _) (fun k h => by cases h))
  have HO := Lib.hid (OwnS.rd (w := w2) (B := w1.heap.size) (l := emp n) (by unfold OwnS; rw [emp_len]; exact ho2))
  replace hb := hb.trans (hb2.mono hb.size)
  have hzs : w2.heap.size = w2.heap.size := rfl
  clear ho2 hg2 hb2
  go_loopw [7, 8] (fun v i wr => ∃ k : Nat, k ≤ m ∧ i = .int .i64 k ∧ v = .string ⟨(xs k).toArray⟩ ∧ w2 = wr) (fun _ i _ => m - (intOf i).toNat)
  case atStart => exact ⟨0, Nat.zero_le _, rfl, rfl, rfl⟩
  case round =>
    obtain ⟨k, hk, rfl, rfl, hwr⟩ := hrel
    subst hwr
    by_cases hlt : k < m
    · have HX := Lib.hid (show (⟨(xs k).toArray⟩ ++ ⟨#[120]⟩ : ByteArray) = ⟨(xs (k + 1)).toArray⟩ by rw [xs_snoc]; exact ba_app (xs k) [120])
      have hxl := xs_len k
      generalize xs k = X at *
      go_wp2_with fail
      go_roundw
      case rel => exact ⟨k + 1, by omega, by go_num, congrArg _ HX.out, trivial⟩
      case measure => simp [intOf]; omega
    · obtain rfl : m = k := by omega
      clear hlt hk
      have hxl := xs_len m
      have CC := Lib.hid (catN #[.slice (some ⟨w1.heap.size, 0, none⟩) n n] [emp n] 1 aB w2 (AllS.one HO.out) rfl (by show 1 ≤ 1000; decide) (fun x hx => by rw [List.mem_singleton] at hx; subst hx; rw [emp_len]; omega) (HE.out.below hb))
      rw [cat_emp] at CC
      go_wp2_with fail
      refine CC.out.mono ?_
      clear CC
      rintro e w3 h3
      obtain ⟨A3, n3, c3, er3, rfl, he3, hs3, hbn⟩ := h3.lw
      have E3 := Lib.hid he3
      replace HO := Lib.hid (HO.out.below hbn)
      replace hb := hb.trans (hbn.mono hb.size)
      clear h3 he3 hbn
      go_upto_region 11 with (fail)
      have HE3 := Lib.hid (HE.out.below hb)
      obtain ⟨RJ, hRJ⟩ : ∃ R, R = (if 2000 < m then none else some [xs m]) := ⟨_, rfl⟩
      have HRJ := Lib.hid hRJ
      have CJ := Lib.hid (show ∀ (x : World) (g : Nat), Below w3.heap.size w3 x → KdS x (some ⟨g, 0, none⟩) [[(xs m).take (m / 2)], [(xs m).drop (m / 2)]] → Calls Tryd.prog 13 #[.slice (some ⟨g, 0, none⟩) 2 2] x (ListRet RJ aB x) from fun x g hb hk => by
        have h := joins_any (.slice (some ⟨g, 0, none⟩) 2 2) _ _ 2 2 aB x rfl rfl hk (by show 2 ≤ 1000000; decide) (by show 2 ≤ 2; decide) (by simp only [maxLen]; omega) (sml_two (xs_sml m (m / 2) (by omega)).1 (xs_sml m (m / 2) (by omega)).2) (HE3.out.below hb)
        rw [join_xs m (m / 2) (by omega), ← hRJ] at h
        exact h)
      clear hRJ
      apply wp_region_rel [eqT _, eqT _, eqT _, eqT _, rdS 1 [(xs m).take (m / 2)], eqT _, eqT _, eqT _, eqT _, rdS 1 [(xs m).drop (m / 2)], kdS 2 [[(xs m).take (m / 2)], [(xs m).drop (m / 2)]], tupT (errV aB RJ) (RJ.getD []), tupT (errV aB RJ) (RJ.getD []), slT (RJ.getD []), eqT _, slT (RJ.getD []), eqT _] (by kernel_rfl) (by kernel_rfl) rfl
      focus
        refine ⟨?_, ?_⟩
        focus
          unfold opGoal
          rw [if_pos (by kernel_rfl)]
          intro x hb hd K hk
          clear hd
          go_wp2_with fail
          exact hk _ _ rfl trivial (Below.refl _ _)
        rintro _ rfl
        simp only [Act.put, List.setIfInBounds_toArray, List.set_cons_succ, List.set_cons_zero]
        refine ⟨?_, ?_⟩
        focus
          unfold opGoal
          rw [if_pos (by kernel_rfl)]
          intro x hb hd K hk
          clear hd
          go_wp2_with fail
          exact hk _ _ rfl trivial (Below.refl _ _)
        rintro _ rfl
        simp only [Act.put, List.setIfInBounds_toArray, List.set_cons_succ, List.set_cons_zero]
        refine ⟨?_, ?_⟩
        focus
          unfold opGoal
          rw [if_pos (by kernel_rfl)]
          intro x hb hd K hk
          clear hd
          go_wp2_with fail
          exact hk _ _ rfl trivial (Below.refl _ _)
        rintro _ rfl
        simp only [Act.put, List.setIfInBounds_toArray, List.set_cons_succ, List.set_cons_zero]
        refine ⟨?_, ?_⟩
        focus
          unfold opGoal
          rw [if_pos (by kernel_rfl)]
          intro x hb hd K hk
          clear hd
          go_wp2_with fail
          exact hk _ _ rfl trivial (Below.refl _ _)
        rintro _ rfl
        simp only [Act.put, List.setIfInBounds_toArray, List.set_cons_succ, List.set_cons_zero]
        refine ⟨?_, ?_⟩
        focus
          unfold opGoal
          rw [if_pos (by kernel_rfl)]
          intro x hb hd K hk
          clear hd
          go_wp2_with fail
          refine hk _ _ ⟨_, rfl⟩ ?_ ((Below.refl _ _).alloc (Nat.le_refl _) _)
          rw [ex_take]
          exact SlS.one x _
        rintro _ ⟨g46, rfl⟩
        simp only [Act.put, List.setIfInBounds_toArray, List.set_cons_succ, List.set_cons_zero]
        refine ⟨?_, ?_⟩
        focus
          unfold opGoal
          rw [if_pos (by kernel_rfl)]
          intro x hb hd K hk
          clear hd
          go_wp2_with fail
          exact hk _ _ rfl trivial (Below.refl _ _)
        rintro _ rfl
        simp only [Act.put, List.setIfInBounds_toArray, List.set_cons_succ, List.set_cons_zero]
        refine ⟨?_, ?_⟩
        focus
          unfold opGoal
          rw [if_pos (by kernel_rfl)]
          intro x hb hd K hk
          clear hd
          go_wp2_with fail
          exact hk _ _ rfl trivial (Below.refl _ _)
        rintro _ rfl
        simp only [Act.put, List.setIfInBounds_toArray, List.set_cons_succ, List.set_cons_zero]
        refine ⟨?_, ?_⟩
        focus
          unfold opGoal
          rw [if_pos (by kernel_rfl)]
          intro x hb hd K hk
          clear hd
          go_wp2_with fail
          exact hk _ _ rfl trivial (Below.refl _ _)
        rintro _ rfl
        simp only [Act.put, List.setIfInBounds_toArray, List.set_cons_succ, List.set_cons_zero]
        refine ⟨?_, ?_⟩
        focus
          unfold opGoal
          rw [if_pos (by kernel_rfl)]
          intro x hb hd K hk
          clear hd
          go_wp2_with fail
          exact hk _ _ rfl trivial (Below.refl _ _)
        rintro _ rfl
        simp only [Act.put, List.setIfInBounds_toArray, List.set_cons_succ, List.set_cons_zero]
        refine ⟨?_, ?_⟩
        focus
          unfold opGoal
          rw [if_pos (by kernel_rfl)]
          intro x hb hd K hk
          clear hd
          go_wp2_with fail
          refine hk _ _ ⟨_, rfl⟩ ?_ ((Below.refl _ _).alloc (Nat.le_refl _) _)
          rw [ex_drop _ _ _ (by first | rfl | omega)]
          exact SlS.one x _
        rintro _ ⟨g51, rfl⟩
        simp only [Act.put, List.setIfInBounds_toArray, List.set_cons_succ, List.set_cons_zero]
        refine ⟨?_, ?_⟩
        focus
          unfold opGoal
          rw [if_pos (by kernel_rfl)]
          intro x hb hd K hk
          have h46 : SlS x (.slice (some ⟨g46, 0, none⟩) 1 1) [(xs m).take (m / 2)] := hd _ (List.mem_cons_self ..) rfl _ _ rfl rfl
          have h51 : SlS x (.slice (some ⟨g51, 0, none⟩) 1 1) [(xs m).drop (m / 2)] := hd _ (List.mem_cons_of_mem _ (List.mem_cons_self ..)) rfl _ _ rfl rfl
          clear hd
          go_wp2_with fail
          exact hk _ _ ⟨_, rfl⟩ ⟨_, rfl, KdS.lit (vs := #[.slice (some ⟨g46, 0, none⟩) 1 1, .slice (some ⟨g51, 0, none⟩) 1 1]) (AllS.two h46 h51)⟩ ((Below.refl _ _).alloc (Nat.le_refl _) _)
        rintro _ ⟨g52, rfl⟩
        simp only [Act.put, List.setIfInBounds_toArray, List.set_cons_succ, List.set_cons_zero]
        refine ⟨?_, ?_⟩
        focus
          unfold opGoal
          rw [if_pos (by kernel_rfl)]
          intro x hb hd K hk
          have hdd := hd _ (List.mem_cons_self ..) rfl _ _ rfl rfl
          clear hd
          go_wp2_with fail
          refine ((CJ.out x g52 hb (by obtain ⟨A, he, hk⟩ := hdd; injection he with he; subst he; exact hk))).mono ?_
          rintro e x' h
          obtain ⟨A', n', c', er', rfl, rfl, hs', hbn⟩ := h.lw
          exact hk _ _ ⟨A', n', c', rfl⟩ ⟨A', n', c', rfl, hs'⟩ hbn
        rintro _ ⟨A4, n4, c4, rfl⟩
        simp only [Act.put, List.setIfInBounds_toArray, List.set_cons_succ, List.set_cons_zero]
        refine ⟨?_, ?_⟩
        focus
          unfold opGoal
          rw [if_pos (by kernel_rfl)]
          intro x hb hd K hk
          have hdd := hd _ (List.mem_cons_self ..) rfl _ _ rfl rfl
          clear hd
          go_wp2_with fail
          exact hk _ _ ⟨A4, n4, c4, rfl⟩ hdd (Below.refl _ _)
        rintro _ ⟨B4, o4, d4, rfl⟩
        simp only [Act.put, List.setIfInBounds_toArray, List.set_cons_succ, List.set_cons_zero]
        refine ⟨?_, ?_⟩
        focus
          unfold opGoal
          rw [if_pos (by kernel_rfl)]
          intro x hb hd K hk
          obtain ⟨A', n', c', he, hs'⟩ := hd _ (List.mem_cons_self ..) rfl _ _ rfl rfl
          clear hd
          injection he with he
          injection he with he
          injection he with he _
          rw [← he] at hs'
          go_wp2_with fail
          exact hk _ _ ⟨_, _, _, rfl⟩ hs' (Below.refl _ _)
        rintro _ ⟨C4, p4, f4, rfl⟩
        simp only [Act.put, List.setIfInBounds_toArray, List.set_cons_succ, List.set_cons_zero]
        refine ⟨?_, ?_⟩
        focus
          unfold opGoal
          rw [if_pos (by kernel_rfl)]
          intro x hb hd K hk
          clear hd
          go_wp2_with fail
          exact hk _ _ rfl trivial (Below.refl _ _)
        rintro _ rfl
        simp only [Act.put, List.setIfInBounds_toArray, List.set_cons_succ, List.set_cons_zero]
        refine ⟨?_, ?_⟩
        focus
          unfold opGoal
          rw [if_pos (by kernel_rfl)]
          intro x hb hd K hk
          have hdd := hd _ (List.mem_cons_self ..) rfl _ _ rfl rfl
          clear hd
          go_wp2_with fail
          exact hk _ _ ⟨_, _, _, rfl⟩ hdd (Below.refl _ _)
        rintro _ ⟨D4, q4, g4, rfl⟩
        simp only [Act.put, List.setIfInBounds_toArray, List.set_cons_succ, List.set_cons_zero]
        refine ⟨?_, ?_⟩
        focus
          unfold opGoal
          rw [if_pos (by kernel_rfl)]
          intro x hb hd K hk
          clear hd
          go_wp2_with fail
          exact hk _ _ rfl trivial (Below.refl _ _)
        rintro _ rfl
        simp only [Act.put, List.setIfInBounds_toArray, List.set_cons_succ, List.set_cons_zero]
        intro wE4 hbq hf
        have hs4 := hf 15 _ _ rfl rfl
        clear hf
        replace hb := hb.trans (hbq.mono hb.size)
        have HO2 := Lib.hid (HO.out.below hbq)
        replace hs3 := hs3.below hbq
        clear hbq HO
        go_upto_region 12 with (fail)
        have HE4 := Lib.hid (HE.out.below hb)
        obtain ⟨RC, hRC⟩ : ∃ R, R = (if 100 < n then none else some (emp n)) := ⟨_, rfl⟩
        have HRC := Lib.hid hRC
        have CC := Lib.hid (show ∀ (x : World) (g : Nat), Below wE4.heap.size wE4 x → KdS x (some ⟨g, 0, none⟩) [(emp n).take (n / 2), (emp n).drop (n / 2)] → Calls Tryd.prog 10 #[.slice (some ⟨g, 0, none⟩) 2 2] x (ListRet RC aB x) from fun x g hb hk => by
          have h := cat_any _ 2 _ aB x hk (by show 2 ≤ 1000000; decide) (fun y hy => by
            simp only [List.mem_cons, List.not_mem_nil, or_false] at hy
            rcases hy with rfl | rfl
            · rw [List.length_take, emp_len]; omega
            · rw [List.length_drop, emp_len]; omega) (HE4.out.below hb)
          rw [cat_emp2 n (n / 2) (by omega) (by omega), ← hRC] at h
          exact h)
        clear hRC
        have hnh : n / 2 ≤ n := by omega
        have hnh2 : ¬ n / 2 = n := by omega
        have hnh3 : ¬ n = n / 2 := by omega
        apply wp_region_rel [eqT _, eqT _, eqT _, eqT _, eqT _, eqT _, eqT _, eqT _, kdS 2 [(emp n).take (n / 2), (emp n).drop (n / 2)], tupT (errV aB RC) (RC.getD []), tupT (errV aB RC) (RC.getD []), slT (RC.getD []), eqT _, slT (RC.getD []), eqT _] (by kernel_rfl) (by kernel_rfl) rfl
        focus
          refine ⟨?_, ?_⟩
          focus
            unfold opGoal
            rw [if_pos (by kernel_rfl)]
            intro x hb hd K hk
            clear hd
            go_wp2_with fail
            exact hk _ _ rfl trivial (Below.refl _ _)
          rintro _ rfl
          simp only [Act.put, List.setIfInBounds_toArray, List.set_cons_succ, List.set_cons_zero]
          refine ⟨?_, ?_⟩
          focus
            unfold opGoal
            rw [if_pos (by kernel_rfl)]
            intro x hb hd K hk
            clear hd
            go_wp2_with fail
            exact hk _ _ rfl trivial (Below.refl _ _)
          rintro _ rfl
          simp only [Act.put, List.setIfInBounds_toArray, List.set_cons_succ, List.set_cons_zero]
          refine ⟨?_, ?_⟩
          focus
            unfold opGoal
            rw [if_pos (by kernel_rfl)]
            intro x hb hd K hk
            clear hd
            go_wp2_with fail
            exact hk _ _ rfl trivial (Below.refl _ _)
          rintro _ rfl
          simp only [Act.put, List.setIfInBounds_toArray, List.set_cons_succ, List.set_cons_zero]
          refine ⟨?_, ?_⟩
          focus
            unfold opGoal
            rw [if_pos (by kernel_rfl)]
            intro x hb hd K hk
            clear hd
            go_wp2_with fail
            exact hk _ _ rfl trivial (Below.refl _ _)
          rintro _ rfl
          simp only [Act.put, List.setIfInBounds_toArray, List.set_cons_succ, List.set_cons_zero]
          refine ⟨?_, ?_⟩
          focus
            unfold opGoal
            rw [if_pos (by kernel_rfl)]
            intro x hb hd K hk
            clear hd
            go_wp2_with fail
            exact hk _ _ rfl trivial (Below.refl _ _)
          rintro _ rfl
          simp only [Act.put, List.setIfInBounds_toArray, List.set_cons_succ, List.set_cons_zero]
          refine ⟨?_, ?_⟩
          focus
            unfold opGoal
            rw [if_pos (by kernel_rfl)]
            intro x hb hd K hk
            clear hd
            go_wp2_with fail
            exact hk _ _ rfl trivial (Below.refl _ _)
          rintro _ rfl
          simp only [Act.put, List.setIfInBounds_toArray, List.set_cons_succ, List.set_cons_zero]
          refine ⟨?_, ?_⟩
          focus
            unfold opGoal
            rw [if_pos (by kernel_rfl)]
            intro x hb hd K hk
            clear hd
            go_wp2_with fail
            exact hk _ _ rfl trivial (Below.refl _ _)
          rintro _ rfl
          simp only [Act.put, List.setIfInBounds_toArray, List.set_cons_succ, List.set_cons_zero]
          refine ⟨?_, ?_⟩
          focus
            unfold opGoal
            rw [if_pos (by kernel_rfl)]
            intro x hb hd K hk
            clear hd
            go_wp2_with fail
            exact hk _ _ rfl trivial (Below.refl _ _)
          rintro _ rfl
          simp only [Act.put, List.setIfInBounds_toArray, List.set_cons_succ, List.set_cons_zero]
          refine ⟨?_, ?_⟩
          focus
            unfold opGoal
            rw [if_pos (by kernel_rfl)]
            intro x hb hd K hk
            clear hd
            go_wp2_with fail
            refine hk _ _ ⟨_, rfl⟩ ⟨_, rfl, KdS.lit (AllS.two ((HO2.out.below hb).cut hnh) ?_)⟩ ((Below.refl _ _).alloc (Nat.le_refl _) _)
            have h2 := (HO2.out.below hb).rest hnh
            rw [Nat.zero_add] at h2
            exact h2
          rintro _ ⟨g65, rfl⟩
          simp only [Act.put, List.setIfInBounds_toArray, List.set_cons_succ, List.set_cons_zero]
          refine ⟨?_, ?_⟩
          focus
            unfold opGoal
            rw [if_pos (by kernel_rfl)]
            intro x hb hd K hk
            have hdd := hd _ (List.mem_cons_self ..) rfl _ _ rfl rfl
            clear hd
            go_wp2_with fail
            refine ((CC.out x g65 hb (by obtain ⟨A, he, hk⟩ := hdd; injection he with he; subst he; exact hk))).mono ?_
            rintro e x' h
            obtain ⟨A', n', c', er', rfl, rfl, hs', hbn⟩ := h.lw
            exact hk _ _ ⟨A', n', c', rfl⟩ ⟨A', n', c', rfl, hs'⟩ hbn
          rintro _ ⟨A5, n5, c5, rfl⟩
          simp only [Act.put, List.setIfInBounds_toArray, List.set_cons_succ, List.set_cons_zero]
          refine ⟨?_, ?_⟩
          focus
            unfold opGoal
            rw [if_pos (by kernel_rfl)]
            intro x hb hd K hk
            have hdd := hd _ (List.mem_cons_self ..) rfl _ _ rfl rfl
            clear hd
            go_wp2_with fail
            exact hk _ _ ⟨A5, n5, c5, rfl⟩ hdd (Below.refl _ _)
          rintro _ ⟨B5, o5, d5, rfl⟩
          simp only [Act.put, List.setIfInBounds_toArray, List.set_cons_succ, List.set_cons_zero]
          refine ⟨?_, ?_⟩
          focus
            unfold opGoal
            rw [if_pos (by kernel_rfl)]
            intro x hb hd K hk
            obtain ⟨A', n', c', he, hs'⟩ := hd _ (List.mem_cons_self ..) rfl _ _ rfl rfl
            clear hd
            injection he with he
            injection he with he
            injection he with he _
            rw [← he] at hs'
            go_wp2_with fail
            exact hk _ _ ⟨_, _, _, rfl⟩ hs' (Below.refl _ _)
          rintro _ ⟨C5, p5, f5, rfl⟩
          simp only [Act.put, List.setIfInBounds_toArray, List.set_cons_succ, List.set_cons_zero]
          refine ⟨?_, ?_⟩
          focus
            unfold opGoal
            rw [if_pos (by kernel_rfl)]
            intro x hb hd K hk
            clear hd
            go_wp2_with fail
            exact hk _ _ rfl trivial (Below.refl _ _)
          rintro _ rfl
          simp only [Act.put, List.setIfInBounds_toArray, List.set_cons_succ, List.set_cons_zero]
          refine ⟨?_, ?_⟩
          focus
            unfold opGoal
            rw [if_pos (by kernel_rfl)]
            intro x hb hd K hk
            have hdd := hd _ (List.mem_cons_self ..) rfl _ _ rfl rfl
            clear hd
            go_wp2_with fail
            exact hk _ _ ⟨_, _, _, rfl⟩ hdd (Below.refl _ _)
          rintro _ ⟨D5, q5, g5, rfl⟩
          simp only [Act.put, List.setIfInBounds_toArray, List.set_cons_succ, List.set_cons_zero]
          refine ⟨?_, ?_⟩
          focus
            unfold opGoal
            rw [if_pos (by kernel_rfl)]
            intro x hb hd K hk
            clear hd
            go_wp2_with fail
            exact hk _ _ rfl trivial (Below.refl _ _)
          rintro _ rfl
          simp only [Act.put, List.setIfInBounds_toArray, List.set_cons_succ, List.set_cons_zero]
          intro wE5 hbq hf
          have hs5 := hf 13 _ _ rfl rfl
          clear hf
          replace hb := hb.trans (hbq.mono hb.size)
          have HO := Lib.hid (HO2.out.below hbq)
          replace hs3 := hs3.below hbq
          have hs4' : SlS wE5 (.slice D4 q4 g4) (RJ.getD []) := SlS.below hs4 hbq
          clear hbq HO2 hs4
          go_upto_region 13 with (fail)
          have HE5 := Lib.hid (HE.out.below hb)
          obtain ⟨RF, hRF⟩ : ∃ R, R = (if 2000 < m then none else some [(xs m).take 10 ++ 32 :: (xs m).drop 11]) := ⟨_, rfl⟩
          have HRF := Lib.hid hRF
          have CF := Lib.hid (show ∀ (x : World) (v : Value), Below wE5.heap.size wE5 x → SlS x v [(xs m).take 10, (xs m).drop 11] → Calls Tryd.prog 16 #[v] x (ListRet RF aB x) from fun x v hb hk => by
            have h := flat_any v _ aB x hk (by show 2 ≤ 1000000; decide) (fun y hy => by
              simp only [List.mem_cons, List.not_mem_nil, or_false] at hy
              rcases hy with rfl | rfl
              · rw [List.length_take, xs_len]; omega
              · rw [List.length_drop, xs_len]; omega) (HE5.out.below hb)
            rw [flat_xs m (by omega), ← hRF] at h
            exact h)
          clear hRF
          apply wp_region_rel [eqT _, eqT _, eqT _, eqT _, rdS 2 [(xs m).take 10, (xs m).drop 11], tupT (errV aB RF) (RF.getD []), tupT (errV aB RF) (RF.getD []), slT (RF.getD []), eqT _, slT (RF.getD []), eqT _] (by kernel_rfl) (by kernel_rfl) rfl
          focus
            refine ⟨?_, ?_⟩
            focus
              unfold opGoal
              rw [if_pos (by kernel_rfl)]
              intro x hb hd K hk
              clear hd
              go_wp2_with fail
              exact hk _ _ rfl trivial (Below.refl _ _)
            rintro _ rfl
            simp only [Act.put, List.setIfInBounds_toArray, List.set_cons_succ, List.set_cons_zero]
            refine ⟨?_, ?_⟩
            focus
              unfold opGoal
              rw [if_pos (by kernel_rfl)]
              intro x hb hd K hk
              clear hd
              go_wp2_with fail
              exact hk _ _ rfl trivial (Below.refl _ _)
            rintro _ rfl
            simp only [Act.put, List.setIfInBounds_toArray, List.set_cons_succ, List.set_cons_zero]
            refine ⟨?_, ?_⟩
            focus
              unfold opGoal
              rw [if_pos (by kernel_rfl)]
              intro x hb hd K hk
              clear hd
              go_wp2_with fail
              exact hk _ _ rfl trivial (Below.refl _ _)
            rintro _ rfl
            simp only [Act.put, List.setIfInBounds_toArray, List.set_cons_succ, List.set_cons_zero]
            refine ⟨?_, ?_⟩
            focus
              unfold opGoal
              rw [if_pos (by kernel_rfl)]
              intro x hb hd K hk
              clear hd
              go_wp2_with fail
              exact hk _ _ rfl trivial (Below.refl _ _)
            rintro _ rfl
            simp only [Act.put, List.setIfInBounds_toArray, List.set_cons_succ, List.set_cons_zero]
            refine ⟨?_, ?_⟩
            focus
              unfold opGoal
              rw [if_pos (by kernel_rfl)]
              intro x hb hd K hk
              clear hd
              go_wp2_with fail
              refine hk _ _ ⟨_, rfl⟩ ?_ ((Below.refl _ _).alloc (Nat.le_refl _) _)
              rw [ex_take, ex_drop _ _ _ (by first | rfl | omega)]
              exact SlS.lit x [(xs m).take 10, (xs m).drop 11] _ rfl (by show 2 ≤ 1000; decide)
            rintro _ ⟨g74, rfl⟩
            simp only [Act.put, List.setIfInBounds_toArray, List.set_cons_succ, List.set_cons_zero]
            refine ⟨?_, ?_⟩
            focus
              unfold opGoal
              rw [if_pos (by kernel_rfl)]
              intro x hb hd K hk
              have hdd := hd _ (List.mem_cons_self ..) rfl _ _ rfl rfl
              clear hd
              go_wp2_with fail
              refine ((CF.out x _ hb hdd)).mono ?_
              rintro e x' h
              obtain ⟨A', n', c', er', rfl, rfl, hs', hbn⟩ := h.lw
              exact hk _ _ ⟨A', n', c', rfl⟩ ⟨A', n', c', rfl, hs'⟩ hbn
            rintro _ ⟨A6, n6, c6, rfl⟩
            simp only [Act.put, List.setIfInBounds_toArray, List.set_cons_succ, List.set_cons_zero]
            refine ⟨?_, ?_⟩
            focus
              unfold opGoal
              rw [if_pos (by kernel_rfl)]
              intro x hb hd K hk
              have hdd := hd _ (List.mem_cons_self ..) rfl _ _ rfl rfl
              clear hd
              go_wp2_with fail
              exact hk _ _ ⟨A6, n6, c6, rfl⟩ hdd (Below.refl _ _)
            rintro _ ⟨B6, o6, d6, rfl⟩
            simp only [Act.put, List.setIfInBounds_toArray, List.set_cons_succ, List.set_cons_zero]
            refine ⟨?_, ?_⟩
            focus
              unfold opGoal
              rw [if_pos (by kernel_rfl)]
              intro x hb hd K hk
              obtain ⟨A', n', c', he, hs'⟩ := hd _ (List.mem_cons_self ..) rfl _ _ rfl rfl
              clear hd
              injection he with he
              injection he with he
              injection he with he _
              rw [← he] at hs'
              go_wp2_with fail
              exact hk _ _ ⟨_, _, _, rfl⟩ hs' (Below.refl _ _)
            rintro _ ⟨C6, p6, f6, rfl⟩
            simp only [Act.put, List.setIfInBounds_toArray, List.set_cons_succ, List.set_cons_zero]
            refine ⟨?_, ?_⟩
            focus
              unfold opGoal
              rw [if_pos (by kernel_rfl)]
              intro x hb hd K hk
              clear hd
              go_wp2_with fail
              exact hk _ _ rfl trivial (Below.refl _ _)
            rintro _ rfl
            simp only [Act.put, List.setIfInBounds_toArray, List.set_cons_succ, List.set_cons_zero]
            refine ⟨?_, ?_⟩
            focus
              unfold opGoal
              rw [if_pos (by kernel_rfl)]
              intro x hb hd K hk
              have hdd := hd _ (List.mem_cons_self ..) rfl _ _ rfl rfl
              clear hd
              go_wp2_with fail
              exact hk _ _ ⟨_, _, _, rfl⟩ hdd (Below.refl _ _)
            rintro _ ⟨D6, q6, g6, rfl⟩
            simp only [Act.put, List.setIfInBounds_toArray, List.set_cons_succ, List.set_cons_zero]
            refine ⟨?_, ?_⟩
            focus
              unfold opGoal
              rw [if_pos (by kernel_rfl)]
              intro x hb hd K hk
              clear hd
              go_wp2_with fail
              exact hk _ _ rfl trivial (Below.refl _ _)
            rintro _ rfl
            simp only [Act.put, List.setIfInBounds_toArray, List.set_cons_succ, List.set_cons_zero]
            intro wE6 hbq hf
            have hs6 := hf 9 _ _ rfl rfl
            clear hf
            replace hb := hb.trans (hbq.mono hb.size)
            have HO2 := Lib.hid (HO.out.below hbq)
            replace hs3 := hs3.below hbq
            replace hs4' := hs4'.below hbq
            have hs5' : SlS wE6 (.slice D5 q5 g5) (RC.getD []) := SlS.below hs5 hbq
            have hs6' : SlS wE6 (.slice D6 q6 g6) (RF.getD []) := hs6
            clear hbq HO hs5 hs6 CC CF CJ HE3 HE4 HE5
            have hEE := HE.out.below hb
            unfold BigW bigV at hEE
            have KF1 := Lib.hid (fun W (hw : Below wE6.heap.size wE6 W) => fits_any (.slice (some ⟨w1.heap.size, 0, none⟩) n n) (emp n) aB W (HO2.out.below hw) (by rw [emp_len]; omega) ((HE.out.below hb).below hw))
            have KF2 := Lib.hid (fun W (hw : Below wE6.heap.size wE6 W) => fits_any (.slice (some ⟨W.heap.size, 0, none⟩) 1 1) [xs m] aB (W.alloc (.cells #[.string ⟨(xs m).toArray⟩] 9)) (SlS.one W (xs m)) (by show 1 ≤ 1000000; decide) (((HE.out.below hb).below hw).below (below1 W _)))
            rw [emp_big] at KF1
            rw [one_big, xs_len] at KF2
            have HB := Lib.hid hb
            have hcm : (xs m).length = m := xs_len m
            have hfl := flat_len11 m (by omega)
            have hq := big_same aB
            have hq2 := big_nil aB
            unfold bigV at hq hq2
            by_cases hN : 100 < n
            · have HN := Lib.hid hN
              have hqN : decide ((100 : Int) < (n : Int)) = true := decide_eq_true (by omega)
              obtain rfl : RC = none := HRC.out.trans (if_pos hN)
              rw [if_pos hN] at E3
              rw [decide_eq_true hN, if_pos rfl] at KF1
              unfold bigV at KF1
              obtain rfl := E3.out
              by_cases hM : 2000 < m
              · have hqM : decide ((2000 : Int) < (m : Int)) = true := decide_eq_true (by omega)
                obtain rfl : RJ = none := HRJ.out.trans (if_pos hM)
                obtain rfl : RF = none := HRF.out.trans (if_pos hM)
                rw [decide_eq_true hM, if_pos rfl] at KF2
                unfold bigV at KF2
                clear hs3 hs4' hs5' hs6' E3 hb HO2
                simp only [errV, bigV]
                go_wp2_with fail
                refine (KF1.out wE6 (Below.refl _ _)).mono ?_
                rintro e w7 ⟨rfl, hb7⟩
                go_wp2_with fail
                refine (KF2.out w7 hb7).mono ?_
                rintro e w8 ⟨rfl, hb8⟩
                have hb9 := (HB.out.trans (hb7.mono HB.out.size)).alloc (HB.out.trans (hb7.mono HB.out.size)).size (.cells #[.string ⟨(xs m).toArray⟩] 9)
                go_wp2_with fail
                go_ret
                refine ⟨?_, hb9.trans (hb8.mono hb9.size)⟩
                first
                  | rfl
                  | simp [hqN, hqM]
              · have hqM : decide ((2000 : Int) < (m : Int)) = false := decide_eq_false (by omega)
                obtain rfl : RJ = some [xs m] := HRJ.out.trans (if_neg hM)
                obtain rfl : RF = some [(xs m).take 10 ++ 32 :: (xs m).drop 11] := HRF.out.trans (if_neg hM)
                rw [decide_eq_false hM, if_neg Bool.noConfusion] at KF2
                simp only [Option.getD_some] at hs4' hs6'
                obtain ⟨rfl, b4, o4, rfl, cc4, lc4⟩ := hs4'.len1
                obtain ⟨rfl, b6, o6, rfl, cc6, lc6⟩ := hs6'.len1
                generalize (xs m).take 10 ++ 32 :: (xs m).drop 11 = X6 at *
                clear hs3 hs4' hs5' hs6' E3 hb HO2
                simp only [errV, bigV]
                go_wp2_with fail
                refine (KF1.out wE6 (Below.refl _ _)).mono ?_
                rintro e w7 ⟨rfl, hb7⟩
                go_wp2_with fail
                refine (KF2.out w7 hb7).mono ?_
                rintro e w8 ⟨rfl, hb8⟩
                have hb9 := (HB.out.trans (hb7.mono HB.out.size)).alloc (HB.out.trans (hb7.mono HB.out.size)).size (.cells #[.string ⟨(xs m).toArray⟩] 9)
                go_wp2_with fail
                go_ret
                refine ⟨?_, hb9.trans (hb8.mono hb9.size)⟩
                first
                  | rfl
                  | simp [hqN, hqM]
            · have HN := Lib.hid hN
              have hqN : decide ((100 : Int) < (n : Int)) = false := decide_eq_false (by omega)
              obtain rfl : RC = some (emp n) := HRC.out.trans (if_neg hN)
              rw [if_neg hN] at E3 hs3
              rw [decide_eq_false hN, if_neg Bool.noConfusion] at KF1
              obtain rfl := E3.out
              simp only [Option.getD_some] at hs3 hs5'
              obtain rfl : n3 = n := by rw [hs3.len, emp_len]
              obtain rfl : q5 = n3 := by rw [hs5'.len, emp_len]
              by_cases hM : 2000 < m
              · have hqM : decide ((2000 : Int) < (m : Int)) = true := decide_eq_true (by omega)
                obtain rfl : RJ = none := HRJ.out.trans (if_pos hM)
                obtain rfl : RF = none := HRF.out.trans (if_pos hM)
                rw [decide_eq_true hM, if_pos rfl] at KF2
                unfold bigV at KF2
                clear hs3 hs4' hs5' hs6' E3 hb HO2
                simp only [errV, bigV]
                go_wp2_with fail
                refine (KF1.out wE6 (Below.refl _ _)).mono ?_
                rintro e w7 ⟨rfl, hb7⟩
                go_wp2_with fail
                refine (KF2.out w7 hb7).mono ?_
                rintro e w8 ⟨rfl, hb8⟩
                have hb9 := (HB.out.trans (hb7.mono HB.out.size)).alloc (HB.out.trans (hb7.mono HB.out.size)).size (.cells #[.string ⟨(xs m).toArray⟩] 9)
                go_wp2_with fail
                go_ret
                refine ⟨?_, hb9.trans (hb8.mono hb9.size)⟩
                first
                  | rfl
                  | simp [hqN, hqM]
              · have hqM : decide ((2000 : Int) < (m : Int)) = false := decide_eq_false (by omega)
                obtain rfl : RJ = some [xs m] := HRJ.out.trans (if_neg hM)
                obtain rfl : RF = some [(xs m).take 10 ++ 32 :: (xs m).drop 11] := HRF.out.trans (if_neg hM)
                rw [decide_eq_false hM, if_neg Bool.noConfusion] at KF2
                simp only [Option.getD_some] at hs4' hs6'
                obtain ⟨rfl, b4, o4, rfl, cc4, lc4⟩ := hs4'.len1
                obtain ⟨rfl, b6, o6, rfl, cc6, lc6⟩ := hs6'.len1
                generalize (xs m).take 10 ++ 32 :: (xs m).drop 11 = X6 at *
                clear hs3 hs4' hs5' hs6' E3 hb HO2
                simp only [errV, bigV]
                go_wp2_with fail
                refine (KF1.out wE6 (Below.refl _ _)).mono ?_
                rintro e w7 ⟨rfl, hb7⟩
                go_wp2_with fail
                refine (KF2.out w7 hb7).mono ?_
                rintro e w8 ⟨rfl, hb8⟩
                have hb9 := (HB.out.trans (hb7.mono HB.out.size)).alloc (HB.out.trans (hb7.mono HB.out.size)).size (.cells #[.string ⟨(xs m).toArray⟩] 9)
                go_wp2_with fail
                go_ret
                refine ⟨?_, hb9.trans (hb8.mono hb9.size)⟩
                first
                  | rfl
                  | simp [hqN, hqM]
end Go.Proofs.YtckcpokfjofcaaaDoor
