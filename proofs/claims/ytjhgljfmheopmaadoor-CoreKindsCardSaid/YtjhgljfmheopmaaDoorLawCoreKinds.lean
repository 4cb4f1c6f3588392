/- CoreKinds: whatever numbers and flag, the law answers true. No condition but what the package-level errors hold. -/
import Derived.Test.YtjhgljfmheopmaaDoorLawCoreMany
import Derived.Deep.CutBlock
import Derived.Deep.CutRange
set_option linter.unusedVariables false
set_option linter.unusedSimpArgs false
namespace Go.Proofs.YtjhgljfmheopmaaDoor
open Go.RowKit

theorem i64_and7 (n : Int) : bits .and .i64 n 7 = n % 8 := by
  have hm : (BitVec.ofInt 64 7).toNat = 2 ^ 3 - 1 := by decide
  have key : (BitVec.ofInt 64 n &&& BitVec.ofInt 64 7).toNat = (n % ((2 ^ 64 : Nat) : Int)).toNat % 2 ^ 3 := by
    rw [BitVec.toNat_and, BitVec.toNat_ofInt, hm, Nat.and_two_pow_sub_one_eq_mod]
  show IntKind.i64.wrap ((BitVec.ofInt 64 n &&& BitVec.ofInt 64 7).toNat : Nat) = n % 8
  rw [key, IntKind.wrap_i64]
  omega
theorem i64_and1 (n : Int) : bits .and .i64 n 1 = n % 2 := by
  have hm : (BitVec.ofInt 64 1).toNat = 2 ^ 1 - 1 := by decide
  have key : (BitVec.ofInt 64 n &&& BitVec.ofInt 64 1).toNat = (n % ((2 ^ 64 : Nat) : Int)).toNat % 2 ^ 1 := by
    rw [BitVec.toNat_and, BitVec.toNat_ofInt, hm, Nat.and_two_pow_sub_one_eq_mod]
  show IntKind.i64.wrap ((BitVec.ofInt 64 n &&& BitVec.ofInt 64 1).toNat : Nat) = n % 2
  rw [key, IntKind.wrap_i64]
  omega
theorem tmod18 (n : Int) : -17 ≤ n.tmod 18 ∧ n.tmod 18 ≤ 17 := by
  rcases Int.le_total 0 n with h | h
  · rw [Int.tmod_eq_emod_of_nonneg h]; omega
  · have h2 := Int.neg_tmod (-n) 18
    rw [Int.neg_neg, Int.tmod_eq_emod_of_nonneg (by omega : 0 ≤ -n)] at h2
    omega

def bitM (mask : Int) (i : Nat) : Bool := bits BinOp.and IntKind.i64 (mask / 2 ^ i) 1 == 1
def bitsM (mask : Int) (k : Nat) : List Bool := (List.range k).map (bitM mask)
theorem bitsM_succ (mask : Int) (k : Nat) : bitsM mask (k + 1) = bitsM mask k ++ [bitM mask k] := by simp [bitsM, List.range_succ]
theorem bitsM_len (mask : Int) (k : Nat) : (bitsM mask k).length = k := by simp [bitsM]
theorem cnt_snoc (bs : List Bool) (b : Bool) : cntT (bs ++ [b]) = cntT bs + if b then 1 else 0 := by
  cases b <;> simp [cntT, List.countP_append]
theorem cnt_le (bs : List Bool) : cntT bs ≤ bs.length := List.countP_le_length
theorem lastB_snoc (mask : Int) (k : Nat) : lastB (bitsM mask (k + 1)) = bitM mask k := by rw [bitsM_succ]; simp [lastB]
theorem caseB_append : ∀ (a b : List Bool) (i : Nat), caseB i (a ++ b) = (caseB i a && caseB (i + a.length) b)
  | [], b, i => by simp [caseB]
  | x :: a, b, i => by
    rw [List.cons_append, caseB, caseB, caseB_append a b, List.length_cons, Bool.and_assoc, show i + 1 + a.length = i + (a.length + 1) by omega]
theorem caseB_snoc (mask : Int) (k : Nat) : caseB 0 (bitsM mask (k + 1)) = (caseB 0 (bitsM mask k) && (bitM mask k == (decide (0 < k) && k % 2 == 0))) := by
  rw [bitsM_succ, caseB_append, bitsM_len, Nat.zero_add]
  simp [caseB]

/-- mayB over numbers -/
def mayF (kind k c : Int) (last cs : Bool) : Bool :=
  if kind == 20 then k == 0
  else if kind == 21 then decide (1 ≤ k) && c == 0
  else if kind == 22 || kind == 36 then k == 1 && c == 0
  else if kind == 23 || kind == 32 then decide (2 ≤ k) && c == k
  else if kind == 24 then k == 3 && c == 3
  else if kind == 25 || kind == 26 || kind == 28 then k == 2 && c == 2
  else if kind == 27 || kind == 31 then k == 1 && c == 1
  else if kind == 29 || kind == 35 || kind == 33 || kind == 34 then k == 2 && c == 1 && last
  else if kind == 37 then decide (1 ≤ k) && c == 1 && last
  else k % 2 == 1 && cs
theorem beq_int (a b : Nat) : (a == b) = ((a : Int) == (b : Int)) := by
  rw [Bool.eq_iff_iff, beq_iff_eq, beq_iff_eq]; omega
theorem beq_mod (a : Nat) : (a % 2 == 1) = ((a : Int) % 2 == 1) := by
  rw [Bool.eq_iff_iff, beq_iff_eq, beq_iff_eq]; omega
theorem dec_int (a b : Nat) : decide (a ≤ b) = decide ((a : Int) ≤ (b : Int)) := by
  rw [Bool.eq_iff_iff, decide_eq_true_eq, decide_eq_true_eq]; omega
theorem mayB_F (kind : Int) (bs : List Bool) : mayB kind bs = mayF kind bs.length (cntT bs) (lastB bs) (caseB 0 bs) := by
  unfold mayB mayF
  simp only [beq_mod, dec_int, beq_int]
  rfl

theorem check_not (v : Value) (N : List Nd) (L : List Addr) (w : World) (hm : manyB N = false) (hc : checkP N ≠ none) (hnd : ∀ x ∈ N, NdOk x) (hv : SlRd w v N) (hS : SenW w L) :
    Calls Tryd.prog 18 #[v] w fun e w' => ∃ g, e = .returned (.iface 84 (.pointer (some ⟨g, 0, none⟩))) ∧ Below w.heap.size w w' := by
  cases h : checkP N with
  | none => exact absurd h hc
  | some z =>
    obtain ⟨i, nest⟩ := z
    exact (check_at v N L w i nest hm h hnd hv hS).mono fun e w' ⟨g, h1, _, h3⟩ => ⟨g, h1, h3⟩
theorem kindT_len (kind : Int) (bs : List Bool) (name : Bool) : (flat (kindT kind bs name)).length = 1 + bs.length := by rw [kindT, flat_size, flatAll_kid]
theorem kids_nd : ∀ (bs : List Bool), ∀ x ∈ flatAll (bs.map kidT), NdOk x
  | [], x, h => by rw [List.map_nil, flatAll_nil] at h; cases h
  | b :: bs, x, h => by
    rw [List.map_cons, flatAll_cons, List.mem_append] at h
    rcases h with h | h
    · cases b
      all_goals
        simp only [kidT, nopT, flat_mk, flatAll_nil, List.mem_singleton, if_true, if_false, Bool.false_eq_true] at h
        subst h
        exact ⟨by simp, by simp⟩
    · exact kids_nd bs x h
theorem kindT_nd (kind : Int) (bs : List Bool) (name : Bool) (h : bs.length ≤ 7) : ∀ x ∈ flat (kindT kind bs name), NdOk x := by
  intro x hx
  rw [kindT, flat_mk, List.mem_cons] at hx
  rcases hx with rfl | hx
  · refine ⟨?_, ?_⟩
    · cases name <;> simp
    · simp only [List.length_map]; omega
  · exact kids_nd bs x hx

set_option maxRecDepth 100000 in
set_option maxHeartbeats 16000000 in
theorem corekinds_walk (kind0 k0 mask : Int) (name : Bool) (L : List Addr) (w : World) (hS : SenW w L) :
    Calls Tryd.prog 3 #[.int .i64 kind0, .int .i64 k0, .int .i64 mask, .bool name] w fun e w' => e = .returned (.bool true) ∧ Below w.heap.size w w' := by
  obtain ⟨i0, hi, hz0, hz1, hz2⟩ := info_parts infoNodes
  have FA := Lib.hid (first5_any L w hS)
  have HS := Lib.hid hS
  clear hS
  have hz := tmod18 kind0
  go_enter Tryd.func3, Tryd.ntmps3
  go_wp2_with fail
  refine FA.out.mono ?_
  rintro e w1 ⟨rfl, hb⟩
  clear FA
  go_upto_region 4 with (fail)
  obtain ⟨kd, hkd1, hkd2, hkd⟩ : ∃ kd : Int, 20 ≤ kd ∧ kd ≤ 37 ∧ kind0.tmod 18 % 18 + 20 = kd := ⟨_, by omega, by omega, rfl⟩
  obtain ⟨N, hN, hNe⟩ : ∃ N : Nat, N ≤ 7 ∧ bits BinOp.and IntKind.i64 k0 7 = N := ⟨(k0 % 8).toNat, by omega, by rw [i64_and7]; omega⟩
  rw [hkd, hNe]
  clear hkd hNe hz
  go_wp2_with fail
  go_loopw [10, 11, 12] (fun v u i wr => ∃ (k c : Nat) (A' : Option Addr) (c' : Nat) (us : List Value), k ≤ N ∧ i = .int .i64 k ∧ u = .int .i64 c ∧ c ≤ k ∧ Hid (c = cntT (bitsM mask k)) ∧ v = .slice A' k c' ∧
      wr.ownsRow w1.heap.size 25 1 (.slice A' k c') k us ∧ OwnAll wr w1.heap.size us (((bitsM mask k).map kidT).map flat) ∧ Below w1.heap.size w1 wr) (fun _ _ i _ => N - (intOf i).toNat)
  case atStart => exact ⟨0, 0, none, 0, [], by omega, rfl, rfl, Nat.le_refl _, rfl, rfl, World.ownsRow_nil _ _ _ _, OwnAll.nil _ _, Below.refl _ _⟩
  case round =>
    obtain ⟨k, c, A', c', us, hk, rfl, rfl, hck, HC, rfl, hown, hall, hbr⟩ := hrel
    by_cases hlt : k < N
    · obtain ⟨b, hbit⟩ : ∃ b, bitM mask k = b := ⟨_, rfl⟩
      have HB := Lib.hid hbit
      unfold bitM at hbit
      cases b
      · go_wp2_with fail
        refine (litT_any [97] _).mono ?_
        rintro e w2 ⟨A2, n2, c2, rfl, o2, hb2⟩
        have hown2 := own_below hown hb2
        have hall2 := hall.below hb2
        have hbr2 := hbr.trans (hb2.mono hbr.size)
        have H2 := Lib.hid (show OwnAll w2 w1.heap.size [.slice A2 n2 c2] [flat (kidT false)] from by
          obtain ⟨A', c', he, h⟩ := o2
          rw [he]
          exact OwnAll.one (own_mono h hbr.size))
        clear o2 hown hall
        go_wp2_with (at_builtin; refine wpList_push rfl _ _ _ rfl Tryd.underlying23 hi hz0 hz1 hz2 rfl (by decide) hown2 rfl rfl rfl (by simp [Value.oneCell']) (by omega) (by decide) hbr2.size ?_; intro A4 c4 w4 hown4 hb4 hoo4)
        go_roundw
        case rel =>
          refine ⟨.slice A4 (k + 1) c4, .int .i64 c, .int .i64 ((k : Int) + 1), ⟨k + 1, by omega, by go_num, c, by go_num, by omega, Lib.hid (by rw [bitsM_succ, HB.out, cnt_snoc, ← HC.out]; rfl), A4, c4, rfl, us ++ [.slice A2 n2 c2], by simpa using hown4, ?_, hbr2.trans hb4⟩, rfl, rfl, rfl⟩
          rw [bitsM_succ, HB.out, ← List.map_map, List.map_append, List.map_append]
          exact (hall2.others hoo4 (by decide)).append (H2.out.others hoo4 (by decide))
        case measure => simp [intOf]; omega
      · go_wp2_with fail
        refine (newT_any 20 0 [] none 0 0 [] _ (KdRd.nil _ _) rfl (of_decide_eq_true (by kernel_rfl))).mono ?_
        rintro e w2 ⟨A2, n2, c2, rfl, o2, hb2⟩
        have hown2 := own_below hown hb2
        have hall2 := hall.below hb2
        have hbr2 := hbr.trans (hb2.mono hbr.size)
        have H2 := Lib.hid (show OwnAll w2 w1.heap.size [.slice A2 n2 c2] [flat (kidT true)] from by
          obtain ⟨A', c', he, h⟩ := o2
          rw [he]
          exact OwnAll.one (own_mono h hbr.size))
        clear o2 hown hall
        go_wp2_with (at_builtin; refine wpList_push rfl _ _ _ rfl Tryd.underlying23 hi hz0 hz1 hz2 rfl (by decide) hown2 rfl rfl rfl (by simp [Value.oneCell']) (by omega) (by decide) hbr2.size ?_; intro A4 c4 w4 hown4 hb4 hoo4)
        go_roundw
        case rel =>
          refine ⟨.slice A4 (k + 1) c4, .int .i64 ((c : Int) + 1), .int .i64 ((k : Int) + 1), ⟨k + 1, by omega, by go_num, c + 1, by go_num, by omega, Lib.hid (by rw [bitsM_succ, HB.out, cnt_snoc, ← HC.out]; rfl), A4, c4, rfl, us ++ [.slice A2 n2 c2], by simpa using hown4, ?_, hbr2.trans hb4⟩, rfl, rfl, rfl⟩
          rw [bitsM_succ, HB.out, ← List.map_map, List.map_append, List.map_append]
          exact (hall2.others hoo4 (by decide)).append (H2.out.others hoo4 (by decide))
        case measure => simp [intOf]; omega
    · obtain rfl : N = k := by omega
      have hkd := KdRd.of_own hown (by simp [bitsM_len]) hall
      have hbw := hb.trans (hbr.mono hb.size)
      clear hown hall hlt hk
      go_upto_if 49 with (fail)
      go_cut [13] from 20 to 49 (fun v wx => v = .string ⟨(if name then [120] else [] : List UInt8).toArray⟩ ∧ wr = wx)
      case first =>
        cases name
        all_goals
          go_wp2_with fail
          go_meet
          exact ⟨by simp, rfl⟩
      case rest =>
      obtain ⟨rfl, rfl⟩ := hcut
      obtain ⟨S, hS⟩ : ∃ S : List UInt8, (if name then [120] else []) = S := ⟨_, rfl⟩
      rw [hS]
      have HSS := Lib.hid hS
      clear hS
      obtain ⟨q33, h33⟩ : ∃ q, (kd == 33) = q := ⟨_, rfl⟩
      have H33 := Lib.hid h33
      go_upto_if 51 with (fail)
      go_cut [14] from 49 to 51 (fun v wx => v = .int .i64 (if q33 then 2 else 0) ∧ wr = wx)
      case first =>
        cases q33
        all_goals
          go_wp2_with fail
          go_meet
          exact ⟨by simp, rfl⟩
      case rest =>
      obtain ⟨rfl, rfl⟩ := hcut
      clear h33
      obtain ⟨nn, hnn⟩ : ∃ n : Int, (if q33 then 2 else 0) = n := ⟨_, rfl⟩
      rw [hnn]
      have HNN := Lib.hid hnn
      clear hnn
      go_upto_region 19 with (fail)
      go_cut [15] from 51 to 62 (fun v wx => v = .bool (lastB (bitsM mask N)) ∧ wr = wx)
      case first =>
        rcases Nat.eq_zero_or_pos N with h0 | h0
        · subst h0
          go_wp2_with fail
          go_meet
          exact ⟨rfl, rfl⟩
        · obtain ⟨j, rfl⟩ : ∃ j, N = j + 1 := ⟨N - 1, by omega⟩
          go_wp2_with fail
          go_meet
          exact ⟨by rw [lastB_snoc]; rfl, rfl⟩
      case rest =>
      obtain ⟨rfl, rfl⟩ := hcut
      go_upto_region 21 with (fail)
      go_cut [17] from 62 to 76 (fun v wx => v = .bool (namB kd) ∧ wr = wx)
      case first =>
        cases h1 : (kd == 22) <;> cases h2 : (kd == 29) <;> cases h3 : (kd == 31) <;> cases h4 : (kd == 35)
        all_goals
          go_wp2_with fail
          go_meet
          exact ⟨by simp [namB, h1, h2, h3, h4], rfl⟩
      case rest =>
      obtain ⟨rfl, rfl⟩ := hcut
      obtain ⟨last, hlast⟩ : ∃ l, lastB (bitsM mask N) = l := ⟨_, rfl⟩
      rw [hlast]
      have HLAST := Lib.hid hlast
      clear hlast
      go_upto_block 2 with (fail)
      obtain ⟨cs, hcs⟩ : ∃ l, caseB 0 (bitsM mask N) = l := ⟨_, rfl⟩
      have HCS := Lib.hid hcs
      clear hcs
      go_cut [16] from 76 to 187 (fun v wx => v = .bool (mayF kd N c last cs) ∧ wr = wx)
      case first =>
        clear HS hi hz0 hz1 hz2 hkd
        go_upto_if 78 with (fail)
        by_cases h78 : kd = 20
        · as_aux_lemma =>
          subst h78
          all_goals
            go_wp2_with fail
            all_goals
              go_meet
              refine ⟨?_, rfl⟩
              first | rfl | simp [mayF]
        have E20 : (kd == 20) = false := by rw [beq_eq_false_iff_ne]; omega
        go_upto_if 82 with (fail)
        by_cases h82 : kd = 21
        · as_aux_lemma =>
          subst h82
          all_goals cases G1 : decide ((1 : Int) ≤ (N : Int))
          all_goals
            go_wp2_with fail
            all_goals
              go_meet
              refine ⟨?_, rfl⟩
              first | rfl | simp [mayF, G1]
        have E21 : (kd == 21) = false := by rw [beq_eq_false_iff_ne]; omega
        go_upto_if 90 with (fail)
        by_cases h90 : kd = 22 ∨ kd = 36
        · as_aux_lemma =>
          rcases h90 with rfl | rfl
          all_goals cases N1 : ((N : Int) == 1)
          all_goals
            go_wp2_with fail
            all_goals
              go_meet
              refine ⟨?_, rfl⟩
              first | rfl | simp [mayF, N1]
        have E22 : (kd == 22) = false := by rw [beq_eq_false_iff_ne]; omega
        have E36 : (kd == 36) = false := by rw [beq_eq_false_iff_ne]; omega
        go_upto_if 99 with (fail)
        by_cases h99 : kd = 23 ∨ kd = 32
        · as_aux_lemma =>
          rcases h99 with rfl | rfl
          all_goals cases G2 : decide ((2 : Int) ≤ (N : Int))
          all_goals
            go_wp2_with fail
            all_goals
              go_meet
              refine ⟨?_, rfl⟩
              first | rfl | simp [mayF, G2]
        have E23 : (kd == 23) = false := by rw [beq_eq_false_iff_ne]; omega
        have E32 : (kd == 32) = false := by rw [beq_eq_false_iff_ne]; omega
        go_upto_if 109 with (fail)
        by_cases h109 : kd = 24
        · as_aux_lemma =>
          subst h109
          all_goals cases N3 : ((N : Int) == 3)
          all_goals
            go_wp2_with fail
            all_goals
              go_meet
              refine ⟨?_, rfl⟩
              first | rfl | simp [mayF, N3]
        have E24 : (kd == 24) = false := by rw [beq_eq_false_iff_ne]; omega
        go_upto_if 117 with (fail)
        by_cases h117 : kd = 25 ∨ kd = 26 ∨ kd = 28
        · as_aux_lemma =>
          rcases h117 with rfl | rfl | rfl
          all_goals cases N2 : ((N : Int) == 2)
          all_goals
            go_wp2_with fail
            all_goals
              go_meet
              refine ⟨?_, rfl⟩
              first | rfl | simp [mayF, N2]
        have E25 : (kd == 25) = false := by rw [beq_eq_false_iff_ne]; omega
        have E26 : (kd == 26) = false := by rw [beq_eq_false_iff_ne]; omega
        have E28 : (kd == 28) = false := by rw [beq_eq_false_iff_ne]; omega
        go_upto_if 127 with (fail)
        by_cases h127 : kd = 27 ∨ kd = 31
        · as_aux_lemma =>
          rcases h127 with rfl | rfl
          all_goals cases N1 : ((N : Int) == 1)
          all_goals
            go_wp2_with fail
            all_goals
              go_meet
              refine ⟨?_, rfl⟩
              first | rfl | simp [mayF, N1]
        have E27 : (kd == 27) = false := by rw [beq_eq_false_iff_ne]; omega
        have E31 : (kd == 31) = false := by rw [beq_eq_false_iff_ne]; omega
        go_upto_if 136 with (fail)
        by_cases h136 : kd = 29 ∨ kd = 35 ∨ kd = 33 ∨ kd = 34
        · as_aux_lemma =>
          rcases h136 with rfl | rfl | rfl | rfl
          all_goals cases N2 : ((N : Int) == 2)
          all_goals cases C1 : ((c : Int) == 1)
          all_goals
            go_wp2_with fail
            all_goals
              go_meet
              refine ⟨?_, rfl⟩
              first | rfl | simp [mayF, N2, C1]
        have E29 : (kd == 29) = false := by rw [beq_eq_false_iff_ne]; omega
        have E35 : (kd == 35) = false := by rw [beq_eq_false_iff_ne]; omega
        have E33 : (kd == 33) = false := by rw [beq_eq_false_iff_ne]; omega
        have E34 : (kd == 34) = false := by rw [beq_eq_false_iff_ne]; omega
        go_upto_if 150 with (fail)
        by_cases h150 : kd = 37
        · as_aux_lemma =>
          subst h150
          all_goals cases G1 : decide ((1 : Int) ≤ (N : Int))
          all_goals cases C1 : ((c : Int) == 1)
          all_goals
            go_wp2_with fail
            all_goals
              go_meet
              refine ⟨?_, rfl⟩
              first | rfl | simp [mayF, G1, C1]
        have E37 : (kd == 37) = false := by rw [beq_eq_false_iff_ne]; omega
        have h30 : kd = 30 := by
          simp only [beq_eq_false_iff_ne] at E20 E21 E22 E36 E23 E32 E24 E25 E26 E28 E27 E31 E29 E35 E33 E34 E37
          omega
        clear E20 E21 E22 E36 E23 E32 E24 E25 E26 E28 E27 E31 E29 E35 E33 E34 E37 h78 h82 h90 h99 h109 h117 h127 h136 h150
        subst h30
        obtain ⟨q, hq⟩ : ∃ q, ((N : Int) % 2 == 1) = q := ⟨_, rfl⟩
        have HQ := Lib.hid hq
        have HMF := Lib.hid (show mayF 30 N c last cs = (q && cs) by rw [← hq]; rfl)
        go_wp2_with fail
        clear hq
        go_loopw [16, 18] (fun v i w2 => ∃ k : Nat, k ≤ N ∧ i = .int .i64 k ∧ v = .bool (q && caseB 0 (bitsM mask k)) ∧ wr = w2) (fun _ i _ => N - (intOf i).toNat)
        case atStart => exact ⟨0, Nat.zero_le _, rfl, by simp [bitsM, caseB], rfl⟩
        case round =>
          obtain ⟨k, hk, rfl, rfl, rfl⟩ := hrel
          by_cases hlt : k < N
          · obtain ⟨cur, hcur⟩ : ∃ cur, (q && caseB 0 (bitsM mask k)) = cur := ⟨_, rfl⟩
            obtain ⟨b, hbit⟩ : ∃ b, bitM mask k = b := ⟨_, rfl⟩
            have HN := Lib.hid (show (q && caseB 0 (bitsM mask (k + 1))) = (cur && (b == (decide (0 < k) && k % 2 == 0))) by rw [caseB_snoc, ← Bool.and_assoc, hcur, hbit])
            rw [hcur]
            unfold bitM at hbit
            have hev : (k % 2 == 0) = ((k : Int) % 2 == 0) := by rw [Bool.eq_iff_iff, beq_iff_eq, beq_iff_eq]; omega
            obtain ⟨ev, hev2⟩ : ∃ ev, ((k : Int) % 2 == 0) = ev := ⟨_, rfl⟩
            rw [hev, hev2] at HN
            clear hcur hev
            cases cur
            · go_wp2_with fail
              go_roundw
              case rel => exact ⟨k + 1, by omega, by go_num, by rw [HN.out]; rfl, trivial⟩
              case measure => simp [intOf]; omega
            · rcases Nat.eq_zero_or_pos k with h0 | h0
              · subst h0
                go_wp2_with fail
                go_roundw
                case rel => exact ⟨1, by omega, by go_num, by rw [HN.out]; simp only [Nat.pow_zero, Int.ediv_one, Int.pow_zero] at hbit; rw [hbit]; cases b <;> rfl, trivial⟩
                case measure => simp [intOf]; omega
              · have hd : decide (0 < k) = true := decide_eq_true h0
                rw [hd] at HN
                cases b <;> cases ev
                all_goals
                  go_wp2_with fail
                  go_roundw
                  case rel => exact ⟨k + 1, by omega, by go_num, by rw [HN.out]; rfl, trivial⟩
                  case measure => simp [intOf]; omega
          · obtain rfl : k = N := by omega
            go_wp2_with fail
            go_meet
            exact ⟨by rw [HMF.out, HCS.out], rfl⟩
      case rest =>
      obtain ⟨rfl, rfl⟩ := hcut
      have HKT := Lib.hid (show kindT kd (bitsM mask N) name = .mk kd nn S ((bitsM mask N).map kidT) by unfold kindT; rw [H33.out, HNN.out, HSS.out])
      obtain ⟨ok, hok⟩ : ∃ ok, okT 30 false (kindT kd (bitsM mask N) name) = ok := ⟨_, rfl⟩
      have HOK := Lib.hid (show (mayF kd N c last cs && (namB kd == name)) = ok by
        rw [← hok, kinds_ok kd _ name hkd1 hkd2 (by rw [bitsM_len]; omega), mayB_F, bitsM_len, ← HC.out, HLAST.out, HCS.out])
      have HKO := Lib.hid hok
      have hbs := bitsM_len mask N
      have NW := Lib.hid (newT_any kd nn S A' c' N ((bitsM mask N).map kidT) wr hkd (by rw [List.length_map, hbs]) (by rw [flatAll_kid, hbs]; omega))
      rw [← HKT.out] at NW
      have hlen := kindT_len kd (bitsM mask N) name
      have hnd := kindT_nd kd (bitsM mask N) name (by omega)
      have HND := Lib.hid hnd
      have HLEN := Lib.hid (show (flat (kindT kd (bitsM mask N) name)).length ≤ 3000 by omega)
      obtain ⟨may, hmay⟩ : ∃ m, mayF kd N c last cs = m := ⟨_, rfl⟩
      obtain ⟨nm, hnm⟩ : ∃ m, namB kd = m := ⟨_, rfl⟩
      rw [hmay, hnm] at HOK
      rw [hmay, hnm]
      have hS1 := HS.out.below hbw
      clear hnd hlen hbs hok hmay hnm hkd HC HLAST HCS H33 HNN HKT
      go_wp2_with fail
      refine NW.out.mono ?_
      rintro e w2 ⟨A2, n2, c2, rfl, o2, hb2⟩
      have s2 := o2.rd
      have hS2 := hS1.below hb2
      replace hbw := hbw.trans (hb2.mono hbw.size)
      clear o2 NW hS1 hb2
      cases ok
      · have CC := Lib.hid (check_not _ _ L w2 (many_false HLEN.out) (fun h => by have h2 := (check_flat _).1 h; rw [HKO.out] at h2; cases h2) HND.out s2 hS2)
        clear s2 HKO
        go_wp2_with fail
        refine CC.out.mono ?_
        rintro e w3 ⟨g, rfl, hb3⟩
        replace hbw := hbw.trans (hb3.mono hbw.size)
        clear CC hb3
        have hq := HOK.out
        clear HOK
        cases may
        · go_wp2_with fail
          go_ret
          exact ⟨rfl, hbw⟩
        · rw [Bool.true_and] at hq
          go_wp2_with fail
          go_ret
          exact ⟨rfl, hbw⟩
      · have CC := Lib.hid (check_ok _ _ L w2 HKO.out HLEN.out HND.out s2 hS2)
        clear s2 HKO
        go_wp2_with fail
        refine CC.out.mono ?_
        rintro e w3 ⟨rfl, hb3⟩
        replace hbw := hbw.trans (hb3.mono hbw.size)
        clear CC hb3
        have hq := HOK.out
        clear HOK
        cases may
        · simp at hq
        · rw [Bool.true_and] at hq
          go_wp2_with fail
          go_ret
          exact ⟨rfl, hbw⟩
theorem corekinds_card (a b c : Int) (d : Bool) (L : List Addr) (w : World) (_ : (Lit.int .i64 a).wf = true) (_ : (Lit.int .i64 b).wf = true) (_ : (Lit.int .i64 c).wf = true) (hS : SenW w L) :
    Calls Tryd.prog 3 #[.int .i64 a, .int .i64 b, .int .i64 c, .bool d] w fun e w' => e = .returned (.bool true) ∧ Below w.heap.size w w' := corekinds_walk a b c d L w hS
end Go.Proofs.YtjhgljfmheopmaaDoor
