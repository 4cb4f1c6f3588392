/- GenGreat: whatever numbers, the law answers true. No condition but what the package-level errors hold. -/
import Derived.Test.YthmeonimianoeaaDoorGenF
import Derived.Test.YthmeonimianoeaaDoorSeqW
import Derived.Laws.BitsLemmas
import Derived.Deep.DeepCutAuto
import Derived.Outline
set_option linter.unusedVariables false
set_option linter.unusedSimpArgs false
namespace Go.Proofs.YthmeonimianoeaaDoor
open Go.RowKit

theorem i64_and255 (n : Int) : bits .and .i64 n 255 = n % 256 := by
  have hm : (BitVec.ofInt 64 255).toNat = 2 ^ 8 - 1 := by decide
  have key : (BitVec.ofInt 64 n &&& BitVec.ofInt 64 255).toNat = (n % ((2 ^ 64 : Nat) : Int)).toNat % 2 ^ 8 := by
    rw [BitVec.toNat_and, BitVec.toNat_ofInt, hm, Nat.and_two_pow_sub_one_eq_mod]
  show IntKind.i64.wrap ((BitVec.ofInt 64 n &&& BitVec.ofInt 64 255).toNat : Nat) = n % 256
  rw [key, IntKind.wrap_i64]
  omega
theorem tmod4 (n : Int) : -3 ≤ n.tmod 4 ∧ n.tmod 4 ≤ 3 := by
  rcases Int.le_total 0 n with h | h
  · rw [Int.tmod_eq_emod_of_nonneg h]; omega
  · have h2 := Int.neg_tmod (-n) 4
    rw [Int.neg_neg, Int.tmod_eq_emod_of_nonneg (by omega : 0 ≤ -n)] at h2
    omega
def gg0 : Tr := .mk 21 0 [] [.mk 1 0 [97] []]
def gg1 : Tr := .mk 32 0 [] [nopT, nopT]
def gg2 : Tr := .mk 29 0 [120] [.mk 1 0 [97] [], nopT]
def gg3 : Tr := .mk 22 0 [120] [.mk 4 0 [] [.mk 1 0 [97] [], .mk 2 0 [120] []]]
/-- What is known of the command that is said again and again. -/
structure GoodOne (t : Tr) (q : Nat) : Prop where
  ok : okT 29 false t = true
  ht : heightT t ≤ 2
  len : (flat t).length = q
  nd : ∀ x ∈ flat t, NdOk x
theorem good0 : GoodOne gg0 2 := ⟨by kernel_rfl, of_decide_eq_true (by kernel_rfl), by kernel_rfl, ok_nodes' (by kernel_rfl)⟩
theorem good1 : GoodOne gg1 3 := ⟨by kernel_rfl, of_decide_eq_true (by kernel_rfl), by kernel_rfl, ok_nodes' (by kernel_rfl)⟩
theorem good2 : GoodOne gg2 3 := ⟨by kernel_rfl, of_decide_eq_true (by kernel_rfl), by kernel_rfl, ok_nodes' (by kernel_rfl)⟩
theorem good3 : GoodOne gg3 4 := ⟨by kernel_rfl, of_decide_eq_true (by kernel_rfl), by kernel_rfl, ok_nodes' (by kernel_rfl)⟩
theorem rep_len {t : Tr} {q : Nat} (h : GoodOne t q) : ∀ k, (flatAll (List.replicate k t)).length = k * q
  | 0 => by rw [List.replicate_zero, flatAll_nil, Nat.zero_mul]; rfl
  | k + 1 => by rw [List.replicate_succ, flatAll_cons, List.length_append, rep_len h k, h.len, Nat.add_mul]; omega
theorem rep_height {t : Tr} {q : Nat} (h : GoodOne t q) (m : Nat) : ∀ k i, heightTs 23 m i (List.replicate k t) ≤ 2
  | 0, i => by rw [List.replicate_zero, heightTs_nil]; omega
  | k + 1, i => by
    have h1 := rep_height h m k (i + 1)
    have h2 := h.ht
    have h3 : addH 23 m i = 0 := rfl
    rw [List.replicate_succ, heightTs_cons, h3]
    omega
def repT (k : Nat) (t : Tr) : Tr := .mk 23 0 [] (List.replicate k t)
theorem rep_ok {t : Tr} {q : Nat} (h : GoodOne t q) {k : Nat} (hk : 2 ≤ k) : okT 30 false (repT k t) = true := by
  rw [repT, okT]
  have h1 : childrenB 23 ((List.replicate k t).length : Int) = true := by
    rw [List.length_replicate]
    simp [childrenB]
    omega
  rw [h1, okAll_rep (fun j => by rw [show takesB 23 ((List.replicate k t).length : Int) j = false from rfl]; exact h.ok)]
  rfl
theorem rep_nd {t : Tr} {q : Nat} (h : GoodOne t q) {k : Nat} (hk : k ≤ 4000000) : ∀ x ∈ flat (repT k t), NdOk x := by
  intro x hx
  rw [repT, flat_mk, List.mem_cons] at hx
  rcases hx with rfl | hx
  · refine ⟨by simp, ?_⟩
    simp only [List.length_replicate]
    omega
  · have : ∀ m, x ∈ flatAll (List.replicate m t) → NdOk x := by
      intro m
      induction m with
      | zero => intro h; rw [List.replicate_zero, flatAll_nil] at h; cases h
      | succ m ih =>
        intro h'
        rw [List.replicate_succ, flatAll_cons, List.mem_append] at h'
        exact h'.elim (h.nd x) ih
    exact this k hx
theorem rep_flat {t : Tr} {q : Nat} (h : GoodOne t q) (k : Nat) : (flat (repT k t)).length = 1 + k * q := by rw [repT, flat_size, rep_len h]
theorem rep_top {t : Tr} {q : Nat} (h : GoodOne t q) (k : Nat) : heightT (repT k t) ≤ 2 := by
  rw [repT, heightT_mk]
  exact rep_height h _ k 0
theorem OwnNd.own2 {x : World} {B n c : Nat} {A : Option Addr} {L : List Nd} (h : OwnNd x B (.slice A n c) L) : x.ownsRow B 40 5 (.slice A n c) L.length (L.flatMap ndc) := by
  obtain ⟨A', c', he, h2⟩ := h
  rw [he]; exact h2
theorem OwnNd.n {x : World} {B n c q : Nat} {A : Option Addr} {t : Tr} (h : OwnNd x B (.slice A n c) (flat t)) (hg : GoodOne t q) : n = q := by
  obtain ⟨A', c', he, h2⟩ := h
  injection he with _ he _
  rw [he, hg.len]

set_option maxRecDepth 100000 in
set_option maxHeartbeats 16000000 in
theorem gengreat_card (n0 k0 : Int) (aN aT aM : Addr) (w : World) (_ : (Lit.int .i64 n0).wf = true) (_ : (Lit.int .i64 k0).wf = true) (hE : ErrW w aN aT aM) :
    Calls Tryd.prog 3 #[.int .i64 n0, .int .i64 k0] w fun e w' => e = .returned (.bool true) ∧ Below w.heap.size w w' := by
  have FA := Lib.hid (first23_any aN aT aM w hE)
  have HE := Lib.hid hE
  have hz := tmod4 k0
  clear hE
  go_enter Tryd.func3, Tryd.ntmps3
  go_wp2_with fail
  refine FA.out.mono ?_
  rintro e w1 ⟨rfl, hb⟩
  clear FA
  go_upto_region 3 with (fail)
  rw [i64_and255]
  obtain ⟨N, hN1, hN2, hNe⟩ : ∃ N : Nat, 740 ≤ N ∧ N ≤ 995 ∧ wrap64 (n0 % 256 + 740) = N := ⟨(n0 % 256 + 740).toNat, by omega, by omega, by unfold wrap64; omega⟩
  rw [hNe]
  clear hNe
  go_wp2_with fail
  refine (litT_any [97] _).mono ?_
  rintro e w2 ⟨A2, n2, c2, rfl, o2, hb2⟩
  have s2 := o2.rd
  clear o2
  replace hb := hb.trans (hb2.mono hb.size)
  go_wp2_with fail
  refine (newL_any 21 0 [] _ 1 1 [.mk 1 0 [97] []] _ (AllRd.one s2) rfl (of_decide_eq_true (by kernel_rfl))).mono ?_
  rintro e w3 ⟨A3, n3, c3, rfl, o3, hb3⟩
  obtain rfl : n3 = 2 := o3.n good0
  have O3 := Lib.hid (o3.mono hb.size)
  replace hb := hb.trans (hb3.mono hb.size)
  clear o3 s2 hb2 hb3
  go_upto_region 5 with (fail)
  obtain ⟨kd, hkd1, hkd⟩ : ∃ kd : Int, (kd = 0 ∨ kd = 1 ∨ kd = 2 ∨ kd = 3) ∧ (k0.tmod 4 + 4) % 4 = kd := ⟨_, by omega, rfl⟩
  rw [hkd]
  clear hkd hz
  rcases hkd1 with rfl | rfl | rfl | rfl
  · have HG := Lib.hid good0
    have hb := hb
    generalize w3 = wk at *
    generalize A3 = Ao at *
    generalize c3 = co at *
    have OO := Lib.hid O3.out
    have HBK := Lib.hid hb
    obtain ⟨i0, hi, hz0, hz1, hz2⟩ := info_parts infoNodes
    go_wp2_with fail
    go_loopw [7, 8] (fun v i wr => ∃ (k : Nat) (A' : Option Addr) (c' : Nat) (us : List Value), k * 2 < N ∧ i = .int .i64 k ∧ v = .slice A' k c' ∧
        wr.ownsRow wk.heap.size 23 1 (.slice A' k c') k us ∧ OwnAll wr w.heap.size us ((List.replicate k gg0).map flat) ∧ Below wk.heap.size wk wr) (fun _ i _ => N - (intOf i).toNat)
    case atStart => exact ⟨0, none, 0, [], by omega, rfl, rfl, World.ownsRow_nil _ _ _ _, OwnAll.nil _ _, Below.refl _ _⟩
    case round =>
      obtain ⟨k, A', c', us, hk, rfl, rfl, hown, hall, hbr⟩ := hrel
      have g1 : decide ((k : Int) < (N : Int)) = true := decide_eq_true (by omega)
      by_cases hlt : k * 2 + 2 < N
      · have g2 : decide ((k : Int) * 2 + 2 < (N : Int)) = true := decide_eq_true (by omega)
        have H2 := Lib.hid (show OwnAll wr w.heap.size [.slice Ao 2 co] [flat gg0] from OwnAll.one ((OO.out.below hbr).own2))
        go_wp2_with (at_builtin; refine wpList_push rfl _ _ _ rfl Tryd.underlying26 hi hz0 hz1 hz2 rfl (by decide) hown rfl rfl rfl (by simp [Value.oneCell']) (by omega) (by decide) hbr.size ?_; intro A4 c4 w4 hown4 hb4 hoo4)
        go_roundw
        case rel =>
          refine ⟨k + 1, A4, c4, us ++ [.slice Ao 2 co], by omega, by go_num, rfl, by simpa using hown4, ?_, hbr.trans hb4⟩
          rw [List.replicate_succ', List.map_append]
          exact (hall.others hoo4 (by decide)).append (H2.out.others hoo4 (by decide))
        case measure => simp [intOf]; omega
      · have g2 : decide ((k : Int) * 2 + 2 < (N : Int)) = false := decide_eq_false (by omega)
        have hkd := KdRd.of_own hown (by simp) hall
        have SC := Lib.hid (seq_any A' c' k (List.replicate k gg0) wr hkd (by simp) (by rw [rep_len HG.out]; omega))
        rw [seqT_many (by simp; omega)] at SC
        have hbw := HBK.out.trans (hbr.mono HBK.out.size)
        clear hown hall hkd
        go_wp2_with fail
        refine SC.out.mono ?_
        rintro e w5 ⟨A5, n5, c5, rfl, o5, hb5⟩
        have s5 : SlRd w5 (.slice A5 n5 c5) (flat (repT k gg0)) := o5.rd
        have hn5 : n5 = 1 + k * 2 := by
          obtain ⟨_, _, he, _⟩ := s5
          injection he with _ he _
          rw [he, rep_flat HG.out]
        subst hn5
        replace hbw := hbw.trans (hb5.mono hbw.size)
        have CC := Lib.hid (compile_v _ (repT k gg0) 0 aN aT aM w5 (by rw [rep_flat HG.out]; omega) (rep_nd HG.out (by omega)) s5 (HE.out.below hbw) (rep_ok HG.out (by omega)) ((gen_all _ (repT k gg0) 30 (Nat.le_refl _)).2 (rep_ok HG.out (by omega))).low)
        have g3 : decide ((1 : Int) + (k : Int) * 2 ≤ 1000) = true := decide_eq_true (by omega)
        clear o5 s5 SC hb5
        go_wp2_with fail
        refine CC.out.mono ?_
        rintro e w6 ⟨A6, c6, X, st, rfl, hb6, ho, hg2, -⟩
        have hx := code_rd ho
        obtain ⟨j, hj⟩ : ∃ j, X.length = j + 1 := ⟨X.length - 1, by have := hg2.pos; omega⟩
        have hl := hg2.len
        rw [rep_flat HG.out] at hl
        have hst := hg2.st
        have hh := rep_top HG.out k
        have HX := Lib.hid (show ∀ W, Below w6.heap.size w6 W → Calls Tryd.prog 13 #[.agg #[.slice A6 (j + 1) c6, .int .i64 st]] W (Ret W .nilIface) from fun W hW => by
          have := ccheck_ok A6 c6 st X W (by omega) (by omega) (by omega) hg2.ok hg2.last (hx.below hW)
          rw [hj] at this
          exact this)
        unfold codeV
        rw [hj]
        obtain ⟨r0, r1, hb7⟩ := code_put w6 (.slice A6 (j + 1) c6) (.int .i64 st)
        have HX7 := Lib.hid (HX.out _ hb7)
        have hbx := hbw.trans ((hb6.trans (hb7.mono hb6.size)).mono hbw.size)
        have hst2 : st ≤ 2 := by omega
        have g4 : decide ((j : Int) + 1 ≤ 9000) = true := decide_eq_true (by omega)
        have g5 : decide ((st : Int) ≤ 2) = true := decide_eq_true (by omega)
        have g5' : decide (st ≤ 2) = true := decide_eq_true hst2
        clear hx ho hg2 hl hst hh HX hb6 hb7 hj CC hst2
        go_upto_region 20 with (fail)
        generalize w6.alloc (.cells #[.slice A6 (j + 1) c6, .int .i64 st] 30) = w7 at *
        generalize w6.heap.size = gg at *
        go_wp2_with fail
        refine HX7.out.mono ?_
        rintro e w8 ⟨rfl, hb8⟩
        have r0' := cell_keep hb8 r0
        have r1' := cell_keep hb8 r1
        go_wp2_with fail
        go_ret
        exact ⟨rfl, hbx.trans (hb8.mono hbx.size)⟩
  · clear O3
    go_wp2_with fail
    refine (newT_any 20 0 [] none 0 0 [] _ (KdRd.nil _ _) rfl (of_decide_eq_true (by kernel_rfl))).mono ?_
    rintro e w4 ⟨A4, n4, c4, rfl, o4, hb4⟩
    have s4 := o4.rd
    replace hb := hb.trans (hb4.mono hb.size)
    clear o4 hb4
    go_wp2_with fail
    refine (newT_any 20 0 [] none 0 0 [] _ (KdRd.nil _ _) rfl (of_decide_eq_true (by kernel_rfl))).mono ?_
    rintro e w5 ⟨A5, n5, c5, rfl, o5, hb5⟩
    have s5 := o5.rd
    replace s4 := s4.below hb5
    replace hb := hb.trans (hb5.mono hb.size)
    clear o5 hb5
    go_wp2_with fail
    refine (newL_any 32 0 [] _ 2 2 [nopT, nopT] _ (AllRd.two s4 s5) rfl (of_decide_eq_true (by kernel_rfl))).mono ?_
    rintro e w6 ⟨A6, n6, c6, rfl, o6, hb6⟩
    obtain rfl : n6 = 3 := o6.n good1
    have O6 := Lib.hid (o6.mono hb.size)
    replace hb := hb.trans (hb6.mono hb.size)
    clear o6 s4 s5 hb6
    have HG := Lib.hid good1
    generalize w6 = wk at *
    generalize A6 = Ao at *
    generalize c6 = co at *
    have OO := Lib.hid O6.out
    have HBK := Lib.hid hb
    obtain ⟨i0, hi, hz0, hz1, hz2⟩ := info_parts infoNodes
    go_wp2_with fail
    go_loopw [7, 8] (fun v i wr => ∃ (k : Nat) (A' : Option Addr) (c' : Nat) (us : List Value), k * 3 < N ∧ i = .int .i64 k ∧ v = .slice A' k c' ∧
        wr.ownsRow wk.heap.size 23 1 (.slice A' k c') k us ∧ OwnAll wr w.heap.size us ((List.replicate k gg1).map flat) ∧ Below wk.heap.size wk wr) (fun _ i _ => N - (intOf i).toNat)
    case atStart => exact ⟨0, none, 0, [], by omega, rfl, rfl, World.ownsRow_nil _ _ _ _, OwnAll.nil _ _, Below.refl _ _⟩
    case round =>
      obtain ⟨k, A', c', us, hk, rfl, rfl, hown, hall, hbr⟩ := hrel
      have g1 : decide ((k : Int) < (N : Int)) = true := decide_eq_true (by omega)
      by_cases hlt : k * 3 + 3 < N
      · have g2 : decide ((k : Int) * 3 + 3 < (N : Int)) = true := decide_eq_true (by omega)
        have H2 := Lib.hid (show OwnAll wr w.heap.size [.slice Ao 3 co] [flat gg1] from OwnAll.one ((OO.out.below hbr).own2))
        go_wp2_with (at_builtin; refine wpList_push rfl _ _ _ rfl Tryd.underlying26 hi hz0 hz1 hz2 rfl (by decide) hown rfl rfl rfl (by simp [Value.oneCell']) (by omega) (by decide) hbr.size ?_; intro A4 c4 w4 hown4 hb4 hoo4)
        go_roundw
        case rel =>
          refine ⟨k + 1, A4, c4, us ++ [.slice Ao 3 co], by omega, by go_num, rfl, by simpa using hown4, ?_, hbr.trans hb4⟩
          rw [List.replicate_succ', List.map_append]
          exact (hall.others hoo4 (by decide)).append (H2.out.others hoo4 (by decide))
        case measure => simp [intOf]; omega
      · have g2 : decide ((k : Int) * 3 + 3 < (N : Int)) = false := decide_eq_false (by omega)
        have hkd := KdRd.of_own hown (by simp) hall
        have SC := Lib.hid (seq_any A' c' k (List.replicate k gg1) wr hkd (by simp) (by rw [rep_len HG.out]; omega))
        rw [seqT_many (by simp; omega)] at SC
        have hbw := HBK.out.trans (hbr.mono HBK.out.size)
        clear hown hall hkd
        go_wp2_with fail
        refine SC.out.mono ?_
        rintro e w5 ⟨A5, n5, c5, rfl, o5, hb5⟩
        have s5 : SlRd w5 (.slice A5 n5 c5) (flat (repT k gg1)) := o5.rd
        have hn5 : n5 = 1 + k * 3 := by
          obtain ⟨_, _, he, _⟩ := s5
          injection he with _ he _
          rw [he, rep_flat HG.out]
        subst hn5
        replace hbw := hbw.trans (hb5.mono hbw.size)
        have CC := Lib.hid (compile_v _ (repT k gg1) 0 aN aT aM w5 (by rw [rep_flat HG.out]; omega) (rep_nd HG.out (by omega)) s5 (HE.out.below hbw) (rep_ok HG.out (by omega)) ((gen_all _ (repT k gg1) 30 (Nat.le_refl _)).2 (rep_ok HG.out (by omega))).low)
        have g3 : decide ((1 : Int) + (k : Int) * 3 ≤ 1000) = true := decide_eq_true (by omega)
        clear o5 s5 SC hb5
        go_wp2_with fail
        refine CC.out.mono ?_
        rintro e w6 ⟨A6, c6, X, st, rfl, hb6, ho, hg2, -⟩
        have hx := code_rd ho
        obtain ⟨j, hj⟩ : ∃ j, X.length = j + 1 := ⟨X.length - 1, by have := hg2.pos; omega⟩
        have hl := hg2.len
        rw [rep_flat HG.out] at hl
        have hst := hg2.st
        have hh := rep_top HG.out k
        have HX := Lib.hid (show ∀ W, Below w6.heap.size w6 W → Calls Tryd.prog 13 #[.agg #[.slice A6 (j + 1) c6, .int .i64 st]] W (Ret W .nilIface) from fun W hW => by
          have := ccheck_ok A6 c6 st X W (by omega) (by omega) (by omega) hg2.ok hg2.last (hx.below hW)
          rw [hj] at this
          exact this)
        unfold codeV
        rw [hj]
        obtain ⟨r0, r1, hb7⟩ := code_put w6 (.slice A6 (j + 1) c6) (.int .i64 st)
        have HX7 := Lib.hid (HX.out _ hb7)
        have hbx := hbw.trans ((hb6.trans (hb7.mono hb6.size)).mono hbw.size)
        have hst2 : st ≤ 2 := by omega
        have g4 : decide ((j : Int) + 1 ≤ 9000) = true := decide_eq_true (by omega)
        have g5 : decide ((st : Int) ≤ 2) = true := decide_eq_true (by omega)
        have g5' : decide (st ≤ 2) = true := decide_eq_true hst2
        clear hx ho hg2 hl hst hh HX hb6 hb7 hj CC hst2
        go_upto_region 20 with (fail)
        generalize w6.alloc (.cells #[.slice A6 (j + 1) c6, .int .i64 st] 30) = w7 at *
        generalize w6.heap.size = gg at *
        go_wp2_with fail
        refine HX7.out.mono ?_
        rintro e w8 ⟨rfl, hb8⟩
        have r0' := cell_keep hb8 r0
        have r1' := cell_keep hb8 r1
        go_wp2_with fail
        go_ret
        exact ⟨rfl, hbx.trans (hb8.mono hbx.size)⟩
  · clear O3
    go_wp2_with fail
    refine (litT_any [97] _).mono ?_
    rintro e w4 ⟨A4, n4, c4, rfl, o4, hb4⟩
    have s4 := o4.rd
    clear o4
    replace hb := hb.trans (hb4.mono hb.size)
    go_wp2_with fail
    refine (newT_any 20 0 [] none 0 0 [] _ (KdRd.nil _ _) rfl (of_decide_eq_true (by kernel_rfl))).mono ?_
    rintro e w5 ⟨A5, n5, c5, rfl, o5, hb5⟩
    have s5 := o5.rd
    replace s4 := s4.below hb5
    replace hb := hb.trans (hb5.mono hb.size)
    clear o5 hb5
    go_wp2_with fail
    refine (newL_any 29 0 [120] _ 2 2 [.mk 1 0 [97] [], nopT] _ (AllRd.two s4 s5) rfl (of_decide_eq_true (by kernel_rfl))).mono ?_
    rintro e w6 ⟨A6, n6, c6, rfl, o6, hb6⟩
    obtain rfl : n6 = 3 := o6.n good2
    have O6 := Lib.hid (o6.mono hb.size)
    replace hb := hb.trans (hb6.mono hb.size)
    clear o6 s4 s5 hb6 hb4
    have HG := Lib.hid good2
    generalize w6 = wk at *
    generalize A6 = Ao at *
    generalize c6 = co at *
    have OO := Lib.hid O6.out
    have HBK := Lib.hid hb
    obtain ⟨i0, hi, hz0, hz1, hz2⟩ := info_parts infoNodes
    go_wp2_with fail
    go_loopw [7, 8] (fun v i wr => ∃ (k : Nat) (A' : Option Addr) (c' : Nat) (us : List Value), k * 3 < N ∧ i = .int .i64 k ∧ v = .slice A' k c' ∧
        wr.ownsRow wk.heap.size 23 1 (.slice A' k c') k us ∧ OwnAll wr w.heap.size us ((List.replicate k gg2).map flat) ∧ Below wk.heap.size wk wr) (fun _ i _ => N - (intOf i).toNat)
    case atStart => exact ⟨0, none, 0, [], by omega, rfl, rfl, World.ownsRow_nil _ _ _ _, OwnAll.nil _ _, Below.refl _ _⟩
    case round =>
      obtain ⟨k, A', c', us, hk, rfl, rfl, hown, hall, hbr⟩ := hrel
      have g1 : decide ((k : Int) < (N : Int)) = true := decide_eq_true (by omega)
      by_cases hlt : k * 3 + 3 < N
      · have g2 : decide ((k : Int) * 3 + 3 < (N : Int)) = true := decide_eq_true (by omega)
        have H2 := Lib.hid (show OwnAll wr w.heap.size [.slice Ao 3 co] [flat gg2] from OwnAll.one ((OO.out.below hbr).own2))
        go_wp2_with (at_builtin; refine wpList_push rfl _ _ _ rfl Tryd.underlying26 hi hz0 hz1 hz2 rfl (by decide) hown rfl rfl rfl (by simp [Value.oneCell']) (by omega) (by decide) hbr.size ?_; intro A4 c4 w4 hown4 hb4 hoo4)
        go_roundw
        case rel =>
          refine ⟨k + 1, A4, c4, us ++ [.slice Ao 3 co], by omega, by go_num, rfl, by simpa using hown4, ?_, hbr.trans hb4⟩
          rw [List.replicate_succ', List.map_append]
          exact (hall.others hoo4 (by decide)).append (H2.out.others hoo4 (by decide))
        case measure => simp [intOf]; omega
      · have g2 : decide ((k : Int) * 3 + 3 < (N : Int)) = false := decide_eq_false (by omega)
        have hkd := KdRd.of_own hown (by simp) hall
        have SC := Lib.hid (seq_any A' c' k (List.replicate k gg2) wr hkd (by simp) (by rw [rep_len HG.out]; omega))
        rw [seqT_many (by simp; omega)] at SC
        have hbw := HBK.out.trans (hbr.mono HBK.out.size)
        clear hown hall hkd
        go_wp2_with fail
        refine SC.out.mono ?_
        rintro e w5 ⟨A5, n5, c5, rfl, o5, hb5⟩
        have s5 : SlRd w5 (.slice A5 n5 c5) (flat (repT k gg2)) := o5.rd
        have hn5 : n5 = 1 + k * 3 := by
          obtain ⟨_, _, he, _⟩ := s5
          injection he with _ he _
          rw [he, rep_flat HG.out]
        subst hn5
        replace hbw := hbw.trans (hb5.mono hbw.size)
        have CC := Lib.hid (compile_v _ (repT k gg2) 0 aN aT aM w5 (by rw [rep_flat HG.out]; omega) (rep_nd HG.out (by omega)) s5 (HE.out.below hbw) (rep_ok HG.out (by omega)) ((gen_all _ (repT k gg2) 30 (Nat.le_refl _)).2 (rep_ok HG.out (by omega))).low)
        have g3 : decide ((1 : Int) + (k : Int) * 3 ≤ 1000) = true := decide_eq_true (by omega)
        clear o5 s5 SC hb5
        go_wp2_with fail
        refine CC.out.mono ?_
        rintro e w6 ⟨A6, c6, X, st, rfl, hb6, ho, hg2, -⟩
        have hx := code_rd ho
        obtain ⟨j, hj⟩ : ∃ j, X.length = j + 1 := ⟨X.length - 1, by have := hg2.pos; omega⟩
        have hl := hg2.len
        rw [rep_flat HG.out] at hl
        have hst := hg2.st
        have hh := rep_top HG.out k
        have HX := Lib.hid (show ∀ W, Below w6.heap.size w6 W → Calls Tryd.prog 13 #[.agg #[.slice A6 (j + 1) c6, .int .i64 st]] W (Ret W .nilIface) from fun W hW => by
          have := ccheck_ok A6 c6 st X W (by omega) (by omega) (by omega) hg2.ok hg2.last (hx.below hW)
          rw [hj] at this
          exact this)
        unfold codeV
        rw [hj]
        obtain ⟨r0, r1, hb7⟩ := code_put w6 (.slice A6 (j + 1) c6) (.int .i64 st)
        have HX7 := Lib.hid (HX.out _ hb7)
        have hbx := hbw.trans ((hb6.trans (hb7.mono hb6.size)).mono hbw.size)
        have hst2 : st ≤ 2 := by omega
        have g4 : decide ((j : Int) + 1 ≤ 9000) = true := decide_eq_true (by omega)
        have g5 : decide ((st : Int) ≤ 2) = true := decide_eq_true (by omega)
        have g5' : decide (st ≤ 2) = true := decide_eq_true hst2
        clear hx ho hg2 hl hst hh HX hb6 hb7 hj CC hst2
        go_upto_region 20 with (fail)
        generalize w6.alloc (.cells #[.slice A6 (j + 1) c6, .int .i64 st] 30) = w7 at *
        generalize w6.heap.size = gg at *
        go_wp2_with fail
        refine HX7.out.mono ?_
        rintro e w8 ⟨rfl, hb8⟩
        have r0' := cell_keep hb8 r0
        have r1' := cell_keep hb8 r1
        go_wp2_with fail
        go_ret
        exact ⟨rfl, hbx.trans (hb8.mono hbx.size)⟩
  · clear O3
    go_wp2_with fail
    refine (litT_any [97] _).mono ?_
    rintro e w4 ⟨A4, n4, c4, rfl, o4, hb4⟩
    have s4 := o4.rd
    clear o4
    replace hb := hb.trans (hb4.mono hb.size)
    go_wp2_with fail
    refine (newT_any 2 0 [120] none 0 0 [] _ (KdRd.nil _ _) rfl (of_decide_eq_true (by kernel_rfl))).mono ?_
    rintro e w5 ⟨A5, n5, c5, rfl, o5, hb5⟩
    have s5 := o5.rd
    replace s4 := s4.below hb5
    replace hb := hb.trans (hb5.mono hb.size)
    clear o5 hb5
    go_wp2_with fail
    refine (newL_any 4 0 [] _ 2 2 [.mk 1 0 [97] [], .mk 2 0 [120] []] _ (AllRd.two s4 s5) rfl (of_decide_eq_true (by kernel_rfl))).mono ?_
    rintro e w6 ⟨A6, n6, c6, rfl, o6, hb6⟩
    have s6 := o6.rd
    replace hb := hb.trans (hb6.mono hb.size)
    clear o6 hb6 s4 s5 hb4
    go_wp2_with fail
    refine (newL_any 22 0 [120] _ 1 1 [.mk 4 0 [] [.mk 1 0 [97] [], .mk 2 0 [120] []]] _ (AllRd.one s6) rfl (of_decide_eq_true (by kernel_rfl))).mono ?_
    rintro e w7 ⟨A7, n7, c7, rfl, o7, hb7⟩
    obtain rfl : n7 = 4 := o7.n good3
    have O7 := Lib.hid (o7.mono hb.size)
    replace hb := hb.trans (hb7.mono hb.size)
    clear o7 s6 hb7
    have HG := Lib.hid good3
    generalize w7 = wk at *
    generalize A7 = Ao at *
    generalize c7 = co at *
    have OO := Lib.hid O7.out
    have HBK := Lib.hid hb
    obtain ⟨i0, hi, hz0, hz1, hz2⟩ := info_parts infoNodes
    go_wp2_with fail
    go_loopw [7, 8] (fun v i wr => ∃ (k : Nat) (A' : Option Addr) (c' : Nat) (us : List Value), k * 4 < N ∧ i = .int .i64 k ∧ v = .slice A' k c' ∧
        wr.ownsRow wk.heap.size 23 1 (.slice A' k c') k us ∧ OwnAll wr w.heap.size us ((List.replicate k gg3).map flat) ∧ Below wk.heap.size wk wr) (fun _ i _ => N - (intOf i).toNat)
    case atStart => exact ⟨0, none, 0, [], by omega, rfl, rfl, World.ownsRow_nil _ _ _ _, OwnAll.nil _ _, Below.refl _ _⟩
    case round =>
      obtain ⟨k, A', c', us, hk, rfl, rfl, hown, hall, hbr⟩ := hrel
      have g1 : decide ((k : Int) < (N : Int)) = true := decide_eq_true (by omega)
      by_cases hlt : k * 4 + 4 < N
      · have g2 : decide ((k : Int) * 4 + 4 < (N : Int)) = true := decide_eq_true (by omega)
        have H2 := Lib.hid (show OwnAll wr w.heap.size [.slice Ao 4 co] [flat gg3] from OwnAll.one ((OO.out.below hbr).own2))
        go_wp2_with (at_builtin; refine wpList_push rfl _ _ _ rfl Tryd.underlying26 hi hz0 hz1 hz2 rfl (by decide) hown rfl rfl rfl (by simp [Value.oneCell']) (by omega) (by decide) hbr.size ?_; intro A4 c4 w4 hown4 hb4 hoo4)
        go_roundw
        case rel =>
          refine ⟨k + 1, A4, c4, us ++ [.slice Ao 4 co], by omega, by go_num, rfl, by simpa using hown4, ?_, hbr.trans hb4⟩
          rw [List.replicate_succ', List.map_append]
          exact (hall.others hoo4 (by decide)).append (H2.out.others hoo4 (by decide))
        case measure => simp [intOf]; omega
      · have g2 : decide ((k : Int) * 4 + 4 < (N : Int)) = false := decide_eq_false (by omega)
        have hkd := KdRd.of_own hown (by simp) hall
        have SC := Lib.hid (seq_any A' c' k (List.replicate k gg3) wr hkd (by simp) (by rw [rep_len HG.out]; omega))
        rw [seqT_many (by simp; omega)] at SC
        have hbw := HBK.out.trans (hbr.mono HBK.out.size)
        clear hown hall hkd
        go_wp2_with fail
        refine SC.out.mono ?_
        rintro e w5 ⟨A5, n5, c5, rfl, o5, hb5⟩
        have s5 : SlRd w5 (.slice A5 n5 c5) (flat (repT k gg3)) := o5.rd
        have hn5 : n5 = 1 + k * 4 := by
          obtain ⟨_, _, he, _⟩ := s5
          injection he with _ he _
          rw [he, rep_flat HG.out]
        subst hn5
        replace hbw := hbw.trans (hb5.mono hbw.size)
        have CC := Lib.hid (compile_v _ (repT k gg3) 0 aN aT aM w5 (by rw [rep_flat HG.out]; omega) (rep_nd HG.out (by omega)) s5 (HE.out.below hbw) (rep_ok HG.out (by omega)) ((gen_all _ (repT k gg3) 30 (Nat.le_refl _)).2 (rep_ok HG.out (by omega))).low)
        have g3 : decide ((1 : Int) + (k : Int) * 4 ≤ 1000) = true := decide_eq_true (by omega)
        clear o5 s5 SC hb5
        go_wp2_with fail
        refine CC.out.mono ?_
        rintro e w6 ⟨A6, c6, X, st, rfl, hb6, ho, hg2, -⟩
        have hx := code_rd ho
        obtain ⟨j, hj⟩ : ∃ j, X.length = j + 1 := ⟨X.length - 1, by have := hg2.pos; omega⟩
        have hl := hg2.len
        rw [rep_flat HG.out] at hl
        have hst := hg2.st
        have hh := rep_top HG.out k
        have HX := Lib.hid (show ∀ W, Below w6.heap.size w6 W → Calls Tryd.prog 13 #[.agg #[.slice A6 (j + 1) c6, .int .i64 st]] W (Ret W .nilIface) from fun W hW => by
          have := ccheck_ok A6 c6 st X W (by omega) (by omega) (by omega) hg2.ok hg2.last (hx.below hW)
          rw [hj] at this
          exact this)
        unfold codeV
        rw [hj]
        obtain ⟨r0, r1, hb7⟩ := code_put w6 (.slice A6 (j + 1) c6) (.int .i64 st)
        have HX7 := Lib.hid (HX.out _ hb7)
        have hbx := hbw.trans ((hb6.trans (hb7.mono hb6.size)).mono hbw.size)
        have hst2 : st ≤ 2 := by omega
        have g4 : decide ((j : Int) + 1 ≤ 9000) = true := decide_eq_true (by omega)
        have g5 : decide ((st : Int) ≤ 2) = true := decide_eq_true (by omega)
        have g5' : decide (st ≤ 2) = true := decide_eq_true hst2
        clear hx ho hg2 hl hst hh HX hb6 hb7 hj CC hst2
        go_upto_region 20 with (fail)
        generalize w6.alloc (.cells #[.slice A6 (j + 1) c6, .int .i64 st] 30) = w7 at *
        generalize w6.heap.size = gg at *
        go_wp2_with fail
        refine HX7.out.mono ?_
        rintro e w8 ⟨rfl, hb8⟩
        have r0' := cell_keep hb8 r0
        have r1' := cell_keep hb8 r1
        go_wp2_with fail
        go_ret
        exact ⟨rfl, hbx.trans (hb8.mono hbx.size)⟩
end Go.Proofs.YthmeonimianoeaaDoor
