/- FuseMany: whatever number and flags, the law answers true. No condition but what the package-level errors hold. -/
import Derived.Test.YtjhgljfmheopmaaDoorFuseL
import Derived.Test.YtjhgljfmheopmaaDoorRelT
import Derived.Test.YtjhgljfmheopmaaDoorConv
import Derived.Deep.DeepCutAuto
import Derived.Outline
set_option linter.unusedVariables false
set_option linter.unusedSimpArgs false
namespace Go.Proofs.YtjhgljfmheopmaaDoor
open Go.RowKit

/-- A slice of slices, all of its own. -/
def kidsO (B : Nat) (ls : List (List Nd)) : TT := ⟨fun v => ∃ g, v = .slice (some ⟨g, 0, none⟩) ls.length ls.length, ⟨_, 0, rfl⟩, fun v x => ∀ g, v = .slice (some ⟨g, 0, none⟩) ls.length ls.length → ∃ vs, RdL x 1 one1 (some ⟨g, 0, none⟩) vs ∧ OwnAll x B vs ls,
  fun v x x' h hb g hg => let ⟨vs, h1, h2⟩ := h g hg; ⟨vs, h1.below hb, h2.below hb⟩⟩
theorem kidsO_kd {x : World} {B g : Nat} {ls : List (List Nd)} (h : ∃ vs, RdL x 1 one1 (some ⟨g, 0, none⟩) vs ∧ OwnAll x B vs ls) : KdRd x (some ⟨g, 0, none⟩) ls := let ⟨vs, h1, h2⟩ := h; ⟨vs, h1, h2.rd⟩
theorem OwnNd.own {x : World} {B n c : Nat} {A : Option Addr} {L : List Nd} (h : OwnNd x B (.slice A n c) L) : x.ownsRow B 44 5 (.slice A n c) L.length (L.flatMap ndc) := by
  obtain ⟨A', c', he, h2⟩ := h
  rw [he]; exact h2
/-- a row of slices that has just been laid -/
theorem lit_rd {x : World} {B : Nat} {vs : Array Value} {ls : List (List Nd)} (h : OwnAll x B vs.toList ls) : ∃ us, RdL (x.alloc (.cells vs 25)) 1 one1 (some ⟨x.heap.size, 0, none⟩) us ∧ OwnAll (x.alloc (.cells vs 25)) B us ls := by
  have hb : Below x.heap.size x (x.alloc (.cells vs 25)) := (Below.refl _ _).alloc (Nat.le_refl _) _
  refine ⟨vs.toList, fun k hk => ⟨x.heap.size, 0, rfl, by simp, fun j u hu => ?_⟩, h.below hb⟩
  have hj : j = 0 := by
    have := (List.getElem?_eq_some_iff.1 hu).1
    simp [one1] at this
    exact this
  subst hj
  rw [cell_of_row _ _ _ _ _ _ (heap_alloc_new x _)]
  simp only [one1, List.getElem?_cons_zero, Option.some.injEq] at hu
  rw [← hu]
  simp at hk
  simp [hk]
theorem OwnAll.two {x : World} {B : Nat} {v u : Value} {L M : List Nd} (h : x.ownsRow B 44 5 v L.length (L.flatMap ndc)) (h' : x.ownsRow B 44 5 u M.length (M.flatMap ndc)) : OwnAll x B [v, u] [L, M] := (OwnAll.one h).append (OwnAll.one h')


def chC (i : Nat) : UInt8 := UInt8.ofNat (97 + i)
def chT (i : Nat) : Tr := .mk 21 0 [] [.mk 1 0 [99] [], .mk 1 0 [chC i] []]
theorem chT_len (i : Nat) : (flat (chT i)).length = 3 := by simp [chT, flat_mk, flatAll_cons, flatAll_nil]
def chTs (n : Nat) : List Tr := (List.range n).map chT
theorem chTs_succ (n : Nat) : chTs (n + 1) = chTs n ++ [chT n] := by simp [chTs, List.range_succ]
theorem chTs_len (n : Nat) : (chTs n).length = n := by simp [chTs]
theorem chTs_flat (n : Nat) : (flatAll (chTs n)).length = 3 * n := by
  induction n with
  | zero => simp [chTs, flatAll_nil]
  | succ n ih => rw [chTs_succ, flatAll_append, flatAll_cons, flatAll_nil, List.append_nil, List.length_append, ih, chT_len]; omega

theorem chTs_get (n j : Nat) (h : j < n) : (chTs n)[j]'(by rw [chTs_len]; exact h) = chT j := by simp [chTs]
theorem chTs_drop (n j : Nat) (h : j < n) : (chTs n).drop j = chT j :: (chTs n).drop (j + 1) := by
  rw [List.drop_eq_getElem_cons (by rw [chTs_len]; exact h), chTs_get n j h]
theorem fuse_ch (j : Nat) : fuseT (chT j) = chT j := by simp [chT, fuseT_mk, fuseTs_cons, fuseTs_nil]
theorem ch_kind (j : Nat) : (chT j).kind = 21 := rfl
/-- what is put together next -/
theorem step_one {P : Tr} {n j : Nat} (h : j < n) (hP : fuseT P = pipeT ((chTs n).drop (j + 1))) : fuseT (pipeT [chT j, P]) = pipeT ((chTs n).drop j) := by
  have hk : (fuseT P).kind = 32 := by rw [hP]; rfl
  rw [chTs_drop n j h]
  unfold pipeT
  rw [fuseT_mk, fuseTs_cons, fuseTs_cons, fuseTs_nil, fuse_ch, ch_kind, hk, hP]
  simp [pipeT, Tr.kids]
theorem step_two {P : Tr} {n j : Nat} (h : j + 1 < n) (hP : fuseT P = pipeT ((chTs n).drop (j + 2))) : fuseT (pipeT [pipeT [chT j, chT (j + 1)], P]) = pipeT ((chTs n).drop j) := by
  have hk : (fuseT P).kind = 32 := by rw [hP]; rfl
  have h2 : fuseT (pipeT [chT j, chT (j + 1)]) = pipeT [chT j, chT (j + 1)] := by
    unfold pipeT
    rw [fuseT_mk, fuseTs_cons, fuseTs_cons, fuseTs_nil, fuse_ch, fuse_ch, ch_kind, ch_kind]
    simp
  rw [chTs_drop n j (by omega), chTs_drop n (j + 1) h]
  have h3 : fuseT (pipeT [pipeT [chT j, chT (j + 1)], P]) = pipeT (fuseTs 32 [pipeT [chT j, chT (j + 1)], P]) := by unfold pipeT; rw [fuseT_mk]
  rw [h3, fuseTs_cons, fuseTs_cons, fuseTs_nil, h2, hk, hP]
  simp [pipeT, Tr.kids, Tr.kind]
theorem pipe_len (a b : Tr) : (flat (pipeT [a, b])).length = 1 + ((flat a).length + (flat b).length) := by
  unfold pipeT
  rw [flat_size, flatAll_cons, flatAll_cons, flatAll_nil, List.append_nil, List.length_append]
theorem pipe_ok {a b : Tr} (ha : ∀ x ∈ flat a, NdOk x) (hb : ∀ x ∈ flat b, NdOk x) : ∀ x ∈ flat (pipeT [a, b]), NdOk x := by
  intro x hx
  unfold pipeT at hx
  rw [flat_mk, flatAll_cons, flatAll_cons, flatAll_nil, List.append_nil, List.mem_cons, List.mem_append] at hx
  rcases hx with rfl | hx | hx
  · exact ⟨by simp, by simp⟩
  · exact ha x hx
  · exact hb x hx
theorem ch_ok (j : Nat) : ∀ x ∈ flat (chT j), NdOk x := by
  intro x hx
  simp only [chT, flat_mk, flatAll_cons, flatAll_nil, List.append_nil, List.mem_cons, List.mem_append, List.not_mem_nil, or_false] at hx
  rcases hx with rfl | rfl | rfl
  all_goals exact ⟨by simp, by simp⟩

theorem start_two {n : Nat} (h : 2 ≤ n) : fuseT (pipeT [chT (n - 2), chT (n - 1)]) = pipeT ((chTs n).drop (n - 2)) := by
  have h2 : fuseT (pipeT [chT (n - 2), chT (n - 1)]) = pipeT [chT (n - 2), chT (n - 1)] := by
    unfold pipeT
    rw [fuseT_mk, fuseTs_cons, fuseTs_cons, fuseTs_nil, fuse_ch, fuse_ch, ch_kind, ch_kind]
    simp
  rw [h2, chTs_drop n (n - 2) (by omega), show n - 2 + 1 = n - 1 by omega, chTs_drop n (n - 1) (by omega), show n - 1 + 1 = n by omega, List.drop_of_length_le (by rw [chTs_len]; exact Nat.le_refl _)]
theorem two_le {a b : Tr} {n : Nat} (h : (flat a).length + (flat b).length ≤ n) (hn : n ≤ 4000000) : (flatAll [a, b]).length ≤ 4000000 := by
  rw [flatAll_cons, flatAll_cons, flatAll_nil, List.append_nil, List.length_append]; omega

/-- an operation whose value reads as these nodes; a row of such -/
def rdT (L : List Nd) : TT := ⟨fun v => ∃ A n c, v = .slice A n c, ⟨_, none, 0, 0, rfl⟩, fun v x => SlRd x v L, fun _ _ _ h hb => h.below hb⟩
def kdT (ls : List (List Nd)) : TT := ⟨fun v => ∃ g, v = .slice (some ⟨g, 0, none⟩) ls.length ls.length, ⟨_, 0, rfl⟩, fun v x => ∀ g, v = .slice (some ⟨g, 0, none⟩) ls.length ls.length → KdRd x (some ⟨g, 0, none⟩) ls,
  fun v x x' h hb g hg => (h g hg).below hb⟩

set_option maxRecDepth 100000 in
set_option maxHeartbeats 8000000 in
theorem fusemany_walk (n0 : Int) (A : Option Addr) (cp : Nat) (F : List Bool) (aN aT' aM : Addr) (w : World) (hn0 : -9223372036854775808 ≤ n0 ∧ n0 ≤ 9223372036854775807) (hrd : RdL w 1 (fun b => [.bool b]) A F) (hE : ErrW w aN aT' aM) :
    Calls Tryd.prog 10 #[.int .i64 n0, .slice A F.length cp] w fun e w' => e = .returned (.bool true) ∧ Below w.heap.size w w' := by
  obtain ⟨i0, hi, hz0, hz1, hz2⟩ := info_parts infoNodes
  have FA := Lib.hid (first20_any aN aT' aM w hE)
  obtain ⟨m, hml⟩ : ∃ m, m = F.length := ⟨_, rfl⟩
  rw [← hml]
  have HM := Lib.hid hml
  clear hml
  go_enter Tryd.func10, Tryd.ntmps10
  go_wp2_with fail
  refine FA.out.mono ?_
  rintro e w1 ⟨rfl, hb⟩
  replace hrd := hrd.below hb
  replace hE := hE.below hb
  have hz1' : -17 ≤ n0.tmod 18 := by
    have := Int.emod_emod_of_dvd n0 (show (18 : Int) ∣ 18 from ⟨1, rfl⟩)
    rcases Int.le_total 0 n0 with h | h
    · rw [Int.tmod_eq_emod_of_nonneg h]; omega
    · have h2 := Int.neg_tmod (-n0) 18
      rw [Int.neg_neg, Int.tmod_eq_emod_of_nonneg (by omega : 0 ≤ -n0)] at h2
      omega
  have hz2' : n0.tmod 18 ≤ 17 := by
    rcases Int.le_total 0 n0 with h | h
    · rw [Int.tmod_eq_emod_of_nonneg h]; omega
    · have h2 := Int.neg_tmod (-n0) 18
      rw [Int.neg_neg, Int.tmod_eq_emod_of_nonneg (by omega : 0 ≤ -n0)] at h2
      omega
  go_upto_if 15 with (fail)
  generalize n0.tmod 18 = z at *
  go_cut [0] (fun v wx => (∃ N : Nat, 3 ≤ N ∧ N ≤ 20 ∧ v = .int .i64 N) ∧ w1 = wx)
  case first =>
    by_cases hz : z + 3 < 3
    · go_wp2_with fail
      go_meet
      exact ⟨⟨(z + 3 + 18).toNat, by omega, by omega, congrArg (Value.int .i64) (by omega)⟩, rfl⟩
    · go_wp2_with fail
      go_meet
      exact ⟨⟨(z + 3).toNat, by omega, by omega, congrArg (Value.int .i64) (by omega)⟩, rfl⟩
  case rest =>
  obtain ⟨⟨N, hN1, hN2, rfl⟩, rfl⟩ := hcut
  clear hz1' hz2'
  by_cases h60 : 60 < m
  · go_wp2_with fail
    go_ret
    exact ⟨rfl, hb⟩
  have h60' : decide ((60 : Int) < m) = false := decide_eq_false (by omega)
  go_wp2_with fail
  go_loopw [6, 7] (fun v i wr => ∃ (k : Nat) (A' : Option Addr) (c' : Nat) (us : List Value), k ≤ N ∧ i = .int .i64 k ∧ v = .slice A' k c' ∧
      wr.ownsRow w1.heap.size 25 1 (.slice A' k c') k us ∧ OwnAll wr w1.heap.size us ((chTs k).map flat) ∧ Below w1.heap.size w1 wr) (fun _ i _ => N - (intOf i).toNat)
  case atStart => exact ⟨0, none, 0, [], Nat.zero_le _, rfl, rfl, World.ownsRow_nil _ _ _ _, OwnAll.nil _ _, Below.refl _ _⟩
  case round =>
    obtain ⟨k, A', c', us, hk, rfl, rfl, hown, hall, hbr⟩ := hrel
    by_cases hlt : k < N
    · have hcv : ∀ (W : World) (g : Nat) (n : Int), W.cell? ⟨g, 0, none⟩ = some (.int .u8 n) → (convert 52 9 (.slice (some ⟨g, 0, none⟩) 1 1)).run Tryd.prog W = .ok (.string { data := #[UInt8.ofNat n.toNat] }) W := run_conv_u8
      have HCV := Lib.hid hcv
      clear hcv
      obtain ⟨ch, hch⟩ : ∃ ch, ch = chC k := ⟨_, rfl⟩
      have HCH := Lib.hid hch
      clear hch
      go_upto_region 11 with (fail)
      apply wp_region_relA 11 [eqT _, nodesT wr.heap.size (flat (.mk 1 0 [99] [])), eqT _, eqT _, eqT _, oneI (97 + k), eqT _, nodesT wr.heap.size (flat (.mk 1 0 [ch] [])), kidsO wr.heap.size [flat (.mk 1 0 [99] []), flat (.mk 1 0 [ch] [])], nodesT wr.heap.size (flat (.mk 21 0 [] [.mk 1 0 [99] [], .mk 1 0 [ch] []])), kidsO wr.heap.size [flat (.mk 21 0 [] [.mk 1 0 [99] [], .mk 1 0 [ch] []])]] (by kernel_rfl) (by kernel_rfl) (by kernel_rfl) rfl
      focus
        refine ⟨?_, ?_⟩
        focus
          unfold opGoal
          rw [if_pos (by kernel_rfl)]
          intro x hb hd K hk
          clear hd
          go_wp2_with fail
          exact hk _ _ rfl trivial (Below.refl _ _)
        rintro _ rfl
        simp only [Act.put, List.setIfInBounds_toArray, List.set_cons_succ, List.set_cons_zero]
        refine ⟨?_, ?_⟩
        focus
          unfold opGoal
          rw [if_pos (by kernel_rfl)]
          intro x hb hd K hk
          clear hd
          go_wp2_with fail
          refine (litT_any [99] x).mono ?_
          rintro e9 w9 ⟨A9, n9, c9, rfl, hv, hb9⟩
          exact hk _ _ ⟨_, _, _, rfl⟩ (hv.mono hb.size) hb9
        rintro _ ⟨A32, n32, c32, rfl⟩
        simp only [Act.put, List.setIfInBounds_toArray, List.set_cons_succ, List.set_cons_zero]
        refine ⟨?_, ?_⟩
        focus
          unfold opGoal
          rw [if_pos (by kernel_rfl)]
          intro x hb hd K hk
          clear hd
          go_wp2_with fail
          exact hk _ _ rfl trivial (Below.refl _ _)
        rintro _ rfl
        simp only [Act.put, List.setIfInBounds_toArray, List.set_cons_succ, List.set_cons_zero]
        refine ⟨?_, ?_⟩
        focus
          unfold opGoal
          rw [if_pos (by kernel_rfl)]
          intro x hb hd K hk
          clear hd
          go_wp2_with fail
          exact hk _ _ rfl trivial (Below.refl _ _)
        rintro _ rfl
        simp only [Act.put, List.setIfInBounds_toArray, List.set_cons_succ, List.set_cons_zero]
        refine ⟨?_, ?_⟩
        focus
          unfold opGoal
          rw [if_pos (by kernel_rfl)]
          intro x hb hd K hk
          clear hd
          go_wp2_with fail
          exact hk _ _ rfl trivial (Below.refl _ _)
        rintro _ rfl
        simp only [Act.put, List.setIfInBounds_toArray, List.set_cons_succ, List.set_cons_zero]
        refine ⟨?_, ?_⟩
        focus
          unfold opGoal
          rw [if_pos (by kernel_rfl)]
          intro x hb hd K hk
          clear hd
          go_wp2_with fail
          refine hk _ _ ⟨_, rfl⟩ ?_ ((Below.refl _ _).alloc (Nat.le_refl _) _)
          intro g hg
          injection hg with hg
          injection hg with hg
          injection hg with hg
          subst hg
          rw [cell_of_row _ _ _ _ _ _ (heap_alloc_new x _)]
          rfl
        rintro _ ⟨g36, rfl⟩
        simp only [Act.put, List.setIfInBounds_toArray, List.set_cons_succ, List.set_cons_zero]
        refine ⟨?_, ?_⟩
        focus
          unfold opGoal
          rw [if_pos (by kernel_rfl)]
          intro x hb hd K hk
          have hcell := hd _ (List.mem_cons_self ..) rfl _ _ rfl rfl g36 rfl
          clear hd
          have hc1 := HCV.out _ _ _ hcell
          rw [show UInt8.ofNat ((97 : Int) + (k : Int)).toNat = ch by rw [HCH.out, show ((97 : Int) + (k : Int)).toNat = 97 + k by omega]; rfl] at hc1
          go_wp2_with fail
          exact hk _ _ rfl trivial (Below.refl _ _)
        rintro _ rfl
        simp only [Act.put, List.setIfInBounds_toArray, List.set_cons_succ, List.set_cons_zero]
        refine ⟨?_, ?_⟩
        focus
          unfold opGoal
          rw [if_pos (by kernel_rfl)]
          intro x hb hd K hk
          clear hd
          go_wp2_with fail
          refine (litT_any [ch] x).mono ?_
          rintro e9 w9 ⟨A9, n9, c9, rfl, hv, hb9⟩
          exact hk _ _ ⟨_, _, _, rfl⟩ (hv.mono hb.size) hb9
        rintro _ ⟨A38, n38, c38, rfl⟩
        simp only [Act.put, List.setIfInBounds_toArray, List.set_cons_succ, List.set_cons_zero]
        refine ⟨?_, ?_⟩
        focus
          unfold opGoal
          rw [if_pos (by kernel_rfl)]
          intro x hb hd K hk
          have d1 := hd _ (List.mem_cons_self ..) rfl _ _ rfl rfl
          have d2 := hd _ (List.mem_cons_of_mem _ (List.mem_cons_self ..)) rfl _ _ rfl rfl
          have L2 := Lib.hid (lit_rd (vs := #[_, _]) (OwnAll.two d1.own d2.own))
          clear hd d1 d2
          go_wp2_with fail
          refine hk _ _ ⟨_, rfl⟩ (fun g hg => ?_) ((Below.refl _ _).alloc (Nat.le_refl _) _)
          injection hg with hg _ _
          injection hg with hg
          injection hg with hg
          subst hg
          exact L2.out
        rintro _ ⟨g39, rfl⟩
        simp only [Act.put, List.setIfInBounds_toArray, List.set_cons_succ, List.set_cons_zero]
        refine ⟨?_, ?_⟩
        focus
          unfold opGoal
          rw [if_pos (by kernel_rfl)]
          intro x hb hd K hk
          have d1 := hd _ (List.mem_cons_self ..) rfl _ _ rfl rfl
          have K2 := Lib.hid (kidsO_kd (d1 _ rfl))
          clear hd d1
          go_wp2_with fail
          refine (newT_any 21 0 [] _ 2 2 [.mk 1 0 [99] [], .mk 1 0 [ch] []] x K2.out rfl (by simp [flatAll_cons, flatAll_nil, flat_mk])).mono ?_
          rintro e9 w9 ⟨A9, n9, c9, rfl, hv, hb9⟩
          exact hk _ _ ⟨_, _, _, rfl⟩ (hv.mono hb.size) hb9
        rintro _ ⟨A40, n40, c40, rfl⟩
        simp only [Act.put, List.setIfInBounds_toArray, List.set_cons_succ, List.set_cons_zero]
        refine ⟨?_, ?_⟩
        focus
          unfold opGoal
          rw [if_pos (by kernel_rfl)]
          intro x hb hd K hk
          have d1 := hd _ (List.mem_cons_self ..) rfl _ _ rfl rfl
          have L2 := Lib.hid (lit_rd (vs := #[_]) (OwnAll.one d1.own))
          clear hd d1
          go_wp2_with fail
          refine hk _ _ ⟨_, rfl⟩ (fun g hg => ?_) ((Below.refl _ _).alloc (Nat.le_refl _) _)
          injection hg with hg _ _
          injection hg with hg
          injection hg with hg
          subst hg
          exact L2.out
        rintro _ ⟨g41, rfl⟩
        simp only [Act.put, List.setIfInBounds_toArray, List.set_cons_succ, List.set_cons_zero]
        intro x hbx hf
        simp only [List.drop_succ_cons, List.drop_zero]
        have hOw := own_below hown hbx
        have hAl := hall.below hbx
        obtain ⟨vs1, hr1, hl1⟩ := hf 10 _ _ rfl rfl _ rfl
        clear hf
        have hv1 : (1 : Nat) = vs1.length := hl1.1.symm
        have hc1 : ∀ y ∈ vs1, ∀ u ∈ one1 y, u.oneCell' = true := fun y hy u hu => by simp [one1] at hu; subst hu; exact hl1.cells _ hy
        have hb1x := hbr.trans (hbx.mono hbr.size)
        have H1 := Lib.hid hl1
        have HC1 := Lib.hid hc1
        have HV1 := Lib.hid hv1
        clear hl1 hc1 hv1
        refine wpList_pushMem (enc := one1) rfl _ _ _ rfl Tryd.underlying23 hi hz0 hz1 hz2 rfl (by decide) hOw rfl rfl HV1.out hr1 (fun h => by cases h) trivial one1_len HC1.out (by simp only [List.length_cons, List.length_nil]; omega) (by decide) hb1x.size ?_
        intro A4 c4' w4 hown4 hb4 hoo4
        go_wp2_with fail
        go_roundw
        case rel =>
          have hT : (chTs (k + 1)).map flat = (chTs k).map flat ++ [flat (.mk 21 0 [] [.mk 1 0 [99] [], .mk 1 0 [ch] []])] := by rw [chTs_succ, List.map_append, HCH.out]; rfl
          rw [one1_flat] at hown4
          refine ⟨k + 1, A4, c4', us ++ vs1, by omega, by go_num, rfl, hown4, ?_, hb1x.trans hb4⟩
          rw [hT]
          exact (hAl.others hoo4 (by decide)).append ((H1.out.mono (hbr.size)).others hoo4 (by decide))
        case measure => simp [intOf]; omega
    · obtain rfl : k = N := by omega
      have hkd := KdRd.of_own hown (by rw [List.length_map, chTs_len]) hall
      clear hown hall hlt hk
      have hgetj : ∀ j (h : j < k), ∃ b o A2 n2 c2, A' = some ⟨b, o, none⟩ ∧ wr.cell? ⟨b, o + j, none⟩ = some (.slice A2 n2 c2) ∧ SlRd wr (.slice A2 n2 c2) (flat (chT j)) := fun j h => by
        obtain ⟨b, o, v, hA, _, hc, hs⟩ := hkd.at_ (k := j) (by rw [List.length_map, chTs_len]; exact h)
        rw [List.getElem_map, chTs_get k j h] at hs
        have hs' := hs
        obtain ⟨A2, c2, rfl, _⟩ := hs
        exact ⟨b, o, A2, _, c2, hA, hc, hs'⟩
      obtain ⟨b1, o1, Aa, na, ca, rfl, ha, sa⟩ := hgetj (k - 2) (by omega)
      obtain ⟨_, _, Ab, nb, cb, he, hb2, sb⟩ := hgetj (k - 1) (by omega)
      simp only [Option.some.injEq, Addr.mk.injEq, and_true] at he
      obtain ⟨he1, he2⟩ := he
      subst he1 he2
      have HG := Lib.hid hgetj
      clear hgetj
      go_upto_region 12 with (fail)
      go_cut [8] (fun v wx => (∃ A n c, v = .slice A n c ∧ SlRd wx (.slice A n c) (flat (pipeT [chT (k - 2), chT (k - 1)]))) ∧ Below wr.heap.size wr wx)
      case first =>
        apply wp_region_rel [eqT _, eqT _, eqT _, eqT _, eqT _, eqT _, eqT _, eqT _, eqT _, eqT _, kdT [flat (chT (k - 2)), flat (chT (k - 1))], rdT (flat (pipeT [chT (k - 2), chT (k - 1)])), rdT (flat (pipeT [chT (k - 2), chT (k - 1)]))] (by kernel_rfl) (by kernel_rfl) rfl
        focus
          refine ⟨?_, ?_⟩
          focus
            unfold opGoal
            rw [if_pos (by kernel_rfl)]
            intro x hb hd K hk
            clear hd
            go_wp2_with fail
            exact hk _ _ rfl trivial (Below.refl _ _)
          rintro _ rfl
          simp only [Act.put, List.setIfInBounds_toArray, List.set_cons_succ, List.set_cons_zero]
          refine ⟨?_, ?_⟩
          focus
            unfold opGoal
            rw [if_pos (by kernel_rfl)]
            intro x hb hd K hk
            clear hd
            go_wp2_with fail
            exact hk _ _ rfl trivial (Below.refl _ _)
          rintro _ rfl
          simp only [Act.put, List.setIfInBounds_toArray, List.set_cons_succ, List.set_cons_zero]
          refine ⟨?_, ?_⟩
          focus
            unfold opGoal
            rw [if_pos (by kernel_rfl)]
            intro x hb hd K hk
            clear hd
            go_wp2_with fail
            exact hk _ _ rfl trivial (Below.refl _ _)
          rintro _ rfl
          simp only [Act.put, List.setIfInBounds_toArray, List.set_cons_succ, List.set_cons_zero]
          refine ⟨?_, ?_⟩
          focus
            unfold opGoal
            rw [if_pos (by kernel_rfl)]
            intro x hb hd K hk
            clear hd
            go_wp2_with fail
            exact hk _ _ rfl trivial (Below.refl _ _)
          rintro _ rfl
          simp only [Act.put, List.setIfInBounds_toArray, List.set_cons_succ, List.set_cons_zero]
          refine ⟨?_, ?_⟩
          focus
            unfold opGoal
            rw [if_pos (by kernel_rfl)]
            intro x hb hd K hk
            clear hd
            have l0 := cell_keep hb ha
            go_wp2_with fail
            exact hk _ _ rfl trivial (Below.refl _ _)
          rintro _ rfl
          simp only [Act.put, List.setIfInBounds_toArray, List.set_cons_succ, List.set_cons_zero]
          refine ⟨?_, ?_⟩
          focus
            unfold opGoal
            rw [if_pos (by kernel_rfl)]
            intro x hb hd K hk
            clear hd
            go_wp2_with fail
            exact hk _ _ rfl trivial (Below.refl _ _)
          rintro _ rfl
          simp only [Act.put, List.setIfInBounds_toArray, List.set_cons_succ, List.set_cons_zero]
          refine ⟨?_, ?_⟩
          focus
            unfold opGoal
            rw [if_pos (by kernel_rfl)]
            intro x hb hd K hk
            clear hd
            go_wp2_with fail
            exact hk _ _ rfl trivial (Below.refl _ _)
          rintro _ rfl
          simp only [Act.put, List.setIfInBounds_toArray, List.set_cons_succ, List.set_cons_zero]
          refine ⟨?_, ?_⟩
          focus
            unfold opGoal
            rw [if_pos (by kernel_rfl)]
            intro x hb hd K hk
            clear hd
            go_wp2_with fail
            exact hk _ _ rfl trivial (Below.refl _ _)
          rintro _ rfl
          simp only [Act.put, List.setIfInBounds_toArray, List.set_cons_succ, List.set_cons_zero]
          refine ⟨?_, ?_⟩
          focus
            unfold opGoal
            rw [if_pos (by kernel_rfl)]
            intro x hb hd K hk
            clear hd
            go_wp2_with fail
            exact hk _ _ rfl trivial (Below.refl _ _)
          rintro _ rfl
          simp only [Act.put, List.setIfInBounds_toArray, List.set_cons_succ, List.set_cons_zero]
          refine ⟨?_, ?_⟩
          focus
            unfold opGoal
            rw [if_pos (by kernel_rfl)]
            intro x hb hd K hk
            clear hd
            have l0 := cell_keep hb hb2
            go_wp2_with fail
            exact hk _ _ rfl trivial (Below.refl _ _)
          rintro _ rfl
          simp only [Act.put, List.setIfInBounds_toArray, List.set_cons_succ, List.set_cons_zero]
          refine ⟨?_, ?_⟩
          focus
            unfold opGoal
            rw [if_pos (by kernel_rfl)]
            intro x hb hd K hk
            have L2 := Lib.hid (KdRd.lit (vs := #[_, _]) (AllRd.two (sa.below hb) (sb.below hb)))
            clear hd
            go_wp2_with fail
            refine hk _ _ ⟨_, rfl⟩ (fun g hg => ?_) ((Below.refl _ _).alloc (Nat.le_refl _) _)
            injection hg with hg _ _
            injection hg with hg
            injection hg with hg
            subst hg
            exact L2.out
          rintro _ ⟨g53, rfl⟩
          simp only [Act.put, List.setIfInBounds_toArray, List.set_cons_succ, List.set_cons_zero]
          refine ⟨?_, ?_⟩
          focus
            unfold opGoal
            rw [if_pos (by kernel_rfl)]
            intro x hb hd K hk
            have d1 := hd _ (List.mem_cons_self ..) rfl _ _ rfl rfl
            have K2 := Lib.hid (d1 _ rfl)
            clear hd d1
            go_wp2_with fail
            refine (newT_any 32 0 [] _ 2 2 [chT (k - 2), chT (k - 1)] x K2.out rfl (by rw [flatAll_cons, flatAll_cons, flatAll_nil, List.append_nil, List.length_append, chT_len, chT_len]; decide)).mono ?_
            rintro e9 w9 ⟨A9, n9, c9, rfl, hv, hb9⟩
            exact hk _ _ ⟨_, _, _, rfl⟩ hv.rd hb9
          rintro _ ⟨A54, n54, c54, rfl⟩
          simp only [Act.put, List.setIfInBounds_toArray, List.set_cons_succ, List.set_cons_zero]
          refine ⟨?_, ?_⟩
          focus
            unfold opGoal
            rw [if_pos (by kernel_rfl)]
            intro x hb hd K hk
            have hv := hd _ (List.mem_cons_self ..) rfl _ _ rfl rfl
            clear hd
            go_wp2_with fail
            exact hk _ _ ⟨_, _, _, rfl⟩ hv (Below.refl _ _)
          rintro _ ⟨A55, n55, c55, rfl⟩
          simp only [Act.put, List.setIfInBounds_toArray, List.set_cons_succ, List.set_cons_zero]
          intro x hbx hf
          have hv : SlRd x (.slice A55 n55 c55) (flat (pipeT [chT (k - 2), chT (k - 1)])) := hf 12 _ _ rfl rfl
          clear hf
          go_wp2_with fail
          go_meet
          exact ⟨⟨_, _, _, rfl, hv⟩, hbx⟩
      case rest =>
      obtain ⟨⟨Ap, np, cpp, rfl, sp⟩, hbx⟩ := hcut
      have hkd2 := hkd.below hbx
      have hbw := hb.trans ((hbr.trans (hbx.mono hbr.size)).mono hb.size)
      have hb1w := hbr.trans (hbx.mono hbr.size)
      have hrd2 := hrd.below hb1w
      have hE2 := hE.below hb1w
      have ST := Lib.hid (start_two (n := k) (by omega))
      clear sa sb ha hb2 hkd HG hbr hbx hrd hE
      go_wp2_with fail
      go_loopw [8, 9] (fun v i wr2 => ∃ (j : Nat) (P : Tr) (Ap : Option Addr) (np cpp : Nat), j + 2 ≤ k ∧ i = .int .i64 ((j : Int) - 1) ∧ v = .slice Ap np cpp ∧ SlRd wr2 (.slice Ap np cpp) (flat P) ∧ Below wc.heap.size wc wr2 ∧ (flat P).length ≤ 10 * (k - j) ∧
          Hid (fuseT P = pipeT ((chTs k).drop j)) ∧ Hid (∀ x ∈ flat P, NdOk x)) (fun v i _ => (intOf i + 1).toNat)
      case atStart => exact ⟨k - 2, _, _, _, _, by omega, congrArg (Value.int .i64) (by omega), rfl, sp, Below.refl _ _, by rw [pipe_len, chT_len, chT_len]; omega, ST, Lib.hid (pipe_ok (ch_ok _) (ch_ok _))⟩
      case round =>
        clear sp ST
        obtain ⟨j, P, Ap, np, cpp, hj, rfl, rfl, sp, hbq, hPl, HP, HOK⟩ := hrel
        have hkd3 := hkd2.below hbq
        have hgetj : ∀ j (h : j < k), ∃ A2 n2 c2, wr.cell? ⟨b1, o1 + j, none⟩ = some (.slice A2 n2 c2) ∧ SlRd wr (.slice A2 n2 c2) (flat (chT j)) := fun j h => by
          obtain ⟨b, o, v, hA, _, hc, hs⟩ := hkd3.at_ (k := j) (by rw [List.length_map, chTs_len]; exact h)
          rw [List.getElem_map, chTs_get k j h] at hs
          simp only [Option.some.injEq, Addr.mk.injEq, and_true] at hA
          obtain ⟨rfl, rfl⟩ := hA
          have hs' := hs
          obtain ⟨A2, c2, rfl, _⟩ := hs
          exact ⟨A2, _, c2, hc, hs'⟩
        have HG := Lib.hid hgetj
        clear hgetj
        rcases Nat.eq_zero_or_pos j with hj0 | hj0
        · subst hj0
          have hPe := HP.out
          rw [List.drop_zero] at hPe
          have HP0 := Lib.hid hPe
          clear hPe HP
          have hbz := hbw.trans (hbq.mono hbw.size)
          have hE3 := hE2.below hbq
          have CK := Lib.hid (show Calls Tryd.prog 18 #[.slice Ap np cpp] wr (CheckRet (flat P) aN aT' aM wr) from check_v _ _ aN aT' aM wr (by omega) HOK.out sp hE3)
          go_wp2_with fail
          refine CK.out.mono ?_
          rintro e w7 ⟨v1, rfl, hv1, hb7⟩
          have sp7 := sp.below hb7
          have hkd7 := hkd3.below hb7
          have hE7 := hE3.below hb7
          have hbz7 := hbz.trans (hb7.mono hbz.size)
          cases hm : manyB (flat P)
          case true =>
            rw [hm, if_pos rfl] at hv1
            subst hv1
            clear hm
            go_wp2_with fail
            go_ret
            exact ⟨rfl, hbz7⟩
          case false =>
          rw [hm, if_neg Bool.noConfusion] at hv1
          cases hc : checkP (flat P) with
          | some zz =>
            obtain ⟨ii, nb⟩ := zz
            rw [hc] at hv1
            obtain ⟨g, rfl, _⟩ := hv1
            clear hm hc
            go_wp2_with fail
            go_ret
            exact ⟨rfl, hbz7⟩
          | none =>
            rw [hc] at hv1
            obtain rfl : v1 = Value.nilIface := hv1
            obtain ⟨t, ht1, ht2⟩ := (check_tree (flat P) (len0_flat P)).1 hc
            have htP : t = P := flat_inj _ t P (Nat.le_refl _) ht2
            subst htP
            have PP := Lib.hid (show Calls Tryd.prog 31 #[.slice Ap np cpp] w7 (VRet (flat (pipeT (chTs k))) w7) by
              rw [← HP0.out]
              exact fpass_tree _ t aN aT' aM w7 ht1 (by omega) HOK.out sp7 hE7)
            have hlen : (flatAll (chTs k)).length ≤ 4000000 := by rw [chTs_flat]; omega
            have SS := Lib.hid (show ∀ va vb W, SlRd W va (flat (pipeT (chTs k))) → SlRd W vb (flat (pipeT (chTs k))) → Calls Tryd.prog 33 #[va, vb] W (Ret W (.bool true)) from fun va vb W h1 h2 => by
              have h := same_v va vb _ _ W h1 h2 (by unfold pipeT; rw [flat_size, chTs_flat]; omega) (by unfold pipeT; rw [flat_size, chTs_flat]; omega)
              rw [(sameL_iff _ _).2 rfl] at h
              exact h)
            clear hm hc ht1 ht2
            go_wp2_with fail
            refine PP.out.mono ?_
            rintro e w8 ⟨A8, n8, c8, rfl, o8, hb8⟩
            have s8 := o8.rd
            have hkd8 := hkd7.below hb8
            have hbz8 := hbz7.trans (hb8.mono hbz7.size)
            clear o8
            go_wp2_with fail
            refine (newT_any 32 0 [] _ _ k (chTs k) w8 hkd8 (chTs_len k).symm hlen).mono ?_
            rintro e w9 ⟨A9, n9, c9, rfl, o9, hb9⟩
            have s9 := o9.rd
            have s89 := s8.below hb9
            have hbz9 := hbz8.trans (hb9.mono hbz8.size)
            clear o9
            go_wp2_with fail
            refine (SS.out _ _ _ s89 s9).mono ?_
            rintro e w10 ⟨rfl, hb10⟩
            go_wp2_with fail
            go_ret
            exact ⟨rfl, hbz9.trans (hb10.mono hbz9.size)⟩
        · obtain ⟨q, rfl⟩ : ∃ q, j = q + 1 := ⟨j - 1, by omega⟩
          rw [show ((q + 1 : Nat) : Int) - 1 = (q : Int) by omega]
          clear hj0
          obtain ⟨flag, hflag⟩ : ∃ flag, flag = (decide (q < m) && F.getD q false && decide (1 ≤ q)) := ⟨_, rfl⟩
          have HF := Lib.hid hflag
          clear hflag
          go_upto_region 16 with (fail)
          go_cut [74] (fun v wx => v = .bool flag ∧ wr = wx)
          case first =>
            by_cases hqm : q < m
            · have hqF : q < F.length := by rw [← HM.out]; exact hqm
              obtain ⟨bF, oF, rfl, _, hcF⟩ := (hrd2.below hbq) q hqF
              have cF := hcF 0 _ rfl
              simp only [Nat.mul_one, Nat.add_zero] at cF
              have hFg : F.getD q false = F[q] := by simp [List.getD, List.getElem?_eq_getElem hqF]
              obtain ⟨fb, hfb⟩ : ∃ fb, fb = F[q] := ⟨_, rfl⟩
              rw [← hfb] at cF hFg
              have HFG := Lib.hid hFg
              clear hFg hfb hqF hcF
              cases fb
              · go_wp2_with fail
                go_meet
                exact ⟨congrArg Value.bool (by rw [HF.out, HFG.out]; simp), rfl⟩
              · by_cases hq1 : 1 ≤ q
                all_goals
                  go_wp2_with fail
                  go_meet
                  exact ⟨congrArg Value.bool (by rw [HF.out, HFG.out] <;> (try simp [hqm, hq1]) <;> omega), rfl⟩
            · go_wp2_with fail
              go_meet
              exact ⟨congrArg Value.bool (by rw [HF.out] <;> simp [hqm]), rfl⟩
          case rest =>
          obtain ⟨rfl, rfl⟩ := hcut
          cases flag with
          | false =>
            clear HF
            obtain ⟨Aa, na, ca, ha, sa⟩ := HG.out q (by omega)
            have hb3 := two_le (a := chT q) (b := P) (n := 300) (by rw [chT_len]; omega) (by decide)
            have NN := Lib.hid (newL_any 32 0 [] #[.slice Aa na ca, .slice Ap np cpp] 2 2 [chT q, P] wr (AllRd.two sa sp) rfl hb3)
            clear sa
            go_wp2_with fail
            refine NN.out.mono ?_
            rintro e w5 ⟨A5, n5, c5, rfl, o5, hb5⟩
            have s5 := o5.rd
            go_wp2_with fail
            go_roundw
            case rel => exact ⟨q, pipeT [chT q, P], A5, n5, c5, by omega, rfl, rfl, s5, hbq.trans (hb5.mono hbq.size), by rw [pipe_len, chT_len]; omega, Lib.hid (step_one (by omega) HP.out), Lib.hid (pipe_ok (ch_ok _) HOK.out)⟩
            case measure => simp [intOf] <;> omega
          | true =>
            have hff := HF.out
            simp only [eq_comm (a := true), Bool.and_eq_true, decide_eq_true_eq] at hff
            have hq1 : 1 ≤ q := hff.2
            clear hff HF
            obtain ⟨Aa, na, ca, ha, sa⟩ := HG.out (q - 1) (by omega)
            obtain ⟨Ab, nb, cb, hb2, sb⟩ := HG.out q (by omega)
            have hbd1 := two_le (a := chT (q - 1)) (b := chT q) (n := 300) (by rw [chT_len, chT_len]; omega) (by decide)
            have hbd2 := two_le (a := pipeT [chT (q - 1), chT q]) (b := P) (n := 300) (by rw [pipe_len, chT_len, chT_len]; omega) (by decide)
            go_upto_region 17 with (fail)
            go_cut [8] (fun v wx => (∃ A n c, v = .slice A n c ∧ SlRd wx (.slice A n c) (flat (pipeT [pipeT [chT (q - 1), chT q], P]))) ∧ Below wr.heap.size wr wx)
            case first =>
              apply wp_region_rel [eqT _, eqT _, eqT _, eqT _, eqT _, eqT _, eqT _, eqT _, eqT _, kdT [flat (chT (q - 1)), flat (chT q)], rdT (flat (pipeT [chT (q - 1), chT q])), eqT _, kdT [flat (pipeT [chT (q - 1), chT q]), flat P], rdT (flat (pipeT [pipeT [chT (q - 1), chT q], P])), rdT (flat (pipeT [pipeT [chT (q - 1), chT q], P]))] (by kernel_rfl) (by kernel_rfl) rfl
              focus
                refine ⟨?_, ?_⟩
                focus
                  unfold opGoal
                  rw [if_pos (by kernel_rfl)]
                  intro x hb hd K hk
                  clear hd
                  go_wp2_with fail
                  exact hk _ _ rfl trivial (Below.refl _ _)
                rintro _ rfl
                simp only [Act.put, List.setIfInBounds_toArray, List.set_cons_succ, List.set_cons_zero]
                refine ⟨?_, ?_⟩
                focus
                  unfold opGoal
                  rw [if_pos (by kernel_rfl)]
                  intro x hb hd K hk
                  clear hd
                  go_wp2_with fail
                  exact hk _ _ rfl trivial (Below.refl _ _)
                rintro _ rfl
                simp only [Act.put, List.setIfInBounds_toArray, List.set_cons_succ, List.set_cons_zero]
                refine ⟨?_, ?_⟩
                focus
                  unfold opGoal
                  rw [if_pos (by kernel_rfl)]
                  intro x hb hd K hk
                  clear hd
                  go_wp2_with fail
                  exact hk _ _ rfl trivial (Below.refl _ _)
                rintro _ rfl
                simp only [Act.put, List.setIfInBounds_toArray, List.set_cons_succ, List.set_cons_zero]
                refine ⟨?_, ?_⟩
                focus
                  unfold opGoal
                  rw [if_pos (by kernel_rfl)]
                  intro x hb hd K hk
                  clear hd
                  go_wp2_with fail
                  exact hk _ _ rfl trivial (Below.refl _ _)
                rintro _ rfl
                simp only [Act.put, List.setIfInBounds_toArray, List.set_cons_succ, List.set_cons_zero]
                refine ⟨?_, ?_⟩
                focus
                  unfold opGoal
                  rw [if_pos (by kernel_rfl)]
                  intro x hb hd K hk
                  clear hd
                  have l0 := cell_keep hb ha
                  go_wp2_with fail
                  exact hk _ _ rfl trivial (Below.refl _ _)
                rintro _ rfl
                simp only [Act.put, List.setIfInBounds_toArray, List.set_cons_succ, List.set_cons_zero]
                refine ⟨?_, ?_⟩
                focus
                  unfold opGoal
                  rw [if_pos (by kernel_rfl)]
                  intro x hb hd K hk
                  clear hd
                  go_wp2_with fail
                  exact hk _ _ rfl trivial (Below.refl _ _)
                rintro _ rfl
                simp only [Act.put, List.setIfInBounds_toArray, List.set_cons_succ, List.set_cons_zero]
                refine ⟨?_, ?_⟩
                focus
                  unfold opGoal
                  rw [if_pos (by kernel_rfl)]
                  intro x hb hd K hk
                  clear hd
                  go_wp2_with fail
                  exact hk _ _ rfl trivial (Below.refl _ _)
                rintro _ rfl
                simp only [Act.put, List.setIfInBounds_toArray, List.set_cons_succ, List.set_cons_zero]
                refine ⟨?_, ?_⟩
                focus
                  unfold opGoal
                  rw [if_pos (by kernel_rfl)]
                  intro x hb hd K hk
                  clear hd
                  go_wp2_with fail
                  exact hk _ _ rfl trivial (Below.refl _ _)
                rintro _ rfl
                simp only [Act.put, List.setIfInBounds_toArray, List.set_cons_succ, List.set_cons_zero]
                refine ⟨?_, ?_⟩
                focus
                  unfold opGoal
                  rw [if_pos (by kernel_rfl)]
                  intro x hb hd K hk
                  clear hd
                  have l0 := cell_keep hb hb2
                  go_wp2_with fail
                  exact hk _ _ rfl trivial (Below.refl _ _)
                rintro _ rfl
                simp only [Act.put, List.setIfInBounds_toArray, List.set_cons_succ, List.set_cons_zero]
                refine ⟨?_, ?_⟩
                focus
                  unfold opGoal
                  rw [if_pos (by kernel_rfl)]
                  intro x hb hd K hk
                  have L2 := Lib.hid (KdRd.lit (vs := #[_, _]) (AllRd.two (sa.below hb) (sb.below hb)))
                  clear hd
                  go_wp2_with fail
                  refine hk _ _ ⟨_, rfl⟩ (fun g hg => ?_) ((Below.refl _ _).alloc (Nat.le_refl _) _)
                  injection hg with hg _ _
                  injection hg with hg
                  injection hg with hg
                  subst hg
                  exact L2.out
                rintro _ ⟨g84, rfl⟩
                simp only [Act.put, List.setIfInBounds_toArray, List.set_cons_succ, List.set_cons_zero]
                refine ⟨?_, ?_⟩
                focus
                  unfold opGoal
                  rw [if_pos (by kernel_rfl)]
                  intro x hb hd K hk
                  have d1 := hd _ (List.mem_cons_self ..) rfl _ _ rfl rfl
                  have K2 := Lib.hid (d1 _ rfl)
                  clear hd d1
                  go_wp2_with fail
                  refine (newT_any 32 0 [] _ 2 2 [chT (q - 1), chT q] x K2.out rfl hbd1).mono ?_
                  rintro e9 w9 ⟨A9, n9, c9, rfl, hv, hb9⟩
                  exact hk _ _ ⟨_, _, _, rfl⟩ hv.rd hb9
                rintro _ ⟨A85, n85, c85, rfl⟩
                simp only [Act.put, List.setIfInBounds_toArray, List.set_cons_succ, List.set_cons_zero]
                refine ⟨?_, ?_⟩
                focus
                  unfold opGoal
                  rw [if_pos (by kernel_rfl)]
                  intro x hb hd K hk
                  clear hd
                  go_wp2_with fail
                  exact hk _ _ rfl trivial (Below.refl _ _)
                rintro _ rfl
                simp only [Act.put, List.setIfInBounds_toArray, List.set_cons_succ, List.set_cons_zero]
                refine ⟨?_, ?_⟩
                focus
                  unfold opGoal
                  rw [if_pos (by kernel_rfl)]
                  intro x hb hd K hk
                  have d1 := hd _ (List.mem_cons_self ..) rfl _ _ rfl rfl
                  have L2 := Lib.hid (KdRd.lit (vs := #[_, _]) (AllRd.two d1 (sp.below hb)))
                  clear hd d1
                  go_wp2_with fail
                  refine hk _ _ ⟨_, rfl⟩ (fun g hg => ?_) ((Below.refl _ _).alloc (Nat.le_refl _) _)
                  injection hg with hg _ _
                  injection hg with hg
                  injection hg with hg
                  subst hg
                  exact L2.out
                rintro _ ⟨g87, rfl⟩
                simp only [Act.put, List.setIfInBounds_toArray, List.set_cons_succ, List.set_cons_zero]
                refine ⟨?_, ?_⟩
                focus
                  unfold opGoal
                  rw [if_pos (by kernel_rfl)]
                  intro x hb hd K hk
                  have d1 := hd _ (List.mem_cons_self ..) rfl _ _ rfl rfl
                  have K2 := Lib.hid (d1 _ rfl)
                  clear hd d1
                  go_wp2_with fail
                  refine (newT_any 32 0 [] _ 2 2 [pipeT [chT (q - 1), chT q], P] x K2.out rfl hbd2).mono ?_
                  rintro e9 w9 ⟨A9, n9, c9, rfl, hv, hb9⟩
                  exact hk _ _ ⟨_, _, _, rfl⟩ hv.rd hb9
                rintro _ ⟨A88, n88, c88, rfl⟩
                simp only [Act.put, List.setIfInBounds_toArray, List.set_cons_succ, List.set_cons_zero]
                refine ⟨?_, ?_⟩
                focus
                  unfold opGoal
                  rw [if_pos (by kernel_rfl)]
                  intro x hb hd K hk
                  have hv := hd _ (List.mem_cons_self ..) rfl _ _ rfl rfl
                  clear hd
                  go_wp2_with fail
                  exact hk _ _ ⟨_, _, _, rfl⟩ hv (Below.refl _ _)
                rintro _ ⟨A89, n89, c89, rfl⟩
                simp only [Act.put, List.setIfInBounds_toArray, List.set_cons_succ, List.set_cons_zero]
                intro x hbx hf
                have hv : SlRd x (.slice A89 n89 c89) (flat (pipeT [pipeT [chT (q - 1), chT q], P])) := hf 14 _ _ rfl rfl
                clear hf
                go_wp2_with fail
                go_meet
                exact ⟨⟨_, _, _, rfl, hv⟩, hbx⟩
            case rest =>
            obtain ⟨⟨A5, n5, c5, rfl, s5⟩, hb5⟩ := hcut
            have hst := step_two (P := P) (n := k) (j := q - 1) (by omega) (by rw [show q - 1 + 2 = q + 1 by omega]; exact HP.out)
            rw [show q - 1 + 1 = q by omega] at hst
            have HST := Lib.hid hst
            clear hst sa sb ha hb2
            go_wp2_with fail
            go_roundw
            case rel => exact ⟨q - 1, pipeT [pipeT [chT (q - 1), chT q], P], A5, n5, c5, by omega, congrArg (Value.int .i64) (by omega), rfl, s5, hbq.trans (hb5.mono hbq.size), by rw [pipe_len, pipe_len, chT_len, chT_len]; omega, HST, Lib.hid (pipe_ok (pipe_ok (ch_ok _) (ch_ok _)) HOK.out)⟩
            case measure => simp [intOf]; omega

theorem wf_both {n : Int} (h : (Lit.int .i64 n).wf = true) : -9223372036854775808 ≤ n ∧ n ≤ 9223372036854775807 := by
  simp only [Lit.wf, Bool.and_eq_true, decide_eq_true_eq] at h
  have h1 : IntKind.i64.min = -9223372036854775808 := by decide
  have h2 : IntKind.i64.max = 9223372036854775807 := by decide
  rw [h1, h2] at h
  exact h
theorem fusemany_card (n0 : Int) (A : Option Addr) (cp : Nat) (F : List Bool) (aN aT' aM : Addr) (w : World) (hn0 : (Lit.int .i64 n0).wf = true) (hrd : RdL w 1 (fun b => [Value.bool b]) A F) (hE : ErrW w aN aT' aM) :
    Calls Tryd.prog 10 #[.int .i64 n0, .slice A F.length cp] w fun e w' => e = .returned (.bool true) ∧ Below w.heap.size w w' :=
  fusemany_walk n0 A cp F aN aT' aM w (wf_both hn0) hrd hE
end Go.Proofs.YtjhgljfmheopmaaDoor
