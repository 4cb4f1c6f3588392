/- CoreAgain: whatever nodes are handed in, the law answers true. No condition but what the package-level errors hold. -/
import Derived.Test.YtjhgljfmheopmaaDoorCoreF
import Derived.Test.YtjhgljfmheopmaaDoorDepthW
import Derived.Test.YtjhgljfmheopmaaDoorOpenN
set_option linter.unusedVariables false
set_option linter.unusedSimpArgs false
namespace Go.Proofs.YtjhgljfmheopmaaDoor
open Go.RowKit

theorem depth_mem : ∀ (ks : List Tr) (k : Nat) (h : k < ks.length), depthT ks[k] ≤ depthTs ks
  | t :: ts, 0, h => by rw [depthTs_cons]; exact Nat.le_max_left _ _
  | t :: ts, k + 1, h => by
    have := depth_mem ts k (by simpa using h)
    rw [depthTs_cons, List.getElem_cons_succ]
    omega

set_option maxRecDepth 100000 in
set_option maxHeartbeats 4000000 in
theorem again_any : ∀ (d : Nat) (t : Tr) (v : Value) (w : World), depthT t ≤ d → d ≤ 30 → (flat t).length ≤ 4000000 → SlRd w v (flat t) → Calls Tryd.prog 29 #[v, .int .i64 d] w (NodesRet (flat t) w) := by
  intro d
  induction d with
  | zero => intro t v w h; rw [depth_kids] at h; omega
  | succ d ih =>
  intro t v w hd hd30 hN hv
  cases t with
  | mk kd n s ks =>
  rw [flat_size] at hN
  rw [depthT_mk] at hd
  have hlk := len_flatAll ks
  obtain ⟨i0, hi, hz0, hz1, hz2⟩ := info_parts infoNodes
  have KC := Lib.hid (show ∀ W, SlRd W v (flat (.mk kd n s ks)) → Calls Tryd.prog 27 #[v] W (KidsRet (ks.map flat) W) from fun W h => by
    rw [← kidsL_flat kd n s ks]
    exact kids_any v _ W h (by rw [flat_size]; omega))
  have HV := Lib.hid hv
  obtain ⟨A, cp, rfl, hrd, hc, hm, hA, hsp⟩ := hv
  have h0 : 0 < (flat (.mk kd n s ks)).length := flat_pos _
  obtain ⟨b, o, rfl, hbl⟩ := hrd.addr h0
  have hx := hrd.at_ h0
  have hhead : (flat (.mk kd n s ks))[0] = ⟨kd, n, ks.length, ((1 + (flatAll ks).length : Nat) : Int), s⟩ := by simp [flat_mk]
  rw [hhead] at hx
  have c0 := hx.2 0 _ rfl
  have c1 := hx.2 1 _ rfl
  have c4 := hx.2 4 _ rfl
  simp only [Nat.zero_mul, Nat.add_zero] at c0 c1 c4
  clear hx hhead
  obtain ⟨m, hml⟩ : ∃ m, m = (flat (.mk kd n s ks)).length := ⟨_, rfl⟩
  rw [← hml] at KC hc h0 ⊢
  have HM := Lib.hid hml
  have hq0 : ((m : Int) == 0) = false := by rw [beq_eq_false_iff_ne]; omega
  have hq1 : ((d : Int) + 1 == 0) = false := by rw [beq_eq_false_iff_ne]; omega
  clear hml hrd hA hsp hm
  have HIH := Lib.hid ih
  have HDD := Lib.hid hd
  clear ih hd
  go_enter Tryd.func29, Tryd.ntmps29
  go_wp2_with fail
  refine (KC.out _ (by rw [← HM.out] at HV; exact HV.out)).mono ?_
  rintro e w1 ⟨A1, cp1, vs, rfl, hown1, hall1, hb1⟩
  have hkr := KdRd.of_own hown1 rfl hall1
  rw [List.length_map] at hown1 ⊢
  clear hown1 hall1
  go_wp2_with fail
  go_loopw [6, 7] (fun u j wr => ∃ (k : Nat) (A' : Option Addr) (c' : Nat) (us : List Value), k ≤ ks.length ∧ j = .int .i64 k ∧ u = .slice A' k c' ∧
      wr.ownsRow w1.heap.size 25 1 (.slice A' k c') k us ∧ OwnAll wr w1.heap.size us ((ks.take k).map flat) ∧ Below w1.heap.size w1 wr) (fun _ j _ => ks.length - (intOf j).toNat)
  case atStart => exact ⟨0, none, 0, [], Nat.zero_le _, rfl, rfl, World.ownsRow_nil _ _ _ _, OwnAll.nil _ _, Below.refl _ _⟩
  case round =>
    obtain ⟨k, A', c', us, hk, rfl, rfl, hown, hall, hb⟩ := hrel
    by_cases hlt : k < ks.length
    · obtain ⟨bk, ok, vk, rfl, hbk, hck, hsk⟩ := (hkr.below hb).at_ (k := k) (by simpa using hlt)
      simp only [List.getElem_map] at hsk
      have hle := flatAll_mem_le ks k hlt
      have hdk : depthT ks[k] ≤ depthTs ks := depth_mem ks k hlt
      have IH := Lib.hid (HIH.out ks[k] vk wr (by have := HDD.out; omega) (by omega) (by omega) hsk)
      have HT := Lib.hid (show (ks.take (k + 1)).map flat = (ks.take k).map flat ++ [flat ks[k]] by rw [List.take_succ_eq_append_getElem hlt, List.map_append]; rfl)
      generalize ks[k] = t at *
      clear hdk hsk
      go_wp2_with fail
      refine IH.out.mono ?_
      rintro e w2 ⟨A2, c2, rfl, ho2, hb2⟩
      have hown2 := own_below hown hb2
      have hall2 := hall.below hb2
      have hb12 := hb.trans (hb2.mono hb.size)
      have HL3 := Lib.hid (show OwnAll w2 w1.heap.size [.slice A2 (flat t).length c2] [flat t] from OwnAll.one (own_mono ho2 hb.size))
      clear ho2 hck hkr IH hown hall
      generalize (flat t).length = m2 at *
      go_wp2_with (at_builtin; refine wpList_push rfl _ _ _ rfl Tryd.underlying23 hi hz0 hz1 hz2 rfl (by decide) hown2 rfl rfl rfl (by simp [Value.oneCell']) (by omega) (by decide) hb12.size ?_; intro A4 c4' w4 hown4 hb4 hoo4)
      go_roundw
      case rel =>
        refine ⟨k + 1, A4, c4', us ++ [.slice A2 m2 c2], by omega, by go_num, rfl, by simpa using hown4, ?_, hb12.trans hb4⟩
        rw [HT.out]
        exact (hall2.others hoo4 (by decide)).append (HL3.out.others hoo4 (by decide))
      case measure => simp [intOf]; omega
    · obtain rfl : k = ks.length := by omega
      rw [List.take_length] at hall
      have hkd := KdRd.of_own hown (by simp) hall
      have hbw := hb1.trans (hb.mono hb1.size)
      have NW := Lib.hid (show ∀ W, KdRd W A' (ks.map flat) → Calls Tryd.prog 16 #[.int .i64 kd, .int .i64 n, .string ⟨s.toArray⟩, .slice A' ks.length c'] W (VRet (flat (.mk kd n s ks)) W) from fun W h => newT_any kd n s A' c' ks.length ks W h rfl (by omega))
      have w0 := cell_keep hbw c0
      have w1' := cell_keep hbw c1
      have w4 := cell_keep hbw c4
      clear c0 c1 c4 hown hall hkr hlt
      go_upto_region 9 with (fail)
      go_cut [4] (fun v wx => OwnNd wx wr.heap.size v (flat (.mk kd n s ks)) ∧ Below wr.heap.size wr wx)
      case first =>
        apply wp_region_rel [eqT _, eqT _, eqT _, eqT _, eqT _, eqT _, eqT _, eqT _, eqT _, eqT _, eqT _, eqT _, eqT _, nodesT wr.heap.size (flat (.mk kd n s ks)), nodesT wr.heap.size (flat (.mk kd n s ks))] (by kernel_rfl) (by kernel_rfl) rfl
        focus
          refine ⟨?_, ?_⟩
          focus
            unfold opGoal
            rw [if_pos (by kernel_rfl)]
            intro x hb hd K hk
            clear hd
            go_wp2_with fail
            exact hk _ _ rfl trivial (Below.refl _ _)
          rintro _ rfl
          simp only [Act.put, List.setIfInBounds_toArray, List.set_cons_succ, List.set_cons_zero]
          refine ⟨?_, ?_⟩
          focus
            unfold opGoal
            rw [if_pos (by kernel_rfl)]
            intro x hb hd K hk
            clear hd
            go_wp2_with fail
            exact hk _ _ rfl trivial (Below.refl _ _)
          rintro _ rfl
          simp only [Act.put, List.setIfInBounds_toArray, List.set_cons_succ, List.set_cons_zero]
          refine ⟨?_, ?_⟩
          focus
            unfold opGoal
            rw [if_pos (by kernel_rfl)]
            intro x hb hd K hk
            clear hd
            go_wp2_with fail
            exact hk _ _ rfl trivial (Below.refl _ _)
          rintro _ rfl
          simp only [Act.put, List.setIfInBounds_toArray, List.set_cons_succ, List.set_cons_zero]
          refine ⟨?_, ?_⟩
          focus
            unfold opGoal
            rw [if_pos (by kernel_rfl)]
            intro x hb hd K hk
            clear hd
            have l0 := cell_keep hb w0
            go_wp2_with fail
            exact hk _ _ rfl trivial (Below.refl _ _)
          rintro _ rfl
          simp only [Act.put, List.setIfInBounds_toArray, List.set_cons_succ, List.set_cons_zero]
          refine ⟨?_, ?_⟩
          focus
            unfold opGoal
            rw [if_pos (by kernel_rfl)]
            intro x hb hd K hk
            clear hd
            go_wp2_with fail
            exact hk _ _ rfl trivial (Below.refl _ _)
          rintro _ rfl
          simp only [Act.put, List.setIfInBounds_toArray, List.set_cons_succ, List.set_cons_zero]
          refine ⟨?_, ?_⟩
          focus
            unfold opGoal
            rw [if_pos (by kernel_rfl)]
            intro x hb hd K hk
            clear hd
            go_wp2_with fail
            exact hk _ _ rfl trivial (Below.refl _ _)
          rintro _ rfl
          simp only [Act.put, List.setIfInBounds_toArray, List.set_cons_succ, List.set_cons_zero]
          refine ⟨?_, ?_⟩
          focus
            unfold opGoal
            rw [if_pos (by kernel_rfl)]
            intro x hb hd K hk
            clear hd
            go_wp2_with fail
            exact hk _ _ rfl trivial (Below.refl _ _)
          rintro _ rfl
          simp only [Act.put, List.setIfInBounds_toArray, List.set_cons_succ, List.set_cons_zero]
          refine ⟨?_, ?_⟩
          focus
            unfold opGoal
            rw [if_pos (by kernel_rfl)]
            intro x hb hd K hk
            clear hd
            have l0 := cell_keep hb w1'
            go_wp2_with fail
            exact hk _ _ rfl trivial (Below.refl _ _)
          rintro _ rfl
          simp only [Act.put, List.setIfInBounds_toArray, List.set_cons_succ, List.set_cons_zero]
          refine ⟨?_, ?_⟩
          focus
            unfold opGoal
            rw [if_pos (by kernel_rfl)]
            intro x hb hd K hk
            clear hd
            go_wp2_with fail
            exact hk _ _ rfl trivial (Below.refl _ _)
          rintro _ rfl
          simp only [Act.put, List.setIfInBounds_toArray, List.set_cons_succ, List.set_cons_zero]
          refine ⟨?_, ?_⟩
          focus
            unfold opGoal
            rw [if_pos (by kernel_rfl)]
            intro x hb hd K hk
            clear hd
            go_wp2_with fail
            exact hk _ _ rfl trivial (Below.refl _ _)
          rintro _ rfl
          simp only [Act.put, List.setIfInBounds_toArray, List.set_cons_succ, List.set_cons_zero]
          refine ⟨?_, ?_⟩
          focus
            unfold opGoal
            rw [if_pos (by kernel_rfl)]
            intro x hb hd K hk
            clear hd
            go_wp2_with fail
            exact hk _ _ rfl trivial (Below.refl _ _)
          rintro _ rfl
          simp only [Act.put, List.setIfInBounds_toArray, List.set_cons_succ, List.set_cons_zero]
          refine ⟨?_, ?_⟩
          focus
            unfold opGoal
            rw [if_pos (by kernel_rfl)]
            intro x hb hd K hk
            clear hd
            have l0 := cell_keep hb w4
            go_wp2_with fail
            exact hk _ _ rfl trivial (Below.refl _ _)
          rintro _ rfl
          simp only [Act.put, List.setIfInBounds_toArray, List.set_cons_succ, List.set_cons_zero]
          refine ⟨?_, ?_⟩
          focus
            unfold opGoal
            rw [if_pos (by kernel_rfl)]
            intro x hb hd K hk
            clear hd
            go_wp2_with fail
            exact hk _ _ rfl trivial (Below.refl _ _)
          rintro _ rfl
          simp only [Act.put, List.setIfInBounds_toArray, List.set_cons_succ, List.set_cons_zero]
          refine ⟨?_, ?_⟩
          focus
            unfold opGoal
            rw [if_pos (by kernel_rfl)]
            intro x hb hd K hk
            clear hd
            go_wp2_with fail
            refine (NW.out x (hkd.below hb)).mono ?_
            rintro e9 w9 ⟨A9, n9, c9, rfl, hv, hb9⟩
            exact hk _ _ ⟨_, _, _, rfl⟩ (hv.mono hb.size) hb9
          rintro _ ⟨A8, n8, c8, rfl⟩
          simp only [Act.put, List.setIfInBounds_toArray, List.set_cons_succ, List.set_cons_zero]
          refine ⟨?_, ?_⟩
          focus
            unfold opGoal
            rw [if_pos (by kernel_rfl)]
            intro x hb hd K hk
            have hv := hd _ (List.mem_cons_self ..) rfl _ _ rfl rfl
            clear hd
            go_wp2_with fail
            exact hk _ _ ⟨_, _, _, rfl⟩ hv (Below.refl _ _)
          rintro _ ⟨A7, n7, c7, rfl⟩
          simp only [Act.put, List.setIfInBounds_toArray, List.set_cons_succ, List.set_cons_zero]
          intro x hb hall
          have hv : OwnNd x wr.heap.size (.slice A7 n7 c7) (flat (.mk kd n s ks)) := hall 14 _ _ rfl rfl
          clear hall
          go_wp2_with fail
          go_meet
          exact ⟨hv, hb⟩
      case rest =>
      obtain ⟨⟨A9, c9, rfl, hv⟩, hbx⟩ := hcut
      go_wp2_with fail
      go_ret
      exact ⟨A9, c9, rfl, own_mono hv hbw.size, hbw.trans (hbx.mono hbw.size)⟩

theorem wf_le' {n : Int} (h : (Lit.int .i64 n).wf = true) : n ≤ 9223372036854775807 := by
  simp only [Lit.wf, Bool.and_eq_true, decide_eq_true_eq] at h
  have h2 : IntKind.i64.max = 9223372036854775807 := by decide
  rw [h2] at h
  exact h.2
/-- Few nodes, of few bytes: it answers so only where it is so. -/
def LightRet (L : List Nd) (w : World) (e : Ending) (w' : World) : Prop := ∃ b : Bool, e = .returned (.bool b) ∧ (b = true → L.length ≤ 200 ∧ ∀ x ∈ L, x.s.length ≤ 9000) ∧ Below w.heap.size w w'
set_option maxHeartbeats 2000000 in
theorem light_any (A : Option Addr) (cp : Nat) (L : List Nd) (w : World) (hrd : RdL w 5 ndc A L) (hcp : L.length ≤ cp) (hm : cp ≤ maxLen) (hs : ∀ y ∈ L, y.s.length ≤ 140737488351232) :
    Calls Tryd.prog 23 #[.slice A L.length cp] w (LightRet L w) := by
  obtain ⟨m, hml⟩ : ∃ m, m = L.length := ⟨_, rfl⟩
  rw [← hml] at hcp ⊢
  have HM := Lib.hid hml
  have HSL := Lib.hid hs
  unfold maxLen at hm
  clear hml hs
  go_enter Tryd.func23, Tryd.ntmps23
  go_wp2_with fail
  go_loopw [3, 4] (fun u j wr => ∃ (k S : Nat), k ≤ m ∧ k ≤ 201 ∧ j = .int .i64 k ∧ u = .int .i64 S ∧ S ≤ k * 140737488351232 ∧ Hid (∀ x ∈ L.take k, x.s.length ≤ S) ∧ w = wr) (fun _ j _ => m - (intOf j).toNat)
  case atStart => exact ⟨0, 0, Nat.zero_le _, by omega, rfl, rfl, by omega, Lib.hid (by simp), rfl⟩
  case round =>
    obtain ⟨k, S, hk, hk2, rfl, rfl, hS, HS, rfl⟩ := hrel
    by_cases hlt : k < m ∧ k < 201
    · obtain ⟨hlt, h201⟩ := hlt
      have hkL : k < L.length := by rw [← HM.out]; exact hlt
      obtain ⟨b, o, rfl, _, hc⟩ := hrd k hkL
      have c4 := hc 4 _ rfl
      have hsl := HSL.out L[k] (List.getElem_mem _)
      have HT := Lib.hid (show L.take (k + 1) = L.take k ++ [L[k]] from List.take_succ_eq_append_getElem hkL)
      generalize L[k] = x at *
      obtain ⟨q, hq⟩ : ∃ q, q = x.s.length := ⟨_, rfl⟩
      have HQ := Lib.hid hq
      rw [← hq] at hsl
      have hql : x.s.length = q := hq.symm
      clear hc hq hkL
      have hle : decide ((k : Int) ≤ 200) = true := decide_eq_true (by omega)
      go_wp2_with fail
      go_roundw
      case rel =>
        refine ⟨k + 1, S + q, by omega, by omega, by go_num, by go_num, by omega, Lib.hid ?_, trivial⟩
        rw [HT.out]
        intro y hy
        rcases List.mem_append.1 hy with hy | hy
        · have := HS.out y hy; omega
        · rw [List.mem_singleton.1 hy, ← HQ.out]; omega
      case measure => simp [intOf]; omega
    · have HF := Lib.hid (show (decide (m ≤ 200) && decide (S ≤ 9000)) = true → L.length ≤ 200 ∧ ∀ x ∈ L, x.s.length ≤ 9000 from fun h => by
        simp only [Bool.and_eq_true, decide_eq_true_eq] at h
        have hm2 := HM.out
        have hkm : k = m := by omega
        refine ⟨by omega, fun x hx => ?_⟩
        have h2 := HS.out x (by rw [List.take_of_length_le (by omega)]; exact hx)
        omega)
      by_cases h200 : m ≤ 200
      · obtain rfl : k = m := by omega
        by_cases h9 : S ≤ 9000
        · have d1 : decide ((k : Int) ≤ 200) = true := decide_eq_true (by omega)
          have d2 : decide ((S : Int) ≤ 9000) = true := decide_eq_true (by omega)
          have h3 := HF.out (by simp [h200, h9])
          have H3 := Lib.hid h3
          clear h3
          go_wp2_with fail
          go_ret
          exact ⟨true, rfl, fun _ => H3.out, Below.refl _ _⟩
        · have d1 : decide ((k : Int) ≤ 200) = true := decide_eq_true (by omega)
          have d2 : decide ((S : Int) ≤ 9000) = false := decide_eq_false (by omega)
          go_wp2_with fail
          go_ret
          exact ⟨false, rfl, (fun h => by cases h), Below.refl _ _⟩
      · obtain rfl : k = 201 := by omega
        have d1 : decide ((m : Int) ≤ 200) = false := decide_eq_false (by omega)
        go_wp2_with fail
        all_goals
          go_ret
          exact ⟨false, rfl, (fun h => by cases h), Below.refl _ _⟩

set_option maxRecDepth 100000 in
set_option maxHeartbeats 4000000 in
theorem coreagain_walk (A : Option Addr) (cp : Nat) (N : List Nd) (L : List Addr) (w : World) (hrd : RdL w 5 ndc A N) (hc : N.length ≤ cp) (hm : cp ≤ maxLen) (hA : A = none → cp = 0) (hi : ∀ y ∈ N, NdIn y) (hsz : ∀ y ∈ N, y.s.length ≤ 140737488351232) (hS : SenW w L) :
    Calls Tryd.prog 7 #[.slice A N.length cp] w fun e w' => e = .returned (.bool true) ∧ Below w.heap.size w w' := by
  have FA := Lib.hid (first5_any L w hS)
  have LI := Lib.hid (fun W (hb : Below w.heap.size w W) => light_any A cp N W (hrd.below hb) hc hm hsz)
  have HI := Lib.hid hi
  have HS := Lib.hid hS
  have HV := Lib.hid (show SlRd w (.slice A N.length cp) N from ⟨A, cp, rfl, hrd, hc, hm, hA, trivial⟩)
  obtain ⟨m, hml⟩ : ∃ m, m = N.length := ⟨_, rfl⟩
  rw [← hml] at LI HV ⊢
  have HM := Lib.hid hml
  clear hrd hc hm hA hi hS hml
  go_enter Tryd.func7, Tryd.ntmps7
  go_wp2_with fail
  refine FA.out.mono ?_
  rintro e w1 ⟨rfl, hb⟩
  clear FA
  go_wp2_with fail
  refine (LI.out w1 hb).mono ?_
  rintro e w2 ⟨bl, rfl, hbl, hb2⟩
  replace hb := hb.trans (hb2.mono hb.size)
  clear LI hb2
  cases bl
  · go_wp2_with fail
    go_ret
    exact ⟨rfl, hb⟩
  obtain ⟨h200, hsl⟩ := hbl rfl
  have hnd : ∀ x ∈ N, NdOk x := fun x hx => ⟨by have := hsl x hx; omega, wf_le' (HI.out x hx).2.2.2.1⟩
  have hsv := HV.out.below hb
  have hS2 := HS.out.below hb
  obtain ⟨aN, aT, aM, hE, h9, h1, h10⟩ := hS2.errw
  have CK := Lib.hid (check_v _ N aN aT aM w2 (by omega) hnd hsv hE)
  have H2 := Lib.hid h200
  clear hbl hsl hS2 hE h9 h1 h10 h200
  go_wp2_with fail
  refine CK.out.mono ?_
  rintro e w3 ⟨v3, rfl, hv3, hb3⟩
  have hb23 := hb.trans (hb3.mono hb.size)
  clear CK
  cases hmb : manyB N
  case true =>
    rw [hmb, if_pos rfl] at hv3
    subst hv3
    clear hmb hnd
    go_wp2_with fail
    go_ret
    exact ⟨rfl, hb23⟩
  case false =>
  rw [hmb, if_neg Bool.noConfusion] at hv3
  cases hck : checkP N with
  | some z =>
    obtain ⟨i, nb⟩ := z
    rw [hck] at hv3
    obtain ⟨g, rfl, _⟩ := hv3
    clear hmb hck hnd
    go_wp2_with fail
    go_ret
    exact ⟨rfl, hb23⟩
  | none =>
    rw [hck] at hv3
    obtain rfl : v3 = Value.nilIface := hv3
    have h0 : N.length ≠ 0 := by
      intro h0
      rw [manyB, h0] at hmb
      simp at hmb
    obtain ⟨t, ht1, ht2⟩ := (check_tree N h0).1 hck
    have hdt := depthT_ok 30 false t ht1
    have hdl := depthT_len t
    subst ht2
    have hs3 := HV.out.below hb23
    have hl2 := H2.out
    have AG := Lib.hid (again_any 30 t _ w3 hdt (by omega) (by omega) hs3)
    have SN := Lib.hid (fun v W (hb : Below w3.heap.size w3 W) hv => samenodes_v v (.slice A m cp) (flat t) (flat t) W hv (hs3.below hb) (by omega) (by omega))
    rw [(sameL_iff (flat t) (flat t)).2 rfl] at SN
    have DD := Lib.hid (fun W (hb : Below w3.heap.size w3 W) => depth_any t (.slice A m cp) W (hs3.below hb) (by omega))
    have hm2 := HM.out
    have d1 : decide ((depthT t : Int) ≤ 30) = true := decide_eq_true (by omega)
    have d2 : decide (depthT t ≤ m) = true := decide_eq_true (by omega)
    have d3 : decide (depthT t ≤ 30) = true := decide_eq_true (by omega)
    generalize depthT t = D at *
    clear hmb hck h0 ht1 hdt hdl hl2 hm2 hs3 hsv hnd
    go_wp2_with fail
    refine AG.out.mono ?_
    rintro e w4 ⟨A4, c4, rfl, ho4, hb4⟩
    have s4 := SlRd.of_own ho4 rfl
    have SN4 := Lib.hid (SN.out _ w4 hb4 s4)
    generalize (flat t).length = m4 at *
    clear ho4 s4 SN AG
    go_wp2_with fail
    refine SN4.out.mono ?_
    rintro e w5 ⟨rfl, hb5⟩
    have hb35 := hb4.trans (hb5.mono hb4.size)
    clear SN4
    go_wp2_with fail
    refine (DD.out w5 hb35).mono ?_
    rintro e w6 ⟨rfl, hb6⟩
    have hb36 := hb35.trans (hb6.mono hb35.size)
    go_wp2_with fail
    refine (DD.out w6 hb36).mono ?_
    rintro e w7 ⟨rfl, hb7⟩
    have hb37 := hb36.trans (hb7.mono hb36.size)
    go_wp2_with fail
    go_ret
    exact ⟨rfl, hb23.trans (hb37.mono hb23.size)⟩
theorem coreagain_card (A : Option Addr) (cp : Nat) (N : List Nd) (L : List Addr) (w : World) (hrd : RdL w 5 ndc A N) (hc : N.length ≤ cp) (hm : cp ≤ maxLen) (hA : A = none → cp = 0) (hi : ∀ y ∈ N, NdIn y) (hsz : ∀ y ∈ N, y.s.length ≤ 140737488351232) (hS : SenW w L) :
    Calls Tryd.prog 7 #[.slice A N.length cp] w fun e w' => e = .returned (.bool true) ∧ Below w.heap.size w w' := coreagain_walk A cp N L w hrd hc hm hA hi hsz hS
end Go.Proofs.YtjhgljfmheopmaaDoor
