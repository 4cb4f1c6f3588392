/- The walk over dead.rule at an If; dead.rule as a whole. Bounds on the lengths. -/
import Derived.Test.YtpogngdddendiaaDoorDeadW3
import Derived.Deep.DeepCutAuto
import Derived.Outline
import Derived.Test.YtpogngdddendiaaDoorHH
import Derived.Test.YtpogngdddendiaaDoorHG
import Derived.Test.YtpogngdddendiaaDoorCheckW
set_option linter.unusedVariables false
set_option linter.unusedSimpArgs false
namespace Go.Proofs.YtpogngdddendiaaDoor
open Go.RowKit

theorem own_addrD' {w : World} {base : Nat} {e : TypeId} {sz n c : Nat} {A : Option Addr} {xs : List Value} (h : w.ownsRow base e sz (.slice A n c) n xs) (hn : 0 < n) : ∃ g, A = some ⟨g, 0, none⟩ := by
  rcases h.2 with ⟨he, h0⟩ | ⟨g, cap, cur, he, _⟩
  · omega
  · injection he with he1 _ _
    exact ⟨g, he1⟩
def dKc (ls : List (List Nd)) : TT := ⟨fun v => ∃ g c, v = .slice (some ⟨g, 0, none⟩) ls.length c, ⟨_, 0, 0, rfl⟩, fun v x => ∀ g c, v = .slice (some ⟨g, 0, none⟩) ls.length c → KdRd x (some ⟨g, 0, none⟩) ls, fun _ _ _ h hb g c he => (h g c he).below hb⟩
def dEl (L : List Nd) : TT := ⟨fun v => ∃ g, v = .pointer (some ⟨g, 0, none⟩), ⟨_, 0, rfl⟩, fun v x => ∀ g, v = .pointer (some ⟨g, 0, none⟩) → ∃ A n c, x.cell? ⟨g, 0, none⟩ = some (.slice A n c) ∧ SlRd x (.slice A n c) L,
  fun _ _ _ h hb g he => let ⟨A, n, c, h1, h2⟩ := h g he; ⟨A, n, c, cell_keep hb h1, h2.below hb⟩⟩
def dRd (L : List Nd) : TT := ⟨fun v => ∃ A n c, v = .slice A n c, ⟨_, none, 0, 0, rfl⟩, fun v x => SlRd x v L, fun _ _ _ h hb => h.below hb⟩
def dKd (ls : List (List Nd)) : TT := ⟨fun v => ∃ g, v = .slice (some ⟨g, 0, none⟩) ls.length ls.length, ⟨_, 0, rfl⟩, fun v x => ∀ g, v = .slice (some ⟨g, 0, none⟩) ls.length ls.length → KdRd x (some ⟨g, 0, none⟩) ls, fun _ _ _ h hb g he => (h g he).below hb⟩

set_option maxRecDepth 100000 in
set_option maxHeartbeats 4000000 in
theorem rule24 (lv : Value) (Ak : Option Addr) (ck m B : Nat) (n : Int) (s : List UInt8) (a b c : Tr) (w : World) (hv : SlRd w lv (flat (.mk 24 n s [a, b, c]))) (hk : KdOD w B Ak ([a, b, c].map flat)) (hm : m = 3) (hB : B ≤ w.heap.size)
    (ha : a.kind = 27 → ∃ x, a.kids = [x]) (hz : (flatAll [a, b, c]).length ≤ 4000000) :
    Calls Tryd.prog 135 #[lv, .slice Ak m ck] w (RuleRet (ruleT (.mk 24 n s [a, b, c])) B w) := by
  subst hm
  obtain ⟨Al, nl, cl, rfl⟩ : ∃ Al nl cl, lv = .slice Al nl cl := by obtain ⟨A', c', h, _⟩ := hv; exact ⟨_, _, _, h⟩
  obtain ⟨bl, ol, rfl, hnl, d0⟩ := kind_cell hv
  have HV := Lib.hid hv
  replace d0 : w.cell? ⟨bl, ol, none⟩ = some (.int .i64 24) := d0
  clear hv
  obtain ⟨b0, o0, n0, c0, A0, rfl, _, f0, k0⟩ := (hk).at_ (k := 0) (by simp)
  simp only [List.map_cons, List.map_nil, List.getElem_cons_zero, List.getElem_cons_succ, Nat.add_zero, List.getElem_map] at f0 k0
  obtain ⟨b1, o1, n1, c1, A1, he1, _, f1, k1⟩ := (hk).at_ (k := 1) (by simp)
  simp only [List.map_cons, List.map_nil, List.getElem_cons_zero, List.getElem_cons_succ, Nat.add_zero, List.getElem_map] at f1 k1
  simp only [Option.some.injEq, Addr.mk.injEq, and_true] at he1
  obtain ⟨he1a, he1b⟩ := he1
  subst he1a he1b
  obtain ⟨b2, o2, n2, c2, A2, he2, _, f2, k2⟩ := (hk).at_ (k := 2) (by simp)
  simp only [List.map_cons, List.map_nil, List.getElem_cons_zero, List.getElem_cons_succ, Nat.add_zero, List.getElem_map] at f2 k2
  simp only [Option.some.injEq, Addr.mk.injEq, and_true] at he2
  obtain ⟨he2a, he2b⟩ := he2
  subst he2a he2b
  have K1 := Lib.hid k1
  have hza : (flat a).length + ((flat b).length + (flat c).length) ≤ 4000000 := by
    rw [flatAll_cons, flatAll_cons, flatAll_cons, flatAll_nil, List.append_nil, List.length_append, List.length_append] at hz
    exact hz
  obtain ⟨q, hq⟩ : ∃ q, (a.kind == 20) = q := ⟨_, rfl⟩
  have IS := Lib.hid (is_v _ a 20 w k0.rd)
  have IL : Hid (Calls Tryd.prog 155 #[.slice (some ⟨bl, ol, none⟩) nl cl, .int .i64 24] w fun e w' => e = .returned (.bool true) ∧ w' = w) := is_v _ _ 24 w HV.out
  have IN := Lib.hid (is_v _ a 27 w k0.rd)
  rw [hq] at IS
  cases q
  case true =>
    have HR := Lib.hid (show ruleT (.mk 24 n s [a, b, c]) = some b by simp [ruleT_mk, ruleK, hq])
    clear hk k0 k1 k2 hq ha hz hza
    go_enter Tryd.func135, Tryd.ntmps135
    go_wp2_with fail
    refine IS.out.mono ?_
    rintro e w1 ⟨rfl, rfl⟩
    go_wp2_with fail
    go_ret2
    rw [HR.out]
    exact ⟨_, _, _, rfl, K1.out, Below.refl _ _⟩
  case false =>
  obtain ⟨p, hp⟩ : ∃ p, (a.kind == 27) = p := ⟨_, rfl⟩
  rw [hp] at IN
  cases p
  case false =>
    have HR := Lib.hid (show ruleT (.mk 24 n s [a, b, c]) = none by simp [ruleT_mk, ruleK, hq, hp])
    clear hk k0 k1 k2 hq hp ha hz hza
    go_enter Tryd.func135, Tryd.ntmps135
    go_wp2_with fail
    refine IS.out.mono ?_
    rintro e w1 ⟨rfl, rfl⟩
    go_wp2_with fail
    refine IL.out.mono ?_
    rintro e w1 ⟨rfl, rfl⟩
    go_wp2_with fail
    refine IN.out.mono ?_
    rintro e w1 ⟨rfl, rfl⟩
    go_wp2_with fail
    go_ret2
    rw [HR.out]
    exact ⟨_, rfl, Below.refl _ _⟩
  case true =>
  obtain ⟨x0, hx⟩ := ha (by simpa using hp)
  have HR := Lib.hid (show ruleT (.mk 24 n s [a, b, c]) = some (.mk 24 0 [] [x0, c, b]) by simp [ruleT_mk, ruleK, hq, hp, hx])
  have hfx : (flatAll [x0, c, b]).length ≤ 4000000 := by
    have h1 := flat_kids_le a
    rw [hx, flatAll_cons, flatAll_nil, List.append_nil] at h1
    rw [flatAll_cons, flatAll_cons, flatAll_cons, flatAll_nil, List.append_nil, List.length_append, List.length_append]
    omega
  have KC := Lib.hid (fun W (hb : Below w.heap.size w W) => show Calls Tryd.prog 64 #[.slice A0 n0 c0] W (KidsRet (a.kids.map flat) W) by rw [← kidsL_tree]; exact kids_any _ _ W (k0.rd.below hb) (by omega))
  rw [hx] at KC
  have HFX := Lib.hid hfx
  have HBB := Lib.hid hB
  have s1 := Lib.hid k1.rd
  have s2 := Lib.hid k2.rd
  clear hk k0 k1 k2 hq hp ha hz hza hx hfx
  go_enter Tryd.func135, Tryd.ntmps135
  go_wp2_with fail
  refine IS.out.mono ?_
  rintro e w1 ⟨rfl, rfl⟩
  go_wp2_with fail
  refine IL.out.mono ?_
  rintro e w2 ⟨rfl, rfl⟩
  go_wp2_with fail
  refine IN.out.mono ?_
  rintro e w3 ⟨rfl, rfl⟩
  clear IS IL IN
  go_upto_region 9 with (fail)
  generalize hWW : w3 = W at *
  apply wp_region_rel [eqT _, eqT _, eqT _, dKc [flat x0], dEl (flat x0), dRd (flat x0), eqT _, eqT _, eqT _, eqT _, eqT _, eqT _, dKd [flat x0, flat c, flat b], nodesT W.heap.size (flat (.mk 24 0 [] [x0, c, b])), nodesT W.heap.size (flat (.mk 24 0 [] [x0, c, b])), eqT _] (by kernel_rfl) (by kernel_rfl) rfl
  focus
    refine ⟨?_, ?_⟩
    focus
      unfold opGoal
      rw [if_pos (by kernel_rfl)]
      intro x hb hd K hk
      clear hd
      go_wp2_with fail
      exact hk _ _ rfl trivial (Below.refl _ _)
    rintro _ rfl
    simp only [Act.put, List.setIfInBounds_toArray, List.set_cons_succ, List.set_cons_zero]
    refine ⟨?_, ?_⟩
    focus
      unfold opGoal
      rw [if_pos (by kernel_rfl)]
      intro x hb hd K hk
      clear hd
      go_wp2_with fail
      exact hk _ _ rfl trivial (Below.refl _ _)
    rintro _ rfl
    simp only [Act.put, List.setIfInBounds_toArray, List.set_cons_succ, List.set_cons_zero]
    refine ⟨?_, ?_⟩
    focus
      unfold opGoal
      rw [if_pos (by kernel_rfl)]
      intro x hb hd K hk
      clear hd
      have l0 := cell_keep hb f0
      go_wp2_with fail
      exact hk _ _ rfl trivial (Below.refl _ _)
    rintro _ rfl
    simp only [Act.put, List.setIfInBounds_toArray, List.set_cons_succ, List.set_cons_zero]
    refine ⟨?_, ?_⟩
    focus
      unfold opGoal
      rw [if_pos (by kernel_rfl)]
      intro x hb hd K hk
      clear hd
      have HKX := Lib.hid (KC.out x hb)
      go_wp2_with fail
      refine HKX.out.mono ?_
      rintro e9 w9 ⟨A9, c9, vs9, rfl, ho9, hl9, hb9⟩
      obtain ⟨g9, rfl⟩ := own_addrD' ho9 (by simp)
      exact hk _ _ ⟨g9, c9, rfl⟩ (fun g' c' he => by
        injection he with he1 he2 he3
        injection he1 with he1
        injection he1 with he1
        subst he1
        exact KdRd.of_own ho9 rfl hl9) hb9
    rintro _ ⟨g3, c3, rfl⟩
    simp only [Act.put, List.setIfInBounds_toArray, List.set_cons_succ, List.set_cons_zero]
    refine ⟨?_, ?_⟩
    focus
      unfold opGoal
      rw [if_pos (by kernel_rfl)]
      intro x hb hd K hk
      have d1 := hd _ (List.mem_cons_self ..) rfl _ _ rfl rfl
      have hkr := d1 g3 c3 rfl
      obtain ⟨bx, ox, vx, he, _, hcx, hsx⟩ := hkr.at_ (k := 0) (by simp)
      simp only [Option.some.injEq, Addr.mk.injEq, and_true] at he
      obtain ⟨he1, he2⟩ := he
      subst he1 he2
      simp only [List.getElem_cons_zero, Nat.add_zero] at hcx hsx
      have HCX := Lib.hid hcx
      have HSX := Lib.hid hsx
      clear hd d1 hkr hcx hsx
      go_wp2_with fail
      refine hk _ _ ⟨_, rfl⟩ (fun g' he => ?_) (Below.refl _ _)
      injection he with he1
      injection he1 with he1
      injection he1 with he1
      subst he1
      have hs := HSX.out
      have hc := HCX.out
      obtain ⟨A', c', rfl, _⟩ := id hs
      exact ⟨_, _, _, hc, hs⟩
    rintro _ ⟨g4, rfl⟩
    simp only [Act.put, List.setIfInBounds_toArray, List.set_cons_succ, List.set_cons_zero]
    refine ⟨?_, ?_⟩
    focus
      unfold opGoal
      rw [if_pos (by kernel_rfl)]
      intro x hb hd K hk
      have d1 := hd _ (List.mem_cons_self ..) rfl _ _ rfl rfl
      obtain ⟨Ax, nx, cx, hcx, hsx⟩ := d1 g4 rfl
      have HSX := Lib.hid hsx
      clear hd d1 hsx
      go_wp2_with fail
      exact hk _ _ ⟨_, _, _, rfl⟩ HSX.out (Below.refl _ _)
    rintro _ ⟨A5, n5, c5, rfl⟩
    simp only [Act.put, List.setIfInBounds_toArray, List.set_cons_succ, List.set_cons_zero]
    refine ⟨?_, ?_⟩
    focus
      unfold opGoal
      rw [if_pos (by kernel_rfl)]
      intro x hb hd K hk
      clear hd
      go_wp2_with fail
      exact hk _ _ rfl trivial (Below.refl _ _)
    rintro _ rfl
    simp only [Act.put, List.setIfInBounds_toArray, List.set_cons_succ, List.set_cons_zero]
    refine ⟨?_, ?_⟩
    focus
      unfold opGoal
      rw [if_pos (by kernel_rfl)]
      intro x hb hd K hk
      clear hd
      go_wp2_with fail
      exact hk _ _ rfl trivial (Below.refl _ _)
    rintro _ rfl
    simp only [Act.put, List.setIfInBounds_toArray, List.set_cons_succ, List.set_cons_zero]
    refine ⟨?_, ?_⟩
    focus
      unfold opGoal
      rw [if_pos (by kernel_rfl)]
      intro x hb hd K hk
      clear hd
      have l0 := cell_keep hb f2
      go_wp2_with fail
      exact hk _ _ rfl trivial (Below.refl _ _)
    rintro _ rfl
    simp only [Act.put, List.setIfInBounds_toArray, List.set_cons_succ, List.set_cons_zero]
    refine ⟨?_, ?_⟩
    focus
      unfold opGoal
      rw [if_pos (by kernel_rfl)]
      intro x hb hd K hk
      clear hd
      go_wp2_with fail
      exact hk _ _ rfl trivial (Below.refl _ _)
    rintro _ rfl
    simp only [Act.put, List.setIfInBounds_toArray, List.set_cons_succ, List.set_cons_zero]
    refine ⟨?_, ?_⟩
    focus
      unfold opGoal
      rw [if_pos (by kernel_rfl)]
      intro x hb hd K hk
      clear hd
      go_wp2_with fail
      exact hk _ _ rfl trivial (Below.refl _ _)
    rintro _ rfl
    simp only [Act.put, List.setIfInBounds_toArray, List.set_cons_succ, List.set_cons_zero]
    refine ⟨?_, ?_⟩
    focus
      unfold opGoal
      rw [if_pos (by kernel_rfl)]
      intro x hb hd K hk
      clear hd
      have l0 := cell_keep hb f1
      go_wp2_with fail
      exact hk _ _ rfl trivial (Below.refl _ _)
    rintro _ rfl
    simp only [Act.put, List.setIfInBounds_toArray, List.set_cons_succ, List.set_cons_zero]
    refine ⟨?_, ?_⟩
    focus
      unfold opGoal
      rw [if_pos (by kernel_rfl)]
      intro x hb hd K hk
      have d1 := hd _ (List.mem_cons_self ..) rfl _ _ rfl rfl
      have L2 := Lib.hid (KdRd.lit (vs := #[_, _, _]) (AllRd.three d1 (s2.out.below hb) (s1.out.below hb)))
      clear hd d1
      go_wp2_with fail
      refine hk _ _ ⟨_, rfl⟩ (fun g hg => ?_) ((Below.refl _ _).alloc (Nat.le_refl _) _)
      injection hg with hg _ _
      injection hg with hg
      injection hg with hg
      subst hg
      exact L2.out
    rintro _ ⟨g12, rfl⟩
    simp only [Act.put, List.setIfInBounds_toArray, List.set_cons_succ, List.set_cons_zero]
    refine ⟨?_, ?_⟩
    focus
      unfold opGoal
      rw [if_pos (by kernel_rfl)]
      intro x hb hd K hk
      have d1 := hd _ (List.mem_cons_self ..) rfl _ _ rfl rfl
      have K2 := Lib.hid (d1 _ rfl)
      clear hd d1
      go_wp2_with fail
      refine (newT_any 24 0 [] _ 3 3 [x0, c, b] x K2.out rfl HFX.out).mono ?_
      rintro e9 w9 ⟨A9, n9, c9, rfl, hv, hb9⟩
      exact hk _ _ ⟨_, _, _, rfl⟩ (hv.mono hb.size) hb9
    rintro _ ⟨A13, n13, c13, rfl⟩
    simp only [Act.put, List.setIfInBounds_toArray, List.set_cons_succ, List.set_cons_zero]
    refine ⟨?_, ?_⟩
    focus
      unfold opGoal
      rw [if_pos (by kernel_rfl)]
      intro x hb hd K hk
      have hv := hd _ (List.mem_cons_self ..) rfl _ _ rfl rfl
      clear hd
      go_wp2_with fail
      exact hk _ _ ⟨_, _, _, rfl⟩ hv (Below.refl _ _)
    rintro _ ⟨A14, n14, c14, rfl⟩
    simp only [Act.put, List.setIfInBounds_toArray, List.set_cons_succ, List.set_cons_zero]
    refine ⟨?_, ?_⟩
    focus
      unfold opGoal
      rw [if_pos (by kernel_rfl)]
      intro x hb hd K hk
      clear hd
      go_wp2_with fail
      exact hk _ _ rfl trivial (Below.refl _ _)
    rintro _ rfl
    simp only [Act.put, List.setIfInBounds_toArray, List.set_cons_succ, List.set_cons_zero]
    intro x hbx hf
    have hv : OwnNd x W.heap.size (.slice A14 n14 c14) (flat (.mk 24 0 [] [x0, c, b])) := hf 14 _ _ rfl rfl
    have HV2 := Lib.hid (hv.mono HBB.out)
    clear hf hv
    go_wp2_with fail
    go_ret2
    rw [HR.out]
    exact ⟨_, _, _, rfl, HV2.out, hbx⟩
end Go.Proofs.YtpogngdddendiaaDoor

/- The walks over fuse.whole, fuse.Pass, fuse.Pipes. Bounds on the lengths. -/
set_option linter.unusedVariables false
set_option linter.unusedSimpArgs false
namespace Go.Proofs.YtpogngdddendiaaDoor
open Go.RowKit

set_option maxRecDepth 100000 in
set_option maxHeartbeats 4000000 in
theorem fwhole_any : ∀ (N : Nat) (t : Tr) (v : Value) (w : World), (flat t).length ≤ N → N ≤ 4000000 → SlRd w v (flat t) → Calls Tryd.prog 114 #[v] w (NodesRet (flat (fuseT t)) w) := by
  intro N
  induction N with
  | zero => intro t v w h _ _; have := flat_pos t; omega
  | succ N ih =>
  intro t v w hN hN2 hv
  cases t with
  | mk kd n s ks =>
  rw [flat_size] at hN
  have hlk := len_flatAll ks
  obtain ⟨i0, hi, hz0, hz1, hz2⟩ := info_parts infoNodes
  have KC := Lib.hid (show ∀ W, SlRd W v (flat (.mk kd n s ks)) → Calls Tryd.prog 64 #[v] W (KidsRet (ks.map flat) W) from fun W h => by
    rw [← kidsL_flat kd n s ks]
    exact kids_any v _ W h (by rw [flat_size]; omega))
  have HV := Lib.hid hv
  obtain ⟨A, cp, rfl, hrd, hc, hm, hA, hsp⟩ := hv
  have h0 : 0 < (flat (.mk kd n s ks)).length := flat_pos _
  obtain ⟨b, o, rfl, hbl⟩ := hrd.addr h0
  have hx := hrd.at_ h0
  have hhead : (flat (.mk kd n s ks))[0] = ⟨kd, n, ks.length, ((1 + (flatAll ks).length : Nat) : Int), s⟩ := by simp [flat_mk]
  rw [hhead] at hx
  have c0 := hx.2 0 _ rfl
  have c1 := hx.2 1 _ rfl
  have c4 := hx.2 4 _ rfl
  simp only [Nat.zero_mul, Nat.add_zero] at c0 c1 c4
  clear hx hhead
  obtain ⟨m, hml⟩ : ∃ m, m = (flat (.mk kd n s ks)).length := ⟨_, rfl⟩
  rw [← hml] at KC hc h0 ⊢
  have HM := Lib.hid hml
  clear hml hrd hA hsp hm
  have HIH := Lib.hid ih
  clear ih
  go_enter Tryd.func114, Tryd.ntmps114
  go_wp2_with fail
  refine (KC.out _ (by rw [← HM.out] at HV; exact HV.out)).mono ?_
  rintro e w1 ⟨A1, cp1, vs, rfl, hown1, hall1, hb1⟩
  have hkr := KdRd.of_own hown1 rfl hall1
  rw [List.length_map] at hown1 ⊢
  clear hown1 hall1
  have c0' := cell_keep hb1 c0
  go_wp2_with fail
  go_loopw [3, 9] (fun u j wr => ∃ (k : Nat) (A' : Option Addr) (c' : Nat) (us : List Value), k ≤ ks.length ∧ j = .int .i64 k ∧ u = .slice A' (fuseTs kd (ks.take k)).length c' ∧
      wr.ownsRow w1.heap.size 22 1 (.slice A' (fuseTs kd (ks.take k)).length c') (fuseTs kd (ks.take k)).length us ∧ OwnAll wr w1.heap.size us ((fuseTs kd (ks.take k)).map flat) ∧ Below w1.heap.size w1 wr) (fun _ j _ => ks.length - (intOf j).toNat)
  case atStart => exact ⟨0, none, 0, [], Nat.zero_le _, rfl, by rw [List.take_zero, fuseTs_nil]; rfl, by rw [List.take_zero, fuseTs_nil]; exact World.ownsRow_nil _ _ _ _, by rw [List.take_zero, fuseTs_nil]; exact OwnAll.nil _ _, Below.refl _ _⟩
  case round =>
    obtain ⟨k, A', c', us, hk, rfl, rfl, hown, hall, hb⟩ := hrel
    have hdl : (fuseTs kd (ks.take k)).length ≤ (flatAll ks).length := by
      have h1 := len_flatAll (fuseTs kd (ks.take k))
      have h2 := fuseTs_le kd (ks.take k)
      have h3 := flatAll_take_le ks k
      omega
    by_cases hlt : k < ks.length
    · obtain ⟨bk, ok, vk, rfl, hbk, hck, hsk⟩ := (hkr.below hb).at_ (k := k) (by simpa using hlt)
      simp only [List.getElem_map] at hsk
      have hle := flatAll_mem_le ks k hlt
      have HT := Lib.hid (fuse_take kd ks k hlt)
      obtain ⟨t, ht⟩ : ∃ t, t = ks[k] := ⟨_, rfl⟩
      rw [← ht] at hsk hle HT
      have IH := Lib.hid (HIH.out t vk wr (by omega) (by omega) hsk)
      obtain ⟨done, hdone⟩ : ∃ done, done = fuseTs kd (ks.take k) := ⟨_, rfl⟩
      rw [← hdone] at hown hall hdl HT ⊢
      clear ht hdone hsk
      go_wp2_with fail
      refine IH.out.mono ?_
      rintro e w2 ⟨A2, c2, rfl, ho2, hb2⟩
      have hs2 := SlRd.of_own ho2 rfl
      have hb12 := hb.trans (hb2.mono hb.size)
      have hown2 := own_below hown hb2
      have hall2 := hall.below hb2
      have hc0k := cell_keep hb12 c0'
      have hpos := flat_pos (fuseT t)
      have hle2 := fuseT_le t
      obtain ⟨g2, o2, rfl, hg2⟩ := (show RdL w2 5 ndc A2 (flat (fuseT t)) by obtain ⟨A3, c3, he, hr, _⟩ := hs2; injection he with he _ _; subst he; exact hr).addr hpos
      have hk0 : w2.cell? ⟨g2, o2, none⟩ = some (.int .i64 t.kind) := by
        obtain ⟨A3, c3, he, hr, _⟩ := hs2
        injection he with he _ _
        subst he
        have := (hr.at_ hpos).2 0 _ rfl
        rw [flat_get0] at this
        simp only [fuse_kind, Nat.zero_mul, Nat.add_zero] at this
        exact this
      have HNK := Lib.hid (show (flat (fuseT t)).length ≤ 4000000 by omega)
      have KC2 := Lib.hid (show Calls Tryd.prog 64 #[.slice (some ⟨g2, o2, none⟩) (flat (fuseT t)).length c2] w2 (KidsRet ((fuseT t).kids.map flat) w2) by
        rw [← kidsL_tree]
        exact kids_any _ _ w2 hs2 HNK.out)
      have hkl : (fuseT t).kids.length + 1 ≤ (flat (fuseT t)).length := by
        have h1 := len_flatAll (fuseT t).kids
        have h2 := flat_kids_le (fuseT t)
        omega
      rw [fuse_kind] at HT
      have HL2 := Lib.hid (show OwnAll w2 w.heap.size [.slice (some ⟨g2, o2, none⟩) (flat (fuseT t)).length c2] [flat (fuseT t)] from OwnAll.one (own_mono ho2 (Nat.le_trans hb1.size hb.size)))
      have HL3 := Lib.hid (show OwnAll w2 w1.heap.size [.slice (some ⟨g2, o2, none⟩) (flat (fuseT t)).length c2] [flat (fuseT t)] from OwnAll.one (own_mono ho2 hb.size))
      clear ho2 hs2 hck hkr
      generalize (flat (fuseT t)).length = m2 at *
      cases hkd : (kd == 32)
      · go_wp2_with (at_builtin; refine wpList_push rfl _ _ _ rfl Tryd.underlying110 hi hz0 hz1 hz2 rfl (by decide) hown2 rfl rfl rfl (by simp [Value.oneCell']) (by omega) (by decide) hb12.size ?_; intro A4 c4' w4 hown4 hb4 hoo4)
        go_roundw
        case rel =>
          rw [hkd] at HT
          have hT := HT.out
          simp only [Bool.false_and, if_false, Bool.false_eq_true] at hT
          refine ⟨k + 1, A4, c4', us ++ [.slice (some ⟨g2, o2, none⟩) m2 c2], by omega, by go_num, by rw [hT]; simp, by rw [hT]; simpa using hown4, ?_, hb12.trans hb4⟩
          rw [hT, List.map_append]
          exact (hall2.others hoo4 (by decide)).append (HL3.out.others hoo4 (by decide))
        case measure => simp [intOf]; omega
      · cases hkt : (t.kind == 32)
        · go_wp2_with (at_builtin; refine wpList_push rfl _ _ _ rfl Tryd.underlying110 hi hz0 hz1 hz2 rfl (by decide) hown2 rfl rfl rfl (by simp [Value.oneCell']) (by omega) (by decide) hb12.size ?_; intro A4 c4' w4 hown4 hb4 hoo4)
          go_roundw
          case rel =>
            rw [hkd, hkt] at HT
            have hT := HT.out
            simp only [Bool.and_false, if_false, Bool.false_eq_true] at hT
            refine ⟨k + 1, A4, c4', us ++ [.slice (some ⟨g2, o2, none⟩) m2 c2], by omega, by go_num, by rw [hT]; simp, by rw [hT]; simpa using hown4, ?_, hb12.trans hb4⟩
            rw [hT, List.map_append]
            exact (hall2.others hoo4 (by decide)).append (HL3.out.others hoo4 (by decide))
          case measure => simp [intOf]; omega
        · go_wp2_with fail
          refine KC2.out.mono ?_
          rintro e w5 ⟨A5, c5, vs5, rfl, ho5, hl5, hb5⟩
          have hl5n : ((fuseT t).kids.map flat).length = vs5.length := hl5.1.symm
          obtain ⟨hr5, hA5, hsp5⟩ := rd_one ho5 hl5n
          have hcell5 := hl5.cells
          have hkl5 : vs5.length + 1 ≤ m2 := by rw [hl5.1, List.length_map]; exact hkl
          have hown5 := own_below hown2 hb5
          have hall5 := hall2.below hb5
          have hb15 := hb12.trans (hb5.mono hb12.size)
          have H5 := Lib.hid (show OwnAll w5 w1.heap.size vs5 ((fuseT t).kids.map flat) from hl5.mono hb12.size)
          rw [hl5n]
          rw [hl5n] at ho5
          have HLN := Lib.hid hl5n
          have HC5 := Lib.hid (show ∀ y, y ∈ vs5 → ∀ u ∈ one1 y, u.oneCell' = true from fun y hy u hu => by simp [one1] at hu; subst hu; exact hcell5 _ hy)
          clear hl5n hl5 hcell5
          go_wp2_with (at_builtin; refine wpList_pushMem (enc := one1) rfl _ _ _ rfl Tryd.underlying110 hi hz0 hz1 hz2 rfl (by decide) hown5 rfl rfl rfl hr5 hA5 hsp5 one1_len HC5.out (by omega) (by decide) hb15.size ?_; intro A4 c4' w4 hown4 hb4 hoo4)
          go_roundw
          case rel =>
            rw [hkd, hkt] at HT
            have hT := HT.out
            simp only [Bool.and_true, if_true] at hT
            have hTl : (fuseTs kd (ks.take (k + 1))).length = done.length + vs5.length := by rw [hT, List.length_append, ← HLN.out, List.length_map]
            rw [one1_flat] at hown4
            refine ⟨k + 1, A4, c4', us ++ vs5, by omega, by go_num, by rw [hTl], by rw [hTl]; exact hown4, ?_, hb15.trans hb4⟩
            rw [hT, List.map_append]
            exact (hall5.others hoo4 (by decide)).append (H5.out.others hoo4 (by decide))
          case measure => simp [intOf]; omega
    · obtain rfl : k = ks.length := by omega
      rw [List.take_length] at hown hall hdl ⊢
      have hlf := fuseTs_le kd ks
      obtain ⟨done, hdone⟩ : ∃ done, done = fuseTs kd ks := ⟨_, rfl⟩
      have HR := Lib.hid (show newL kd n s (done.map flat) = flat (fuseT (.mk kd n s ks)) by rw [fuseT_mk, ← newL_flat, hdone])
      rw [← hdone] at hown hall hdl hlf ⊢
      have hkd := KdRd.of_own hown (by simp) hall
      have hbw := hb1.trans (hb.mono hb1.size)
      have NW := Lib.hid (show ∀ W, KdRd W A' (done.map flat) → Calls Tryd.prog 45 #[.int .i64 kd, .int .i64 n, .string ⟨s.toArray⟩, .slice A' done.length c'] W (NodesRet (flat (fuseT (.mk kd n s ks))) W) from fun W h => by
        have h2 := new_any kd n s A' c' (done.map flat) W h (by rw [List.length_map]; omega) (by rw [flatAll_flatten]; omega)
        rw [HR.out, List.length_map] at h2
        exact h2)
      have w0 := cell_keep hbw c0
      have w1' := cell_keep hbw c1
      have w4 := cell_keep hbw c4
      clear c0 c1 c4 c0' hown hall hkr hdone hlf hlt
      go_upto_region 10 with (fail)
      go_cut [2] (fun v wx => OwnNd wx wr.heap.size v (flat (fuseT (.mk kd n s ks))) ∧ Below wr.heap.size wr wx)
      case first =>
        apply wp_region_rel [eqT _, eqT _, eqT _, eqT _, eqT _, eqT _, eqT _, eqT _, eqT _, eqT _, eqT _, eqT _, eqT _, nodesT wr.heap.size (flat (fuseT (.mk kd n s ks))), nodesT wr.heap.size (flat (fuseT (.mk kd n s ks)))] (by kernel_rfl) (by kernel_rfl) rfl
        focus
          refine ⟨?_, ?_⟩
          focus
            unfold opGoal
            rw [if_pos (by kernel_rfl)]
            intro x hb hd K hk
            clear hd
            go_wp2_with fail
            exact hk _ _ rfl trivial (Below.refl _ _)
          rintro _ rfl
          simp only [Act.put, List.setIfInBounds_toArray, List.set_cons_succ, List.set_cons_zero]
          refine ⟨?_, ?_⟩
          focus
            unfold opGoal
            rw [if_pos (by kernel_rfl)]
            intro x hb hd K hk
            clear hd
            go_wp2_with fail
            exact hk _ _ rfl trivial (Below.refl _ _)
          rintro _ rfl
          simp only [Act.put, List.setIfInBounds_toArray, List.set_cons_succ, List.set_cons_zero]
          refine ⟨?_, ?_⟩
          focus
            unfold opGoal
            rw [if_pos (by kernel_rfl)]
            intro x hb hd K hk
            clear hd
            go_wp2_with fail
            exact hk _ _ rfl trivial (Below.refl _ _)
          rintro _ rfl
          simp only [Act.put, List.setIfInBounds_toArray, List.set_cons_succ, List.set_cons_zero]
          refine ⟨?_, ?_⟩
          focus
            unfold opGoal
            rw [if_pos (by kernel_rfl)]
            intro x hb hd K hk
            clear hd
            have l0 := cell_keep hb w0
            go_wp2_with fail
            exact hk _ _ rfl trivial (Below.refl _ _)
          rintro _ rfl
          simp only [Act.put, List.setIfInBounds_toArray, List.set_cons_succ, List.set_cons_zero]
          refine ⟨?_, ?_⟩
          focus
            unfold opGoal
            rw [if_pos (by kernel_rfl)]
            intro x hb hd K hk
            clear hd
            go_wp2_with fail
            exact hk _ _ rfl trivial (Below.refl _ _)
          rintro _ rfl
          simp only [Act.put, List.setIfInBounds_toArray, List.set_cons_succ, List.set_cons_zero]
          refine ⟨?_, ?_⟩
          focus
            unfold opGoal
            rw [if_pos (by kernel_rfl)]
            intro x hb hd K hk
            clear hd
            go_wp2_with fail
            exact hk _ _ rfl trivial (Below.refl _ _)
          rintro _ rfl
          simp only [Act.put, List.setIfInBounds_toArray, List.set_cons_succ, List.set_cons_zero]
          refine ⟨?_, ?_⟩
          focus
            unfold opGoal
            rw [if_pos (by kernel_rfl)]
            intro x hb hd K hk
            clear hd
            go_wp2_with fail
            exact hk _ _ rfl trivial (Below.refl _ _)
          rintro _ rfl
          simp only [Act.put, List.setIfInBounds_toArray, List.set_cons_succ, List.set_cons_zero]
          refine ⟨?_, ?_⟩
          focus
            unfold opGoal
            rw [if_pos (by kernel_rfl)]
            intro x hb hd K hk
            clear hd
            have l0 := cell_keep hb w1'
            go_wp2_with fail
            exact hk _ _ rfl trivial (Below.refl _ _)
          rintro _ rfl
          simp only [Act.put, List.setIfInBounds_toArray, List.set_cons_succ, List.set_cons_zero]
          refine ⟨?_, ?_⟩
          focus
            unfold opGoal
            rw [if_pos (by kernel_rfl)]
            intro x hb hd K hk
            clear hd
            go_wp2_with fail
            exact hk _ _ rfl trivial (Below.refl _ _)
          rintro _ rfl
          simp only [Act.put, List.setIfInBounds_toArray, List.set_cons_succ, List.set_cons_zero]
          refine ⟨?_, ?_⟩
          focus
            unfold opGoal
            rw [if_pos (by kernel_rfl)]
            intro x hb hd K hk
            clear hd
            go_wp2_with fail
            exact hk _ _ rfl trivial (Below.refl _ _)
          rintro _ rfl
          simp only [Act.put, List.setIfInBounds_toArray, List.set_cons_succ, List.set_cons_zero]
          refine ⟨?_, ?_⟩
          focus
            unfold opGoal
            rw [if_pos (by kernel_rfl)]
            intro x hb hd K hk
            clear hd
            go_wp2_with fail
            exact hk _ _ rfl trivial (Below.refl _ _)
          rintro _ rfl
          simp only [Act.put, List.setIfInBounds_toArray, List.set_cons_succ, List.set_cons_zero]
          refine ⟨?_, ?_⟩
          focus
            unfold opGoal
            rw [if_pos (by kernel_rfl)]
            intro x hb hd K hk
            clear hd
            have l0 := cell_keep hb w4
            go_wp2_with fail
            exact hk _ _ rfl trivial (Below.refl _ _)
          rintro _ rfl
          simp only [Act.put, List.setIfInBounds_toArray, List.set_cons_succ, List.set_cons_zero]
          refine ⟨?_, ?_⟩
          focus
            unfold opGoal
            rw [if_pos (by kernel_rfl)]
            intro x hb hd K hk
            clear hd
            go_wp2_with fail
            exact hk _ _ rfl trivial (Below.refl _ _)
          rintro _ rfl
          simp only [Act.put, List.setIfInBounds_toArray, List.set_cons_succ, List.set_cons_zero]
          refine ⟨?_, ?_⟩
          focus
            unfold opGoal
            rw [if_pos (by kernel_rfl)]
            intro x hb hd K hk
            clear hd
            go_wp2_with fail
            refine (NW.out x (hkd.below hb)).mono ?_
            rintro e9 w9 ⟨A9, c9, rfl, hv, hb9⟩
            exact hk _ _ ⟨_, _, _, rfl⟩ ⟨A9, c9, rfl, own_mono hv hb.size⟩ hb9
          rintro _ ⟨A8, n8, c8, rfl⟩
          simp only [Act.put, List.setIfInBounds_toArray, List.set_cons_succ, List.set_cons_zero]
          refine ⟨?_, ?_⟩
          focus
            unfold opGoal
            rw [if_pos (by kernel_rfl)]
            intro x hb hd K hk
            have hv := hd _ (List.mem_cons_self ..) rfl _ _ rfl rfl
            clear hd
            go_wp2_with fail
            exact hk _ _ ⟨_, _, _, rfl⟩ hv (Below.refl _ _)
          rintro _ ⟨A7, n7, c7, rfl⟩
          simp only [Act.put, List.setIfInBounds_toArray, List.set_cons_succ, List.set_cons_zero]
          intro x hb hall
          have hv : OwnNd x wr.heap.size (.slice A7 n7 c7) (flat (fuseT (.mk kd n s ks))) := hall 14 _ _ rfl rfl
          clear hall
          go_wp2_with fail
          go_meet
          exact ⟨hv, hb⟩
      case rest =>
      obtain ⟨⟨A9, c9, rfl, hv⟩, hbx⟩ := hcut
      go_wp2_with fail
      go_ret
      exact ⟨A9, c9, rfl, own_mono hv hbw.size, hbw.trans (hbx.mono hbw.size)⟩
end Go.Proofs.YtpogngdddendiaaDoor

/- The walk over fuse.Pass: what it answers is a function of the nodes alone, in memory of its own. Bounds on the lengths. -/
set_option linter.unusedVariables false
set_option linter.unusedSimpArgs false
namespace Go.Proofs.YtpogngdddendiaaDoor
open Go.RowKit

open Classical in
/-- The passed program. -/
noncomputable def fpassL (L : List Nd) : List Nd := if h : manyB L = false ∧ ∃ t, okT 30 false t = true ∧ flat t = L then flat (fuseT h.2.choose) else L
theorem fpassL_tree {t : Tr} (hok : okT 30 false t = true) (hn : (flat t).length ≤ 3000) : fpassL (flat t) = flat (fuseT t) := by
  have hm : manyB (flat t) = false := by
    have := flat_pos t
    simp only [manyB, Bool.or_eq_false_iff, beq_eq_false_iff_ne, decide_eq_false_iff_not]
    omega
  unfold fpassL
  have h : manyB (flat t) = false ∧ ∃ t', okT 30 false t' = true ∧ flat t' = flat t := ⟨hm, t, hok, rfl⟩
  rw [dif_pos h, flat_inj _ h.2.choose t (Nat.le_refl _) h.2.choose_spec.2]
theorem fpassL_bad {L : List Nd} (h : manyB L = true ∨ checkP L ≠ none) : fpassL L = L := by
  unfold fpassL
  rw [dif_neg]
  rintro ⟨h1, h2⟩
  rcases h with h | h
  · rw [h] at h1; cases h1
  · refine h ((check_tree L ?_).2 h2)
    intro h0
    rw [manyB, h0] at h1
    simp at h1

theorem fpassL_len (L : List Nd) : (fpassL L).length ≤ L.length := by
  unfold fpassL
  split
  · rename_i h
    have h1 := fuseT_le h.2.choose
    rw [h.2.choose_spec.2] at h1
    exact h1
  · exact Nat.le_refl _

set_option maxHeartbeats 1000000 in
theorem fpass_any (v : Value) (L : List Nd) (aN aT aM : Addr) (w : World) (hL : L.length ≤ 4000000) (hok : ∀ x ∈ L, NdOk x) (hv : SlRd w v L) (hE : ErrW w aN aT aM) :
    Calls Tryd.prog 85 #[v] w (NodesRet (fpassL L) w) := by
  have HB := Lib.hid (fun h => fpassL_bad (L := L) h)
  have HV := Lib.hid hv
  have HCL := Lib.hid (fun W h => clone_any v L W h hL)
  have HCK := Lib.hid (show Calls Tryd.prog 9 #[v] w (CheckRet L aN aT aM w) by
    obtain ⟨A, c, rfl, hrd, _⟩ := hv
    exact check_any A c L aN aT aM w hL hok hrd hE)
  clear hv
  go_enter Tryd.func85, Tryd.ntmps85
  go_wp2_with fail
  refine HCK.out.mono ?_
  rintro e w1 ⟨v1, rfl, hv1, hb1⟩
  have HV1 := Lib.hid (HV.out.below hb1)
  cases hm : manyB L
  case true =>
    rw [hm, if_pos rfl] at hv1
    subst hv1
    have HF := Lib.hid (HB.out (.inl hm))
    clear hm
    go_wp2_with fail
    refine (HCL.out _ HV1.out).mono ?_
    rintro e w2 ⟨A2, c2, rfl, ho2, hb2⟩
    go_wp2_with fail
    go_ret
    exact ⟨A2, c2, ret_slice (by rw [HF.out]), by rw [HF.out]; exact own_mono ho2 hb1.size, hb1.trans (hb2.mono hb1.size)⟩
  case false =>
  rw [hm, if_neg Bool.noConfusion] at hv1
  cases hc : checkP L with
  | some z =>
    obtain ⟨i, nb⟩ := z
    rw [hc] at hv1
    obtain ⟨g, rfl, _⟩ := hv1
    have HF := Lib.hid (HB.out (.inr (by rw [hc]; simp)))
    clear hm hc
    go_wp2_with fail
    refine (HCL.out _ HV1.out).mono ?_
    rintro e w2 ⟨A2, c2, rfl, ho2, hb2⟩
    go_wp2_with fail
    go_ret
    exact ⟨A2, c2, ret_slice (by rw [HF.out]), by rw [HF.out]; exact own_mono ho2 hb1.size, hb1.trans (hb2.mono hb1.size)⟩
  | none =>
    rw [hc] at hv1
    obtain rfl : v1 = Value.nilIface := hv1
    obtain ⟨h0, h3⟩ : L.length ≠ 0 ∧ L.length ≤ 3000 := by
      simp only [manyB, Bool.or_eq_false_iff, beq_eq_false_iff_ne, decide_eq_false_iff_not] at hm
      omega
    obtain ⟨t, ht1, ht2⟩ := (check_tree L h0).1 hc
    have HF := Lib.hid (show fpassL L = flat (fuseT t) by rw [← ht2]; exact fpassL_tree ht1 (by rw [ht2]; exact h3))
    have HW := Lib.hid (show Calls Tryd.prog 114 #[v] w1 (NodesRet (flat (fuseT t)) w1) from fwhole_any 3000 t v w1 (by rw [ht2]; exact h3) (by decide) (by rw [ht2]; exact HV1.out))
    clear hm hc ht1 ht2 h0 h3
    go_wp2_with fail
    refine HW.out.mono ?_
    rintro e w2 ⟨A2, c2, rfl, ho2, hb2⟩
    go_wp2_with fail
    go_ret
    exact ⟨A2, c2, ret_slice (by rw [HF.out]), by rw [HF.out]; exact own_mono ho2 hb1.size, hb1.trans (hb2.mono hb1.size)⟩
end Go.Proofs.YtpogngdddendiaaDoor
