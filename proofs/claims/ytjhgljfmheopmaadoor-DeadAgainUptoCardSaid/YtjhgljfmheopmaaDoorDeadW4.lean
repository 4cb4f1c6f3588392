/- The walk over dead.rule at an If; dead.rule as a whole. Bounds on the lengths. -/
import Derived.Test.YtjhgljfmheopmaaDoorDeadW3
import Derived.Deep.DeepCutAuto
import Derived.Outline
set_option linter.unusedVariables false
set_option linter.unusedSimpArgs false
namespace Go.Proofs.YtjhgljfmheopmaaDoor
open Go.RowKit

theorem own_addr' {w : World} {base : Nat} {e : TypeId} {sz n c : Nat} {A : Option Addr} {xs : List Value} (h : w.ownsRow base e sz (.slice A n c) n xs) (hn : 0 < n) : ∃ g, A = some ⟨g, 0, none⟩ := by
  rcases h.2 with ⟨he, h0⟩ | ⟨g, cap, cur, he, _⟩
  · omega
  · injection he with he1 _ _
    exact ⟨g, he1⟩
def dKc (ls : List (List Nd)) : TT := ⟨fun v => ∃ g c, v = .slice (some ⟨g, 0, none⟩) ls.length c, ⟨_, 0, 0, rfl⟩, fun v x => ∀ g c, v = .slice (some ⟨g, 0, none⟩) ls.length c → KdRd x (some ⟨g, 0, none⟩) ls, fun _ _ _ h hb g c he => (h g c he).below hb⟩
def dEl (L : List Nd) : TT := ⟨fun v => ∃ g, v = .pointer (some ⟨g, 0, none⟩), ⟨_, 0, rfl⟩, fun v x => ∀ g, v = .pointer (some ⟨g, 0, none⟩) → ∃ A n c, x.cell? ⟨g, 0, none⟩ = some (.slice A n c) ∧ SlRd x (.slice A n c) L,
  fun _ _ _ h hb g he => let ⟨A, n, c, h1, h2⟩ := h g he; ⟨A, n, c, cell_keep hb h1, h2.below hb⟩⟩
def dRd (L : List Nd) : TT := ⟨fun v => ∃ A n c, v = .slice A n c, ⟨_, none, 0, 0, rfl⟩, fun v x => SlRd x v L, fun _ _ _ h hb => h.below hb⟩
def dKd (ls : List (List Nd)) : TT := ⟨fun v => ∃ g, v = .slice (some ⟨g, 0, none⟩) ls.length ls.length, ⟨_, 0, rfl⟩, fun v x => ∀ g, v = .slice (some ⟨g, 0, none⟩) ls.length ls.length → KdRd x (some ⟨g, 0, none⟩) ls, fun _ _ _ h hb g he => (h g he).below hb⟩

set_option maxRecDepth 100000 in
set_option maxHeartbeats 4000000 in
theorem rule24 (lv : Value) (Ak : Option Addr) (ck m B : Nat) (n : Int) (s : List UInt8) (a b c : Tr) (w : World) (hv : SlRd w lv (flat (.mk 24 n s [a, b, c]))) (hk : KdO w B Ak ([a, b, c].map flat)) (hm : m = 3) (hB : B ≤ w.heap.size)
    (ha : a.kind = 27 → ∃ x, a.kids = [x]) (hz : (flatAll [a, b, c]).length ≤ 4000000) :
    Calls Tryd.prog 69 #[lv, .slice Ak m ck] w (RuleRet (ruleT (.mk 24 n s [a, b, c])) B w) := by
  subst hm
  obtain ⟨Al, nl, cl, rfl⟩ : ∃ Al nl cl, lv = .slice Al nl cl := by obtain ⟨A', c', h, _⟩ := hv; exact ⟨_, _, _, h⟩
  obtain ⟨bl, ol, rfl, hnl, d0⟩ := kind_cell hv
  have HV := Lib.hid hv
  replace d0 : w.cell? ⟨bl, ol, none⟩ = some (.int .i64 24) := d0
  clear hv
  obtain ⟨b0, o0, n0, c0, A0, rfl, _, f0, k0⟩ := (hk).at_ (k := 0) (by simp)
  simp only [List.map_cons, List.map_nil, List.getElem_cons_zero, List.getElem_cons_succ, Nat.add_zero, List.getElem_map] at f0 k0
  obtain ⟨b1, o1, n1, c1, A1, he1, _, f1, k1⟩ := (hk).at_ (k := 1) (by simp)
  simp only [List.map_cons, List.map_nil, List.getElem_cons_zero, List.getElem_cons_succ, Nat.add_zero, List.getElem_map] at f1 k1
  simp only [Option.some.injEq, Addr.mk.injEq, and_true] at he1
  obtain ⟨he1a, he1b⟩ := he1
  subst he1a he1b
  obtain ⟨b2, o2, n2, c2, A2, he2, _, f2, k2⟩ := (hk).at_ (k := 2) (by simp)
  simp only [List.map_cons, List.map_nil, List.getElem_cons_zero, List.getElem_cons_succ, Nat.add_zero, List.getElem_map] at f2 k2
  simp only [Option.some.injEq, Addr.mk.injEq, and_true] at he2
  obtain ⟨he2a, he2b⟩ := he2
  subst he2a he2b
  have K1 := Lib.hid k1
  have hza : (flat a).length + ((flat b).length + (flat c).length) ≤ 4000000 := by
    rw [flatAll_cons, flatAll_cons, flatAll_cons, flatAll_nil, List.append_nil, List.length_append, List.length_append] at hz
    exact hz
  obtain ⟨q, hq⟩ : ∃ q, (a.kind == 20) = q := ⟨_, rfl⟩
  have IS := Lib.hid (is_v _ a 20 w k0.rd)
  have IL : Hid (Calls Tryd.prog 81 #[.slice (some ⟨bl, ol, none⟩) nl cl, .int .i64 24] w fun e w' => e = .returned (.bool true) ∧ w' = w) := is_v _ _ 24 w HV.out
  have IN := Lib.hid (is_v _ a 27 w k0.rd)
  rw [hq] at IS
  cases q
  case true =>
    have HR := Lib.hid (show ruleT (.mk 24 n s [a, b, c]) = some b by simp [ruleT_mk, ruleK, hq])
    clear hk k0 k1 k2 hq ha hz hza
    go_enter Tryd.func69, Tryd.ntmps69
    go_wp2_with fail
    refine IS.out.mono ?_
    rintro e w1 ⟨rfl, rfl⟩
    go_wp2_with fail
    go_ret2
    rw [HR.out]
    exact ⟨_, _, _, rfl, K1.out, Below.refl _ _⟩
  case false =>
  obtain ⟨p, hp⟩ : ∃ p, (a.kind == 27) = p := ⟨_, rfl⟩
  rw [hp] at IN
  cases p
  case false =>
    have HR := Lib.hid (show ruleT (.mk 24 n s [a, b, c]) = none by simp [ruleT_mk, ruleK, hq, hp])
    clear hk k0 k1 k2 hq hp ha hz hza
    go_enter Tryd.func69, Tryd.ntmps69
    go_wp2_with fail
    refine IS.out.mono ?_
    rintro e w1 ⟨rfl, rfl⟩
    go_wp2_with fail
    refine IL.out.mono ?_
    rintro e w1 ⟨rfl, rfl⟩
    go_wp2_with fail
    refine IN.out.mono ?_
    rintro e w1 ⟨rfl, rfl⟩
    go_wp2_with fail
    go_ret2
    rw [HR.out]
    exact ⟨_, rfl, Below.refl _ _⟩
  case true =>
  obtain ⟨x0, hx⟩ := ha (by simpa using hp)
  have HR := Lib.hid (show ruleT (.mk 24 n s [a, b, c]) = some (.mk 24 0 [] [x0, c, b]) by simp [ruleT_mk, ruleK, hq, hp, hx])
  have hfx : (flatAll [x0, c, b]).length ≤ 4000000 := by
    have h1 := flat_kids_le a
    rw [hx, flatAll_cons, flatAll_nil, List.append_nil] at h1
    rw [flatAll_cons, flatAll_cons, flatAll_cons, flatAll_nil, List.append_nil, List.length_append, List.length_append]
    omega
  have KC := Lib.hid (fun W (hb : Below w.heap.size w W) => show Calls Tryd.prog 27 #[.slice A0 n0 c0] W (KidsRet (a.kids.map flat) W) by rw [← kidsL_tree]; exact kids_any _ _ W (k0.rd.below hb) (by omega))
  rw [hx] at KC
  have HFX := Lib.hid hfx
  have HBB := Lib.hid hB
  have s1 := Lib.hid k1.rd
  have s2 := Lib.hid k2.rd
  clear hk k0 k1 k2 hq hp ha hz hza hx hfx
  go_enter Tryd.func69, Tryd.ntmps69
  go_wp2_with fail
  refine IS.out.mono ?_
  rintro e w1 ⟨rfl, rfl⟩
  go_wp2_with fail
  refine IL.out.mono ?_
  rintro e w2 ⟨rfl, rfl⟩
  go_wp2_with fail
  refine IN.out.mono ?_
  rintro e w3 ⟨rfl, rfl⟩
  clear IS IL IN
  go_upto_region 9 with (fail)
  generalize hWW : w3 = W at *
  apply wp_region_rel [eqT _, eqT _, eqT _, dKc [flat x0], dEl (flat x0), dRd (flat x0), eqT _, eqT _, eqT _, eqT _, eqT _, eqT _, dKd [flat x0, flat c, flat b], nodesT W.heap.size (flat (.mk 24 0 [] [x0, c, b])), nodesT W.heap.size (flat (.mk 24 0 [] [x0, c, b])), eqT _] (by kernel_rfl) (by kernel_rfl) rfl
  focus
    refine ⟨?_, ?_⟩
    focus
      unfold opGoal
      rw [if_pos (by kernel_rfl)]
      intro x hb hd K hk
      clear hd
      go_wp2_with fail
      exact hk _ _ rfl trivial (Below.refl _ _)
    rintro _ rfl
    simp only [Act.put, List.setIfInBounds_toArray, List.set_cons_succ, List.set_cons_zero]
    refine ⟨?_, ?_⟩
    focus
      unfold opGoal
      rw [if_pos (by kernel_rfl)]
      intro x hb hd K hk
      clear hd
      go_wp2_with fail
      exact hk _ _ rfl trivial (Below.refl _ _)
    rintro _ rfl
    simp only [Act.put, List.setIfInBounds_toArray, List.set_cons_succ, List.set_cons_zero]
    refine ⟨?_, ?_⟩
    focus
      unfold opGoal
      rw [if_pos (by kernel_rfl)]
      intro x hb hd K hk
      clear hd
      have l0 := cell_keep hb f0
      go_wp2_with fail
      exact hk _ _ rfl trivial (Below.refl _ _)
    rintro _ rfl
    simp only [Act.put, List.setIfInBounds_toArray, List.set_cons_succ, List.set_cons_zero]
    refine ⟨?_, ?_⟩
    focus
      unfold opGoal
      rw [if_pos (by kernel_rfl)]
      intro x hb hd K hk
      clear hd
      have HKX := Lib.hid (KC.out x hb)
      go_wp2_with fail
      refine HKX.out.mono ?_
      rintro e9 w9 ⟨A9, c9, vs9, rfl, ho9, hl9, hb9⟩
      obtain ⟨g9, rfl⟩ := own_addr' ho9 (by simp)
      exact hk _ _ ⟨g9, c9, rfl⟩ (fun g' c' he => by
        injection he with he1 he2 he3
        injection he1 with he1
        injection he1 with he1
        subst he1
        exact KdRd.of_own ho9 rfl hl9) hb9
    rintro _ ⟨g3, c3, rfl⟩
    simp only [Act.put, List.setIfInBounds_toArray, List.set_cons_succ, List.set_cons_zero]
    refine ⟨?_, ?_⟩
    focus
      unfold opGoal
      rw [if_pos (by kernel_rfl)]
      intro x hb hd K hk
      have d1 := hd _ (List.mem_cons_self ..) rfl _ _ rfl rfl
      have hkr := d1 g3 c3 rfl
      obtain ⟨bx, ox, vx, he, _, hcx, hsx⟩ := hkr.at_ (k := 0) (by simp)
      simp only [Option.some.injEq, Addr.mk.injEq, and_true] at he
      obtain ⟨he1, he2⟩ := he
      subst he1 he2
      simp only [List.getElem_cons_zero, Nat.add_zero] at hcx hsx
      have HCX := Lib.hid hcx
      have HSX := Lib.hid hsx
      clear hd d1 hkr hcx hsx
      go_wp2_with fail
      refine hk _ _ ⟨_, rfl⟩ (fun g' he => ?_) (Below.refl _ _)
      injection he with he1
      injection he1 with he1
      injection he1 with he1
      subst he1
      have hs := HSX.out
      have hc := HCX.out
      obtain ⟨A', c', rfl, _⟩ := id hs
      exact ⟨_, _, _, hc, hs⟩
    rintro _ ⟨g4, rfl⟩
    simp only [Act.put, List.setIfInBounds_toArray, List.set_cons_succ, List.set_cons_zero]
    refine ⟨?_, ?_⟩
    focus
      unfold opGoal
      rw [if_pos (by kernel_rfl)]
      intro x hb hd K hk
      have d1 := hd _ (List.mem_cons_self ..) rfl _ _ rfl rfl
      obtain ⟨Ax, nx, cx, hcx, hsx⟩ := d1 g4 rfl
      have HSX := Lib.hid hsx
      clear hd d1 hsx
      go_wp2_with fail
      exact hk _ _ ⟨_, _, _, rfl⟩ HSX.out (Below.refl _ _)
    rintro _ ⟨A5, n5, c5, rfl⟩
    simp only [Act.put, List.setIfInBounds_toArray, List.set_cons_succ, List.set_cons_zero]
    refine ⟨?_, ?_⟩
    focus
      unfold opGoal
      rw [if_pos (by kernel_rfl)]
      intro x hb hd K hk
      clear hd
      go_wp2_with fail
      exact hk _ _ rfl trivial (Below.refl _ _)
    rintro _ rfl
    simp only [Act.put, List.setIfInBounds_toArray, List.set_cons_succ, List.set_cons_zero]
    refine ⟨?_, ?_⟩
    focus
      unfold opGoal
      rw [if_pos (by kernel_rfl)]
      intro x hb hd K hk
      clear hd
      go_wp2_with fail
      exact hk _ _ rfl trivial (Below.refl _ _)
    rintro _ rfl
    simp only [Act.put, List.setIfInBounds_toArray, List.set_cons_succ, List.set_cons_zero]
    refine ⟨?_, ?_⟩
    focus
      unfold opGoal
      rw [if_pos (by kernel_rfl)]
      intro x hb hd K hk
      clear hd
      have l0 := cell_keep hb f2
      go_wp2_with fail
      exact hk _ _ rfl trivial (Below.refl _ _)
    rintro _ rfl
    simp only [Act.put, List.setIfInBounds_toArray, List.set_cons_succ, List.set_cons_zero]
    refine ⟨?_, ?_⟩
    focus
      unfold opGoal
      rw [if_pos (by kernel_rfl)]
      intro x hb hd K hk
      clear hd
      go_wp2_with fail
      exact hk _ _ rfl trivial (Below.refl _ _)
    rintro _ rfl
    simp only [Act.put, List.setIfInBounds_toArray, List.set_cons_succ, List.set_cons_zero]
    refine ⟨?_, ?_⟩
    focus
      unfold opGoal
      rw [if_pos (by kernel_rfl)]
      intro x hb hd K hk
      clear hd
      go_wp2_with fail
      exact hk _ _ rfl trivial (Below.refl _ _)
    rintro _ rfl
    simp only [Act.put, List.setIfInBounds_toArray, List.set_cons_succ, List.set_cons_zero]
    refine ⟨?_, ?_⟩
    focus
      unfold opGoal
      rw [if_pos (by kernel_rfl)]
      intro x hb hd K hk
      clear hd
      have l0 := cell_keep hb f1
      go_wp2_with fail
      exact hk _ _ rfl trivial (Below.refl _ _)
    rintro _ rfl
    simp only [Act.put, List.setIfInBounds_toArray, List.set_cons_succ, List.set_cons_zero]
    refine ⟨?_, ?_⟩
    focus
      unfold opGoal
      rw [if_pos (by kernel_rfl)]
      intro x hb hd K hk
      have d1 := hd _ (List.mem_cons_self ..) rfl _ _ rfl rfl
      have L2 := Lib.hid (KdRd.lit (vs := #[_, _, _]) (AllRd.three d1 (s2.out.below hb) (s1.out.below hb)))
      clear hd d1
      go_wp2_with fail
      refine hk _ _ ⟨_, rfl⟩ (fun g hg => ?_) ((Below.refl _ _).alloc (Nat.le_refl _) _)
      injection hg with hg _ _
      injection hg with hg
      injection hg with hg
      subst hg
      exact L2.out
    rintro _ ⟨g12, rfl⟩
    simp only [Act.put, List.setIfInBounds_toArray, List.set_cons_succ, List.set_cons_zero]
    refine ⟨?_, ?_⟩
    focus
      unfold opGoal
      rw [if_pos (by kernel_rfl)]
      intro x hb hd K hk
      have d1 := hd _ (List.mem_cons_self ..) rfl _ _ rfl rfl
      have K2 := Lib.hid (d1 _ rfl)
      clear hd d1
      go_wp2_with fail
      refine (newT_any 24 0 [] _ 3 3 [x0, c, b] x K2.out rfl HFX.out).mono ?_
      rintro e9 w9 ⟨A9, n9, c9, rfl, hv, hb9⟩
      exact hk _ _ ⟨_, _, _, rfl⟩ (hv.mono hb.size) hb9
    rintro _ ⟨A13, n13, c13, rfl⟩
    simp only [Act.put, List.setIfInBounds_toArray, List.set_cons_succ, List.set_cons_zero]
    refine ⟨?_, ?_⟩
    focus
      unfold opGoal
      rw [if_pos (by kernel_rfl)]
      intro x hb hd K hk
      have hv := hd _ (List.mem_cons_self ..) rfl _ _ rfl rfl
      clear hd
      go_wp2_with fail
      exact hk _ _ ⟨_, _, _, rfl⟩ hv (Below.refl _ _)
    rintro _ ⟨A14, n14, c14, rfl⟩
    simp only [Act.put, List.setIfInBounds_toArray, List.set_cons_succ, List.set_cons_zero]
    refine ⟨?_, ?_⟩
    focus
      unfold opGoal
      rw [if_pos (by kernel_rfl)]
      intro x hb hd K hk
      clear hd
      go_wp2_with fail
      exact hk _ _ rfl trivial (Below.refl _ _)
    rintro _ rfl
    simp only [Act.put, List.setIfInBounds_toArray, List.set_cons_succ, List.set_cons_zero]
    intro x hbx hf
    have hv : OwnNd x W.heap.size (.slice A14 n14 c14) (flat (.mk 24 0 [] [x0, c, b])) := hf 14 _ _ rfl rfl
    have HV2 := Lib.hid (hv.mono HBB.out)
    clear hf hv
    go_wp2_with fail
    go_ret2
    rw [HR.out]
    exact ⟨_, _, _, rfl, HV2.out, hbx⟩
end Go.Proofs.YtjhgljfmheopmaaDoor
