/- DeadKeeps: whatever kinds and words, the law answers true. No condition but what the package-level errors hold. -/
import Derived.Test.YtjhgljfmheopmaaDoorDeadK
import Derived.Test.YtjhgljfmheopmaaDoorAppSep
import Derived.Deep.CutBlock
import Derived.Deep.CutRange
set_option linter.unusedVariables false
set_option linter.unusedSimpArgs false
namespace Go.Proofs.YtjhgljfmheopmaaDoor
open Go.RowKit

def strE (s : List UInt8) : List Value := [.string ⟨s.toArray⟩]
theorem tmod5 (n : Int) : -4 ≤ n.tmod 5 ∧ n.tmod 5 ≤ 4 := by
  rcases Int.le_total 0 n with h | h
  · rw [Int.tmod_eq_emod_of_nonneg h]; omega
  · have h2 := Int.neg_tmod (-n) 5
    rw [Int.neg_neg, Int.tmod_eq_emod_of_nonneg (by omega : 0 ≤ -n)] at h2
    omega
/-- two rows of one type that lie apart -/
def Apart2 (v u : Value) : Prop := ∀ b, v.ownBlock = some b → u.ownBlock ≠ some b
theorem Apart2.symm {v u : Value} (h : Apart2 v u) : Apart2 u v := fun b h1 h2 => h b h2 h1
/-- .. behind an append to the one the other stands as it stood, and they lie apart still -/
theorem Sep.other {v v' u : Value} {w w' : World} {base : Nat} {e : TypeId} {sz n : Nat} {xs : List Value} (h : Sep v v' w w') (ha : Apart2 v u) (hu : w.ownsRow base e sz u n xs) : w'.ownsRow base e sz u n xs ∧ Apart2 v' u := by
  refine ⟨⟨hu.1, ?_⟩, fun b hb hb2 => ?_⟩
  · rcases hu.2 with hn | ⟨g, cap, cur, rfl, hb', hg, rest⟩
    · exact .inl hn
    · refine .inr ⟨g, cap, cur, rfl, hb', ?_, rest⟩
      rw [h.1 g (Array.getElem?_eq_some_iff.1 hg).1 (fun hh => ha g hh.symm rfl)]
      exact hg
  · rcases h.2 b hb with h1 | h1
    · exact ha b h1 hb2
    · have := (hu.lt b hb2).2
      omega

theorem OwnNd.others {w w' : World} {B : Nat} {v : Value} {L : List Nd} (h : OwnNd w B v L) (ho : Others [25] w w') : OwnNd w' B v L :=
  let ⟨A, c, h1, h2⟩ := h
  ⟨A, c, h1, own_others h2 ho (by decide)⟩
theorem OwnNd.one {w : World} {B n c : Nat} {A : Option Addr} {L : List Nd} (h : OwnNd w B (.slice A n c) L) : OwnAll w B [.slice A n c] [L] := OwnAll.one h.own'
theorem filt_snoc (T : List Tr) (t : Tr) (b : Bool) (h : (t.kind != 20) = b) : (T ++ [t]).filter (fun x => x.kind != 20) = T.filter (fun x => x.kind != 20) ++ (if b then [t] else []) := by
  rw [List.filter_append]
  congr 1
  cases b <;> simp [List.filter, h]

theorem mem_flatAll : ∀ (L : List Tr) (x : Nd), x ∈ flatAll L → ∃ t ∈ L, x ∈ flat t
  | [], x, h => by rw [flatAll_nil] at h; cases h
  | t :: L, x, h => by
    rw [flatAll_cons, List.mem_append] at h
    rcases h with h | h
    · exact ⟨t, by simp, h⟩
    · obtain ⟨u, hu, hx⟩ := mem_flatAll L x h
      exact ⟨u, by simp [hu], hx⟩
theorem cmds_len : ∀ (L : List Tr), (∀ t ∈ L, Cmd t) → (flatAll L).length ≤ 4 * L.length
  | [], _ => by rw [flatAll_nil]; exact Nat.le_refl _
  | t :: L, h => by
    have h1 := cmd_len (h t (by simp))
    have h2 := cmds_len L fun u hu => h u (by simp [hu])
    rw [flatAll_cons, List.length_append, List.length_cons]
    omega
theorem cmds_seq (L : List Tr) (hL : ∀ t ∈ L, Cmd t) (hl : L.length ≤ 100) : (flat (seqT L)).length ≤ 3000 ∧ ∀ x ∈ flat (seqT L), NdOk x := by
  have h4 := cmds_len L hL
  rcases L with _ | ⟨a, _ | ⟨b, r⟩⟩
  · exact ⟨by rw [show seqT [] = nopT from rfl, nop_size]; omega, cmd_nd (t := nopT) ⟨0, [], by decide, by decide, rfl⟩⟩
  · exact ⟨by have := cmd_len (hL a (by simp)); rw [show seqT [a] = a from rfl]; omega, cmd_nd (hL a (by simp))⟩
  · rw [show seqT (a :: b :: r) = Tr.mk 23 0 [] (a :: b :: r) from rfl]
    refine ⟨by rw [flat_size]; omega, fun x hx => ?_⟩
    rw [flat_mk, List.mem_cons] at hx
    rcases hx with rfl | hx
    · exact ⟨by simp, by dsimp only; omega⟩
    · obtain ⟨u, hu, hxu⟩ := mem_flatAll _ x hx
      exact cmd_nd (hL u hu) x hxu

set_option maxRecDepth 100000 in
set_option maxHeartbeats 8000000 in
theorem deadkeeps_walk (A1 : Option Addr) (c1 : Nat) (K : List Int) (A2 : Option Addr) (c2 : Nat) (S : List (List UInt8)) (aN aT' aM : Addr) (w : World) (hr1 : RdL w 1 intc A1 K) (hr2 : RdL w 1 strE A2 S) (hE : ErrW w aN aT' aM) :
    Calls Tryd.prog 13 #[.slice A1 K.length c1, .slice A2 S.length c2] w fun e w' => e = .returned (.bool true) ∧ Below w.heap.size w w' := by
  obtain ⟨i0, hi, hz0, hz1, hz2⟩ := info_parts infoNodes
  have FA := Lib.hid (first18_any aN aT' aM w hE)
  obtain ⟨m, hml⟩ : ∃ m, m = K.length := ⟨_, rfl⟩
  obtain ⟨l, hll⟩ : ∃ m, m = S.length := ⟨_, rfl⟩
  rw [← hml, ← hll]
  have HM := Lib.hid hml
  have HL := Lib.hid hll
  clear hml hll
  go_enter Tryd.func13, Tryd.ntmps13
  go_wp2_with fail
  refine FA.out.mono ?_
  rintro e w1 ⟨rfl, hb⟩
  clear FA
  replace hr1 := hr1.below hb
  replace hr2 := hr2.below hb
  have HE := Lib.hid (hE.below hb)
  clear hE
  by_cases h30 : 30 < m
  · go_wp2_with fail
    go_ret
    exact ⟨rfl, hb⟩
  have d30 : decide ((30 : Int) < m) = false := decide_eq_false (by omega)
  by_cases h31 : 30 < l
  · go_wp2_with fail
    go_ret
    exact ⟨rfl, hb⟩
  have d31 : decide ((30 : Int) < l) = false := decide_eq_false (by omega)
  go_wp2_with fail
  refine (newT_any 20 0 [] none 0 0 [] _ (KdRd.nil _ _) rfl (of_decide_eq_true (by kernel_rfl))).mono ?_
  rintro e w2 ⟨A3, n3, c3, rfl, o3, hb2⟩
  have on0 : OwnNd w2 w1.heap.size (.slice A3 n3 c3) (flat nopT) := o3
  have hb12 := hb.trans (hb2.mono hb.size)
  replace hr1 := hr1.below hb2
  replace hr2 := hr2.below hb2
  have HE2 := Lib.hid (HE.out.below hb2)
  have HSZ := Lib.hid hb2.size
  clear o3 hb HE hb2
  go_wp2_with fail
  go_loopw [7, 8, 9] (fun v u i wr => ∃ (k q : Nat) (A7 : Option Addr) (c7 : Nat) (us : List Value) (A8 : Option Addr) (c8 : Nat) (vs : List Value) (T G : List Tr), k ≤ m ∧ i = .int .i64 k ∧ v = .slice A7 k c7 ∧ u = .slice A8 q c8 ∧ q ≤ k ∧ Hid (k = T.length) ∧ Hid (q = G.length) ∧
      wr.ownsRow w2.heap.size 25 1 (.slice A7 k c7) k us ∧ wr.ownsRow w2.heap.size 25 1 (.slice A8 q c8) q vs ∧ Hid (Apart2 (.slice A7 k c7) (.slice A8 q c8)) ∧ OwnAll wr w1.heap.size us (T.map flat) ∧ OwnAll wr w1.heap.size vs (G.map flat) ∧
      Hid (∀ t ∈ T, Cmd t) ∧ Hid ((k < m → G = T.filter (fun x => x.kind != 20)) ∧ (k = m → G = dropN T)) ∧ Below w2.heap.size w2 wr) (fun _ _ i _ => m - (intOf i).toNat)
  case atStart =>
    exact ⟨0, 0, none, 0, [], none, 0, [], [], [], Nat.zero_le _, rfl, rfl, rfl, Nat.le_refl _, rfl, rfl, World.ownsRow_nil _ _ _ _, World.ownsRow_nil _ _ _ _, (fun b h => by simp [Value.ownBlock] at h), OwnAll.nil _ _, OwnAll.nil _ _, (fun t h => by cases h), ⟨fun _ => rfl, fun _ => rfl⟩, Below.refl _ _⟩
  case round =>
    obtain ⟨k, q, A7, c7, us, A8, c8, vs, T, G, hk, rfl, rfl, rfl, hqk, HT, HG, hown7, hown8, HAP, hall7, hall8, HCM, HTG, hbr⟩ := hrel
    by_cases hlt : k < m
    · have hkK : k < K.length := by rw [← HM.out]; exact hlt
      obtain ⟨b1, o1, rfl, _, hcK⟩ := (hr1.below hbr) k hkK
      have fK := hcK 0 _ rfl
      simp only [Nat.mul_one, Nat.add_zero] at fK
      generalize K[k] = kk at *
      have hz := tmod5 kk
      clear hcK hkK
      go_upto_region 10 with (fail)
      go_cut [44] from 33 to 44 (fun v wx => (∃ bb : Bool, v = .bool bb ∧ Hid (bb = true → ∃ h : k < S.length, S[k].length ≤ 100)) ∧ wr = wx)
      case first =>
        by_cases hks : k < l
        · have hkS : k < S.length := by rw [← HL.out]; exact hks
          obtain ⟨b2, o2, rfl, _, hcS⟩ := (hr2.below hbr) k hkS
          have fS := hcS 0 _ rfl
          simp only [Nat.mul_one, Nat.add_zero] at fS
          obtain ⟨s, hs⟩ : ∃ s, S[k] = s := ⟨_, rfl⟩
          rw [hs] at fS
          have HS := Lib.hid hs
          obtain ⟨b, hbb⟩ : ∃ b, decide ((s.length : Int) ≤ 100) = b := ⟨_, rfl⟩
          have hbn : decide (s.length ≤ 100) = b := by rw [← hbb, Bool.eq_iff_iff, decide_eq_true_eq, decide_eq_true_eq]; omega
          have HB := Lib.hid hbn
          have HKS := Lib.hid hkS
          clear hcS hs
          go_wp2_with fail
          go_meet
          exact ⟨⟨b, rfl, Lib.hid fun h => ⟨HKS.out, by rw [HS.out]; have h2 := HB.out; rw [h] at h2; exact of_decide_eq_true h2⟩⟩, rfl⟩
        · go_wp2_with fail
          go_meet
          exact ⟨⟨false, rfl, Lib.hid fun h => by cases h⟩, rfl⟩
      case rest =>
      obtain ⟨⟨bb, rfl, HBB⟩, rfl⟩ := hcut
      go_upto_if 44 with (fail)
      go_cut [10] from 44 to 48 (fun v wx => (∃ s : List UInt8, v = .string ⟨s.toArray⟩ ∧ s.length ≤ 100) ∧ wr = wx)
      case first =>
        cases bb
        · go_wp2_with fail
          go_meet
          exact ⟨⟨[119], rfl, by decide⟩, rfl⟩
        · obtain ⟨hkS, hs100⟩ := HBB.out rfl
          obtain ⟨b2, o2, rfl, _, hcS⟩ := (hr2.below hbr) k hkS
          have fS := hcS 0 _ rfl
          simp only [Nat.mul_one, Nat.add_zero] at fS
          have hks : k < l := by rw [HL.out]; exact hkS
          generalize S[k] = s at *
          clear hcS hkS
          go_wp2_with fail
          go_meet
          exact ⟨⟨s, rfl, hs100⟩, rfl⟩
      case rest =>
      obtain ⟨⟨s, rfl, hs100⟩, rfl⟩ := hcut
      clear HBB
      obtain ⟨z, hzz⟩ : ∃ z, kk.tmod 5 = z := ⟨_, rfl⟩
      rw [hzz] at hz
      obtain ⟨j, hj5, hzj⟩ : ∃ j : Nat, j < 5 ∧ z % 5 = j := ⟨(z % 5).toNat, by omega, by omega⟩
      have hlit : (flatAll [Tr.mk 1 0 s []]).length ≤ 4000000 := by simp [flat_mk, flatAll_cons, flatAll_nil]
      go_wp2_with fail
      refine (litT_any s wr).mono ?_
      rintro e w4 ⟨A4, n4, c4, rfl, o4, hb4⟩
      have s4 := o4.rd
      clear o4
      go_wp2_with fail
      refine (newL_any 21 0 [] _ 1 1 [.mk 1 0 s []] w4 (AllRd.one s4) rfl hlit).mono ?_
      rintro e w5 ⟨A5, n5, c5, rfl, o5, hb5⟩
      have hb45 := hb4.trans (hb5.mono hb4.size)
      have hbr5 := hbr.trans (hb45.mono hbr.size)
      have hB1 : w1.heap.size ≤ wr.heap.size := Nat.le_trans HSZ.out hbr.size
      have on5 : OwnNd w5 w1.heap.size (.slice A5 n5 c5) (flat (callS s)) := o5.mono (Nat.le_trans hB1 hb4.size)
      have onN := on0.below hbr5
      replace fK := cell_keep hb45 fK
      have hown7' := own_below hown7 hb45
      have hown8' := own_below hown8 hb45
      have hall7' := hall7.below hb45
      have hall8' := hall8.below hb45
      have HO7 := Lib.hid hown7'
      have HO8 := Lib.hid hown8'
      have HA7 := Lib.hid hall7'
      have HA8 := Lib.hid hall8'
      have HB1 := Lib.hid (Nat.le_trans HSZ.out hbr5.size)
      have HBR := Lib.hid hbr5
      clear o5 s4 hown7 hown8 hall7 hall8 hown7' hown8' hall7' hall8' hb4 hb5 hb45 hbr hB1 hlit
      go_upto_block 2 with (fail)
      generalize hw5 : w5 = wk at *
      clear hw5
      go_cut [11] from 53 to 80 (fun v wx => (∃ (A : Option Addr) (n c : Nat) (t : Tr), v = .slice A n c ∧ OwnNd wx w1.heap.size (.slice A n c) (flat t) ∧ Cmd t) ∧ Below wk.heap.size wk wx)
      case first =>
        have hc5 : j = 0 ∨ j = 1 ∨ j = 2 ∨ j = 3 ∨ j = 4 := by omega
        clear hzz hj5
        rcases hc5 with rfl | rfl | rfl | rfl | rfl
        · have z1 : z % 5 = 0 := hzj
          have z2 : (z + 5) % 5 = 0 := by omega
          go_wp2_with fail
          go_meet
          exact ⟨⟨_, _, _, nopT, rfl, onN, 0, s, by decide, hs100, rfl⟩, Below.refl _ _⟩
        · have z1 : z % 5 = 1 := hzj
          have z2 : (z + 5) % 5 = 1 := by omega
          go_wp2_with fail
          refine (litT_any s wk).mono ?_
          rintro e w6 ⟨A6, n6, c6, rfl, o6, hb6⟩
          have s6 := o6.rd
          have onN6 := onN.below hb6
          clear o6
          go_wp2_with fail
          refine (newL_any 33 2 [] _ 2 2 [.mk 1 0 s [], nopT] w6 (AllRd.two s6 onN6.rd) rfl (by simp [flat_mk, flatAll_cons, flatAll_nil, nopT])).mono ?_
          rintro e w7 ⟨A7', n7, c7', rfl, o7, hb7⟩
          have o7' : OwnNd w7 w1.heap.size _ _ := o7.mono (Nat.le_trans HB1.out hb6.size)
          clear o7 s6
          go_wp2_with fail
          go_meet
          exact ⟨⟨_, _, _, .mk 33 2 [] [.mk 1 0 s [], nopT], rfl, o7', 1, s, by decide, hs100, rfl⟩, hb6.trans (hb7.mono hb6.size)⟩
        · have z1 : z % 5 = 2 := hzj
          have z2 : (z + 5) % 5 = 2 := by omega
          go_wp2_with fail
          refine (newL_any 32 0 [] _ 2 2 [callS s, nopT] wk (AllRd.two on5.rd onN.rd) rfl (by simp [callS, flat_mk, flatAll_cons, flatAll_nil, nopT])).mono ?_
          rintro e w7 ⟨A7', n7, c7', rfl, o7, hb7⟩
          have o7' : OwnNd w7 w1.heap.size _ _ := o7.mono HB1.out
          clear o7
          go_wp2_with fail
          go_meet
          exact ⟨⟨_, _, _, .mk 32 0 [] [callS s, nopT], rfl, o7', 2, s, by decide, hs100, rfl⟩, hb7⟩
        · have z1 : z % 5 = 3 := hzj
          have z2 : (z + 5) % 5 = 3 := by omega
          go_wp2_with fail
          refine (newL_any 31 0 [102] _ 1 1 [callS s] wk (AllRd.one on5.rd) rfl (by simp [callS, flat_mk, flatAll_cons, flatAll_nil])).mono ?_
          rintro e w7 ⟨A7', n7, c7', rfl, o7, hb7⟩
          have o7' : OwnNd w7 w1.heap.size _ _ := o7.mono HB1.out
          clear o7
          go_wp2_with fail
          go_meet
          exact ⟨⟨_, _, _, .mk 31 0 [102] [callS s], rfl, o7', 3, s, by decide, hs100, rfl⟩, hb7⟩
        · have z1 : z % 5 = 4 := hzj
          have z2 : (z + 5) % 5 = 4 := by omega
          go_wp2_with fail
          go_meet
          exact ⟨⟨_, _, _, callS s, rfl, on5, 4, s, by decide, hs100, rfl⟩, Below.refl _ _⟩
      case rest =>
      obtain ⟨⟨Ac, nc, cc, t, rfl, onc, hcm⟩, hbx⟩ := hcut
      have hown7 := own_below HO7.out hbx
      have hown8 := own_below HO8.out hbx
      have hall7 := HA7.out.below hbx
      have hall8 := HA8.out.below hbx
      have hbrc := HBR.out.trans (hbx.mono HBR.out.size)
      obtain ⟨bt, ot, rfl, hnc, _⟩ := kind_cell onc.rd
      obtain ⟨kb, hkb⟩ : ∃ b, (t.kind != 20) = b := ⟨_, rfl⟩
      obtain ⟨lb, hlb⟩ : ∃ b, ((k : Int) == (m : Int) - 1) = b := ⟨_, rfl⟩
      have HF := Lib.hid (filt_snoc T t kb hkb)
      have HLB := Lib.hid hlb
      have HCM2 := Lib.hid (show ∀ x ∈ T ++ [t], Cmd x from fun x hx => by
        rcases List.mem_append.1 hx with h | h
        · exact HCM.out x h
        · rw [List.mem_singleton.1 h]; exact hcm)
      have HAL7 := Lib.hid hall7
      have HAL8 := Lib.hid hall8
      have HON := Lib.hid onc
      have HOW8 := Lib.hid hown8
      clear HO7 HO8 HA7 HA8 on5 onN hbx hall7 hall8 hown8 fK hcm
      have hkm : k + 1 ≤ m := hlt
      go_upto_region 23 with (at_builtin; refine wpList_pushS rfl _ _ _ rfl Tryd.underlying23 hi hz0 hz1 hz2 rfl (by decide) hown7 rfl rfl rfl (by simp [Value.oneCell']) (by omega) (by decide) hbrc.size ?_; intro A9 c9 w9 hown9 hb9 hoo9 hsep9)
      have onc9 := HON.out.others hoo9
      obtain ⟨bt9, ot9, he9, _, ck9⟩ := kind_cell onc9.rd
      simp only [Option.some.injEq, Addr.mk.injEq, and_true] at he9
      obtain ⟨he9a, he9b⟩ := he9
      subst he9a he9b
      obtain ⟨h8, hap⟩ := hsep9.other HAP.out HOW8.out
      have HA9 := Lib.hid (show OwnAll w9 w1.heap.size (us ++ [.slice (some ⟨bt, ot, none⟩) nc cc]) ((T ++ [t]).map flat) by
        rw [List.map_append]
        exact (HAL7.out.others hoo9 (by decide)).append (OwnNd.one onc9))
      have HB9 := Lib.hid (HAL8.out.others hoo9 (by decide))
      have hb29 := hbrc.trans hb9
      have hn9 : (us ++ (#[Value.slice (some ⟨bt, ot, none⟩) nc cc] : Array Value).toList) = us ++ [.slice (some ⟨bt, ot, none⟩) nc cc] := rfl
      rw [hn9] at hown9
      clear hown7 hn9 HAL7 HAL8 HOW8 HON hsep9 hoo9 hb9
      cases kb
      · cases lb
        · have HX := Lib.hid (show k + 1 ≠ m by have h := HLB.out; rw [beq_eq_false_iff_ne] at h; omega)
          go_wp2_with fail
          go_roundw
          case rel =>
            refine ⟨k + 1, q, A9, c9, us ++ [.slice (some ⟨bt, ot, none⟩) nc cc], A8, c8, vs, T ++ [t], G, by omega, by go_num, rfl, rfl, by omega, Lib.hid (by rw [List.length_append, ← HT.out]; rfl), HG, hown9, h8, Lib.hid hap, HA9.out, HB9.out, HCM2, Lib.hid ⟨fun h => ?_, fun h => absurd h HX.out⟩, hb29⟩
            rw [HF.out, HTG.out.1 hlt]
            simp
          case measure => simp [intOf]; omega
        · have HX := Lib.hid (show k + 1 = m by have h := HLB.out; rw [beq_iff_eq] at h; omega)
          go_wp2_with (at_builtin; refine wpList_pushS rfl _ _ _ rfl Tryd.underlying23 hi hz0 hz1 hz2 rfl (by decide) h8 rfl rfl rfl (by simp [Value.oneCell']) (by omega) (by decide) hb29.size ?_; intro A10 c10 w10 hown10 hb10 hoo10 hsep10)
          go_roundw
          case rel =>
            obtain ⟨h7, hap2⟩ := hsep10.other hap.symm hown9
            refine ⟨k + 1, q + 1, A9, c9, us ++ [.slice (some ⟨bt, ot, none⟩) nc cc], A10, c10, vs ++ [.slice (some ⟨bt, ot, none⟩) nc cc], T ++ [t], G ++ [t], by omega, by go_num, rfl, rfl, by omega, Lib.hid (by rw [List.length_append, ← HT.out]; rfl), Lib.hid (by rw [List.length_append, ← HG.out]; rfl), h7, by simpa using hown10, Lib.hid hap2.symm, ?_, ?_, HCM2, Lib.hid ?_, hb29.trans hb10⟩
            · exact HA9.out.others hoo10 (by decide)
            · rw [List.map_append]
              exact (HB9.out.others hoo10 (by decide)).append (OwnNd.one (onc9.others hoo10))
            refine ⟨fun h => absurd HX.out (by omega), fun h => ?_⟩
            rw [dropN_snoc, HTG.out.1 hlt]
          case measure => simp [intOf]; omega
      · go_wp2_with (at_builtin; refine wpList_pushS rfl _ _ _ rfl Tryd.underlying23 hi hz0 hz1 hz2 rfl (by decide) h8 rfl rfl rfl (by simp [Value.oneCell']) (by omega) (by decide) hb29.size ?_; intro A10 c10 w10 hown10 hb10 hoo10 hsep10)
        go_roundw
        case rel =>
          obtain ⟨h7, hap2⟩ := hsep10.other hap.symm hown9
          refine ⟨k + 1, q + 1, A9, c9, us ++ [.slice (some ⟨bt, ot, none⟩) nc cc], A10, c10, vs ++ [.slice (some ⟨bt, ot, none⟩) nc cc], T ++ [t], G ++ [t], by omega, by go_num, rfl, rfl, by omega, Lib.hid (by rw [List.length_append, ← HT.out]; rfl), Lib.hid (by rw [List.length_append, ← HG.out]; rfl), h7, by simpa using hown10, Lib.hid hap2.symm, ?_, ?_, HCM2, Lib.hid ?_, hb29.trans hb10⟩
          · exact HA9.out.others hoo10 (by decide)
          · rw [List.map_append]
            exact (HB9.out.others hoo10 (by decide)).append (OwnNd.one (onc9.others hoo10))
          refine ⟨fun h => ?_, fun h => ?_⟩
          · rw [HF.out, HTG.out.1 hlt]
            simp
          · rw [dropN_snoc, HTG.out.1 hlt]
        case measure => simp [intOf]; omega
    · obtain rfl : m = k := by omega
      have hG : G = dropN T := HTG.out.2 rfl
      subst hG
      have hcm := HCM.out
      have hkd7 : KdRd wr A7 (T.map flat) := KdRd.of_own hown7 (by rw [List.length_map]; exact HT.out) hall7
      have hkd8 : KdRd wr A8 ((dropN T).map flat) := KdRd.of_own hown8 (by rw [List.length_map]; exact HG.out) hall8
      have hm2 : ∀ x ∈ dropN T, Cmd x := fun x hx => hcm x (dropN_mem T x hx)
      have hTl := HT.out
      have hGl := HG.out
      have hf7 := cmds_len T hcm
      have hf8 := cmds_len (dropN T) hm2
      have S7 := Lib.hid (seq_any A7 c7 m T wr hkd7 hTl (by omega))
      have S8 := Lib.hid (fun W (hb : Below wr.heap.size wr W) => seq_any A8 c8 q (dropN T) W (hkd8.below hb) hGl (by omega))
      obtain ⟨h7a, h7b⟩ := cmds_seq T hcm (by omega)
      obtain ⟨h8a, h8b⟩ := cmds_seq (dropN T) hm2 (by omega)
      have PC := Lib.hid (fun v W hv hE => dpass_tree v (seqT T) aN aT' aM W (cmds_ok T hcm) h7a h7b hv hE)
      rw [whole_seq T hcm] at PC
      have SM := Lib.hid (fun va vb W h1 h2 => same_v va vb (flat (seqT (dropN T))) (flat (seqT (dropN T))) W h1 h2 (by omega) (by omega))
      rw [(sameL_iff (flat (seqT (dropN T))) (flat (seqT (dropN T)))).2 rfl] at SM
      have hbw := hb12.trans (hbr.mono hb12.size)
      have HE3 := Lib.hid (HE2.out.below hbr)
      clear hown7 hown8 hall7 hall8 hkd7 hkd8 hTl hGl hf7 hf8 h7a h7b h8a h8b hm2 hcm HT HG HTG HCM hlt
      generalize seqT (dropN T) = R at *
      generalize seqT T = R0 at *
      go_wp2_with fail
      refine S7.out.mono ?_
      rintro e w4 ⟨A4, n4, c4, rfl, o4, hb4⟩
      have s4 := o4.rd
      clear o4 S7
      go_wp2_with fail
      refine (PC.out _ w4 s4 (HE3.out.below hb4)).mono ?_
      rintro e w5 ⟨A5, n5, c5, rfl, o5, hb5⟩
      have s5 := o5.rd
      have hb45 := hb4.trans (hb5.mono hb4.size)
      clear o5 s4 PC
      go_wp2_with fail
      refine (S8.out w5 hb45).mono ?_
      rintro e w6 ⟨A6, n6, c6, rfl, o6, hb6⟩
      have s6 := o6.rd
      have s56 := s5.below hb6
      have hb46 := hb45.trans (hb6.mono hb45.size)
      clear o6 s5 S8
      go_wp2_with fail
      refine (SM.out _ _ w6 s56 s6).mono ?_
      rintro e w7 ⟨rfl, hb7⟩
      have hbF := hbw.trans ((hb46.trans (hb7.mono hb46.size)).mono hbw.size)
      go_wp2_with fail
      go_ret
      exact ⟨rfl, hbF⟩
theorem deadkeeps_card (A1 : Option Addr) (c1 : Nat) (K : List Int) (A2 : Option Addr) (c2 : Nat) (S : List (List UInt8)) (aN aT' aM : Addr) (w : World) (hr1 : RdL w 1 intc A1 K) (_ : ∀ y ∈ K, (Lit.int .i64 y).wf = true) (hr2 : RdL w 1 (fun s => [Value.string ⟨s.toArray⟩]) A2 S) (hE : ErrW w aN aT' aM) :
    Calls Tryd.prog 13 #[.slice A1 K.length c1, .slice A2 S.length c2] w fun e w' => e = .returned (.bool true) ∧ Below w.heap.size w w' :=
  deadkeeps_walk A1 c1 K A2 c2 S aN aT' aM w hr1 hr2 hE
end Go.Proofs.YtjhgljfmheopmaaDoor
