/- ConstsAgain: whatever nodes are handed in, the law answers true. Bounds on the lengths. -/
import Derived.Test.YthmeonimianoeaaDoorConW9
import Derived.Test.YthmeonimianoeaaDoorGO
import Derived.Test.YthmeonimianoeaaDoorGC
import Derived.Deep.DeepCutAuto
import Derived.Maps.AppendAt
import Derived.Outline
set_option linter.unusedVariables false
set_option linter.unusedSimpArgs false
namespace Go.Proofs.YthmeonimianoeaaDoor
open Go.RowKit

theorem KdRd.of5C {w : World} {base n c : Nat} {A : Option Addr} {vs : List Value} {ls : List (List Nd)} (h : w.ownsRow base 23 1 (.slice A n c) n vs) (hn : n = ls.length) (ho : AllRd w vs ls) : KdRd w A ls :=
  ⟨vs, (rd_one h (by rw [hn, ho.1])).1, ho⟩
theorem kids5_treeC (v : Value) (u : Tr) (w : World) (h : SlRd w v (flat u)) (hl : (flat u).length ≤ 4000000) : Calls Tryd.prog 21 #[v] w fun e w' => ∃ A c, e = .returned (.slice A u.kids.length c) ∧ KdRd w' A (u.kids.map flat) ∧ Below w.heap.size w w' := by
  refine (kids5_any v (flat u) w h hl).mono ?_
  rintro e w' ⟨A, c, vs, rfl, h1, h2, h3⟩
  rw [kidsL_tree] at h1 h2 ⊢
  exact ⟨A, c, by rw [List.length_map], KdRd.of5C h1 rfl h2, h3⟩
theorem SlRd.cutC {w : World} {B n c : Nat} {A : Option Addr} {L M : List Nd} (h : w.ownsRow B 40 5 (.slice A n c) n ((L ++ M).flatMap ndc)) (hn : n = (L ++ M).length) : SlRd w (.slice A L.length c) L := by
  obtain ⟨A', c', he, h1, h2, h3, h4⟩ := RdL.of_own ndc_len h hn
  injection he with he1 _ he3
  subst he1 he3
  have h5 := h3.take L.length
  rw [List.take_left] at h5
  refine ⟨A, c, rfl, h5, ?_, h2, h4, trivial⟩
  rw [hn, List.length_append] at h1
  omega
theorem own_capC {w : World} {base : Nat} {e : TypeId} {sz n c : Nat} {A : Option Addr} {xs : List Value} (h : w.ownsRow base e sz (.slice A n c) n xs) : n ≤ c ∧ c ≤ maxLen := by
  obtain ⟨A', c', he, h1, h2, _⟩ := own_form h
  injection he with _ _ he3
  subst he3
  exact ⟨h1, h2⟩
def markC (k : Int) : Nd := ⟨k, 0, 0, 0, []⟩
theorem snoc_flatC (L : List Nd) (x : Nd) : (L ++ [x]).flatMap ndc = L.flatMap ndc ++ ndc x := by rw [List.flatMap_append]; simp
theorem wf_leC {n : Int} (h : (Lit.int .i64 n).wf = true) : n ≤ 9223372036854775807 := by
  simp only [Lit.wf, Bool.and_eq_true, decide_eq_true_eq] at h
  have h2 : IntKind.i64.max = 9223372036854775807 := by decide
  rw [h2] at h
  exact h.2
theorem noFit_get : ∀ (ks : List Tr) (j : Nat) (h : j + 1 < ks.length), noFit ks = true → fits ks[j] ks[j + 1] = false
  | x :: y :: ts, 0, _, hn => by
    rw [noFit, Bool.and_eq_true] at hn
    simpa using hn.1
  | x :: y :: ts, j + 1, h, hn => by
    rw [noFit, Bool.and_eq_true] at hn
    exact noFit_get (y :: ts) j (by simpa using h) hn.2
  | [x], j, h, _ => by simp at h
  | [], j, h, _ => by simp at h
theorem headJ_get : ∀ (ts : List Tr) (h : 0 < ts.length), headJ ts = false → (ts[0].kind == 4) = false
  | t :: ts, _, h => h
  | [], h, _ => absurd h (Nat.lt_irrefl _)
/-- What is known of a Join in a passed program. -/
theorem join_in {u : Tr} (h : NF u ∧ OkAny u) (hk : u.kind = 4) : 0 < u.kids.length ∧ (∀ h : 0 < u.kids.length, (u.kids[0].kind == 4) = false) ∧ (∀ j (h : j + 1 < u.kids.length), fits u.kids[j] u.kids[j + 1] = false) ∧ ∀ v ∈ u.kids, v.str.length ≤ 2000 := by
  obtain ⟨hn, d, w, ho⟩ := h
  have hj := nf_join hn ho hk
  have hok : OkAny u := ⟨d, w, ho⟩
  refine ⟨?_, fun h => ?_, fun j h => noFit_get _ j h hj.nofit, fun v hv => fields_s (okAny_fields (okAny_kids u hok v hv))⟩
  · cases d with
    | zero => cases u; rw [okT] at ho; cases ho
    | succ d =>
      cases u with
      | mk kd n s ks =>
        obtain rfl : kd = 4 := hk
        exact List.length_pos_iff.2 ((words_kids ho (by decide) (by decide)).2.2.1 (by decide))
  · exact headJ_get _ h hj.head
theorem new2D (w : World) (a b : Array Value) : Blk ((w.alloc (.cells a 40)).alloc (.cells b 40)) w.heap.size 40 a ∧ Blk ((w.alloc (.cells a 40)).alloc (.cells b 40)) (w.heap.size + 1) 40 b ∧ Below w.heap.size w ((w.alloc (.cells a 40)).alloc (.cells b 40)) := by
  have h1 := Blk.new w 40 a
  have h2 := Blk.new (w.alloc (.cells a 40)) 40 b
  rw [alloc_sizeC] at h2
  have hb : Below (w.alloc (.cells a 40)).heap.size (w.alloc (.cells a 40)) ((w.alloc (.cells a 40)).alloc (.cells b 40)) := (Below.refl _ _).alloc (Nat.le_refl _) _
  exact ⟨h1.below hb, h2, ((Below.refl w.heap.size w).alloc (Nat.le_refl _) _).alloc (by rw [alloc_sizeC]; omega) _⟩

set_option maxRecDepth 100000 in
set_option maxHeartbeats 4000000 in
theorem conagain_walk (A : Option Addr) (cp : Nat) (L : List Nd) (aN aT' aM : Addr) (w : World) (hrd : RdL w 5 ndc A L) (hc : L.length ≤ cp) (hm : cp ≤ maxLen) (hA : A = none → cp = 0) (hok : ∀ x ∈ L, NdOk x) (hE : ErrW w aN aT' aM) :
    Calls Tryd.prog 4 #[.slice A L.length cp] w fun e w' => e = .returned (.bool true) ∧ Below w.heap.size w w' := by
  obtain ⟨i0, hi, hz0, hz1, hz2⟩ := info_parts infoNode
  have FA := Lib.hid (first17_any aN aT' aM w hE)
  obtain ⟨m, hml⟩ : ∃ m, m = L.length := ⟨_, rfl⟩
  have hsl : SlRd w (.slice A m cp) L := by rw [hml]; exact ⟨A, cp, rfl, hrd, hc, hm, hA, trivial⟩
  rw [← hml] at hc ⊢
  have HM := Lib.hid hml
  have HOK := Lib.hid hok
  clear hml hok hrd hA
  go_enter Tryd.func4, Tryd.ntmps4
  generalize hQQ : bodyPost Tryd.prog Tryd.f4 (fun e w' => e = .returned (.bool true) ∧ Below w.heap.size w w') = QQ
  have HQQ := Lib.hid hQQ
  clear hQQ
  go_wp2_with fail
  refine FA.out.mono ?_
  rintro e w1 ⟨rfl, hb⟩
  replace hsl := hsl.below hb
  replace hE := hE.below hb
  by_cases h120 : 120 < m
  · go_wp2_with fail
    rw [← HQQ.out]
    go_ret
    exact ⟨rfl, hb⟩
  have h120' : decide ((120 : Int) < m) = false := decide_eq_false (by omega)
  have CK := Lib.hid (check_v _ L aN aT' aM w1 (by rw [← HM.out]; omega) HOK.out hsl hE)
  go_wp2_with fail
  refine CK.out.mono ?_
  rintro e w2 ⟨v, rfl, hv, hb2⟩
  replace hsl := hsl.below hb2
  replace hE := hE.below hb2
  replace hb := hb.trans (hb2.mono hb.size)
  clear hb2
  cases hmn : manyB L
  case true =>
    rw [hmn, if_pos rfl] at hv
    subst hv
    clear hmn
    go_wp2_with fail
    rw [← HQQ.out]
    go_ret
    exact ⟨rfl, hb⟩
  case false =>
  rw [hmn, if_neg Bool.noConfusion] at hv
  cases hcp : checkP L with
  | some z =>
    obtain ⟨i, nb⟩ := z
    rw [hcp] at hv
    obtain ⟨g, rfl, _⟩ := hv
    clear hmn hcp
    go_wp2_with fail
    rw [← HQQ.out]
    go_ret
    exact ⟨rfl, hb⟩
  | none =>
  rw [hcp] at hv
  obtain rfl : v = Value.nilIface := hv
  have h0 : L.length ≠ 0 := by
    simp only [manyB, Bool.or_eq_false_iff, beq_eq_false_iff_ne, decide_eq_false_iff_not] at hmn
    omega
  obtain ⟨t, ht1, ht2⟩ := (check_tree L h0).1 hcp
  have htl : (flat t).length ≤ 120 := by rw [ht2, ← HM.out]; omega
  obtain ⟨hok1, hnf, hfl⟩ := const_spec 30 false t ht1
  have hok2 : OkAny (constT t) := ⟨30, false, hok1⟩
  have hnd2 := ok_nd hok2 (by omega)
  have PC := Lib.hid (show ∀ v W, SlRd W v L → ErrW W aN aT' aM → Calls Tryd.prog 17 #[v] W (VRet (flat (constT t)) W) from fun v W h1 h2 => by
    rw [← ht2] at h1
    exact cpass_tree v t aN aT' aM W ht1 (by omega) h1 h2)
  have PD := Lib.hid (show ∀ v W, SlRd W v (flat (constT t)) → ErrW W aN aT' aM → Calls Tryd.prog 17 #[v] W (VRet (flat (constT t)) W) from fun v W h1 h2 => by
    have h3 := cpass_tree v (constT t) aN aT' aM W hok1 (by omega) h1 h2
    rwa [const_id _ hnf] at h3)
  have CF := Lib.hid (show ∀ v W, SlRd W v (flat (constT t)) → Calls Tryd.prog 18 #[v] W (FRet true W) from fun v W h1 => by
    have h3 := check5_any v (flat (constT t)) W h1 (by omega) hnd2
    rwa [fineB_tree hok1 (by omega)] at h3)
  have SM := Lib.hid (show ∀ va vb W, SlRd W va (flat (constT t)) → SlRd W vb (flat (constT t)) → Calls Tryd.prog 19 #[va, vb] W (Ret W (.bool true)) from fun va vb W h1 h2 => sameT_yes va vb (constT t) W h1 h2 (by omega))
  have PA := Lib.hid (fun k (h : k < (flat (constT t)).length) => place_at (fun u => NF u ∧ OkAny u) (fun u hu v hv => ⟨hu.1.kids v hv, okAny_kids u hu.2 v hv⟩) ⟨hnf, hok2⟩ h)
  have NC := Lib.hid (show ∀ v W, SlRd W v L → Calls Tryd.prog 16 #[v] W (VRet L W) from fun v W h => nodes_any v L W h (by rw [← HM.out]; omega))
  have SL := Lib.hid (show ∀ va vb W, SlRd W va L → SlRd W vb L → Calls Tryd.prog 20 #[va, vb] W (Ret W (.bool true)) from fun va vb W h1 h2 => by
    have h3 := samenodes_v va vb _ _ W h1 h2 (by rw [← HM.out]; omega) (by rw [← HM.out]; omega)
    rw [(sameL_iff _ _).2 rfl] at h3
    exact h3)
  generalize flat (constT t) = R at *
  obtain ⟨r, hr⟩ : ∃ r, r = R.length := ⟨_, rfl⟩
  have hr120 : r ≤ 120 := by rw [hr]; omega
  have HR := Lib.hid hr
  clear hr hmn hcp h0 ht1 ht2 htl hfl hok1 hok2 hnd2 hnf CK FA HOK
  go_wp2_with fail
  refine (NC.out _ _ hsl).mono ?_
  rintro e w3 ⟨A2, n2, c2, rfl, ⟨_, _, he, ho2⟩, hb2⟩
  injection he with he1 he2 he3
  subst he1 he2 he3
  rw [← HM.out] at ho2 ⊢
  have hb2' := hb.trans (hb2.mono hb.size)
  go_wp2_with (at_builtin; refine wpList_push rfl _ _ _ rfl Tryd.underlying23 hi hz0 hz1 hz2 rfl (by decide) ho2 rfl rfl rfl (by simp [Value.oneCell']) (by omega) (by decide) hb2.size ?_; intro A3 c3 w3' ho3 hb3 hoo3; have hcap3 := own_capC ho3; have hcap3' : m ≤ c3 := (by omega))
  obtain ⟨g3, rfl⟩ := own_addr' ho3 (Nat.succ_pos _)
  have hb3' := hb2'.trans (hb3.mono hb.size)
  clear ho2 hoo3
  have hO3 : w3'.ownsRow w2.heap.size 40 5 (.slice (some ⟨g3, 0, none⟩) (m + 1) c3) (m + 1) ((L ++ [markC (-5)]).flatMap ndc) := by rw [snoc_flatC]; exact ho3
  have hML : m + 1 = (L ++ [markC (-5)]).length := by rw [List.length_append, ← HM.out]; rfl
  have s3 := SlRd.cutC hO3 hML
  rw [← HM.out] at s3
  have hbo := hb2.trans hb3
  have hsl3 := hsl.below hbo
  have hE3 := hE.below hbo
  have hmk := hO3.cellAt (m * 5) (by omega)
  have hmk2 : ((L ++ [markC (-5)]).flatMap ndc)[m * 5]? = some (.int .i64 (-5)) := by
    rw [snoc_flatC, List.getElem?_append_right (by rw [flat_len ndc_len, ← HM.out]; exact Nat.le_refl _), flat_len ndc_len, ← HM.out, Nat.sub_self]
    rfl
  rw [hmk2] at hmk
  have hcm3 := hcap3.2
  have hcm1 := hcap3.1
  unfold maxLen at hcm3
  replace hb := hb3'
  clear ho3 hML hb2 hb2' hb3 hb3' hbo hcap3 hsl hE hmk2 hO3
  refine (PC.out _ _ s3 hE3).mono ?_
  rintro e w4 ⟨A4, n4, c4, rfl, ho4, hb4⟩
  have hn4 : n4 = r := by
    obtain ⟨_, _, he, _⟩ := id ho4
    simp only [Value.slice.injEq] at he
    rw [HR.out]
    exact he.2.1
  subst n4
  have s4 := ho4.rd
  replace s3 := s3.below hb4
  replace hsl3 := hsl3.below hb4
  replace hE3 := hE3.below hb4
  replace hb := hb.trans (hb4.mono hb.size)
  replace hmk := cell_keep hb4 hmk
  clear hb4 ho4 PC
  go_wp2_with fail
  refine (CF.out _ _ s4).mono ?_
  rintro e w5 ⟨c5, A5, n5, k5, rfl, h5, hb5⟩
  obtain rfl : c5 = 0 := by simpa using h5
  replace s3 := s3.below hb5
  replace s4 := s4.below hb5
  replace hsl3 := hsl3.below hb5
  replace hE3 := hE3.below hb5
  replace hb := hb.trans (hb5.mono hb.size)
  replace hmk := cell_keep hb5 hmk
  clear hb5 h5 CF
  obtain ⟨A4', c4', he, hrd4, hc4, hm4, hA4, _⟩ := id s4
  simp only [Value.slice.injEq] at he
  obtain ⟨rfl, hx4, rfl⟩ := he
  clear hx4
  rw [← HR.out] at hc4
  have hfd : ∀ W : World, (Instr.field 43 (.agg #[.int .i64 0, .slice A5 n5 k5]) 0).run Tryd.prog W = .ok (.int .i64 0) W := fun _ => by kernel_rfl
  go_wp2_with fail
  clear hfd
  refine (PD.out _ _ s4 hE3).mono ?_
  rintro e w7 ⟨A7, n7, c7, rfl, o7, hb7⟩
  have s7 := o7.rd
  replace s3 := s3.below hb7
  replace s4 := s4.below hb7
  replace hsl3 := hsl3.below hb7
  replace hb := hb.trans (hb7.mono hb.size)
  replace hmk := cell_keep hb7 hmk
  have hrd7 := hrd4.below hb7
  clear o7 hb7 hrd4 PD
  go_wp2_with fail
  refine (SM.out _ _ _ s7 s4).mono ?_
  rintro e w8 ⟨rfl, hb8⟩
  replace s3 := s3.below hb8
  replace s4 := s4.below hb8
  replace hsl3 := hsl3.below hb8
  replace hb := hb.trans (hb8.mono hb.size)
  replace hmk := cell_keep hb8 hmk
  have hrd8 := hrd7.below hb8
  clear hb8 s7 SM hrd7
  go_wp2_with fail
  refine (SL.out _ _ _ s3 hsl3).mono ?_
  rintro e w9 ⟨rfl, hb9⟩
  replace hb := hb.trans (hb9.mono hb.size)
  replace hmk := cell_keep hb9 hmk
  have hrd4 := hrd8.below hb9
  clear hb9 s3 hsl3 s4 SL hrd8
  go_wp2_with fail
  clear hmk hcm3 hcm1 hcap3'
  go_loopw [6] (fun iv wr => ∃ (k : Nat), iv = .int .i64 k ∧ k ≤ r ∧ Below w9.heap.size w9 wr) (fun iv _ => r - (intOf iv).toNat)
  case atStart => exact ⟨0, rfl, Nat.zero_le _, Below.refl _ _⟩
  case round =>
    obtain ⟨k, rfl, hkr, hbr⟩ := hrel
    by_cases hlt : k < r
    · have hlt' : k < R.length := by rw [← HR.out]; exact hlt
      obtain ⟨u, hu, hu1, hu2, hu3, hu4⟩ := PA.out k hlt'
      obtain ⟨b, o, rfl, hbl⟩ := hrd4.addr (by omega)
      have c0 := cell_keep hbr ((hrd4.at_ hlt').2 0 _ rfl)
      have c3 := cell_keep hbr ((hrd4.at_ hlt').2 3 _ rfl)
      rw [hu1] at c0
      rw [hu2] at c3
      simp only [Nat.add_zero] at c0
      rw [← HR.out] at hu3
      have hql : (flat u).length ≤ 4000000 := by omega
      obtain ⟨q, hq⟩ : ∃ q, q = (flat u).length := ⟨_, rfl⟩
      have hu4' : (R.drop k).take q = flat u := by rw [hq]; exact hu4
      have hsu : SlRd wr (.slice (some ⟨b, o + k * 5, none⟩) q (c4 - k)) (flat u) := by
        refine ⟨some ⟨b, o + k * 5, none⟩, c4 - k, by rw [hq], ?_, by omega, by unfold maxLen at hm4 ⊢; omega, (fun h => by cases h), trivial⟩
        rw [← hu4']
        exact RdL.take (RdL.drop (hrd4.below hbr) k addr_drop) q
      have KU := Lib.hid (kids5_treeC _ u wr hsu hql)
      have hq1 := flat_pos u
      rw [← hq] at c3 hu3 hq1
      have HJ := Lib.hid (fun h => join_in hu h)
      have hkl := kids_len u
      have HKL := Lib.hid (show u.kids.length ≤ 120 by omega)
      clear hu hu1 hu2 hu4 hu4' hsu hql hq hlt' hkl
      cases hkd : (u.kind == 4)
      case false =>
        have hkd2 : (u.kind != 4) = true := by rw [bne, hkd]; rfl
        clear HJ KU
        go_wp2_with fail
        go_roundw
        case rel => exact ⟨k + 1, by go_num, by omega, hbr⟩
        case measure => simp [intOf]; omega
      case true =>
        have hkd3 : u.kind = 4 := by simpa using hkd
        obtain ⟨j1, j2, j3, j4⟩ := HJ.out hkd3
        have J2 := Lib.hid j2
        have J3 := Lib.hid j3
        have J4 := Lib.hid j4
        have hkd2 : (u.kind != 4) = false := by rw [bne, hkd]; rfl
        clear HJ j2 j3 j4
        go_wp2_with fail
        refine KU.out.mono ?_
        rintro e w6 ⟨A6, c6, rfl, hk6, hb6⟩
        clear KU
        obtain ⟨K, hK⟩ : ∃ K, K = u.kids.length := ⟨_, rfl⟩
        have hK120 : K ≤ 120 := by rw [hK]; exact HKL.out
        have hK1 : 0 < K := by omega
        rw [← hK]
        have HK := Lib.hid hK
        have hb56 := hbr.trans (hb6.mono hbr.size)
        clear hbr hb6 c0 c3 hK j1
        go_wp2_with fail
        go_loopw [8] (fun jv ws => ∃ i : Nat, jv = .int .i64 ((i : Int) + 1) ∧ i + 1 ≤ K ∧ Below w6.heap.size w6 ws) (fun jv _ => K - (intOf jv).toNat)
        case atStart => exact ⟨0, rfl, by omega, Below.refl _ _⟩
        case round =>
          obtain ⟨i, rfl, hiK, hbz⟩ := hrel
          by_cases hjl : i + 1 < K
          · have hi1 : i < (u.kids.map flat).length := by rw [List.length_map, ← HK.out]; omega
            have hi2 : i + 1 < (u.kids.map flat).length := by rw [List.length_map, ← HK.out]; exact hjl
            have hi3 : i + 1 < u.kids.length := by rw [← HK.out]; exact hjl
            obtain ⟨ba, oa, va, rfl, hba, hca, hsa⟩ := (hk6.below hbz).at_ hi1
            obtain ⟨bb, ob, vb, he, hbb, hcb, hsb⟩ := (hk6.below hbz).at_ hi2
            simp only [Option.some.injEq, Addr.mk.injEq, and_true] at he
            obtain ⟨he1, he2⟩ := he
            subst he1 he2
            rw [List.getElem_map] at hsa hsb
            have hft := J3.out i hi3
            have hla := J4.out u.kids[i] (List.getElem_mem _)
            have hlb := J4.out u.kids[i + 1] (List.getElem_mem _)
            obtain ⟨a, ha⟩ : ∃ a, a = u.kids[i]'(by omega) := ⟨_, rfl⟩
            obtain ⟨b', hb'⟩ : ∃ b', b' = u.kids[i + 1] := ⟨_, rfl⟩
            rw [← ha] at hsa hft hla
            rw [← hb'] at hsb hft hlb
            obtain ⟨Aa, ca, hea, -⟩ := id hsa
            obtain ⟨Ab, cb', heb, -⟩ := id hsb
            rw [hea] at hsa hca
            rw [heb] at hsb hcb
            obtain ⟨na, hna⟩ : ∃ na, na = (flat a).length := ⟨_, rfl⟩
            obtain ⟨nb, hnb⟩ : ∃ nb, nb = (flat b').length := ⟨_, rfl⟩
            rw [← hna] at hsa hca
            rw [← hnb] at hsb hcb
            obtain ⟨b3, o3, rfl, h03, -, -, -, e0, e1, e2, e3, e4⟩ := head_cells hsa
            obtain ⟨b5, o5, rfl, h05, -, -, -, f0, f1, f2, f3, f4⟩ := head_cells hsb
            have hpa := fun (p : Addr) (v : Value) (hp : wr.cell? p = some v) (o : Obj) => cell_keep ((Below.refl wr.heap.size wr).alloc (Nat.le_refl _) o) hp
            have g0 := hpa _ _ hcb
            have g1 := hpa _ _ f0
            have g2 := hpa _ _ f1
            have g3 := hpa _ _ f2
            have g4 := hpa _ _ f3
            have g5 := hpa _ _ f4
            obtain ⟨B8, B9, hbn⟩ := new2D wr #[.int .i64 a.kind, .int .i64 a.num, .int .i64 a.kids.length, .int .i64 (flat a).length, .string ⟨a.str.toArray⟩] #[.int .i64 b'.kind, .int .i64 b'.num, .int .i64 b'.kids.length, .int .i64 (flat b').length, .string ⟨b'.str.toArray⟩]
            have x0 := B8.cell 0
            have x1 := B8.cell 1
            have x4 := B8.cell 4
            have y0 := B9.cell 0
            have y1 := B9.cell 1
            have y4 := B9.cell 4
            simp only [List.getElem?_toArray, List.getElem?_cons_zero, List.getElem?_cons_succ] at x0 x1 x4 y0 y1 y4
            have HBW := Lib.hid (hbz.trans (hbn.mono hbz.size))
            obtain ⟨la, hlaq⟩ : ∃ la, a.str.length = la := ⟨_, rfl⟩
            obtain ⟨lb, hlbq⟩ : ∃ lb, b'.str.length = lb := ⟨_, rfl⟩
            have HF := Lib.hid (show (((b'.kind == 1) && (a.kind == 1) && (a.num == b'.num)) && decide (la + lb ≤ 2000)) = false by rw [← hlaq, ← hlbq]; exact hft)
            have hla9 : la ≤ 2000 := by omega
            have hlb9 : lb ≤ 2000 := by omega
            clear hft hla hlb ha hb' hsa hsb hea heb hna hnb hpa B8 B9 hbn hi1 hi2 hi3 hba hbb hk6
            cases ka : (a.kind == 1)
            · clear HF
              go_wp2_with fail
              go_roundw
              case rel => exact ⟨i + 1, by go_num, by omega, HBW.out⟩
              case measure => simp [intOf]; omega
            · cases kb : (b'.kind == 1)
              · clear HF
                go_wp2_with fail
                go_roundw
                case rel => exact ⟨i + 1, by go_num, by omega, HBW.out⟩
                case measure => simp [intOf]; omega
              · cases kn : (a.num == b'.num)
                · clear HF
                  go_wp2_with fail
                  go_roundw
                  case rel => exact ⟨i + 1, by go_num, by omega, HBW.out⟩
                  case measure => simp [intOf]; omega
                · have hgt : decide ((la : Int) ≤ 2000 - (lb : Int)) = false := by
                    have h := HF.out
                    rw [ka, kb, kn] at h
                    have h2 : ¬ (la + lb ≤ 2000) := by simpa using h
                    exact decide_eq_false (by omega)
                  clear HF
                  go_wp2_with fail
                  go_roundw
                  case rel => exact ⟨i + 1, by go_num, by omega, HBW.out⟩
                  case measure => simp [intOf]; omega
          · obtain rfl : K = i + 1 := by omega
            have h00 : 0 < (u.kids.map flat).length := by rw [List.length_map, ← HK.out]; omega
            have h01 : 0 < u.kids.length := by rw [← HK.out]; omega
            obtain ⟨ba, oa, va, rfl, hba, hca, hsa⟩ := (hk6.below hbz).at_ h00
            rw [List.getElem_map] at hsa
            have hj0 := J2.out h01
            generalize u.kids[0] = a at *
            obtain ⟨Aa, ca, hea, -⟩ := id hsa
            rw [hea] at hsa hca
            obtain ⟨na, hna⟩ : ∃ na, na = (flat a).length := ⟨_, rfl⟩
            rw [← hna] at hsa hca
            obtain ⟨b3, o3, rfl, h03, -, -, -, e0, -, -, -, -⟩ := head_cells hsa
            simp only [Nat.add_zero] at hca
            have hb57 := hb56.trans (hbz.mono hb56.size)
            clear hsa hea hna h00 h01 hba hk6
            go_wp2_with fail
            go_roundw
            case rel => exact ⟨k + 1, by go_num, by omega, hb57⟩
            case measure => simp [intOf]; omega
    · obtain rfl : k = r := by omega
      have hbw := hb.trans (hbr.mono hb.size)
      go_wp2_with fail
      rw [← HQQ.out]
      go_ret
      exact ⟨rfl, hbw⟩
theorem conagain_upto (A : Option Addr) (cp : Nat) (L : List Nd) (aN aT' aM : Addr) (w : World) (hrd : RdL w 5 ndc A L) (hc : L.length ≤ cp) (hm : cp ≤ maxLen) (hA : A = none → cp = 0) (hi : ∀ y ∈ L, NdIn y) (hb : L.length ≤ 1048576 ∧ ∀ y ∈ L, y.s.length ≤ 1048576) (hE : ErrW w aN aT' aM) :
    Calls Tryd.prog 4 #[.slice A L.length cp] w fun e w' => e = .returned (.bool true) ∧ Below w.heap.size w w' :=
  conagain_walk A cp L aN aT' aM w hrd hc hm hA (fun y hy => ⟨by have := hb.2 y hy; omega, wf_leC (hi y hy).2.2.2.1⟩) hE
end Go.Proofs.YthmeonimianoeaaDoor
