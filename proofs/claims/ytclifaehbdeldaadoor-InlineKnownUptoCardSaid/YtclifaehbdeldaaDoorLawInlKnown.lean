/- InlineKnown: whatever nodes are handed in, the law answers true. Bounds on the lengths. -/
import Derived.Test.YtclifaehbdeldaaDoorLawInlOwn
import Derived.Test.YtclifaehbdeldaaDoorGC
import Derived.Test.YtclifaehbdeldaaDoorTextsW
import Derived.Test.YtclifaehbdeldaaDoorGA
import Derived.Deep.CutRange
import Derived.OwnWalk
import Derived.Sort.Walk0
import Derived.Outline
set_option linter.unusedVariables false
set_option linter.unusedSimpArgs false
namespace Go.Proofs.YtclifaehbdeldaaDoor
open Go.RowKit Go.Sort

theorem insB_at {x : List UInt8} : ∀ {W : List (List UInt8)} {m : Nat}, (∀ y ∈ W.take m, y < x) → (∀ h : m < W.length, ¬ W[m] < x) → insB x W = W.take m ++ x :: W.drop m
  | [], m, _, _ => by simp [insB]
  | y :: W, 0, _, h => by
    have := h (by simp)
    simp only [List.getElem_cons_zero] at this
    rw [insB, if_neg this]
    rfl
  | y :: W, m + 1, hT, h => by
    rw [List.take_succ_cons] at hT
    rw [insB, if_pos (hT y (List.mem_cons_self ..)), insB_at (m := m) (fun z hz => hT z (List.mem_cons_of_mem _ hz)) (fun hm => by have := h (by simpa using hm); simpa using this)]
    rfl
theorem own_lenK {w : World} {B : Nat} {e : TypeId} {sz n n' : Nat} {v : Value} {xs : List Value} (h : w.ownsRow B e sz v n xs) (hn : n = n') : w.ownsRow B e sz v n' xs := hn ▸ h
theorem kl1 {acc : List (List UInt8)} {m0 m : Nat} (h : m0 = acc.length) : m0 - m = (acc.drop m).length := by rw [List.length_drop, ← h]
theorem kl2 {acc : List (List UInt8)} {m0 : Nat} (h : m0 = acc.length) : 0 = (acc.drop m0).length := by rw [List.length_drop, ← h, Nat.sub_self]
theorem kd1 {W : World} {acc : List (List UInt8)} {m0 m g q : Nat} (hn : m0 = acc.length) (h : RdL W 1 strc (some ⟨g, q, none⟩) acc) : RdL W 1 strc (some ⟨g, q + m, none⟩) (acc.drop m) := by
  refine h.drop m fun b' o' he _ => ?_
  injection he with he
  injection he with h1 h2
  subst h1 h2
  rw [Nat.mul_one]
theorem kd2 {W : World} {acc : List (List UInt8)} {m0 : Nat} {A A' : Option Addr} (hn : m0 = acc.length) (h : RdL W 1 strc A acc) : RdL W 1 strc A' (acc.drop m0) := by
  rw [List.drop_of_length_le (by rw [← hn]; exact Nat.le_refl _)]
  exact RdL.nil _ _ _ _
theorem ka1 {a d : Addr} {c m : Nat} (h : some a = none → c = 0) : (some d : Option Addr) = none → c - m = 0 := fun h => by cases h
theorem ka2 {A : Option Addr} {c m : Nat} (hAz : A = none → c = 0) : (if c = m then A else Option.map (fun x => x.add m) A) = none → c - m = 0 := fun h => by
  by_cases hc : c = m
  · omega
  · rw [if_neg hc, Option.map_eq_none_iff] at h
    rw [hAz h]
    omega
def mkK (B n : Nat) : TT := ⟨fun v => ∃ g, v = .slice (some ⟨g, 0, none⟩) 0 n, ⟨_, 0, rfl⟩, fun v x => x.ownsRow B 9 1 v 0 [], fun _ _ _ h hb => own_below h hb⟩
theorem own_take (L : List Nd) (ks : List Tr) (k : Nat) (h : k < ks.length) : (ownK L (ks.take (k + 1))).map Tr.str = (ownK L (ks.take k)).map Tr.str ++ if cntF L ks[k].str == 1 then [ks[k].str] else [] := by
  rw [List.take_succ_eq_append_getElem h, ownK_snoc, List.map_append]
  split <;> rfl
theorem ownK_len (L : List Nd) (ks : List Tr) : (ownK L ks).length ≤ ks.length := List.length_filter_le ..
theorem insB_length (x : List UInt8) (W : List (List UInt8)) : (insB x W).length = W.length + 1 := by rw [(insB_perm x W).length_eq, List.length_cons]
theorem noB_nil {ss : List (List UInt8)} {B : Body} (hB : B = noB) (h : ∀ s, s ∈ ss ↔ (B s).isSome = true) : ss.length = 0 := by
  cases ss with
  | nil => rfl
  | cons s t =>
    have := (h s).1 (List.mem_cons_self ..)
    rw [hB] at this
    cases this

set_option maxRecDepth 100000 in
set_option maxHeartbeats 8000000 in
theorem inlknown_walk (A : Option Addr) (cp : Nat) (L : List Nd) (aN aT' aM : Addr) (w : World) (hrd : RdL w 5 ndc A L) (hc : L.length ≤ cp) (hm : cp ≤ maxLen) (hA : A = none → cp = 0) (hok : ∀ x ∈ L, NdOk x) (hE : ErrW w aN aT' aM) :
    Calls Tryd.prog 9 #[.slice A L.length cp] w fun e w' => e = .returned (.bool true) ∧ Below w.heap.size w w' := by
  obtain ⟨i0, hi, hz0, hz1, hz2⟩ := info_parts infoStr
  have FA := Lib.hid (first19_any aN aT' aM w hE)
  obtain ⟨m, hml⟩ : ∃ m, m = L.length := ⟨_, rfl⟩
  have hsl : SlRd w (.slice A m cp) L := by rw [hml]; exact ⟨A, cp, rfl, hrd, hc, hm, hA, trivial⟩
  rw [← hml] at hc ⊢
  have HM := Lib.hid hml
  have HOK := Lib.hid hok
  clear hml hok hrd hA
  go_enter Tryd.func9, Tryd.ntmps9
  go_wp2_with fail
  refine FA.out.mono ?_
  rintro e w1 ⟨rfl, hb⟩
  replace hsl := hsl.below hb
  replace hE := hE.below hb
  by_cases h120 : 120 < m
  · go_wp2_with fail
    go_ret
    exact ⟨rfl, hb⟩
  have h120' : decide ((120 : Int) < m) = false := decide_eq_false (by omega)
  have KN := Lib.hid (known_any _ L aN aT' aM w1 (by rw [← HM.out]; omega) HOK.out hsl hE)
  go_wp2_with fail
  refine KN.out.mono ?_
  rintro e w2 ⟨ss, Ag, cg, hs1, hs2, rfl, hgr, hb2⟩
  replace hsl := hsl.below hb2
  replace hb := hb.trans (hb2.mono hb.size)
  have HS1 := Lib.hid hs1
  have HS2 := Lib.hid hs2
  have C5 := Lib.hid (check5_any _ L w2 hsl (by rw [← HM.out]; omega) HOK.out)
  clear KN hb2 hs1 hs2 hE
  go_wp2_with fail
  refine C5.out.mono ?_
  rintro e w3 ⟨cd, Ae, ne, ke, rfl, hcd, hb3⟩
  have hfd : ∀ W : World, (Instr.field 49 (.agg #[.int .i64 cd, .slice Ae ne ke]) 0).run Tryd.prog W = .ok (.int .i64 cd) W := fun W => by kernel_rfl
  replace hsl := hsl.below hb3
  replace hb := hb.trans (hb3.mono hb.size)
  replace hgr := hgr.below hb3
  clear C5 hb3
  cases hf : fineB L
  case false =>
    have hcn : (cd != 0) = true := by rw [bne, hcd, hf]; rfl
    have hs0 : ss.length = 0 := by
      refine noB_nil (B := (funcL L).1) ?_ HS2.out
      unfold funcL
      rw [theT_bad]
      unfold fineB at hf
      rw [Bool.and_eq_false_iff] at hf
      rcases hf with hf | hf
      · left; simpa using hf
      · right; intro h; rw [h] at hf; cases hf
    rw [hs0]
    clear hcd hf hs0
    go_wp2_with fail
    go_ret
    exact ⟨rfl, hb⟩
  case true =>
  have hcn : (cd != 0) = false := by rw [bne, hcd, hf]; rfl
  obtain ⟨t, ht1, ht2, ht3⟩ : ∃ t, okT 30 false t = true ∧ flat t = L ∧ L.length ≤ 3000 := by
    unfold fineB at hf
    rw [Bool.and_eq_true] at hf
    have hmn : manyB L = false := by simpa using hf.1
    have hcn : checkP L = none := by simpa using hf.2
    obtain ⟨h0, h3⟩ : L.length ≠ 0 ∧ L.length ≤ 3000 := by
      simp only [manyB, Bool.or_eq_false_iff, beq_eq_false_iff_ne, decide_eq_false_iff_not] at hmn
      omega
    obtain ⟨t, h1, h2⟩ := (check_tree L h0).1 hcn
    exact ⟨t, h1, h2, h3⟩
  subst ht2
  clear hcd hf
  obtain ⟨Al, cl, he, hrd, _⟩ := hsl
  injection he with he1 he2 he3
  subst he1 he3
  clear he2
  have hpos := flat_pos t
  obtain ⟨b, o, rfl, _⟩ := hrd.addr hpos
  have c0 := (hrd.at_ hpos).2 0 _ rfl
  rw [flat_get0] at c0
  simp only [Nat.zero_mul, Nat.add_zero] at c0
  rw [← HM.out] at hpos ht3
  cases hk : (t.kind == 23)
  case false =>
    have hkn : (t.kind != 23) = true := by rw [bne, hk]; rfl
    have hs0 : ss.length = 0 := by
      refine noB_nil (B := (funcL (flat t)).1) ?_ HS2.out
      unfold funcL
      rw [theT_tree ht1 (by rw [← HM.out]; exact ht3)]
      simp only
      unfold funOf
      rw [hk]
      rfl
    rw [hs0]
    clear hk hs0
    go_wp2_with fail
    go_ret
    exact ⟨rfl, hb⟩
  case true =>
  have hkn : (t.kind != 23) = false := by rw [bne, hk]; rfl
  have HK := Lib.hid hk
  have hr1 : RdL (w3.alloc (.cells #[.int .i64 36] 3)) 1 intc (some ⟨w3.heap.size, 0, none⟩) [36] := by
    intro k hk
    have hk0 : k = 0 := by simpa using hk
    subst hk0
    refine ⟨w3.heap.size, 0, rfl, (Blk.new w3 _ _).lt, fun j u hu => ?_⟩
    have z0 := (Blk.new w3 3 #[.int .i64 36]).cell 0
    cases j with
    | zero => simp only [intc, List.getElem_cons_zero, List.getElem?_cons_zero, Option.some.injEq] at hu; subst hu; simp [z0]
    | succ j => simp [intc] at hu
  have hba : Below w3.heap.size w3 (w3.alloc (.cells #[.int .i64 36] 3)) := (Below.refl _ _).alloc (Nat.le_refl _) _
  have HC := Lib.hid (has_any (some ⟨b, o, none⟩) cp m (flat t) (some ⟨w3.heap.size, 0, none⟩) 1 1 [36] _ HM.out rfl (hrd.below hba) (by rw [← HM.out]; omega) hr1 (by decide))
  have HBA := Lib.hid hba
  have HR := Lib.hid hrd
  have HOK2 := Lib.hid ht1
  clear hr1 hba hrd hk ht1
  obtain ⟨qa, hqa⟩ : ∃ qa, qa = (flat t).any fun x => [36].contains x.kind := ⟨_, rfl⟩
  rw [← hqa] at HC
  have HQA := Lib.hid hqa
  clear hqa
  go_wp2_with fail
  refine HC.out.mono ?_
  rintro e w4 ⟨rfl, hb4⟩
  have hb34 := HBA.out.trans (hb4.mono HBA.out.size)
  replace hb := hb.trans (hb34.mono hb.size)
  replace hgr := hgr.below hb34
  cases qa
  case true =>
    have hs0 : ss.length = 0 := by
      refine noB_nil (B := (funcL (flat t)).1) ?_ HS2.out
      unfold funcL
      rw [theT_tree HOK2.out (by rw [← HM.out]; exact ht3)]
      simp only
      unfold funOf
      rw [← HQA.out, HK.out]
      rfl
    rw [hs0]
    clear hs0
    go_wp2_with fail
    go_ret
    exact ⟨rfl, hb⟩
  case false =>
  have HPM := Lib.hid (names_perm HOK2.out (by rw [← HM.out]; exact ht3) (by rw [HK.out, ← any36, ← HQA.out]; rfl) HS1.out HS2.out)
  have hrd4 := HR.out.below hb34
  have K5 := Lib.hid (show Calls Tryd.prog 38 #[.slice (some ⟨b, o, none⟩) m cp] w4 (Kids5Ret (t.kids.map flat) w4) by
    rw [← kidsL_tree]
    exact kids5_any _ _ w4 ⟨_, cp, by rw [HM.out], hrd4, by rw [← HM.out]; omega, by omega, (fun h => by cases h), trivial⟩ (by rw [← HM.out]; omega))
  replace HR := Lib.hid hrd4
  clear hrd4 hb34 hb4 HC HBA HQA HS1 HS2 hkn c0
  go_wp2_with fail
  refine K5.out.mono ?_
  rintro e w5 ⟨A5, c5, vs, rfl, hown5, hall5, hb5⟩
  replace hb := hb.trans (hb5.mono hb.size)
  replace hgr := hgr.below hb5
  replace HR := Lib.hid (HR.out.below hb5)
  have h1 : w5.ownsRow w4.heap.size 22 1 (.slice A5 (t.kids.map flat).length c5) (t.kids.map flat).length (vs.flatMap one1) := by rw [one1_flat]; exact hown5
  have HKD := Lib.hid (show KdRd w5 A5 (t.kids.map flat) by
    obtain ⟨A', c', he, _, _, hrdd, _⟩ := RdL.of_own one1_len h1 hall5.1.symm
    injection he with he1 _ _
    subst he1
    exact ⟨vs, hrdd, hall5⟩)
  rw [List.length_map]
  obtain ⟨n, hn⟩ : ∃ n, n = t.kids.length := ⟨_, rfl⟩
  rw [← hn]
  have HN := Lib.hid hn
  have hnm : n ≤ 121 := by
    have h1 := len_flatAll t.kids
    have h2 := flat_kids_le t
    have h4 := HM.out
    omega
  clear hn h1 hown5 hall5 hb5 K5
  go_upto_region 10 with (fail)
  go_loopw [6, 7] (fun v i wr => ∃ (k : Nat) (acc : List (List UInt8)), k ≤ n ∧ i = .int .i64 k ∧ acc.length ≤ k ∧ wr.ownsRow w5.heap.size 9 1 v acc.length (acc.flatMap strc) ∧ Below w5.heap.size w5 wr ∧ Hid (∀ j (_ : j < k) (h2 : j < t.kids.length), t.kids[j].kind = 31) ∧ Hid (acc = insAll ((ownK (flat t) (t.kids.take k)).map Tr.str))) (fun _ i _ => n - (intOf i).toNat)
  case atStart => exact ⟨0, [], Nat.zero_le _, rfl, Nat.zero_le _, World.ownsRow_nil _ _ _ _, Below.refl _ _, Lib.hid (fun j h => absurd h (Nat.not_lt_zero _)), Lib.hid rfl⟩
  case round =>
    obtain ⟨k, acc, hk, rfl, hak, hown, hbw, HAL, HACC⟩ := hrel
    obtain ⟨A6, c6, rfl, hmc, hcm, hra, hAz⟩ := RdL.of_own strc_len hown rfl
    obtain ⟨m0, hm0⟩ : ∃ m0, m0 = acc.length := ⟨_, rfl⟩
    rw [← hm0] at hown hak hmc ⊢
    have HM0 := Lib.hid hm0
    clear hm0
    by_cases hlt : k < n
    · have hlt' : k < t.kids.length := by rw [← HN.out]; exact hlt
      obtain ⟨b5, o5, vk, rfl, _, hck, hsk⟩ := (HKD.out.below hbw).at_ (k := k) (by rw [List.length_map]; exact hlt')
      rw [List.getElem_map] at hsk
      obtain ⟨kt, hkt⟩ : ∃ kt, kt = t.kids[k] := ⟨_, rfl⟩
      rw [← hkt] at hsk
      have HKT := Lib.hid (show ∀ h : k < t.kids.length, kt = t.kids[k] from fun _ => hkt)
      have HOT := Lib.hid (own_take (flat t) t.kids k hlt')
      rw [← hkt] at HOT
      have hpk := flat_pos kt
      obtain ⟨Ak, ckk, rfl, hrk, hcl, _⟩ := hsk
      obtain ⟨bk, ok, rfl, _⟩ := hrk.addr hpk
      have hx := (hrk.at_ hpk).2
      rw [flat_get0] at hx
      have y0 := hx 0 _ rfl
      have y4 := hx 4 _ rfl
      simp only [Nat.zero_mul, Nat.add_zero] at y0 y4
      obtain ⟨nk, hnk⟩ : ∃ nk, nk = (flat kt).length := ⟨_, rfl⟩
      rw [← hnk] at hcl hpk hck
      obtain ⟨nm, hnm⟩ : ∃ nm, nm = kt.str := ⟨_, rfl⟩
      rw [← hnm] at y4 HOT
      have HNM := Lib.hid hnm
      clear hx hrk hkt hlt' hnk hnm
      cases hkk : (kt.kind == 31)
      case false =>
        have HLE := Lib.hid (show leadF t.kids = t.kids.take k from lead_at t.kids k (by rw [← HN.out]; exact hk) (fun j h => HAL.out j h _) (fun h he => by rw [← HKT.out h] at he; rw [he] at hkk; cases hkk))
        clear y4
        go_wp2_with fail
        have HEQ := Lib.hid (show ss.mergeSort leB = acc by
          rw [HACC.out, insAll_sort]
          have hp := HPM.out
          unfold ownF at hp
          rw [HLE.out] at hp
          exact mergeSort_of_perm hp)
        have HSM := Lib.hid (show Calls Tryd.prog 39 #[.slice Ag ss.length cg, .slice A6 m0 c6] wr (Ret wr (.bool true)) by
          have h1 := sameTexts_any Ag A6 cg c6 (ss.mergeSort leB) acc wr (hgr.below hbw) hra (by rw [HEQ.out, ← HM0.out]; omega) (by rw [← HM0.out]; omega)
          rw [HEQ.out, decide_eq_true rfl, ← HM0.out] at h1
          have h2 : ss.length = m0 := by rw [HM0.out, ← HEQ.out]; exact (List.mergeSort_perm ss leB).length_eq.symm
          rw [h2]
          exact h1)
        have hbz := hb.trans (hbw.mono hb.size)
        clear hgr hra hown
        refine HSM.out.mono ?_
        rintro e w9 ⟨rfl, hb9⟩
        go_wp2_with fail
        go_ret
        exact ⟨rfl, hbz.trans (hb9.mono hbz.size)⟩
      case true =>
        have HAL2 := Lib.hid (show ∀ j (_ : j < k + 1) (h2 : j < t.kids.length), t.kids[j].kind = 31 from fun j h h2 => by
          rcases Nat.lt_succ_iff_lt_or_eq.1 h with h | rfl
          · exact HAL.out j h h2
          · rw [← HKT.out h2]; simpa using hkk)
        go_upto_region 14 with (fail)
        go_loopw [8, 9] (fun c j wq => ∃ q : Nat, q ≤ m ∧ j = .int .i64 q ∧ c = .int .i64 (cntF ((flat t).take q) nm) ∧ Below wr.heap.size wr wq) (fun _ j _ => m - (intOf j).toNat)
        case atStart => exact ⟨0, Nat.zero_le _, rfl, by simp [cntF], Below.refl _ _⟩
        case round =>
          obtain ⟨q, hq, rfl, rfl, hbq⟩ := hrel
          generalize wr = wr0 at *
          by_cases hql : q < m
          · have hql' : q < (flat t).length := by rw [← HM.out]; exact hql
            have hc := ((HR.out.below (hbw.trans (hbq.mono hbw.size))).at_ hql').2
            obtain ⟨x, hx⟩ : ∃ x, x = (flat t)[q] := ⟨_, rfl⟩
            have HT := Lib.hid (show cntF ((flat t).take (q + 1)) nm = cntF ((flat t).take q) nm + if x.kind == 31 && x.s == nm then 1 else 0 by
              rw [List.take_succ_eq_append_getElem hql', cntF_append, ← hx]
              unfold cntF
              rw [List.countP_cons, List.countP_nil, Nat.zero_add])
            have hcl2 : cntF ((flat t).take q) nm ≤ q := Nat.le_trans (cntF_le _ _) (List.length_take_le ..)
            rw [← hx] at hc
            have x0 := hc 0 _ rfl
            have x4 := hc 4 _ rfl
            simp only [Nat.add_zero] at x0
            obtain ⟨cq, hcq⟩ : ∃ cq, cq = cntF ((flat t).take q) nm := ⟨_, rfl⟩
            rw [← hcq] at hcl2 HT ⊢
            have l0 := Later.cell x0
            have l1 := Later.cell x4
            have l2 := Later.cell (cell_keep hbq hck)
            have l3 := Later.cell (cell_keep hbq y4)
            clear hc hx hql' hcq
            cases hk31 : (x.kind == 31)
            case false =>
              rw [hk31] at HT
              clear l1 l2 l3
              go_upto_region 16 with (fail)
              refine wp_region_eq (by kernel_rfl) (by kernel_rfl) ?_
              apply EqGo.run
              focus
                kernel_rfl
              focus
                intro x K hK
                go_wp2_with fail
                first | exact hK x (Below.refl _ _) | exact Below.refl _ _
              simp only [Act.put, List.setIfInBounds_toArray, List.set_cons_succ, List.set_cons_zero]
              apply EqGo.run
              focus
                kernel_rfl
              focus
                intro x K hK
                go_wp2_with fail
                first | exact hK x (Below.refl _ _) | exact Below.refl _ _
              simp only [Act.put, List.setIfInBounds_toArray, List.set_cons_succ, List.set_cons_zero]
              apply EqGo.run
              focus
                kernel_rfl
              focus
                intro x K hK
                go_wp2_with fail
                first | exact hK x (Below.refl _ _) | exact Below.refl _ _
              simp only [Act.put, List.setIfInBounds_toArray, List.set_cons_succ, List.set_cons_zero]
              apply EqGo.run
              focus
                kernel_rfl
              focus
                intro x K hK
                go_wp2_with fail
                first | exact hK x (Below.refl _ _) | exact Below.refl _ _
              simp only [Act.put, List.setIfInBounds_toArray, List.set_cons_succ, List.set_cons_zero]
              apply EqGo.run
              focus
                kernel_rfl
              focus
                intro x K hK
                go_wp2_with fail
                first | exact hK x (Below.refl _ _) | exact Below.refl _ _
              simp only [Act.put, List.setIfInBounds_toArray, List.set_cons_succ, List.set_cons_zero]
              apply EqGo.run
              focus
                kernel_rfl
              focus
                intro x K hK
                go_wp2_with fail
                first | exact hK x (Below.refl _ _) | exact Below.refl _ _
              simp only [Act.put, List.setIfInBounds_toArray, List.set_cons_succ, List.set_cons_zero]
              apply EqGo.run
              focus
                kernel_rfl
              focus
                intro x K hK
                go_wp2_with fail
                first | exact hK x (Below.refl _ _) | exact Below.refl _ _
              simp only [Act.put, List.setIfInBounds_toArray, List.set_cons_succ, List.set_cons_zero]
              apply EqGo.skip
              focus
                kernel_rfl
              simp only [Act.put, List.setIfInBounds_toArray, List.set_cons_succ, List.set_cons_zero]
              apply EqGo.skip
              focus
                kernel_rfl
              simp only [Act.put, List.setIfInBounds_toArray, List.set_cons_succ, List.set_cons_zero]
              apply EqGo.skip
              focus
                kernel_rfl
              simp only [Act.put, List.setIfInBounds_toArray, List.set_cons_succ, List.set_cons_zero]
              apply EqGo.skip
              focus
                kernel_rfl
              simp only [Act.put, List.setIfInBounds_toArray, List.set_cons_succ, List.set_cons_zero]
              apply EqGo.skip
              focus
                kernel_rfl
              simp only [Act.put, List.setIfInBounds_toArray, List.set_cons_succ, List.set_cons_zero]
              apply EqGo.skip
              focus
                kernel_rfl
              simp only [Act.put, List.setIfInBounds_toArray, List.set_cons_succ, List.set_cons_zero]
              apply EqGo.skip
              focus
                kernel_rfl
              simp only [Act.put, List.setIfInBounds_toArray, List.set_cons_succ, List.set_cons_zero]
              apply EqGo.skip
              focus
                kernel_rfl
              simp only [Act.put, List.setIfInBounds_toArray, List.set_cons_succ, List.set_cons_zero]
              apply EqGo.skip
              focus
                kernel_rfl
              simp only [Act.put, List.setIfInBounds_toArray, List.set_cons_succ, List.set_cons_zero]
              apply EqGo.skip
              focus
                kernel_rfl
              simp only [Act.put, List.setIfInBounds_toArray, List.set_cons_succ, List.set_cons_zero]
              apply EqGo.skip
              focus
                kernel_rfl
              simp only [Act.put, List.setIfInBounds_toArray, List.set_cons_succ, List.set_cons_zero]
              apply EqGo.skip
              focus
                kernel_rfl
              simp only [Act.put, List.setIfInBounds_toArray, List.set_cons_succ, List.set_cons_zero]
              apply EqGo.skip
              focus
                kernel_rfl
              simp only [Act.put, List.setIfInBounds_toArray, List.set_cons_succ, List.set_cons_zero]
              apply EqGo.run
              focus
                kernel_rfl
              focus
                intro x K hK
                go_wp2_with fail
                first | exact hK x (Below.refl _ _) | exact Below.refl _ _
              simp only [Act.put, List.setIfInBounds_toArray, List.set_cons_succ, List.set_cons_zero]
              intro xq
              have hbx := hbq.trans (xq.below.mono hbq.size)
              clear l0
              generalize xq.val = ws at *
              clear xq hbq
              go_wp2_with fail
              go_roundw
              case rel => exact ⟨q + 1, by omega, by go_num, by rw [HT.out]; simp, hbx⟩
              case measure => simp [intOf]; omega
            case true =>
              rw [hk31] at HT
              obtain ⟨bb, hbb⟩ : ∃ bb, (x.s == nm) = bb := ⟨_, rfl⟩
              rw [hbb] at HT
              go_upto_region 16 with (fail)
              refine wp_region_eq (by kernel_rfl) (by kernel_rfl) ?_
              apply EqGo.run
              focus
                kernel_rfl
              focus
                intro x K hK
                go_wp2_with fail
                first | exact hK x (Below.refl _ _) | exact Below.refl _ _
              simp only [Act.put, List.setIfInBounds_toArray, List.set_cons_succ, List.set_cons_zero]
              apply EqGo.run
              focus
                kernel_rfl
              focus
                intro x K hK
                go_wp2_with fail
                first | exact hK x (Below.refl _ _) | exact Below.refl _ _
              simp only [Act.put, List.setIfInBounds_toArray, List.set_cons_succ, List.set_cons_zero]
              apply EqGo.run
              focus
                kernel_rfl
              focus
                intro x K hK
                go_wp2_with fail
                first | exact hK x (Below.refl _ _) | exact Below.refl _ _
              simp only [Act.put, List.setIfInBounds_toArray, List.set_cons_succ, List.set_cons_zero]
              apply EqGo.run
              focus
                kernel_rfl
              focus
                intro x K hK
                go_wp2_with fail
                first | exact hK x (Below.refl _ _) | exact Below.refl _ _
              simp only [Act.put, List.setIfInBounds_toArray, List.set_cons_succ, List.set_cons_zero]
              apply EqGo.run
              focus
                kernel_rfl
              focus
                intro x K hK
                go_wp2_with fail
                first | exact hK x (Below.refl _ _) | exact Below.refl _ _
              simp only [Act.put, List.setIfInBounds_toArray, List.set_cons_succ, List.set_cons_zero]
              apply EqGo.run
              focus
                kernel_rfl
              focus
                intro x K hK
                go_wp2_with fail
                first | exact hK x (Below.refl _ _) | exact Below.refl _ _
              simp only [Act.put, List.setIfInBounds_toArray, List.set_cons_succ, List.set_cons_zero]
              apply EqGo.run
              focus
                kernel_rfl
              focus
                intro x K hK
                go_wp2_with fail
                first | exact hK x (Below.refl _ _) | exact Below.refl _ _
              simp only [Act.put, List.setIfInBounds_toArray, List.set_cons_succ, List.set_cons_zero]
              apply EqGo.run
              focus
                kernel_rfl
              focus
                intro x K hK
                go_wp2_with fail
                first | exact hK x (Below.refl _ _) | exact Below.refl _ _
              simp only [Act.put, List.setIfInBounds_toArray, List.set_cons_succ, List.set_cons_zero]
              apply EqGo.run
              focus
                kernel_rfl
              focus
                intro x K hK
                go_wp2_with fail
                first | exact hK x (Below.refl _ _) | exact Below.refl _ _
              simp only [Act.put, List.setIfInBounds_toArray, List.set_cons_succ, List.set_cons_zero]
              apply EqGo.run
              focus
                kernel_rfl
              focus
                intro x K hK
                go_wp2_with fail
                first | exact hK x (Below.refl _ _) | exact Below.refl _ _
              simp only [Act.put, List.setIfInBounds_toArray, List.set_cons_succ, List.set_cons_zero]
              apply EqGo.run
              focus
                kernel_rfl
              focus
                intro x K hK
                go_wp2_with fail
                first | exact hK x (Below.refl _ _) | exact Below.refl _ _
              simp only [Act.put, List.setIfInBounds_toArray, List.set_cons_succ, List.set_cons_zero]
              apply EqGo.run
              focus
                kernel_rfl
              focus
                intro x K hK
                go_wp2_with fail
                first | exact hK x (Below.refl _ _) | exact Below.refl _ _
              simp only [Act.put, List.setIfInBounds_toArray, List.set_cons_succ, List.set_cons_zero]
              apply EqGo.run
              focus
                kernel_rfl
              focus
                intro x K hK
                go_wp2_with fail
                first | exact hK x (Below.refl _ _) | exact Below.refl _ _
              simp only [Act.put, List.setIfInBounds_toArray, List.set_cons_succ, List.set_cons_zero]
              apply EqGo.run
              focus
                kernel_rfl
              focus
                intro x K hK
                go_wp2_with fail
                first | exact hK x (Below.refl _ _) | exact Below.refl _ _
              simp only [Act.put, List.setIfInBounds_toArray, List.set_cons_succ, List.set_cons_zero]
              apply EqGo.run
              focus
                kernel_rfl
              focus
                intro x K hK
                go_wp2_with fail
                first | exact hK x (Below.refl _ _) | exact Below.refl _ _
              simp only [Act.put, List.setIfInBounds_toArray, List.set_cons_succ, List.set_cons_zero]
              apply EqGo.run
              focus
                kernel_rfl
              focus
                intro x K hK
                go_wp2_with fail
                first | exact hK x (Below.refl _ _) | exact Below.refl _ _
              simp only [Act.put, List.setIfInBounds_toArray, List.set_cons_succ, List.set_cons_zero]
              apply EqGo.run
              focus
                kernel_rfl
              focus
                intro x K hK
                go_wp2_with fail
                first | exact hK x (Below.refl _ _) | exact Below.refl _ _
              simp only [Act.put, List.setIfInBounds_toArray, List.set_cons_succ, List.set_cons_zero]
              apply EqGo.run
              focus
                kernel_rfl
              focus
                intro x K hK
                go_wp2_with fail
                first | exact hK x (Below.refl _ _) | exact Below.refl _ _
              simp only [Act.put, List.setIfInBounds_toArray, List.set_cons_succ, List.set_cons_zero]
              apply EqGo.run
              focus
                kernel_rfl
              focus
                intro x K hK
                go_wp2_with fail
                first | exact hK x (Below.refl _ _) | exact Below.refl _ _
              simp only [Act.put, List.setIfInBounds_toArray, List.set_cons_succ, List.set_cons_zero]
              apply EqGo.run
              focus
                kernel_rfl
              focus
                intro x K hK
                go_wp2_with fail
                first | exact hK x (Below.refl _ _) | exact Below.refl _ _
              simp only [Act.put, List.setIfInBounds_toArray, List.set_cons_succ, List.set_cons_zero]
              apply EqGo.run
              focus
                kernel_rfl
              focus
                intro x K hK
                go_wp2_with fail
                first | exact hK x (Below.refl _ _) | exact Below.refl _ _
              simp only [Act.put, List.setIfInBounds_toArray, List.set_cons_succ, List.set_cons_zero]
              intro xq
              have hbx := hbq.trans (xq.below.mono hbq.size)
              clear l0 l1 l2 l3 hbb
              generalize xq.val = ws at *
              clear xq hbq
              cases bb
              all_goals
                go_wp2_with fail
                go_roundw
                case rel => exact ⟨q + 1, by omega, by go_num, by rw [HT.out]; simp, hbx⟩
                case measure => simp [intOf]; omega
          · obtain rfl : q = m := by omega
            rw [show (flat t).take q = flat t from List.take_of_length_le (by rw [← HM.out]; exact Nat.le_refl _)]
            have hcl2 : cntF (flat t) nm ≤ q := by rw [HM.out]; exact cntF_le _ _
            obtain ⟨cq, hcq⟩ : ∃ cq, cq = cntF (flat t) nm := ⟨_, rfl⟩
            rw [← hcq] at hcl2 HOT ⊢
            clear hcq hql
            cases hc1 : (cq == 1)
            case false =>
              rw [hc1, if_neg Bool.noConfusion, List.append_nil] at HOT
              have hne : ((cq : Int) != 1) = true := by
                rw [bne_iff_ne]
                rw [beq_eq_false_iff_ne] at hc1
                omega
              have HA2 := Lib.hid (show acc = insAll ((ownK (flat t) (t.kids.take (k + 1))).map Tr.str) by rw [HOT, HACC.out])
              clear hc1 HOT
              go_wp2_with fail
              go_roundw
              case rel => exact ⟨k + 1, acc, by omega, by go_num, by rw [← HM0.out]; omega, by rw [← HM0.out]; exact own_below hown hbq, hbw.trans (hbq.mono hbw.size), HAL2, HA2⟩
              case measure => simp [intOf]; omega
            case true =>
              rw [hc1, if_pos rfl] at HOT
              obtain rfl : cq = 1 := by simpa using hc1
              have HI := Lib.hid (show insAll ((ownK (flat t) (t.kids.take (k + 1))).map Tr.str) = insB nm acc by rw [HOT, insAll_snoc, HACC.out])
              have hownQ := own_below hown hbq
              have hraQ := hra.below hbq
              have hckQ := cell_keep hbq hck
              have hy4Q := cell_keep hbq y4
              have HBQ := Lib.hid (hbw.trans (hbq.mono hbw.size))
              clear hc1 HOT hcl2 hown hra hck y4 y0 hbq hbw hkk HACC
              go_upto_region 20 with (fail)
              go_loopw [10] (fun j wq => ∃ p : Nat, p ≤ m0 ∧ j = .int .i64 p ∧ Below wr0.heap.size wr0 wq ∧ Hid (∀ y ∈ acc.take p, y < nm)) (fun j _ => m0 - (intOf j).toNat)
              case atStart => exact ⟨0, Nat.zero_le _, rfl, Below.refl _ _, Lib.hid (by intro y hy; simp at hy)⟩
              case round =>
                obtain ⟨p, hp, rfl, hbp, HT⟩ := hrel
                generalize wr = wr1 at *
                have l0 := Later.cell (cell_keep hbp hckQ)
                have l1 := Later.cell (cell_keep hbp hy4Q)
                by_cases hpl : p < m0
                · have hpL : p < acc.length := by rw [← HM0.out]; exact hpl
                  obtain ⟨g, o6, rfl, _, hcz⟩ := (hraQ.below hbp) p hpL
                  have cz := hcz 0 _ rfl
                  simp only [Nat.mul_one, Nat.add_zero] at cz
                  obtain ⟨z, hz⟩ : ∃ z, z = acc[p] := ⟨_, rfl⟩
                  rw [← hz] at cz
                  have HZ := Lib.hid hz
                  have l2 := Later.cell cz
                  clear hz cz hcz
                  obtain ⟨bb, hbb⟩ : ∃ bb, decide (z < nm) = bb := ⟨_, rfl⟩
                  go_upto_region 20 with (fail)
                  refine wp_region_eq (by kernel_rfl) (by kernel_rfl) ?_
                  apply EqGo.run
                  focus
                    kernel_rfl
                  focus
                    intro x K hK
                    go_wp2_with fail
                    first | exact hK x (Below.refl _ _) | exact Below.refl _ _
                  simp only [Act.put, List.setIfInBounds_toArray, List.set_cons_succ, List.set_cons_zero]
                  apply EqGo.run
                  focus
                    kernel_rfl
                  focus
                    intro x K hK
                    go_wp2_with fail
                    first | exact hK x (Below.refl _ _) | exact Below.refl _ _
                  simp only [Act.put, List.setIfInBounds_toArray, List.set_cons_succ, List.set_cons_zero]
                  apply EqGo.run
                  focus
                    kernel_rfl
                  focus
                    intro x K hK
                    go_wp2_with fail
                    first | exact hK x (Below.refl _ _) | exact Below.refl _ _
                  simp only [Act.put, List.setIfInBounds_toArray, List.set_cons_succ, List.set_cons_zero]
                  apply EqGo.run
                  focus
                    kernel_rfl
                  focus
                    intro x K hK
                    go_wp2_with fail
                    first | exact hK x (Below.refl _ _) | exact Below.refl _ _
                  simp only [Act.put, List.setIfInBounds_toArray, List.set_cons_succ, List.set_cons_zero]
                  apply EqGo.run
                  focus
                    kernel_rfl
                  focus
                    intro x K hK
                    go_wp2_with fail
                    first | exact hK x (Below.refl _ _) | exact Below.refl _ _
                  simp only [Act.put, List.setIfInBounds_toArray, List.set_cons_succ, List.set_cons_zero]
                  apply EqGo.run
                  focus
                    kernel_rfl
                  focus
                    intro x K hK
                    go_wp2_with fail
                    first | exact hK x (Below.refl _ _) | exact Below.refl _ _
                  simp only [Act.put, List.setIfInBounds_toArray, List.set_cons_succ, List.set_cons_zero]
                  apply EqGo.run
                  focus
                    kernel_rfl
                  focus
                    intro x K hK
                    go_wp2_with fail
                    first | exact hK x (Below.refl _ _) | exact Below.refl _ _
                  simp only [Act.put, List.setIfInBounds_toArray, List.set_cons_succ, List.set_cons_zero]
                  apply EqGo.run
                  focus
                    kernel_rfl
                  focus
                    intro x K hK
                    go_wp2_with fail
                    first | exact hK x (Below.refl _ _) | exact Below.refl _ _
                  simp only [Act.put, List.setIfInBounds_toArray, List.set_cons_succ, List.set_cons_zero]
                  apply EqGo.run
                  focus
                    kernel_rfl
                  focus
                    intro x K hK
                    go_wp2_with fail
                    first | exact hK x (Below.refl _ _) | exact Below.refl _ _
                  simp only [Act.put, List.setIfInBounds_toArray, List.set_cons_succ, List.set_cons_zero]
                  apply EqGo.run
                  focus
                    kernel_rfl
                  focus
                    intro x K hK
                    go_wp2_with fail
                    first | exact hK x (Below.refl _ _) | exact Below.refl _ _
                  simp only [Act.put, List.setIfInBounds_toArray, List.set_cons_succ, List.set_cons_zero]
                  apply EqGo.run
                  focus
                    kernel_rfl
                  focus
                    intro x K hK
                    go_wp2_with fail
                    first | exact hK x (Below.refl _ _) | exact Below.refl _ _
                  simp only [Act.put, List.setIfInBounds_toArray, List.set_cons_succ, List.set_cons_zero]
                  apply EqGo.run
                  focus
                    kernel_rfl
                  focus
                    intro x K hK
                    go_wp2_with fail
                    first | exact hK x (Below.refl _ _) | exact Below.refl _ _
                  simp only [Act.put, List.setIfInBounds_toArray, List.set_cons_succ, List.set_cons_zero]
                  apply EqGo.run
                  focus
                    kernel_rfl
                  focus
                    intro x K hK
                    go_wp2_with fail
                    first | exact hK x (Below.refl _ _) | exact Below.refl _ _
                  simp only [Act.put, List.setIfInBounds_toArray, List.set_cons_succ, List.set_cons_zero]
                  apply EqGo.run
                  focus
                    kernel_rfl
                  focus
                    intro x K hK
                    go_wp2_with fail
                    first | exact hK x (Below.refl _ _) | exact Below.refl _ _
                  simp only [Act.put, List.setIfInBounds_toArray, List.set_cons_succ, List.set_cons_zero]
                  apply EqGo.run
                  focus
                    kernel_rfl
                  focus
                    intro x K hK
                    go_wp2_with fail
                    first | exact hK x (Below.refl _ _) | exact Below.refl _ _
                  simp only [Act.put, List.setIfInBounds_toArray, List.set_cons_succ, List.set_cons_zero]
                  apply EqGo.run
                  focus
                    kernel_rfl
                  focus
                    intro x K hK
                    go_wp2_with fail
                    first | exact hK x (Below.refl _ _) | exact Below.refl _ _
                  simp only [Act.put, List.setIfInBounds_toArray, List.set_cons_succ, List.set_cons_zero]
                  apply EqGo.run
                  focus
                    kernel_rfl
                  focus
                    intro x K hK
                    go_wp2_with fail
                    first | exact hK x (Below.refl _ _) | exact Below.refl _ _
                  simp only [Act.put, List.setIfInBounds_toArray, List.set_cons_succ, List.set_cons_zero]
                  apply EqGo.run
                  focus
                    kernel_rfl
                  focus
                    intro x K hK
                    go_wp2_with fail
                    first | exact hK x (Below.refl _ _) | exact Below.refl _ _
                  simp only [Act.put, List.setIfInBounds_toArray, List.set_cons_succ, List.set_cons_zero]
                  intro xq
                  rw [bytesLess_eq, hbb]
                  have hbx := hbp.trans (xq.below.mono hbp.size)
                  have HB := Lib.hid hbb
                  clear hbb l0 l1 l2
                  generalize xq.val = ws at *
                  clear xq hbp
                  cases bb with
                  | true =>
                    have HT2 := Lib.hid (show ∀ y ∈ acc.take (p + 1), y < nm from fun y hy => by
                      rw [List.take_succ_eq_append_getElem hpL, ← HZ.out, List.mem_append, List.mem_singleton] at hy
                      rcases hy with hy | rfl
                      · exact HT.out y hy
                      · exact of_decide_eq_true HB.out)
                    clear HT
                    go_wp2_with fail
                    go_roundw
                    case rel => exact ⟨p + 1, by omega, by go_num, hbx, HT2⟩
                    case measure => simp [intOf]; omega
                  | false =>
                    have HI2 := Lib.hid (show insAll ((ownK (flat t) (t.kids.take (k + 1))).map Tr.str) = acc.take p ++ nm :: acc.drop p by rw [HI.out]; exact insB_at HT.out fun h => by rw [← HZ.out]; exact of_decide_eq_false HB.out)
                    have hownY := own_below hownQ hbx
                    have hraY := hraQ.below hbx
                    have hckY := cell_keep hbx hckQ
                    have hy4Y := cell_keep hbx hy4Q
                    have HBW := Lib.hid (HBQ.out.trans (hbx.mono HBQ.out.size))
                    clear hownQ hraQ hckQ hy4Q hbx HBQ
                    go_upto_region 22 with (fail)
                    apply wp_region_relA 7 [eqT _, eqT _, eqT _, mkK ws.heap.size (m0 + 1), eqT _, eqT _, eqT _] (by kernel_rfl) (by kernel_rfl) (by kernel_rfl) rfl
                    focus
                      refine ⟨?_, ?_⟩
                      focus
                        unfold opGoal
                        rw [if_pos (by kernel_rfl)]
                        intro x hb hd K hk
                        clear hd
                        go_wp2_with fail
                        exact hk _ _ rfl trivial (Below.refl _ _)
                      rintro _ rfl
                      simp only [Act.put, List.setIfInBounds_toArray, List.set_cons_succ, List.set_cons_zero]
                      refine ⟨?_, ?_⟩
                      focus
                        unfold opGoal
                        rw [if_pos (by kernel_rfl)]
                        intro x hb hd K hk
                        clear hd
                        go_wp2_with fail
                        exact hk _ _ rfl trivial (Below.refl _ _)
                      rintro _ rfl
                      simp only [Act.put, List.setIfInBounds_toArray, List.set_cons_succ, List.set_cons_zero]
                      refine ⟨?_, ?_⟩
                      focus
                        unfold opGoal
                        rw [if_pos (by kernel_rfl)]
                        intro x hb hd K hk
                        clear hd
                        go_wp2_with fail
                        exact hk _ _ rfl trivial (Below.refl _ _)
                      rintro _ rfl
                      simp only [Act.put, List.setIfInBounds_toArray, List.set_cons_succ, List.set_cons_zero]
                      refine ⟨?_, ?_⟩
                      focus
                        unfold opGoal
                        rw [if_pos (by kernel_rfl)]
                        intro x hb hd K hk
                        clear hd
                        go_wp2_with fail
                        obtain ⟨w', hrun, r1, r2⟩ := run_make_own (P := Tryd.prog) (w := x) ws.heap.size 63 9 i0 _ 1 Tryd.underlying63 hi hz0 hz1 .i64 .i64 (m0 + 1) (by rw [hz2]; omega) (by simp only [maxLen]; omega) hb.size
                        rw [show ((m0 : Int) + 1) = ((m0 + 1 : Nat) : Int) from by omega, hrun]
                        exact hk _ _ ⟨_, rfl⟩ r1 ((Below.refl _ _).grown r2 (Nat.le_refl _) (fun k h => by cases h))
                      rintro _ ⟨g48, rfl⟩
                      simp only [Act.put, List.setIfInBounds_toArray, List.set_cons_succ, List.set_cons_zero]
                      refine ⟨?_, ?_⟩
                      focus
                        unfold opGoal
                        rw [if_pos (by kernel_rfl)]
                        intro x hb hd K hk
                        clear hd
                        go_wp2_with fail
                        exact hk _ _ rfl trivial (Below.refl _ _)
                      rintro _ rfl
                      simp only [Act.put, List.setIfInBounds_toArray, List.set_cons_succ, List.set_cons_zero]
                      refine ⟨?_, ?_⟩
                      focus
                        unfold opGoal
                        rw [if_pos (by kernel_rfl)]
                        intro x hb hd K hk
                        clear hd
                        go_wp2_with fail
                        exact hk _ _ rfl trivial (Below.refl _ _)
                      rintro _ rfl
                      simp only [Act.put, List.setIfInBounds_toArray, List.set_cons_succ, List.set_cons_zero]
                      refine ⟨?_, ?_⟩
                      focus
                        unfold opGoal
                        rw [if_pos (by kernel_rfl)]
                        intro x hb hd K hk
                        clear hd
                        go_wp2_with fail
                        exact hk _ _ rfl trivial (Below.refl _ _)
                      rintro _ rfl
                      simp only [Act.put, List.setIfInBounds_toArray, List.set_cons_succ, List.set_cons_zero]
                      intro x hbx hf
                      simp only [List.drop_succ_cons, List.drop_zero]
                      have hown48 : x.ownsRow ws.heap.size 9 1 (.slice (some ⟨g48, 0, none⟩) 0 (m0 + 1)) 0 [] := hf 3 _ _ rfl rfl
                      clear hf
                      have hrx := (hraY.below hbx).take p
                      have hlx := Lib.hid (show p = (acc.take p).length by rw [List.length_take, ← HM0.out]; omega)
                      have q1 := cell_keep hbx hckY
                      have q2 := cell_keep hbx hy4Y
                      go_upto_region 23 with (at_builtin; refine wpList_pushAll (enc := strc) rfl _ _ _ rfl Tryd.underlying63 hi hz0 hz1 hz2 rfl (by decide) hown48 rfl rfl hlx.out hrx hAz trivial strc_len strc_one (by omega) (by decide) hbx.size ?_; intro A8 c8 w8 ho8 hb8 hoo8)
                      simp only [Nat.zero_add, List.nil_append] at ho8
                      have hb48 := (hbx.trans hb8)
                      clear q1 q2
                      have q1 := cell_keep hb48 hckY
                      have q2 := cell_keep hb48 hy4Y
                      clear hown48 hrx hoo8 hlx
                      go_upto_region 24 with (at_builtin; refine wpList_push rfl _ _ _ rfl Tryd.underlying63 hi hz0 hz1 hz2 rfl (by decide) ho8 rfl rfl rfl (by simp [Value.oneCell']) (by omega) (by decide) hb48.size ?_; intro A9 c9 w9 ho9 hb9 hoo9)
                      have hb49 := hb48.trans hb9
                      have hrz := (hraY.below (hb49.mono (Nat.le_refl _)))
                      clear ho8 q1 q2 hoo9 hb8 hb9 hb48 hbx
                      go_upto_region 11 with (at_builtin; refine wpList_pushAll (enc := strc) rfl _ _ _ rfl Tryd.underlying63 hi hz0 hz1 hz2 rfl (by decide) ho9 rfl rfl (kl1 HM0.out) (kd1 HM0.out hrz) (ka1 hAz) trivial strc_len strc_one (by omega) (by decide) hb49.size ?_; intro A10 c10 w10 ho10 hb10 hoo10)
                      have HL2 := Lib.hid (show (acc.take p ++ nm :: acc.drop p).length = (p+1+(m0-p)) by rw [List.length_append, List.length_cons, List.length_drop, List.length_take, ← HM0.out]; omega)
                      have HF2 := Lib.hid (show (acc.take p ++ nm :: acc.drop p).flatMap strc = (acc.take p).flatMap strc ++ #[Value.string { data := nm.toArray }].toList ++ (acc.drop p).flatMap strc by rw [List.flatMap_append, List.flatMap_cons, List.append_assoc]; rfl)
                      have hbz := HBW.out.trans ((hb49.trans hb10).mono HBW.out.size)
                      have hoz := own_mono ho10 HBW.out.size
                      rw [← HF2.out] at hoz
                      clear ho9 ho10 hb10 hoo10 hb49 hrz HF2
                      go_wp2_with fail
                      go_roundw
                      case rel => exact ⟨k + 1, acc.take p ++ nm :: acc.drop p, by omega, by go_num, by rw [HL2.out]; omega, own_lenK hoz HL2.out.symm, hbz, HAL2, Lib.hid HI2.out.symm⟩
                      case measure => simp [intOf]; omega
                · obtain rfl : m0 = p := by omega
                  clear hpl
                  go_upto_region 20 with (fail)
                  refine wp_region_eq (by kernel_rfl) (by kernel_rfl) ?_
                  apply EqGo.run
                  focus
                    kernel_rfl
                  focus
                    intro x K hK
                    go_wp2_with fail
                    first | exact hK x (Below.refl _ _) | exact Below.refl _ _
                  simp only [Act.put, List.setIfInBounds_toArray, List.set_cons_succ, List.set_cons_zero]
                  apply EqGo.run
                  focus
                    kernel_rfl
                  focus
                    intro x K hK
                    go_wp2_with fail
                    first | exact hK x (Below.refl _ _) | exact Below.refl _ _
                  simp only [Act.put, List.setIfInBounds_toArray, List.set_cons_succ, List.set_cons_zero]
                  apply EqGo.run
                  focus
                    kernel_rfl
                  focus
                    intro x K hK
                    go_wp2_with fail
                    first | exact hK x (Below.refl _ _) | exact Below.refl _ _
                  simp only [Act.put, List.setIfInBounds_toArray, List.set_cons_succ, List.set_cons_zero]
                  apply EqGo.run
                  focus
                    kernel_rfl
                  focus
                    intro x K hK
                    go_wp2_with fail
                    first | exact hK x (Below.refl _ _) | exact Below.refl _ _
                  simp only [Act.put, List.setIfInBounds_toArray, List.set_cons_succ, List.set_cons_zero]
                  apply EqGo.run
                  focus
                    kernel_rfl
                  focus
                    intro x K hK
                    go_wp2_with fail
                    first | exact hK x (Below.refl _ _) | exact Below.refl _ _
                  simp only [Act.put, List.setIfInBounds_toArray, List.set_cons_succ, List.set_cons_zero]
                  apply EqGo.skip
                  focus
                    kernel_rfl
                  simp only [Act.put, List.setIfInBounds_toArray, List.set_cons_succ, List.set_cons_zero]
                  apply EqGo.skip
                  focus
                    kernel_rfl
                  simp only [Act.put, List.setIfInBounds_toArray, List.set_cons_succ, List.set_cons_zero]
                  apply EqGo.skip
                  focus
                    kernel_rfl
                  simp only [Act.put, List.setIfInBounds_toArray, List.set_cons_succ, List.set_cons_zero]
                  apply EqGo.skip
                  focus
                    kernel_rfl
                  simp only [Act.put, List.setIfInBounds_toArray, List.set_cons_succ, List.set_cons_zero]
                  apply EqGo.skip
                  focus
                    kernel_rfl
                  simp only [Act.put, List.setIfInBounds_toArray, List.set_cons_succ, List.set_cons_zero]
                  apply EqGo.skip
                  focus
                    kernel_rfl
                  simp only [Act.put, List.setIfInBounds_toArray, List.set_cons_succ, List.set_cons_zero]
                  apply EqGo.skip
                  focus
                    kernel_rfl
                  simp only [Act.put, List.setIfInBounds_toArray, List.set_cons_succ, List.set_cons_zero]
                  apply EqGo.skip
                  focus
                    kernel_rfl
                  simp only [Act.put, List.setIfInBounds_toArray, List.set_cons_succ, List.set_cons_zero]
                  apply EqGo.skip
                  focus
                    kernel_rfl
                  simp only [Act.put, List.setIfInBounds_toArray, List.set_cons_succ, List.set_cons_zero]
                  apply EqGo.skip
                  focus
                    kernel_rfl
                  simp only [Act.put, List.setIfInBounds_toArray, List.set_cons_succ, List.set_cons_zero]
                  apply EqGo.skip
                  focus
                    kernel_rfl
                  simp only [Act.put, List.setIfInBounds_toArray, List.set_cons_succ, List.set_cons_zero]
                  apply EqGo.skip
                  focus
                    kernel_rfl
                  simp only [Act.put, List.setIfInBounds_toArray, List.set_cons_succ, List.set_cons_zero]
                  apply EqGo.run
                  focus
                    kernel_rfl
                  focus
                    intro x K hK
                    go_wp2_with fail
                    first | exact hK x (Below.refl _ _) | exact Below.refl _ _
                  simp only [Act.put, List.setIfInBounds_toArray, List.set_cons_succ, List.set_cons_zero]
                  intro xq
                  have hbx := hbp.trans (xq.below.mono hbp.size)
                  clear l0 l1
                  generalize xq.val = ws at *
                  clear xq hbp
                  have HI2 := Lib.hid (show insAll ((ownK (flat t) (t.kids.take (k + 1))).map Tr.str) = acc.take m0 ++ nm :: acc.drop m0 by rw [HI.out]; exact insB_at HT.out fun h => absurd h (by rw [← HM0.out]; exact Nat.lt_irrefl _))
                  have hownY := own_below hownQ hbx
                  have hraY := hraQ.below hbx
                  have hckY := cell_keep hbx hckQ
                  have hy4Y := cell_keep hbx hy4Q
                  have HBW := Lib.hid (HBQ.out.trans (hbx.mono HBQ.out.size))
                  clear hownQ hraQ hckQ hy4Q hbx HBQ
                  go_upto_region 22 with (fail)
                  apply wp_region_relA 7 [eqT _, eqT _, eqT _, mkK ws.heap.size (m0 + 1), eqT _, eqT _, eqT _] (by kernel_rfl) (by kernel_rfl) (by kernel_rfl) rfl
                  focus
                    refine ⟨?_, ?_⟩
                    focus
                      unfold opGoal
                      rw [if_pos (by kernel_rfl)]
                      intro x hb hd K hk
                      clear hd
                      go_wp2_with fail
                      exact hk _ _ rfl trivial (Below.refl _ _)
                    rintro _ rfl
                    simp only [Act.put, List.setIfInBounds_toArray, List.set_cons_succ, List.set_cons_zero]
                    refine ⟨?_, ?_⟩
                    focus
                      unfold opGoal
                      rw [if_pos (by kernel_rfl)]
                      intro x hb hd K hk
                      clear hd
                      go_wp2_with fail
                      exact hk _ _ rfl trivial (Below.refl _ _)
                    rintro _ rfl
                    simp only [Act.put, List.setIfInBounds_toArray, List.set_cons_succ, List.set_cons_zero]
                    refine ⟨?_, ?_⟩
                    focus
                      unfold opGoal
                      rw [if_pos (by kernel_rfl)]
                      intro x hb hd K hk
                      clear hd
                      go_wp2_with fail
                      exact hk _ _ rfl trivial (Below.refl _ _)
                    rintro _ rfl
                    simp only [Act.put, List.setIfInBounds_toArray, List.set_cons_succ, List.set_cons_zero]
                    refine ⟨?_, ?_⟩
                    focus
                      unfold opGoal
                      rw [if_pos (by kernel_rfl)]
                      intro x hb hd K hk
                      clear hd
                      go_wp2_with fail
                      obtain ⟨w', hrun, r1, r2⟩ := run_make_own (P := Tryd.prog) (w := x) ws.heap.size 63 9 i0 _ 1 Tryd.underlying63 hi hz0 hz1 .i64 .i64 (m0 + 1) (by rw [hz2]; omega) (by simp only [maxLen]; omega) hb.size
                      rw [show ((m0 : Int) + 1) = ((m0 + 1 : Nat) : Int) from by omega, hrun]
                      exact hk _ _ ⟨_, rfl⟩ r1 ((Below.refl _ _).grown r2 (Nat.le_refl _) (fun k h => by cases h))
                    rintro _ ⟨g48, rfl⟩
                    simp only [Act.put, List.setIfInBounds_toArray, List.set_cons_succ, List.set_cons_zero]
                    refine ⟨?_, ?_⟩
                    focus
                      unfold opGoal
                      rw [if_pos (by kernel_rfl)]
                      intro x hb hd K hk
                      clear hd
                      go_wp2_with fail
                      exact hk _ _ rfl trivial (Below.refl _ _)
                    rintro _ rfl
                    simp only [Act.put, List.setIfInBounds_toArray, List.set_cons_succ, List.set_cons_zero]
                    refine ⟨?_, ?_⟩
                    focus
                      unfold opGoal
                      rw [if_pos (by kernel_rfl)]
                      intro x hb hd K hk
                      clear hd
                      go_wp2_with fail
                      exact hk _ _ rfl trivial (Below.refl _ _)
                    rintro _ rfl
                    simp only [Act.put, List.setIfInBounds_toArray, List.set_cons_succ, List.set_cons_zero]
                    refine ⟨?_, ?_⟩
                    focus
                      unfold opGoal
                      rw [if_pos (by kernel_rfl)]
                      intro x hb hd K hk
                      clear hd
                      go_wp2_with fail
                      exact hk _ _ rfl trivial (Below.refl _ _)
                    rintro _ rfl
                    simp only [Act.put, List.setIfInBounds_toArray, List.set_cons_succ, List.set_cons_zero]
                    intro x hbx hf
                    simp only [List.drop_succ_cons, List.drop_zero]
                    have hown48 : x.ownsRow ws.heap.size 9 1 (.slice (some ⟨g48, 0, none⟩) 0 (m0 + 1)) 0 [] := hf 3 _ _ rfl rfl
                    clear hf
                    have hrx := (hraY.below hbx).take m0
                    have hlx := Lib.hid (show m0 = (acc.take m0).length by rw [List.length_take, ← HM0.out]; omega)
                    have q1 := cell_keep hbx hckY
                    have q2 := cell_keep hbx hy4Y
                    go_upto_region 23 with (at_builtin; refine wpList_pushAll (enc := strc) rfl _ _ _ rfl Tryd.underlying63 hi hz0 hz1 hz2 rfl (by decide) hown48 rfl rfl hlx.out hrx hAz trivial strc_len strc_one (by omega) (by decide) hbx.size ?_; intro A8 c8 w8 ho8 hb8 hoo8)
                    simp only [Nat.zero_add, List.nil_append] at ho8
                    have hb48 := (hbx.trans hb8)
                    clear q1 q2
                    have q1 := cell_keep hb48 hckY
                    have q2 := cell_keep hb48 hy4Y
                    clear hown48 hrx hoo8 hlx
                    go_upto_region 24 with (at_builtin; refine wpList_push rfl _ _ _ rfl Tryd.underlying63 hi hz0 hz1 hz2 rfl (by decide) ho8 rfl rfl rfl (by simp [Value.oneCell']) (by omega) (by decide) hb48.size ?_; intro A9 c9 w9 ho9 hb9 hoo9)
                    have hb49 := hb48.trans hb9
                    have hrz := (hraY.below (hb49.mono (Nat.le_refl _)))
                    clear ho8 q1 q2 hoo9 hb8 hb9 hb48 hbx
                    go_upto_region 11 with (at_builtin; refine wpList_pushAll (enc := strc) rfl _ _ _ rfl Tryd.underlying63 hi hz0 hz1 hz2 rfl (by decide) ho9 rfl rfl (kl2 HM0.out) (kd2 HM0.out hrz) (ka2 hAz) trivial strc_len strc_one (by omega) (by decide) hb49.size ?_; intro A10 c10 w10 ho10 hb10 hoo10)
                    have HL2 := Lib.hid (show (acc.take m0 ++ nm :: acc.drop m0).length = (m0+1+0) by rw [List.length_append, List.length_cons, List.length_drop, List.length_take, ← HM0.out]; omega)
                    have HF2 := Lib.hid (show (acc.take m0 ++ nm :: acc.drop m0).flatMap strc = (acc.take m0).flatMap strc ++ #[Value.string { data := nm.toArray }].toList ++ (acc.drop m0).flatMap strc by rw [List.flatMap_append, List.flatMap_cons, List.append_assoc]; rfl)
                    have hbz := HBW.out.trans ((hb49.trans hb10).mono HBW.out.size)
                    have hoz := own_mono ho10 HBW.out.size
                    rw [← HF2.out] at hoz
                    clear ho9 ho10 hb10 hoo10 hb49 hrz HF2
                    go_wp2_with fail
                    go_roundw
                    case rel => exact ⟨k + 1, acc.take m0 ++ nm :: acc.drop m0, by omega, by go_num, by rw [HL2.out]; omega, own_lenK hoz HL2.out.symm, hbz, HAL2, Lib.hid HI2.out.symm⟩
                    case measure => simp [intOf]; omega
    · obtain rfl : k = n := by omega
      have HLE := Lib.hid (show leadF t.kids = t.kids.take k from lead_at t.kids k (by rw [← HN.out]; exact hk) (fun j h => HAL.out j h _) (fun h => by rw [← HN.out] at h; exact absurd h hlt))
      go_wp2_with fail
      have HEQ := Lib.hid (show ss.mergeSort leB = acc by
        rw [HACC.out, insAll_sort]
        have hp := HPM.out
        unfold ownF at hp
        rw [HLE.out] at hp
        exact mergeSort_of_perm hp)
      have HSM := Lib.hid (show Calls Tryd.prog 39 #[.slice Ag ss.length cg, .slice A6 m0 c6] wr (Ret wr (.bool true)) by
        have h1 := sameTexts_any Ag A6 cg c6 (ss.mergeSort leB) acc wr (hgr.below hbw) hra (by rw [HEQ.out, ← HM0.out]; omega) (by rw [← HM0.out]; omega)
        rw [HEQ.out, decide_eq_true rfl, ← HM0.out] at h1
        have h2 : ss.length = m0 := by rw [HM0.out, ← HEQ.out]; exact (List.mergeSort_perm ss leB).length_eq.symm
        rw [h2]
        exact h1)
      have hbz := hb.trans (hbw.mono hb.size)
      clear hgr hra hown
      refine HSM.out.mono ?_
      rintro e w9 ⟨rfl, hb9⟩
      go_wp2_with fail
      go_ret
      exact ⟨rfl, hbz.trans (hb9.mono hbz.size)⟩
theorem inlknown_upto (A : Option Addr) (cp : Nat) (L : List Nd) (aN aT' aM : Addr) (w : World) (hrd : RdL w 5 ndc A L) (hc : L.length ≤ cp) (hm : cp ≤ maxLen) (hA : A = none → cp = 0) (hi : ∀ y ∈ L, NdIn y) (hb : L.length ≤ 1048576 ∧ ∀ y ∈ L, y.s.length ≤ 1048576) (hE : ErrW w aN aT' aM) :
    Calls Tryd.prog 9 #[.slice A L.length cp] w fun e w' => e = .returned (.bool true) ∧ Below w.heap.size w w' :=
  inlknown_walk A cp L aN aT' aM w hrd hc hm hA (ndok_of hi hb.2) hE
end Go.Proofs.YtclifaehbdeldaaDoor
