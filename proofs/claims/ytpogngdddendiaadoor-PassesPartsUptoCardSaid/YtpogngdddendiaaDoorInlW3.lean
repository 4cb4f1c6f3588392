/- The walks over inline.Pass and inline.Known. Bounds on the lengths. -/
import Derived.Test.YtpogngdddendiaaDoorInlW2
import Derived.Outline

set_option linter.unusedVariables false
set_option linter.unusedSimpArgs false
namespace Go.Proofs.YtpogngdddendiaaDoor
open Go.RowKit Go.Maps Go.Sort

open Classical in
/-- The passed program, by what is known. -/
noncomputable def passB (t : Tr) : Tr := if (funOf t).1 = noB then t else .mk 23 0 [] (t.kids.take (funOf t).2 ++ (inlTs (funOf t).1 2 (t.kids.drop (funOf t).2) (flat t).length).1)
theorem any36 (L : List Nd) : (L.any fun x => [36].contains x.kind) = L.any fun x => x.kind == 36 := by
  congr 1
  funext x
  rw [Bool.eq_iff_iff]
  simp
theorem passB_eq {t : Tr} (hok : okT 30 false t = true) : passB t = passI t := by
  unfold passB passI funOf
  rw [any36]
  cases hk : (t.kind == 23 && !((flat t).any fun x => x.kind == 36)) with
  | false =>
    simp
  | true =>
    rw [if_pos rfl]
    simp only [Bool.true_and]
    by_cases ho : ownF (flat t) t.kids = []
    · rw [ho, if_pos (show bodyF (flat t) t.kids = noB from bodyL_empty _ _ ho)]
      rfl
    · rw [if_neg, if_pos]
      · rw [show t.kids.take (leadF t.kids).length = leadF t.kids from (List.prefix_iff_eq_take.1 (List.takeWhile_prefix _)).symm]
      · cases h : ownF (flat t) t.kids with
        | nil => exact absurd h ho
        | cons a b => rfl
      · intro hn
        obtain ⟨k, r, hkr⟩ : ∃ k r, ownF (flat t) t.kids = k :: r := by
          cases h : ownF (flat t) t.kids with
          | nil => exact absurd h ho
          | cons a b => exact ⟨a, b, rfl⟩
        have hb := bodyL_some (flat t) (leadF t.kids) (fun x hx => by
          obtain ⟨c, hc⟩ := fun_kid hok x ((List.takeWhile_prefix _).subset hx) (leadF_kind hx)
          rw [hc]
          simp) k.str
        have hm : k.str ∈ (ownK (flat t) (leadF t.kids)).map Tr.str := by
          rw [show ownK (flat t) (leadF t.kids) = k :: r from hkr]
          simp
        rw [decide_eq_true hm, show bodyL (flat t) (leadF t.kids) = noB from hn] at hb
        cases hb
noncomputable def ipassL (L : List Nd) : List Nd := match theT L with
  | none => L
  | some t => flat (passB t)
theorem body_from (L : List Nd) (ks : List Tr) (s : List UInt8) (b : Tr) : bodyL L ks s = some b → ∃ k ∈ ks, k.kids.head? = some b := by
  refine snoc_ind (p := fun ks => bodyL L ks s = some b → ∃ k ∈ ks, k.kids.head? = some b) (fun h => by cases h) (fun l k ih h => ?_) ks
  rw [bodyL_snoc] at h
  split at h
  · change (if s = k.str then _ else _) = some b at h
    split at h
    · exact ⟨k, by simp, h⟩
    · obtain ⟨x, h1, h2⟩ := ih h
      exact ⟨x, by simp [h1], h2⟩
  · obtain ⟨x, h1, h2⟩ := ih h
    exact ⟨x, by simp [h1], h2⟩
theorem kid_len {t k : Tr} (h : k ∈ t.kids) : (flat k).length + 1 ≤ (flat t).length := by
  obtain ⟨kd, n, s, ks⟩ := t
  obtain ⟨i, hi, rfl⟩ := List.getElem_of_mem h
  have := flatAll_mem_le ks i hi
  rw [flat_size]
  simp only [Tr.kids]
  omega
theorem fun_len (t : Tr) (s : List UInt8) (b : Tr) (h : (funOf t).1 s = some b) : (flat b).length ≤ (flat t).length := by
  unfold funOf at h
  split at h
  · obtain ⟨k, hk, hb⟩ := body_from _ _ s b h
    have h1 := kid_len ((List.takeWhile_prefix _).subset hk)
    have h2 : b ∈ k.kids := List.mem_of_mem_head? hb
    have h3 := kid_len h2
    omega
  · cases h
theorem fun_cnt (t : Tr) : (funOf t).2 ≤ t.kids.length := by
  unfold funOf
  split
  · exact leadF_len _
  · exact Nat.zero_le _
theorem passB_len (t : Tr) : (flat (passB t)).length ≤ (flat t).length + 1000 := by
  unfold passB
  split
  · omega
  · have h := inlTs_le (funOf t).1 2 (t.kids.drop (funOf t).2) (flat t).length
    have h2 := flat_kids_le t
    have h3 : (flatAll t.kids).length = (flatAll (t.kids.take (funOf t).2)).length + (flatAll (t.kids.drop (funOf t).2)).length := by
      rw [← List.length_append, ← flatAll_append, List.take_append_drop]
    rw [flat_size, flatAll_append, List.length_append]
    omega
theorem ipassL_len (L : List Nd) : (ipassL L).length ≤ L.length + 1000 := by
  unfold ipassL
  split
  · omega
  · rename_i t ht
    obtain ⟨_, h2, _⟩ := theT_some ht
    rw [← h2]
    exact passB_len t
/-- The children after so many have been gone through. -/
def rowP (t : Tr) (B : Body) (n z j : Nat) : List Tr := t.kids.take n ++ midI B 2 z (t.kids.drop n) j
theorem rowP_len (t : Tr) (B : Body) (n z j : Nat) (h : n + j ≤ t.kids.length) : (rowP t B n z j).length = t.kids.length := by
  unfold rowP
  rw [List.length_append, midI_len _ _ _ _ _ (by rw [List.length_drop]; omega), List.length_take, List.length_drop]
  omega
theorem rowP_get (t : Tr) (B : Body) (n z j : Nat) (h : n + j < t.kids.length) (h2 : n + j < (rowP t B n z j).length) : (rowP t B n z j)[n + j] = t.kids[n + j] := by
  simp only [rowP]
  have hl : (t.kids.take n).length = n := by rw [List.length_take]; omega
  rw [List.getElem_append_right (by omega)]
  have h3 : n + j - (t.kids.take n).length = j := by omega
  simp only [h3]
  rw [midI_get _ _ _ _ _ (by rw [List.length_drop]; omega), List.getElem_drop]
theorem rowP_set (t : Tr) (B : Body) (n z j : Nat) (h : n + j < t.kids.length) : (rowP t B n z j).set (n + j) (inlT B 2 t.kids[n + j] (inlTs B 2 ((t.kids.drop n).take j) z).2).1 = rowP t B n z (j + 1) := by
  unfold rowP
  have hl : (t.kids.take n).length = n := by rw [List.length_take]; omega
  have hj : j < (t.kids.drop n).length := by rw [List.length_drop]; omega
  rw [List.set_append_right _ _ (by omega), hl, Nat.add_sub_cancel_left, ← midI_set _ _ _ _ _ hj, List.getElem_drop]
theorem rowP_end (t : Tr) (B : Body) (n z : Nat) (h : n ≤ t.kids.length) : rowP t B n z (t.kids.length - n) = t.kids.take n ++ (inlTs B 2 (t.kids.drop n) z).1 := by
  unfold rowP
  rw [show t.kids.length - n = (t.kids.drop n).length by rw [List.length_drop], midI_end]

set_option maxRecDepth 100000 in
set_option maxHeartbeats 4000000 in
theorem ipass_any (v : Value) (L : List Nd) (aN aT aM : Addr) (w : World) (hL : L.length ≤ 4000000) (hok : ∀ x ∈ L, NdOk x) (hv : SlRd w v L) (hE : ErrW w aN aT aM) :
    Calls Tryd.prog 84 #[v] w (NodesRet (ipassL L) w) := by
  have HF := Lib.hid (funs_any v L aN aT aM w hL hok hv hE)
  have HV := Lib.hid hv
  clear hE
  go_enter Tryd.func84, Tryd.ntmps84
  go_wp2_with fail
  refine HF.out.mono ?_
  rintro e w1 ⟨mb, N, rfl, hM, hN4, hmb, hb1⟩
  obtain ⟨w2, hw2⟩ : ∃ w2, w2 = w1.alloc (.cells #[.map (some mb)] 148) := ⟨_, rfl⟩
  have hb12 : Below w1.heap.size w1 w2 := by rw [hw2]; exact (Below.refl _ _).alloc (Nat.le_refl _) _
  have hQ : Blk w2 w1.heap.size 148 #[.map (some mb)] := by rw [hw2]; exact Blk.new w1 _ _
  obtain ⟨q, hlen, hq1, hq2⟩ := MapR.len (BodR.below' hM hb12) Tryd.underlying146 3
  have z0 := hQ.cell 0
  simp only [List.getElem?_toArray, List.getElem?_cons_zero] at z0
  have HM := Lib.hid (BodR.below' hM hb12)
  have HB := Lib.hid (hb1.trans (hb12.mono hb1.size))
  have HW := Lib.hid hw2
  have HQ2 := Lib.hid hq2
  have HMB := Lib.hid hmb
  clear hM hb12 hb1 hw2 hQ hq2 hmb HF
  go_upto_region 2 with (fail)
  rw [← HW.out]
  cases ht : theT L with
  | none =>
    have hf : funcL L = (noB, 0) := by unfold funcL; rw [ht]
    have hi : ipassL L = L := by unfold ipassL; rw [ht]
    have hq0 : q = 0 := HQ2.out.2 (by rw [hf]; rfl)
    subst hq0
    have HI := Lib.hid hi
    have HCL := Lib.hid (clone_any v L w2 (HV.out.below HB.out) hL)
    clear hf hi ht
    go_wp2_with fail
    refine HCL.out.mono ?_
    rintro e w3 ⟨A2, c2, rfl, ho2, hb2⟩
    go_wp2_with fail
    go_ret
    exact ⟨A2, c2, ret_slice (by rw [HI.out]), by rw [HI.out]; exact own_mono ho2 HB.out.size, HB.out.trans (hb2.mono HB.out.size)⟩
  | some t =>
    obtain ⟨ht1, ht2, ht3⟩ := theT_some ht
    have hf : funcL L = funOf t := by unfold funcL; rw [ht]
    have hi : ipassL L = flat (passB t) := by unfold ipassL; rw [ht]
    by_cases hq0 : q = 0
    · have hB : (funOf t).1 = noB := by rw [← hf]; exact HQ2.out.1 hq0
      have hi2 : ipassL L = L := by rw [hi]; unfold passB; rw [if_pos hB, ht2]
      subst hq0
      have HI := Lib.hid hi2
      have HCL := Lib.hid (clone_any v L w2 (HV.out.below HB.out) hL)
      clear hf hi ht hi2 hB
      go_wp2_with fail
      refine HCL.out.mono ?_
      rintro e w3 ⟨A2, c2, rfl, ho2, hb2⟩
      go_wp2_with fail
      go_ret
      exact ⟨A2, c2, ret_slice (by rw [HI.out]), by rw [HI.out]; exact own_mono ho2 HB.out.size, HB.out.trans (hb2.mono HB.out.size)⟩
    · have hq1 : (((q : Nat) : Int) == 0) = false := by rw [beq_eq_false_iff_ne]; omega
      have hB : (funOf t).1 ≠ noB := fun h => hq0 (HQ2.out.2 (by rw [hf]; exact h))
      have hi2 : ipassL L = flat (.mk 23 0 [] (t.kids.take (funOf t).2 ++ (inlTs (funOf t).1 2 (t.kids.drop (funOf t).2) L.length).1)) := by rw [hi]; unfold passB; rw [if_neg hB, ht2]
      rw [hf] at HM
      have HBL := Lib.hid (fun s b h => Nat.le_trans (fun_len t s b h) (show (flat t).length ≤ 4000 by rw [ht2]; omega))
      have hn := fun_cnt t
      have hplen := passB_len t
      rw [← hi, hi2, ht2] at hplen
      subst ht2
      rw [hf]
      have HI := Lib.hid hi2
      clear hf hi hi2 ht hB
      generalize (funOf t).1 = B at *
      generalize (funOf t).2 = n at *
      have hfk := flat_kids_le t
      have hkl := len_flatAll t.kids
      have HCK := Lib.hid (callK_ok 30 false t ht1)
      obtain ⟨w3, hw3⟩ : ∃ w3, w3 = w2.alloc (.cells #[.map (some mb), .int .i64 (flat t).length] 153) := ⟨_, rfl⟩
      have hb23 : Below w2.heap.size w2 w3 := by rw [hw3]; exact (Below.refl _ _).alloc (Nat.le_refl _) _
      obtain ⟨gp, hgp⟩ : ∃ gp, gp = w2.heap.size := ⟨_, rfl⟩
      have HP := Lib.hid (show PsB w3 gp mb (flat t).length by rw [hw3, hgp]; exact Blk.new w2 _ _)
      have HM3 := Lib.hid (BodR.below' HM.out hb23)
      have HB3 := Lib.hid (HB.out.trans (hb23.mono HB.out.size))
      have HW3 := Lib.hid hw3
      have HGP := Lib.hid (show w.heap.size ≤ gp by rw [hgp]; exact HB.out.size)
      have HGE := Lib.hid hgp
      have KC := Lib.hid (show Calls Tryd.prog 64 #[v] w3 (KidsRet (t.kids.map flat) w3) by
        rw [← kidsL_tree]
        exact kids_any v _ w3 ((HV.out.below HB.out).below hb23) hL)
      have HND := Lib.hid hok
      obtain ⟨A, cp, rfl, -⟩ := HV.out
      clear hw3 hb23 hgp hok hv HV
      obtain ⟨z, hz⟩ : ∃ z, z = (flat t).length := ⟨_, rfl⟩
      rw [← hz] at HP HW3 KC HI ht3 hplen hfk hL ⊢
      have HZ := Lib.hid hz
      obtain ⟨m, hm⟩ : ∃ m, m = t.kids.length := ⟨_, rfl⟩
      rw [← hm] at hn hkl
      have HN := Lib.hid hm
      have HFK := Lib.hid hfk
      clear hz hm
      go_upto_region 5 with (fail)
      rw [← HW3.out, ← HGE.out]
      clear HW3
      go_wp2_with fail
      refine KC.out.mono ?_
      rintro e w4 ⟨A1, cp1, vs, rfl, hown1, hall1, hb4⟩
      rw [List.length_map, ← HN.out] at hown1 ⊢
      have HB4 := Lib.hid hb4
      clear KC
      go_upto_region 7 with (fail)
      go_loopw [7] (fun i wr => ∃ (j : Nat) (us : List Value), n + j ≤ m ∧ i = .int .i64 ((n + j : Nat) : Int) ∧ wr.ownsRow w3.heap.size 22 1 (.slice A1 m cp1) m us ∧
          Hid (OwnAll wr w3.heap.size us ((rowP t B n z j).map flat)) ∧ Hid (PsB wr gp mb (inlTs B 2 ((t.kids.drop n).take j) z).2) ∧ But gp w3 wr) (fun i _ => m - (intOf i).toNat)
      case atStart => exact ⟨0, vs, hn, rfl, hown1, Lib.hid (by unfold rowP; rw [midI_start, List.take_append_drop]; exact hall1), Lib.hid (by rw [List.take_zero, inlTs_nil]; exact HP.out.below hb4), But.of hb4⟩
      case round =>
        obtain ⟨j, us, hj, rfl, hown, HALL, HPR, hbw⟩ := hrel
        by_cases hlt : n + j < m
        · have hlt' : n + j < t.kids.length := by rw [← HN.out]; exact hlt
          obtain ⟨g1, rfl⟩ := own_addrI' hown (by omega)
          have hul : us.length = m := by have := hown.1; omega
          have hck := hown.cellAt (n + j) (by omega)
          rw [List.getElem?_eq_getElem (by omega)] at hck
          have hko := HALL.out.2 (n + j) (by rw [List.length_map, rowP_len _ _ _ _ _ (by rw [← HN.out]; exact hj)]; exact hlt') us[n + j] (List.getElem?_eq_getElem _)
          rw [List.getElem_map, rowP_get _ _ _ _ _ hlt'] at hko
          obtain ⟨uk, huk⟩ : ∃ uk, uk = us[n + j] := ⟨_, rfl⟩
          rw [← huk] at hck hko
          have hsk := SlRd.of_own hko rfl
          have hle := kid_len (t := t) (List.getElem_mem hlt')
          obtain ⟨sk, hskz⟩ : ∃ sk, sk = (inlTs B 2 ((t.kids.drop n).take j) z).2 := ⟨_, rfl⟩
          have hskl : sk ≤ 4000 := by
            have h1 := (inlTs_le B 2 ((t.kids.drop n).take j) z).2.2
            rw [hskz]
            omega
          have HPQ := HPR.out
          rw [← hskz] at HPQ
          have IH := Lib.hid (iwhole_any mb N B HBL.out 3000 t.kids[n + j] uk 2 sk gp wr (by have := HZ.out; omega) (by decide) ((callKs_all t.kids).1 (by have h1 := HCK.out; obtain ⟨kd, n', s', ks'⟩ := t; rw [callK_mk, Bool.and_eq_true] at h1; exact h1.2) _ (List.getElem_mem _)) (fun x hx => HND.out x (flat_kid (List.getElem_mem _) hx)) (by decide) hskl hsk HPQ (BodR.but HM3.out HP.out (by simp) hbw))
          have HTK := Lib.hid (inl_take B 2 z (t.kids.drop n) j (by rw [List.length_drop]; omega))
          rw [List.getElem_drop] at HTK
          have HMS := Lib.hid (rowP_set t B n z j hlt')
          rw [← hskz] at HTK HMS
          obtain ⟨rr, hrr⟩ : ∃ rr, rr = inlT B 2 t.kids[n + j] sk := ⟨_, rfl⟩
          rw [← hrr] at IH HTK HMS
          have HO := Lib.hid hown
          have HBW := Lib.hid hbw
          obtain ⟨hg1, hg2⟩ := hown.lt g1 rfl
          have HG1 := Lib.hid hg1
          have HPQ' := Lib.hid HPQ
          obtain ⟨ak, ck, rfl, -⟩ := own_form hko
          clear hown hbw hrr hskz huk hko hsk hle hg1 hg2 HPQ
          generalize (flat t.kids[n + j]).length = nk at *
          clear hlt'
          go_wp2_with fail
          refine IH.out.mono ?_
          rintro e w6 ⟨v2, rfl, hv2, hp2, hb2⟩
          have hown2 := own_but HO.out hb2 HPQ'.out (by decide)
          have hall2 := OwnAll.but HALL.out HPQ'.out (by decide) hb2
          have zz := hown2.cellAt (n + j) (by have := hown2.1; omega)
          have f2 := hown2.frozenAt (n + j)
          rw [List.getElem?_eq_getElem (by have := hown2.1; omega)] at zz
          obtain ⟨zu, z2⟩ : ∃ zu, w6.cell? ⟨g1, n + j, none⟩ = some zu := ⟨_, zz⟩
          clear zz
          have hst := hown2.stored (n + j) v2
          have HST := Lib.hid hst
          have hoo := Others.grown hown2 hst.2 (List.mem_singleton.2 rfl)
          have hrow2 := own_others (hv2.row) hoo (by decide)
          have HAS := Lib.hid (show OwnAll (w6.setCell ⟨g1, n + j, none⟩ v2) w3.heap.size (us.set (n + j) v2) ((rowP t B n z (j + 1)).map flat) by
            rw [← HMS.out, set_map]
            exact OwnAll.setI (hall2.others hoo (by decide)) (n + j) (own_mono hrow2 HBW.out.size))
          have HPS := Lib.hid (show PsB (w6.setCell ⟨g1, n + j, none⟩ v2) gp mb (inlTs B 2 ((t.kids.drop n).take (j + 1)) z).2 by
            rw [HTK.out]
            exact Blk.others hp2 hoo (by decide))
          have HBS := Lib.hid (show But gp w3 (w6.setCell ⟨g1, n + j, none⟩ v2) from (HBW.out.trans hb2).of2 ((Below.refl _ _).grown hst.2 (HBW.out.trans hb2).size (fun k hk => by cases hk; exact HG1.out)))
          obtain ⟨a2, c2, rfl, -⟩ := hv2
          clear hp2 hb2 hown2 hall2 hst hoo hrow2 HALL HPR HBW HPQ' IH
          go_wp2_with fail
          go_roundw
          case rel => exact ⟨j + 1, us.set (n + j) _, by omega, by go_num, HST.out.1, HAS, HPS, HBS.out⟩
          case measure => simp [intOf]; omega
        · obtain rfl : n + j = m := by omega
          have hjl : j = t.kids.length - n := by have := HN.out; omega
          have HRW := Lib.hid (show rowP t B n z j = t.kids.take n ++ (inlTs B 2 (t.kids.drop n) z).1 by rw [hjl]; exact rowP_end t B n z (by have := HN.out; omega))
          have HRL := Lib.hid (show (rowP t B n z j).length = t.kids.length from rowP_len t B n z j (by have := HN.out; omega))
          rw [HRW.out] at HALL HRL
          have HFS := Lib.hid (show (flatAll (t.kids.take n ++ (inlTs B 2 (t.kids.drop n) z).1)).length ≤ 4000000 by
            have h1 := flat_size 23 0 [] (t.kids.take n ++ (inlTs B 2 (t.kids.drop n) z).1)
            omega)
          generalize t.kids.take n ++ (inlTs B 2 (t.kids.drop n) z).1 = R at *
          have HKD := Lib.hid (KdRd.of_own hown (by rw [List.length_map, HRL.out]; exact HN.out) HALL.out)
          have NW := Lib.hid (newT_any 23 0 [] A1 cp1 (n + j) R wr HKD.out (by rw [HRL.out]; exact HN.out) HFS.out)
          have HBE := Lib.hid (HB3.out.trans (hbw.below HGP.out HB3.out.size))
          clear hown HALL HPR hbw HRW hjl hlt
          go_wp2_with fail
          refine NW.out.mono ?_
          rintro e w9 ⟨A9, n9, c9, rfl, ⟨_, _, he, h9⟩, hb9⟩
          injection he with he1 he2 he3
          subst he1 he2 he3
          have H9 := Lib.hid h9
          clear h9
          go_wp2_with fail
          go_ret
          exact ⟨_, _, ret_slice (by rw [HI.out]), by rw [HI.out]; exact own_mono H9.out HBE.out.size, HBE.out.trans (hb9.mono HBE.out.size)⟩
/-- A row of names, each once, rising: those that B knows. -/
def NamesRet (B : Body) (w : World) (e : Ending) (w' : World) : Prop :=
  ∃ (ss : List (List UInt8)) (A : Option Addr) (c : Nat), ss.Nodup ∧ (∀ s, s ∈ ss ↔ (B s).isSome = true) ∧ e = .returned (.slice A ss.length c) ∧ RdL w' 1 strc A (ss.mergeSort leB) ∧ Below w.heap.size w w'
theorem encs_flat (l : List (List UInt8)) : l.map encStr = l.flatMap strc := by
  induction l with
  | nil => rfl
  | cons x t ih => rw [List.map_cons, List.flatMap_cons, ih]; rfl
end Go.Proofs.YtpogngdddendiaaDoor
