/- The walks over dead.rule as a whole, dead.whole and dead.Pass. Bounds on the lengths. -/
import Derived.Test.YtpogngdddendiaaDoorHP
import Derived.Deep.DeepCutAuto
import Derived.Outline
set_option linter.unusedVariables false
set_option linter.unusedSimpArgs false
namespace Go.Proofs.YtpogngdddendiaaDoor
open Go.RowKit

theorem len1 {ks : List Tr} (h : ((ks.length : Nat) : Int) = 1) : ∃ a, ks = [a] := by
  match ks, h with
  | [a], _ => exact ⟨a, rfl⟩
  | [], h => simp at h
  | a :: b :: r, h => simp at h; omega
theorem len2 {ks : List Tr} (h : ((ks.length : Nat) : Int) = 2) : ∃ a b, ks = [a, b] := by
  match ks, h with
  | [a, b], _ => exact ⟨a, b, rfl⟩
  | [], h => simp at h
  | [a], h => simp at h
  | a :: b :: c :: r, h => simp at h; omega
theorem len3 {ks : List Tr} (h : ((ks.length : Nat) : Int) = 3) : ∃ a b c, ks = [a, b, c] := by
  match ks, h with
  | [a, b, c], _ => exact ⟨a, b, c, rfl⟩
  | [], h => simp at h
  | [a], h => simp at h
  | [a, b], h => simp at h
  | a :: b :: c :: d :: r, h => simp at h; omega
theorem ar_one {a : Tr} (h : arT a = true) (hk : a.kind = 27) : ∃ x, a.kids = [x] := by
  have := (ar_kids h).1
  rw [hk] at this
  exact len1 (by simpa [childrenB] using this)
theorem ar_two {a : Tr} (h : arT a = true) (hk : a.kind = 34) : ∃ x y, a.kids = x :: y := by
  have := (ar_kids h).1
  rw [hk] at this
  obtain ⟨x, y, h⟩ := len2 (ks := a.kids) (by simpa [childrenB] using this)
  exact ⟨x, [y], h⟩

theorem rule_any (lv : Value) (Ak : Option Addr) (ck m B : Nat) (t : Tr) (w : World) (hv : SlRd w lv (flat t)) (hk : KdOD w B Ak (t.kids.map flat)) (hm : m = t.kids.length) (hB : B ≤ w.heap.size) (har : arT t = true) (hz : (flat t).length ≤ 4000000) :
    Calls Tryd.prog 135 #[lv, .slice Ak m ck] w (RuleRet (ruleT t) B w) := by
  have hza := size_kids t
  have hlk := len_flatAll t.kids
  obtain ⟨hc, hks⟩ := ar_kids har
  cases t with
  | mk kd n s ks =>
  simp only [Tr.kids, Tr.kind] at hk hm hza hlk hc hks
  by_cases h23 : kd = 23
  · subst h23
    exact rule23 lv Ak ck m B n s ks w hv hk hm hB (by omega)
  by_cases h24 : kd = 24
  · subst h24
    obtain ⟨a, b, c, rfl⟩ := len3 (ks := ks) (by simpa [childrenB] using hc)
    exact rule24 lv Ak ck m B n s a b c w hv hk hm hB (ar_one (hks a (by simp))) (by omega)
  by_cases h25 : kd = 25
  · subst h25
    obtain ⟨a, b, rfl⟩ := len2 (ks := ks) (by simpa [childrenB] using hc)
    exact rule25 lv Ak ck m B n s a b w hv hk hm hB
  by_cases h26 : kd = 26
  · subst h26
    obtain ⟨a, b, rfl⟩ := len2 (ks := ks) (by simpa [childrenB] using hc)
    exact rule26 lv Ak ck m B n s a b w hv hk hm hB
  by_cases h27 : kd = 27
  · subst h27
    obtain ⟨a, rfl⟩ := len1 (ks := ks) (by simpa [childrenB] using hc)
    rw [flatAll_cons, flatAll_nil, List.append_nil] at hza
    exact rule27 lv Ak ck m B n s a w hv hk hm hB (ar_one (hks a (by simp))) (by omega)
  by_cases h30 : kd = 30
  · subst h30
    rcases ks with _ | ⟨a, r⟩
    · simp [childrenB] at hc
    · have hm4 : m ≤ 4000000 := by omega
      rw [flatAll_cons, List.length_append] at hza
      exact rule30 lv Ak ck m B n s a r w hv hk hm hB (by omega) hm4
  by_cases h34 : kd = 34 ∨ kd = 35
  · obtain ⟨a, b, rfl⟩ := len2 (ks := ks) (by rcases h34 with rfl | rfl <;> simpa [childrenB] using hc)
    rw [flatAll_cons, flatAll_cons, flatAll_nil, List.append_nil, List.length_append] at hza
    exact rule34 kd h34 lv Ak ck m B n s a b w hv hk hm hB (ar_two (hks b (by simp))) (by omega) (by omega)
  · exact rule_else kd lv Ak ck m B n s ks w hv (by omega)

theorem OwnAll.setD {w : World} {B : Nat} {us : List Value} {ls : List (List Nd)} (h : OwnAll w B us ls) {k : Nat} {v : Value} {L : List Nd} (hv : w.ownsRow B 98 5 v L.length (L.flatMap ndc)) : OwnAll w B (us.set k v) (ls.set k L) := by
  refine ⟨by simp [h.1], fun i hi u hu => ?_⟩
  have hil : i < ls.length := by simpa using hi
  by_cases hik : k = i
  · subst hik
    rw [List.getElem?_set_self (by rw [h.1]; exact hil)] at hu
    injection hu with hu
    subst hu
    simp only [List.getElem_set_self]
    exact hv
  · rw [List.getElem?_set_ne hik] at hu
    rw [List.getElem_set_ne hik]
    exact h.2 i hil u hu
theorem set_mid (P : List Tr) (x y : Tr) (r : List Tr) : (P ++ x :: r).set P.length y = P ++ y :: r := by
  induction P with
  | nil => rfl
  | cons z P ih => simp
theorem whole_step (ks : List Tr) (k : Nat) (h : k < ks.length) : (wholeTs (ks.take k) ++ ks.drop k).set k (wholeT ks[k]) = wholeTs (ks.take (k + 1)) ++ ks.drop (k + 1) := by
  have hl : (wholeTs (ks.take k)).length = k := by rw [wholeTs_map, List.length_map, List.length_take]; omega
  rw [List.drop_eq_getElem_cons h]
  have h2 := set_mid (wholeTs (ks.take k)) ks[k] (wholeT ks[k]) (ks.drop (k + 1))
  rw [hl] at h2
  rw [h2, List.take_succ_eq_append_getElem h, wholeTs_map, wholeTs_map, List.map_append]
  simp
theorem whole_get (ks : List Tr) (k : Nat) (h : k < ks.length) : ((wholeTs (ks.take k) ++ ks.drop k).map flat)[k]? = some (flat ks[k]) := by
  have hl : (wholeTs (ks.take k)).length = k := by rw [wholeTs_map, List.length_map, List.length_take]; omega
  rw [List.getElem?_map, List.getElem?_append_right (by omega), hl, Nat.sub_self, List.drop_eq_getElem_cons h]
  rfl
def lenV : Value → Nat
  | .slice _ n _ => n
  | _ => 0

set_option maxRecDepth 100000 in
set_option maxHeartbeats 8000000 in
theorem dwhole_any : ∀ (N : Nat) (t : Tr) (v : Value) (w : World), (flat t).length ≤ N → N ≤ 4000000 → arT t = true → SlRd w v (flat t) → Calls Tryd.prog 111 #[v] w (NodesRet (flat (wholeT t)) w) := by
  intro N
  induction N with
  | zero => intro t v w h _ _; have := flat_pos t; omega
  | succ N ih =>
  intro t v w hN hN2 har hv
  cases t with
  | mk kd n s ks =>
  rw [flat_size] at hN
  rw [arT_mk, Bool.and_eq_true] at har
  have hlk := len_flatAll ks
  obtain ⟨i0, hi, hz0, hz1, hz2⟩ := info_parts infoNodes
  have KC := Lib.hid (show ∀ W, SlRd W v (flat (.mk kd n s ks)) → Calls Tryd.prog 64 #[v] W (KidsRet (ks.map flat) W) from fun W h => by
    rw [← kidsL_flat kd n s ks]
    exact kids_any v _ W h (by rw [flat_size]; omega))
  have HV := Lib.hid hv
  obtain ⟨A, cp, rfl, hrd, hc, hm, hA, hsp⟩ := hv
  have h0 : 0 < (flat (.mk kd n s ks)).length := flat_pos _
  obtain ⟨b, o, rfl, hbl⟩ := hrd.addr h0
  have hx := hrd.at_ h0
  have hhead : (flat (.mk kd n s ks))[0] = ⟨kd, n, ks.length, ((1 + (flatAll ks).length : Nat) : Int), s⟩ := by simp [flat_mk]
  rw [hhead] at hx
  have c0 := hx.2 0 _ rfl
  have c1 := hx.2 1 _ rfl
  have c4 := hx.2 4 _ rfl
  simp only [Nat.zero_mul, Nat.add_zero] at c0 c1 c4
  clear hx hhead
  obtain ⟨m, hml⟩ : ∃ m, m = (flat (.mk kd n s ks)).length := ⟨_, rfl⟩
  rw [← hml] at KC hc h0 ⊢
  have HM := Lib.hid hml
  have HIH := Lib.hid ih
  have HAR := Lib.hid har
  clear hml hrd hA hsp hm ih har
  go_enter Tryd.func111, Tryd.ntmps111
  go_wp2_with fail
  refine (KC.out _ (by rw [← HM.out] at HV; exact HV.out)).mono ?_
  rintro e w1 ⟨A1, cp1, vs, rfl, hown1, hall1, hb1⟩
  rw [List.length_map] at hown1 ⊢
  go_wp2_with fail
  go_loopw [13] (fun j wr => ∃ (k : Nat) (us : List Value), k ≤ ks.length ∧ j = .int .i64 k ∧
      wr.ownsRow w.heap.size 22 1 (.slice A1 ks.length cp1) ks.length us ∧ OwnAll wr w.heap.size us ((wholeTs (ks.take k) ++ ks.drop k).map flat) ∧ Below w.heap.size w wr) (fun j _ => ks.length - (intOf j).toNat)
  case atStart => exact ⟨0, vs, Nat.zero_le _, rfl, hown1, by rw [List.take_zero, wholeTs_nil, List.drop_zero]; exact hall1, hb1⟩
  case round =>
    clear hown1 hall1
    obtain ⟨k, us, hk, rfl, hown, hall, hb⟩ := hrel
    by_cases hlt : k < ks.length
    · have hget := whole_get ks k hlt
      have hle := flatAll_mem_le ks k hlt
      have hart := (arTs_all ks).1 HAR.out.2 ks[k] (List.getElem_mem _)
      have HST := Lib.hid (whole_step ks k hlt)
      obtain ⟨g, rfl⟩ := own_addrD' hown (by omega)
      have hulen : us.length = ks.length := by simpa using hown.1
      have hku : k < us.length := by omega
      have hcell := hown.cellAt k (by omega)
      rw [List.getElem?_eq_getElem hku] at hcell
      obtain ⟨hil, hgi⟩ := List.getElem?_eq_some_iff.1 hget
      have hsk := hall.2 k hil us[k] (List.getElem?_eq_getElem hku)
      rw [hgi] at hsk
      obtain ⟨Ak, ckk, hek, _⟩ := own_form hsk
      rw [hek] at hcell hsk
      have hsr := SlRd.of_own hsk rfl
      obtain ⟨t, ht⟩ : ∃ t, t = ks[k] := ⟨_, rfl⟩
      rw [← ht] at hle hart HST hcell hsk hsr
      have IH := Lib.hid (HIH.out t _ wr (by omega) (by omega) hart hsr)
      generalize (flat t).length = nk at *
      have HHK := Lib.hid hek
      clear hek hget hart hil hgi hsk hsr ht
      go_wp2_with fail
      refine IH.out.mono ?_
      rintro e w2 ⟨A2, c2, rfl, ho2, hb2⟩
      have hown2 := own_below hown hb2
      have hall2 := hall.below hb2
      have hb12 := hb.trans (hb2.mono hb.size)
      have hg : w.heap.size ≤ g := (hown.lt g rfl).1
      obtain ⟨cur, hcur⟩ : ∃ cur, Blk w2 g 22 cur := by
        rcases hown2.2 with ⟨h', _⟩ | ⟨g', cap', cur', h', hb', hg', _⟩
        · simp at h'
        · simp only [Value.slice.injEq, Option.some.injEq, Addr.mk.injEq, and_true, true_and] at h'
          obtain ⟨rfl, rfl⟩ := h'
          exact ⟨_, hg'⟩
      have z0 := hown2.cellAt k (by omega)
      rw [List.getElem?_eq_getElem hku] at z0
      have q0 := hown2.frozenAt k
      have HOW := Lib.hid hown2
      have HAL := Lib.hid hall2
      have HO2 := Lib.hid (show OwnAll w2 w.heap.size [.slice A2 (flat (wholeT t)).length c2] [flat (wholeT t)] from OwnAll.one (own_mono ho2 hb.size))
      have HCU := Lib.hid hcur
      generalize us[k] = uk at *
      generalize (flat (wholeT t)).length = n2 at *
      clear hown hall hown2 hall2 ho2 hcell IH hcur hku HHK
      go_wp2_with fail
      go_roundw
      case rel =>
        have hoo : Others [22] w2 (w2.setCell ⟨g, k, none⟩ (.slice A2 n2 c2)) := Others.setCell (show w2.heap[(⟨g, k, none⟩ : Addr).block]? = some (.cells cur 22 (0, 0)) from HCU.out) (by simp) _
        refine ⟨k + 1, us.set k (.slice A2 n2 c2), by omega, by go_num, (HOW.out.stored k _).1, ?_, hb12.setCell hg _⟩
        have h1 := (HAL.out.others hoo (by decide)).setD (k := k) ((HO2.out.others hoo (by decide)).2 0 (by simp) _ rfl)
        simp only [List.getElem_cons_zero] at h1
        rw [← List.map_set, HST.out] at h1
        exact h1
      case measure => simp [intOf]; omega
    · obtain rfl : k = ks.length := by omega
      rw [List.take_length, List.drop_length, List.append_nil] at hall
      obtain ⟨h2a, h2b, h2c⟩ := wholeTs_ar ks HAR.out.2
      have hkd := KdRd.of_own hown (by rw [List.length_map, h2c]) hall
      have w0 := cell_keep hb c0
      have w1' := cell_keep hb c1
      have w4 := cell_keep hb c4
      have hart : arT (.mk kd n s (wholeTs ks)) = true := by rw [arT_mk, h2c, HAR.out.1, h2a]; rfl
      have HART := Lib.hid hart
      have HW := Lib.hid (wholeT_mk kd n s ks)
      have hfl : (flat (.mk kd n s (wholeTs ks))).length ≤ 4000000 := by rw [flat_size]; omega
      have HFL := Lib.hid hfl
      have NW := Lib.hid (show ∀ W, KdRd W A1 ((wholeTs ks).map flat) → Calls Tryd.prog 45 #[.int .i64 kd, .int .i64 n, .string ⟨s.toArray⟩, .slice A1 ks.length cp1] W (VRet (flat (.mk kd n s (wholeTs ks))) W) from fun W h => newT_any kd n s A1 cp1 ks.length (wholeTs ks) W h h2c.symm (by omega))
      clear c0 c1 c4 hown hall hlt hart hfl h2a h2b h2c hk
      go_upto_region 7 with (fail)
      go_cut [6] (fun v wx => OwnNd wx wr.heap.size v (flat (.mk kd n s (wholeTs ks))) ∧ Below wr.heap.size wr wx)
      case first =>
        apply wp_region_rel [eqT _, eqT _, eqT _, eqT _, eqT _, eqT _, eqT _, eqT _, eqT _, eqT _, eqT _, eqT _, eqT _, nodesT wr.heap.size (flat (.mk kd n s (wholeTs ks))), nodesT wr.heap.size (flat (.mk kd n s (wholeTs ks)))] (by kernel_rfl) (by kernel_rfl) rfl
        focus
          refine ⟨?_, ?_⟩
          focus
            unfold opGoal
            rw [if_pos (by kernel_rfl)]
            intro x hb hd K hk
            clear hd
            go_wp2_with fail
            exact hk _ _ rfl trivial (Below.refl _ _)
          rintro _ rfl
          simp only [Act.put, List.setIfInBounds_toArray, List.set_cons_succ, List.set_cons_zero]
          refine ⟨?_, ?_⟩
          focus
            unfold opGoal
            rw [if_pos (by kernel_rfl)]
            intro x hb hd K hk
            clear hd
            go_wp2_with fail
            exact hk _ _ rfl trivial (Below.refl _ _)
          rintro _ rfl
          simp only [Act.put, List.setIfInBounds_toArray, List.set_cons_succ, List.set_cons_zero]
          refine ⟨?_, ?_⟩
          focus
            unfold opGoal
            rw [if_pos (by kernel_rfl)]
            intro x hb hd K hk
            clear hd
            go_wp2_with fail
            exact hk _ _ rfl trivial (Below.refl _ _)
          rintro _ rfl
          simp only [Act.put, List.setIfInBounds_toArray, List.set_cons_succ, List.set_cons_zero]
          refine ⟨?_, ?_⟩
          focus
            unfold opGoal
            rw [if_pos (by kernel_rfl)]
            intro x hb hd K hk
            clear hd
            have l0 := cell_keep hb w0
            go_wp2_with fail
            exact hk _ _ rfl trivial (Below.refl _ _)
          rintro _ rfl
          simp only [Act.put, List.setIfInBounds_toArray, List.set_cons_succ, List.set_cons_zero]
          refine ⟨?_, ?_⟩
          focus
            unfold opGoal
            rw [if_pos (by kernel_rfl)]
            intro x hb hd K hk
            clear hd
            go_wp2_with fail
            exact hk _ _ rfl trivial (Below.refl _ _)
          rintro _ rfl
          simp only [Act.put, List.setIfInBounds_toArray, List.set_cons_succ, List.set_cons_zero]
          refine ⟨?_, ?_⟩
          focus
            unfold opGoal
            rw [if_pos (by kernel_rfl)]
            intro x hb hd K hk
            clear hd
            go_wp2_with fail
            exact hk _ _ rfl trivial (Below.refl _ _)
          rintro _ rfl
          simp only [Act.put, List.setIfInBounds_toArray, List.set_cons_succ, List.set_cons_zero]
          refine ⟨?_, ?_⟩
          focus
            unfold opGoal
            rw [if_pos (by kernel_rfl)]
            intro x hb hd K hk
            clear hd
            go_wp2_with fail
            exact hk _ _ rfl trivial (Below.refl _ _)
          rintro _ rfl
          simp only [Act.put, List.setIfInBounds_toArray, List.set_cons_succ, List.set_cons_zero]
          refine ⟨?_, ?_⟩
          focus
            unfold opGoal
            rw [if_pos (by kernel_rfl)]
            intro x hb hd K hk
            clear hd
            have l0 := cell_keep hb w1'
            go_wp2_with fail
            exact hk _ _ rfl trivial (Below.refl _ _)
          rintro _ rfl
          simp only [Act.put, List.setIfInBounds_toArray, List.set_cons_succ, List.set_cons_zero]
          refine ⟨?_, ?_⟩
          focus
            unfold opGoal
            rw [if_pos (by kernel_rfl)]
            intro x hb hd K hk
            clear hd
            go_wp2_with fail
            exact hk _ _ rfl trivial (Below.refl _ _)
          rintro _ rfl
          simp only [Act.put, List.setIfInBounds_toArray, List.set_cons_succ, List.set_cons_zero]
          refine ⟨?_, ?_⟩
          focus
            unfold opGoal
            rw [if_pos (by kernel_rfl)]
            intro x hb hd K hk
            clear hd
            go_wp2_with fail
            exact hk _ _ rfl trivial (Below.refl _ _)
          rintro _ rfl
          simp only [Act.put, List.setIfInBounds_toArray, List.set_cons_succ, List.set_cons_zero]
          refine ⟨?_, ?_⟩
          focus
            unfold opGoal
            rw [if_pos (by kernel_rfl)]
            intro x hb hd K hk
            clear hd
            go_wp2_with fail
            exact hk _ _ rfl trivial (Below.refl _ _)
          rintro _ rfl
          simp only [Act.put, List.setIfInBounds_toArray, List.set_cons_succ, List.set_cons_zero]
          refine ⟨?_, ?_⟩
          focus
            unfold opGoal
            rw [if_pos (by kernel_rfl)]
            intro x hb hd K hk
            clear hd
            have l0 := cell_keep hb w4
            go_wp2_with fail
            exact hk _ _ rfl trivial (Below.refl _ _)
          rintro _ rfl
          simp only [Act.put, List.setIfInBounds_toArray, List.set_cons_succ, List.set_cons_zero]
          refine ⟨?_, ?_⟩
          focus
            unfold opGoal
            rw [if_pos (by kernel_rfl)]
            intro x hb hd K hk
            clear hd
            go_wp2_with fail
            exact hk _ _ rfl trivial (Below.refl _ _)
          rintro _ rfl
          simp only [Act.put, List.setIfInBounds_toArray, List.set_cons_succ, List.set_cons_zero]
          refine ⟨?_, ?_⟩
          focus
            unfold opGoal
            rw [if_pos (by kernel_rfl)]
            intro x hb hd K hk
            clear hd
            go_wp2_with fail
            refine (NW.out x (hkd.below hb)).mono ?_
            rintro e9 w9 ⟨A9, n9, c9, rfl, hv, hb9⟩
            exact hk _ _ ⟨_, _, _, rfl⟩ (hv.mono hb.size) hb9
          rintro _ ⟨A8, n8, c8, rfl⟩
          simp only [Act.put, List.setIfInBounds_toArray, List.set_cons_succ, List.set_cons_zero]
          refine ⟨?_, ?_⟩
          focus
            unfold opGoal
            rw [if_pos (by kernel_rfl)]
            intro x hb hd K hk
            have hv := hd _ (List.mem_cons_self ..) rfl _ _ rfl rfl
            clear hd
            go_wp2_with fail
            exact hk _ _ ⟨_, _, _, rfl⟩ hv (Below.refl _ _)
          rintro _ ⟨A7, n7, c7, rfl⟩
          simp only [Act.put, List.setIfInBounds_toArray, List.set_cons_succ, List.set_cons_zero]
          intro x hb hall
          have hv : OwnNd x wr.heap.size (.slice A7 n7 c7) (flat (.mk kd n s (wholeTs ks))) := hall 14 _ _ rfl rfl
          clear hall
          go_wp2_with fail
          go_meet
          exact ⟨hv, hb⟩
      case rest =>
      obtain ⟨hv, hbx⟩ := hcut
      have hbw := hb.trans (hbx.mono hb.size)
      obtain ⟨A9, c9, rfl, _⟩ := id hv
      have hv2 := hv.mono hb.size
      generalize wc = wd at *
      have HWD := Lib.hid hbw
      clear hkd NW w0 w1' w4 hv hbx hb
      go_wp2_with fail
      go_loopw [6] (fun v wr => ∃ (A : Option Addr) (q c j : Nat) (tc : Tr), v = .slice A q c ∧ OwnNd wr w.heap.size (.slice A q c) (flat tc) ∧ Hid (q = (flat tc).length) ∧ q ≤ j ∧ q ≤ 4000000 ∧ Hid (arT tc = true) ∧ Hid (iterT j tc = wholeT (.mk kd n s ks)) ∧ Below wd.heap.size wd wr) (fun v _ => lenV v)
      case atStart => exact ⟨A9, _, c9, _, .mk kd n s (wholeTs ks), rfl, hv2, rfl, Nat.le_refl _, HFL.out, HART, Lib.hid HW.out.symm, Below.refl _ _⟩
      case round =>
        clear hv2
        obtain ⟨A, q, c, j, tc, rfl, hv, HQ, hqj, hq4, HAT, HIT, hbr⟩ := hrel
        have hs := hv.rd
        have hle : (flat tc).length ≤ 4000000 := by rw [← HQ.out]; exact hq4
        have KC := Lib.hid (show Calls Tryd.prog 64 #[.slice A q c] wr (KidsRet (tc.kids.map flat) wr) by rw [← kidsL_tree]; exact kids_any _ _ wr hs hle)
        have HVV := Lib.hid hv
        have HLE := Lib.hid hle
        clear hs hv hle
        go_wp2_with fail
        refine KC.out.mono ?_
        rintro e w5 ⟨A5, c5, vs5, rfl, ho5, hl5, hb5⟩
        have hko : KdOD w5 w.heap.size A5 (tc.kids.map flat) := by
          obtain ⟨h1, _, _⟩ := rd_one ho5 hl5.1.symm
          exact ⟨vs5, h1, hl5.mono (Nat.le_trans HWD.out.size hbr.size)⟩
        have RC := Lib.hid (rule_any (.slice A q c) A5 c5 tc.kids.length w.heap.size tc w5 (HVV.out.rd.below hb5) hko rfl (Nat.le_trans HWD.out.size (Nat.le_trans hbr.size hb5.size)) HAT.out HLE.out)
        have hbr5 := hbr.trans (hb5.mono hbr.size)
        have HV5 := Lib.hid (HVV.out.below hb5)
        rw [List.length_map]
        clear KC ho5 hl5 hko
        generalize tc.kids.length = nk at *
        go_wp2_with fail
        refine RC.out.mono ?_
        intro e w6 h6
        cases hr : ruleT tc with
        | none =>
          rw [hr] at h6
          obtain ⟨v6, rfl, hb6⟩ := h6
          have HF := Lib.hid (show tc = wholeT (.mk kd n s ks) by rw [← HIT.out, iter_none hr])
          have HV6 := Lib.hid (HV5.out.below hb6)
          have hbr6 := hbr5.trans (hb6.mono hbr5.size)
          clear hr RC
          go_wp2_with fail
          go_ret
          exact ((show VRet (flat (wholeT (.mk kd n s ks))) w _ _ from ⟨A, q, c, rfl, by rw [← HF.out]; exact HV6.out, HWD.out.trans (hbr6.mono HWD.out.size)⟩) : VRet _ w _ _).n
        | some t' =>
          rw [hr] at h6
          obtain ⟨A6, n6, c6, rfl, ho6, hb6⟩ := h6
          obtain ⟨hl, hat⟩ := rule_less HAT.out hr
          have hn6 : n6 = (flat t').length := by
            obtain ⟨_, _, he, _⟩ := ho6
            injection he
          obtain ⟨j', rfl⟩ : ∃ j', j = j' + 1 := ⟨j - 1, by have := flat_pos tc; have := HQ.out; omega⟩
          have HIT2 := Lib.hid (show iterT j' t' = wholeT (.mk kd n s ks) by rw [← HIT.out, iter_some hr])
          have HO6 := Lib.hid ho6
          have hlq : n6 < q := by rw [HQ.out, hn6]; exact hl
          have HN6 := Lib.hid hn6
          have HAT2 := Lib.hid hat
          have hbr6 := hbr5.trans (hb6.mono hbr5.size)
          clear hr RC ho6 hl hat hn6
          go_wp2_with fail
          go_roundw
          case rel => exact ⟨A6, n6, c6, j', t', rfl, HO6.out, HN6, by omega, by omega, HAT2, HIT2, hbr6⟩
          case measure => simp [lenV]; omega

open Classical in
/-- The passed program. -/
noncomputable def dpassL (L : List Nd) : List Nd := if h : manyB L = false ∧ ∃ t, okT 30 false t = true ∧ flat t = L then flat (wholeT h.2.choose) else L
theorem dpassL_tree {t : Tr} (hok : okT 30 false t = true) (hn : (flat t).length ≤ 3000) : dpassL (flat t) = flat (wholeT t) := by
  have hm : manyB (flat t) = false := by
    have := flat_pos t
    simp only [manyB, Bool.or_eq_false_iff, beq_eq_false_iff_ne, decide_eq_false_iff_not]
    omega
  unfold dpassL
  have h : manyB (flat t) = false ∧ ∃ t', okT 30 false t' = true ∧ flat t' = flat t := ⟨hm, t, hok, rfl⟩
  rw [dif_pos h, flat_inj _ h.2.choose t (Nat.le_refl _) h.2.choose_spec.2]
theorem dpassL_bad {L : List Nd} (h : manyB L = true ∨ checkP L ≠ none) : dpassL L = L := by
  unfold dpassL
  rw [dif_neg]
  rintro ⟨h1, h2⟩
  rcases h with h | h
  · rw [h] at h1; cases h1
  · refine h ((check_tree L ?_).2 h2)
    intro h0
    rw [manyB, h0] at h1
    simp at h1
theorem dpassL_len (L : List Nd) : (dpassL L).length ≤ L.length := by
  unfold dpassL
  split
  · rename_i h
    have h1 := (wholeT_ar h.2.choose (arT_ok 30 false _ h.2.choose_spec.1)).2
    rw [h.2.choose_spec.2] at h1
    exact h1
  · exact Nat.le_refl _

set_option maxHeartbeats 1000000 in
theorem dpass_any (v : Value) (L : List Nd) (aN aT aM : Addr) (w : World) (hL : L.length ≤ 4000000) (hok : ∀ x ∈ L, NdOk x) (hv : SlRd w v L) (hE : ErrW w aN aT aM) :
    Calls Tryd.prog 83 #[v] w (NodesRet (dpassL L) w) := by
  have HB := Lib.hid (fun h => dpassL_bad (L := L) h)
  have HV := Lib.hid hv
  have HCL := Lib.hid (fun W h => clone_any v L W h hL)
  have HCK := Lib.hid (show Calls Tryd.prog 9 #[v] w (CheckRet L aN aT aM w) by
    obtain ⟨A, c, rfl, hrd, _⟩ := hv
    exact check_any A c L aN aT aM w hL hok hrd hE)
  clear hv
  go_enter Tryd.func83, Tryd.ntmps83
  go_wp2_with fail
  refine HCK.out.mono ?_
  rintro e w1 ⟨v1, rfl, hv1, hb1⟩
  have HV1 := Lib.hid (HV.out.below hb1)
  cases hm : manyB L
  case true =>
    rw [hm, if_pos rfl] at hv1
    subst hv1
    have HF := Lib.hid (HB.out (.inl hm))
    clear hm
    go_wp2_with fail
    refine (HCL.out _ HV1.out).mono ?_
    rintro e w2 ⟨A2, c2, rfl, ho2, hb2⟩
    go_wp2_with fail
    go_ret
    exact ⟨A2, c2, ret_slice (by rw [HF.out]), by rw [HF.out]; exact own_mono ho2 hb1.size, hb1.trans (hb2.mono hb1.size)⟩
  case false =>
  rw [hm, if_neg Bool.noConfusion] at hv1
  cases hc : checkP L with
  | some z =>
    obtain ⟨i, nb⟩ := z
    rw [hc] at hv1
    obtain ⟨g, rfl, _⟩ := hv1
    have HF := Lib.hid (HB.out (.inr (by rw [hc]; simp)))
    clear hm hc
    go_wp2_with fail
    refine (HCL.out _ HV1.out).mono ?_
    rintro e w2 ⟨A2, c2, rfl, ho2, hb2⟩
    go_wp2_with fail
    go_ret
    exact ⟨A2, c2, ret_slice (by rw [HF.out]), by rw [HF.out]; exact own_mono ho2 hb1.size, hb1.trans (hb2.mono hb1.size)⟩
  | none =>
    rw [hc] at hv1
    obtain rfl : v1 = Value.nilIface := hv1
    obtain ⟨h0, h3⟩ : L.length ≠ 0 ∧ L.length ≤ 3000 := by
      simp only [manyB, Bool.or_eq_false_iff, beq_eq_false_iff_ne, decide_eq_false_iff_not] at hm
      omega
    obtain ⟨t, ht1, ht2⟩ := (check_tree L h0).1 hc
    have HF := Lib.hid (show dpassL L = flat (wholeT t) by rw [← ht2]; exact dpassL_tree ht1 (by rw [ht2]; exact h3))
    have HW := Lib.hid (show Calls Tryd.prog 111 #[v] w1 (NodesRet (flat (wholeT t)) w1) from dwhole_any 3000 t v w1 (by rw [ht2]; exact h3) (by decide) (arT_ok 30 false t ht1) (by rw [ht2]; exact HV1.out))
    clear hm hc ht1 ht2 h0 h3
    go_wp2_with fail
    refine HW.out.mono ?_
    rintro e w2 ⟨A2, c2, rfl, ho2, hb2⟩
    go_wp2_with fail
    go_ret
    exact ⟨A2, c2, ret_slice (by rw [HF.out]), by rw [HF.out]; exact own_mono ho2 hb1.size, hb1.trans (hb2.mono hb1.size)⟩
end Go.Proofs.YtpogngdddendiaaDoor
