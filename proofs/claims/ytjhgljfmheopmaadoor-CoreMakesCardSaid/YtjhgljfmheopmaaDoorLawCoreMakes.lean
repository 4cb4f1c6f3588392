/- CoreMakes: whatever numbers, text and lists of nodes are handed in, the law answers true. What the package-level errors hold is a hypothesis; a bound on the strings' lengths. -/
import Derived.Test.YtjhgljfmheopmaaDoorMkRow
import Derived.Test.YtjhgljfmheopmaaDoorCoreF
import Derived.Deep.CutRange
import Derived.Deep.CutBlock
import Derived.Outline
set_option linter.unusedVariables false
set_option linter.unusedSimpArgs false
namespace Go.Proofs.YtjhgljfmheopmaaDoor
open Go.RowKit

abbrev MR (B m : Nat) := MarkR B (m * 5) (ndc (mkN (-7)))
theorem mk_keep {L : List Nd} {m : Nat} (hm : m = L.length) : ∀ (j : Nat) (u : Value), m * 5 ≤ j → j < (m + 1) * 5 → (ndc (mkN (-7)))[j - m * 5]? = some u → ((L ++ [mkN (-7)]).flatMap ndc)[j]? = some u := by
  intro j u h1 _ h3
  subst hm
  rw [snoc_nd, List.getElem?_append_right (by rw [flat_len ndc_len]; exact h1), flat_len ndc_len]
  exact h3
theorem MkRow.mr {B m : Nat} {x x' : World} {v : Value} {L : List Nd} (h : MkRow x B v L) (hm : m = L.length) (hr : MR B m x x') : MkRow x' B v L := by
  obtain ⟨g, c, h1, h2, h3, h4⟩ := h
  refine ⟨g, c, h1, h2, h3, hr.own h4 ?_⟩
  rw [← hm]
  exact mk_keep hm
/- What the operations of the first loop's region hold: a copy of a list, a marked node, the copy with the mark, the cut, the cut in a row. -/
def cpT (B m : Nat) (L : List Nd) : TTR (MR B m) := ⟨fun v => ∃ A c, v = .slice A m c, ⟨_, none, 0, rfl⟩, fun v x => x.ownsRow B 44 5 v m (L.flatMap ndc), fun _ _ _ h hr => hr.own h fun j u h1 h2 _ => by omega⟩
def mk1T (B m : Nat) : TTR (MR B m) := ⟨fun v => ∃ g, v = .slice (some ⟨g, 0, none⟩) 1 1, ⟨_, 0, rfl⟩, fun v x => x.ownsRow B 44 5 v 1 (ndc (mkN (-7))), fun _ _ _ h hr => hr.own h fun j u h1 h2 h3 => by
  have h0 : m = 0 := by omega
  subst h0
  simpa using h3⟩
def mkT (B m : Nat) (L : List Nd) (hm : m = L.length) : TTR (MR B m) := ⟨fun v => ∃ g c, v = .slice (some ⟨g, 0, none⟩) (m + 1) c ∧ m + 1 ≤ c, ⟨_, 0, m + 1, rfl, Nat.le_refl _⟩, fun v x => x.ownsRow B 44 5 v (m + 1) ((L ++ [mkN (-7)]).flatMap ndc), fun _ _ _ h hr => hr.own h (mk_keep hm)⟩
def cutT (B m : Nat) (L : List Nd) (hm : m = L.length) : TTR (MR B m) := ⟨fun v => ∃ g c, v = .slice (some ⟨g, 0, none⟩) m c, ⟨_, 0, 0, rfl⟩, fun v x => MkRow x B v L, fun _ _ _ h hr => h.mr hm hr⟩
def inT (B m : Nat) (L : List Nd) (hm : m = L.length) : TTR (MR B m) := ⟨fun v => ∃ g, v = .slice (some ⟨g, 0, none⟩) 1 1, ⟨_, 0, rfl⟩, fun v x => ∃ u, u.oneCell' = true ∧ x.ownsRow B 25 1 v 1 [u] ∧ MkRow x B u L, fun _ _ _ h hr => by
  obtain ⟨u, h0, h1, h2⟩ := h
  exact ⟨u, h0, hr.own_other h1 (by decide), h2.mr hm hr⟩⟩
/-- What the walk asks of a list that came in. -/
def ListIn (l : List Nd) : Prop := (∀ y ∈ l, NdIn y) ∧ ∀ y ∈ l, y.s.length ≤ 140737488351232
def Light (l : List Nd) : Prop := l.length ≤ 200 ∧ ∀ x ∈ l, x.s.length ≤ 9000
theorem flat_le200 : ∀ {ls : List (List Nd)}, (∀ l ∈ ls, Light l) → ls.flatten.length ≤ 200 * ls.length
  | [], _ => by simp
  | l :: ls, h => by
    have h1 := (h l (by simp)).1
    have h2 := flat_le200 (ls := ls) fun m hm => h m (by simp [hm])
    simp only [List.flatten_cons, List.length_append, List.length_cons]
    omega

theorem seqLs_len : ∀ ls : List (List Nd), (seqLs ls).length ≤ 1 + ls.flatten.length
  | [] => by rw [seqLs, newL_len]; simp
  | [l] => by rw [seqLs]; simp
  | l :: m :: ls => by rw [seqLs, newL_len]; exact Nat.le_refl _
theorem again_len {kind n : Int} {s : List UInt8} {ls ms : List (List Nd)} (h : newL kind n s ms = newL kind n s ls) : ms.length = ls.length ∧ ms.flatten.length = ls.flatten.length := by
  have h1 := congrArg List.length h
  rw [newL_len, newL_len] at h1
  refine ⟨?_, by omega⟩
  rw [newL, newL] at h
  injection h with h _
  simp only [Nd.mk.injEq] at h
  omega
theorem wf_le9 {n : Int} (h : (Lit.int .i64 n).wf = true) : n ≤ 9223372036854775807 := by
  simp only [Lit.wf, Bool.and_eq_true, decide_eq_true_eq] at h
  have h2 : IntKind.i64.max = 9223372036854775807 := by decide
  rw [h2] at h
  exact h.2
set_option maxRecDepth 100000 in
set_option maxHeartbeats 8000000 in
theorem coremakes_walk (kind n : Int) (s : List UInt8) (A : Option Addr) (cp : Nat) (ls : List (List Nd)) (L : List Addr) (w : World) (hkd : KdRd w A ls) (hcp : ls.length ≤ cp) (hcm : cp ≤ maxLen) (hA : A = none → cp = 0) (hin : ∀ l ∈ ls, ListIn l) (hS : SenW w L) :
    Calls Tryd.prog 6 #[.int .i64 kind, .int .i64 n, .string ⟨s.toArray⟩, .slice A ls.length cp] w fun e w' => e = .returned (.bool true) ∧ Below w.heap.size w w' := by
  have FA := Lib.hid (first5_any L w hS)
  obtain ⟨i0, hi, hz0, hz1, hz2⟩ := info_parts infoNode
  obtain ⟨i1, hj, hy0, hy1, hy2⟩ := info_parts infoNodes
  obtain ⟨K, hK⟩ : ∃ K, K = ls.length := ⟨_, rfl⟩
  rw [← hK] at hcp ⊢
  have HK := Lib.hid hK
  have HIN := Lib.hid hin
  have HKD := Lib.hid hkd
  clear hK hin hkd hS
  go_enter Tryd.func6, Tryd.ntmps6
  generalize hQQ : bodyPost Tryd.prog Tryd.f6 (fun e w' => e = .returned (.bool true) ∧ Below w.heap.size w w') = QQ
  have HQQ := Lib.hid hQQ
  clear hQQ
  go_wp2_with fail
  refine FA.out.mono ?_
  rintro e w1 ⟨rfl, hb⟩
  clear FA
  by_cases hk4 : 4 < K
  · go_wp2_with fail
    rw [← HQQ.out]
    go_ret
    exact ⟨rfl, hb⟩
  have hk4' : decide ((4 : Int) < K) = false := decide_eq_false (by omega)
  by_cases hs3 : 300 < s.length
  · go_wp2_with fail
    rw [← HQQ.out]
    go_ret
    exact ⟨rfl, hb⟩
  have hs3' : decide ((300 : Int) < s.length) = false := decide_eq_false (by omega)
  have HSL := Lib.hid hs3
  clear hs3
  go_wp2_with fail
  go_loopw [10, 11, 12] (fun ov tv iv wr => ∃ (k T : Nat) (A' : Option Addr) (c' : Nat) (vs : List Value), ov = .slice A' k c' ∧ tv = .int .i64 T ∧ iv = .int .i64 k ∧ k ≤ K ∧ T ≤ 1 + 200 * k ∧ Below w.heap.size w wr ∧
      wr.ownsRow w.heap.size 25 1 (.slice A' k c') k vs ∧ AllMk wr w.heap.size vs (ls.take k) ∧ Hid (T = 1 + (ls.take k).flatten.length) ∧ Hid (∀ l ∈ ls.take k, Light l)) (fun _ _ iv _ => K - (intOf iv).toNat)
  case atStart => exact ⟨0, 1, none, 0, [], rfl, rfl, rfl, Nat.zero_le _, by omega, hb, World.ownsRow_nil _ _ _ _, AllMk.nil _ _, Lib.hid (by simp), Lib.hid (by simp)⟩
  case round =>
    obtain ⟨k, T, A', c', vs, rfl, rfl, rfl, hkK, hT, hbr, hown, hall, HT, HLT⟩ := hrel
    by_cases hlt : k < K
    ·
      have hlt' : k < ls.length := by rw [← HK.out]; exact hlt
      obtain ⟨bk, ok, vk, rfl, hbk, hck, hsk⟩ := HKD.out.at_ hlt'
      have hlin := HIN.out ls[k] (List.getElem_mem _)
      have HTK := Lib.hid (show ls.take (k + 1) = ls.take k ++ [ls[k]] from List.take_succ_eq_append_getElem hlt')
      obtain ⟨l, hl⟩ : ∃ l, l = ls[k] := ⟨_, rfl⟩
      rw [← hl] at hsk hlin HTK
      have HSK := Lib.hid hsk
      obtain ⟨Ak, ck, rfl, hrdk, hcck, hcmk, hAk, _⟩ := hsk
      have LI := Lib.hid (light_any Ak ck l wr (hrdk.below hbr) hcck hcmk hlin.2)
      obtain ⟨m, hm⟩ : ∃ m, m = l.length := ⟨_, rfl⟩
      rw [← hm] at hck HSK LI hcck
      have HM := Lib.hid hm
      clear hl hlin hrdk hAk hm
      have hck1 := cell_keep hbr hck
      go_wp2_with fail
      refine LI.out.mono ?_
      rintro e w2 ⟨bl, rfl, hbl, hb2⟩
      clear LI
      cases bl
      case false =>
        have hbw := hbr.trans (hb2.mono hbr.size)
        go_wp2_with fail
        rw [← HQQ.out]
        go_ret
        exact ⟨rfl, hbw⟩
      case true =>
      have HLI := Lib.hid (show Light l from hbl rfl)
      have hm200 : m ≤ 200 := by rw [HM.out]; exact HLI.out.1
      replace hbr := hbr.trans (hb2.mono hbr.size)
      replace hown := own_below hown hb2
      replace hall := hall.below hb2
      have hck2 := cell_keep hbr hck
      have HS2 := Lib.hid (HSK.out.below hbr)
      have NC := Lib.hid (show ∀ x, Below w2.heap.size w2 x → Calls Tryd.prog 24 #[.slice Ak m ck] x (VRet l x) from fun x hx => nodes_any _ l x (HS2.out.below hx) (by rw [← HM.out]; omega))
      clear hbl hb2 hck1
      go_upto_region 11 with (fail)
      go_cut [10] from 46 to 62 (fun v wx => ∃ (A2 : Option Addr) (c2 : Nat) (u : Value), v = .slice A2 (k + 1) c2 ∧ wx.ownsRow w.heap.size 25 1 (.slice A2 (k + 1) c2) (k + 1) (vs ++ [u]) ∧ MkRow wx w.heap.size u l ∧ AllMk wx w.heap.size vs (ls.take k) ∧ Below w.heap.size w2 wx)
      case first =>
        apply wp_region_relT (R := MR w2.heap.size m) (MarkR.refl _ _ _) (fun h1 h2 => h1.trans h2) (MarkR.drew _ _ _ _) 16
          [eqT _, eqT _, eqT _, eqT _, eqT _, cpT w2.heap.size m l, eqT _, mk1T w2.heap.size m, mkT w2.heap.size m l HM.out, eqT _, eqT _, eqT _, eqT _, eqT _, cutT w2.heap.size m l HM.out, inT w2.heap.size m l HM.out] (by kernel_rfl) (by kernel_rfl) (by kernel_rfl) rfl
        focus
          refine ⟨?_, ?_⟩
          focus
            unfold opGoal
            rw [if_pos (by kernel_rfl)]
            intro x hb hd K hk
            clear hd
            go_wp2_with fail
            exact hk _ _ rfl trivial (MarkR.refl _ _ _ _)
          rintro _ rfl
          simp only [Act.put, List.setIfInBounds_toArray, List.set_cons_succ, List.set_cons_zero]
          refine ⟨?_, ?_⟩
          focus
            unfold opGoal
            rw [if_pos (by kernel_rfl)]
            intro x hb hd K hk
            clear hd
            go_wp2_with fail
            exact hk _ _ rfl trivial (MarkR.refl _ _ _ _)
          rintro _ rfl
          simp only [Act.put, List.setIfInBounds_toArray, List.set_cons_succ, List.set_cons_zero]
          refine ⟨?_, ?_⟩
          focus
            unfold opGoal
            rw [if_pos (by kernel_rfl)]
            intro x hb hd K hk
            clear hd
            go_wp2_with fail
            exact hk _ _ rfl trivial (MarkR.refl _ _ _ _)
          rintro _ rfl
          simp only [Act.put, List.setIfInBounds_toArray, List.set_cons_succ, List.set_cons_zero]
          refine ⟨?_, ?_⟩
          focus
            unfold opGoal
            rw [if_pos (by kernel_rfl)]
            intro x hb hd K hk
            clear hd
            go_wp2_with fail
            exact hk _ _ rfl trivial (MarkR.refl _ _ _ _)
          rintro _ rfl
          simp only [Act.put, List.setIfInBounds_toArray, List.set_cons_succ, List.set_cons_zero]
          refine ⟨?_, ?_⟩
          focus
            unfold opGoal
            rw [if_pos (by kernel_rfl)]
            intro x hb hd K hk
            clear hd
            have l0 := cell_keep hb.1 hck2
            go_wp2_with fail
            exact hk _ _ rfl trivial (MarkR.refl _ _ _ _)
          rintro _ rfl
          simp only [Act.put, List.setIfInBounds_toArray, List.set_cons_succ, List.set_cons_zero]
          refine ⟨?_, ?_⟩
          focus
            unfold opGoal
            rw [if_pos (by kernel_rfl)]
            intro x hb hd K hk
            clear hd
            go_wp2_with fail
            refine (NC.out x hb.1).mono ?_
            rintro e9 w9 ⟨A9, n9, c9, rfl, ⟨_, _, he, ho9⟩, hb9⟩
            simp only [Value.slice.injEq] at he
            obtain ⟨rfl, rfl, rfl⟩ := he
            rw [← HM.out] at ho9 ⊢
            exact hk _ _ ⟨_, _, rfl⟩ (own_mono ho9 hb.1.size) (MarkR.of_below hb9 hb.1.size)
          rintro _ ⟨A9, c9, rfl⟩
          simp only [Act.put, List.setIfInBounds_toArray, List.set_cons_succ, List.set_cons_zero]
          refine ⟨?_, ?_⟩
          focus
            unfold opGoal
            rw [if_pos (by kernel_rfl)]
            intro x hb hd K hk
            clear hd
            go_wp2_with fail
            exact hk _ _ rfl trivial (MarkR.refl _ _ _ _)
          rintro _ rfl
          simp only [Act.put, List.setIfInBounds_toArray, List.set_cons_succ, List.set_cons_zero]
          refine ⟨?_, ?_⟩
          focus
            unfold opGoal
            rw [if_pos (by kernel_rfl)]
            intro x hb hd K hk
            clear hd
            go_wp2_with fail
            exact hk _ _ ⟨_, rfl⟩ (World.ownsRow_lit x _ 1 hb.1.size (by decide) rfl) (MarkR.of_below ((Below.refl _ _).alloc (Nat.le_refl _) _) hb.1.size)
          rintro _ ⟨g8, rfl⟩
          simp only [Act.put, List.setIfInBounds_toArray, List.set_cons_succ, List.set_cons_zero]
          refine ⟨?_, ?_⟩
          focus
            unfold opGoal
            rw [if_pos (by kernel_rfl)]
            intro x hb hd K hk
            have h51 : x.ownsRow w2.heap.size 44 5 (.slice A9 m c9) m (l.flatMap ndc) := hd _ (List.mem_cons_self ..) rfl _ _ rfl rfl
            have h53 : x.ownsRow w2.heap.size 44 5 (.slice (some ⟨g8, 0, none⟩) 1 1) 1 (ndc (mkN (-7))) := hd _ (List.mem_cons_of_mem _ (List.mem_cons_self ..)) rfl _ _ rfl rfl
            clear hd
            obtain ⟨v', w', hr, ho', hmr⟩ := run_append_mark (P := Tryd.prog) x w2.heap.size 25 25 44 i0 _ 48 rfl Tryd.underlying25 hi hz0 hz1 hz2 rfl (.slice A9 m c9) m _ h51 ⟨g8, 0, none⟩ (ndc (mkN (-7))) rfl (h53.cells (g := g8) rfl) (ndc_one _) (by unfold maxLen; omega) (by omega) hb.1.size
            obtain ⟨A', c', rfl, _⟩ := own_form ho'
            obtain ⟨g, rfl, _⟩ := own_addr' ho' (Nat.succ_pos _)
            refine oper_append _ _ _ rfl rfl rfl hr ?_
            exact hk _ _ ⟨g, c', rfl, (own_cap' ho').1⟩ (by show w'.ownsRow _ _ _ _ _ ((l ++ [mkN (-7)]).flatMap ndc); rw [snoc_nd]; exact ho') hmr
          rintro _ ⟨g7, c7, rfl, hc7⟩
          simp only [Act.put, List.setIfInBounds_toArray, List.set_cons_succ, List.set_cons_zero]
          refine ⟨?_, ?_⟩
          focus
            unfold opGoal
            rw [if_pos (by kernel_rfl)]
            intro x hb hd K hk
            clear hd
            go_wp2_with fail
            exact hk _ _ rfl trivial (MarkR.refl _ _ _ _)
          rintro _ rfl
          simp only [Act.put, List.setIfInBounds_toArray, List.set_cons_succ, List.set_cons_zero]
          refine ⟨?_, ?_⟩
          focus
            unfold opGoal
            rw [if_pos (by kernel_rfl)]
            intro x hb hd K hk
            clear hd
            go_wp2_with fail
            exact hk _ _ rfl trivial (MarkR.refl _ _ _ _)
          rintro _ rfl
          simp only [Act.put, List.setIfInBounds_toArray, List.set_cons_succ, List.set_cons_zero]
          refine ⟨?_, ?_⟩
          focus
            unfold opGoal
            rw [if_pos (by kernel_rfl)]
            intro x hb hd K hk
            clear hd
            go_wp2_with fail
            exact hk _ _ rfl trivial (MarkR.refl _ _ _ _)
          rintro _ rfl
          simp only [Act.put, List.setIfInBounds_toArray, List.set_cons_succ, List.set_cons_zero]
          refine ⟨?_, ?_⟩
          focus
            unfold opGoal
            rw [if_pos (by kernel_rfl)]
            intro x hb hd K hk
            clear hd
            have l0 := cell_keep hb.1 hck2
            go_wp2_with fail
            exact hk _ _ rfl trivial (MarkR.refl _ _ _ _)
          rintro _ rfl
          simp only [Act.put, List.setIfInBounds_toArray, List.set_cons_succ, List.set_cons_zero]
          refine ⟨?_, ?_⟩
          focus
            unfold opGoal
            rw [if_pos (by kernel_rfl)]
            intro x hb hd K hk
            clear hd
            go_wp2_with fail
            exact hk _ _ rfl trivial (MarkR.refl _ _ _ _)
          rintro _ rfl
          simp only [Act.put, List.setIfInBounds_toArray, List.set_cons_succ, List.set_cons_zero]
          refine ⟨?_, ?_⟩
          focus
            unfold opGoal
            rw [if_pos (by kernel_rfl)]
            intro x hb hd K hk
            have h54 : x.ownsRow w2.heap.size 44 5 (.slice (some ⟨g7, 0, none⟩) (m + 1) c7) (m + 1) ((l ++ [mkN (-7)]).flatMap ndc) := hd _ (List.mem_cons_self ..) rfl _ _ rfl rfl
            clear hd
            have hmr7 : MkRow x w2.heap.size (.slice (some ⟨g7, 0, none⟩) m c7) l := ⟨g7, c7, by rw [HM.out], by rw [← HM.out]; exact hc7, (own_cap' h54).2, by rw [← HM.out]; exact h54⟩
            have HR7 := Lib.hid hmr7
            clear h54 hmr7
            go_wp2_with fail
            exact hk _ _ ⟨g7, c7, rfl⟩ HR7.out (MarkR.refl _ _ _ _)
          rintro _ ⟨g6, c6, rfl⟩
          simp only [Act.put, List.setIfInBounds_toArray, List.set_cons_succ, List.set_cons_zero]
          refine ⟨?_, ?_⟩
          focus
            unfold opGoal
            rw [if_pos (by kernel_rfl)]
            intro x hb hd K hk
            have h60 : MkRow x w2.heap.size (.slice (some ⟨g6, 0, none⟩) m c6) l := hd _ (List.mem_cons_self ..) rfl _ _ rfl rfl
            clear hd
            have HR6 := Lib.hid h60
            clear h60
            go_wp2_with fail
            exact hk _ _ ⟨_, rfl⟩ ⟨_, rfl, World.ownsRow_lit x #[_] 1 hb.1.size (by decide) rfl, HR6.out.below ((Below.refl _ _).alloc (Nat.le_refl _) _)⟩ (MarkR.of_below ((Below.refl _ _).alloc (Nat.le_refl _) _) hb.1.size)
          rintro _ ⟨g5, rfl⟩
          simp only [Act.put, List.setIfInBounds_toArray, List.set_cons_succ, List.set_cons_zero]
          intro x hbx hall2
          simp only [List.drop_succ_cons, List.drop_zero]
          have h61 : ∃ u, u.oneCell' = true ∧ x.ownsRow w2.heap.size 25 1 (.slice (some ⟨g5, 0, none⟩) 1 1) 1 [u] ∧ MkRow x w2.heap.size u l := hall2 15 _ _ rfl rfl
          clear hall2
          obtain ⟨u, hu1, hu2, hu3⟩ := h61
          have hrd5 := (rd_one hu2 rfl).1
          have hownx := own_below hown hbx.1
          have hallx := hall.below hbx.1
          have hbwx := hbr.trans (hbx.1.mono hbr.size)
          have HU3 := Lib.hid hu3
          have HALL := Lib.hid hallx
          have HBX := Lib.hid (hbx.1.mono hbr.size)
          have hB2 := hbr.size
          clear hu2 hu3 hallx hbx hall hown
          go_wp2_with (at_builtin; refine wpList_pushMem (enc := one1) rfl _ _ _ rfl Tryd.underlying23 hj hy0 hy1 hy2 rfl (by decide) hownx rfl rfl rfl hrd5 (fun h => by cases h) trivial one1_len (fun y hy v hv => by simp only [List.mem_singleton] at hy; subst hy; simp only [one1, List.mem_singleton] at hv; rw [hv]; exact hu1) (by omega) (by decide) hbwx.size ?_; intro A7 c7 w7 ho7 hb7 hoo7)
          go_meet
          refine ⟨A7, c7, u, rfl, ?_, ?_, HALL.out.others hoo7 (by decide), HBX.out.trans hb7⟩
          · simpa [one1] using ho7
          · obtain ⟨g, c, e1, e2, e3, e4⟩ := HU3.out.others hoo7 (by decide)
            exact ⟨g, c, e1, e2, e3, own_mono e4 hB2⟩
      case rest =>
      obtain ⟨A2, c2, u, rfl, ho3, hu3, hall3, hb3⟩ := hcut
      have hb4 := hbr.trans hb3
      have hck3 := cell_keep hb4 hck
      have HTT := Lib.hid (show T + m = 1 + (ls.take (k + 1)).flatten.length by rw [HTK.out, List.flatten_append, List.length_append, HT.out, HM.out]; simp; omega)
      have HLL := Lib.hid (show ∀ q ∈ ls.take (k + 1), Light q by
        rw [HTK.out]
        intro q hq
        rcases List.mem_append.1 hq with hq | hq
        · exact HLT.out q hq
        · rw [List.mem_singleton.1 hq]; exact HLI.out)
      have hall4 := hall3.snoc hu3
      rw [← HTK.out] at hall4
      have HALL := Lib.hid hall4
      clear hall hall3 hall4 hu3 hown hck2 hck NC HT HLT HTK HLI
      go_wp2_with fail
      go_roundw
      case rel => exact ⟨k + 1, T + m, A2, c2, vs ++ [u], by go_num, by go_num, by go_num, by omega, by omega, hb4, ho3, HALL.out, HTT, HLL⟩
      case measure => simp [intOf]; omega
    · obtain rfl : k = K := by omega
      have htk : ls.take k = ls := by rw [HK.out, List.take_length]
      rw [htk] at hall HT HLT
      have hfl := flat_le200 HLT.out
      rw [← HK.out] at hfl
      have NW := Lib.hid (show ∀ W, Below wr.heap.size wr W → Calls Tryd.prog 16 #[.int .i64 kind, .int .i64 n, .string ⟨s.toArray⟩, .slice A' k c'] W (NodesRet (newL kind n s ls) W) from fun W hW => by
        have h := new_any kind n s A' c' ls W ((KdRd.of_mk hown HK.out hall).below hW) (by rw [← HK.out]; omega) (by omega)
        rwa [← HK.out] at h)
      have PL := Lib.hid (show T = (newL kind n s ls).length by rw [newL_len]; exact HT.out)
      have P0 := Lib.hid (show (newL kind n s ls)[0]? = some ⟨kind, n, k, T, s⟩ by rw [newL, HK.out, HT.out]; simp)
      have PD := Lib.hid (show ∀ (i : Nat) (h : i < ls.length), ((newL kind n s ls).drop (1 + (ls.take i).flatten.length)).take ls[i].length = ls[i] by
        intro i h
        rw [newL, Nat.add_comm, List.drop_succ_cons]
        have h2 : ls.flatten = (ls.take i).flatten ++ (ls[i] ++ (ls.drop (i + 1)).flatten) := by
          rw [← List.flatten_cons, ← List.drop_eq_getElem_cons h, ← List.flatten_append, List.take_append_drop]
        rw [h2, List.drop_left, List.take_left])
      have PE := Lib.hid (show ∀ (i : Nat) (h : i < ls.length), 1 + (ls.take i).flatten.length + ls[i].length ≤ T by
        intro i h
        have := flat_take_len ls i h
        rw [HT.out]; omega)
      have hss : (({ data := s.toArray } : ByteArray) != { data := s.toArray }) = false := by
        show (!(s.toArray == s.toArray)) = false
        simp
      clear hfl htk
      go_wp2_with fail
      refine (NW.out wr (Below.refl _ _)).mono ?_
      rintro e w5 ⟨A5, c5, rfl, ho5, hb5⟩
      rw [← PL.out] at ho5 ⊢
      have hT1 : 1 ≤ T := by rw [HT.out]; omega
      obtain ⟨g5, rfl, hg5, hg5'⟩ := own_addr' ho5 (by omega)
      have hrd5 : RdL w5 5 ndc (some ⟨g5, 0, none⟩) (newL kind n s ls) := by
        obtain ⟨A9, c9, he, _, _, h9, _⟩ := RdL.of_own ndc_len ho5 PL.out
        simp only [Value.slice.injEq] at he
        obtain ⟨rfl, _, rfl⟩ := he
        exact h9
      have h0 : 0 < (newL kind n s ls).length := by rw [← PL.out]; omega
      have hx0 : (newL kind n s ls)[0] = ⟨kind, n, k, T, s⟩ := by
        have h1 := P0.out
        rw [List.getElem?_eq_getElem h0] at h1
        injection h1
      have p0 := (hrd5.at_ h0).2 0 _ rfl
      have p1 := (hrd5.at_ h0).2 1 _ rfl
      have p2 := (hrd5.at_ h0).2 2 _ rfl
      have p3 := (hrd5.at_ h0).2 3 _ rfl
      have p4 := (hrd5.at_ h0).2 4 _ rfl
      rw [hx0] at p0 p1 p2 p3 p4
      simp only [Nat.zero_mul, Nat.add_zero, Nat.zero_add] at p0 p1 p2 p3 p4
      have hbw5 := hbr.trans (hb5.mono hbr.size)
      have hbr0 := hbr
      have HB5 := Lib.hid hb5
      have HO5 := Lib.hid ho5
      have HRD5 := Lib.hid hrd5
      have HOW := Lib.hid hown
      have HALL := Lib.hid hall
      have hc5 : T ≤ c5 := (own_cap' ho5).1
      have hc5' : c5 ≤ 9223372036854775807 := by have := (own_cap' ho5).2; unfold maxLen at this; omega
      have HLT2 := Lib.hid HLT.out
      clear hx0 h0 hrd5 hb5 ho5 hown hall HLT
      go_wp2_with fail
      clear p0 p1 p2 p3 p4
      generalize wr = wq at *
      go_loopw [14, 15] (fun av iv wr => ∃ (i at_ : Nat), av = .int .i64 at_ ∧ iv = .int .i64 i ∧ i ≤ k ∧ at_ ≤ T ∧ 1 ≤ at_ ∧ Below w5.heap.size w5 wr ∧ Hid (at_ = 1 + (ls.take i).flatten.length)) (fun _ iv _ => k - (intOf iv).toNat)
      case atStart => exact ⟨0, 1, rfl, rfl, Nat.zero_le _, hT1, Nat.le_refl _, Below.refl _ _, Lib.hid (by simp)⟩
      case round =>
        obtain ⟨i, at_, rfl, rfl, hik, hat, hat1, hbz, HAT⟩ := hrel
        by_cases hlt2 : i < k
        ·
          have hlt' : i < ls.length := by rw [← HK.out]; exact hlt2
          obtain ⟨bk, ok, vk, rfl, hbk, hck, hsk⟩ := HKD.out.at_ hlt'
          have hpd := PD.out i hlt'
          have hpe := PE.out i hlt'
          have HTK := Lib.hid (show (ls.take (i + 1)).flatten.length = (ls.take i).flatten.length + ls[i].length by rw [flat_take ls i hlt', List.length_append])
          obtain ⟨l, hl⟩ : ∃ l, l = ls[i] := ⟨_, rfl⟩
          rw [← hl] at hsk hpd hpe HTK
          rw [← HAT.out] at hpd hpe
          have hbwz := hbw5.trans (hbz.mono hbw5.size)
          have HSK := Lib.hid (hsk.below hbwz)
          obtain ⟨Ak, ck, rfl, hrdk, hcck, hcmk, hAk, _⟩ := hsk
          obtain ⟨m, hm⟩ : ∃ m, m = l.length := ⟨_, rfl⟩
          rw [← hm] at hck HSK hcck hpd hpe
          have HM := Lib.hid hm
          have ek := Later.cell (cell_keep hbwz hck)
          have hckz := cell_keep hbwz hck
          have HAT2 := Lib.hid (show at_ + m = 1 + (ls.take (i + 1)).flatten.length by rw [HTK.out, ← HM.out, HAT.out]; omega)
          clear hl hrdk hAk HTK HAT
          rcases Nat.lt_or_ge at_ c5 with hlc | hlc
          · have hsl : SlRd wr (.slice (some ⟨g5, at_ * 5, none⟩) m (c5 - at_)) l := by
              refine ⟨some ⟨g5, at_ * 5, none⟩, c5 - at_, by rw [hm], ?_, by omega, by unfold maxLen; omega, (fun h => by cases h), trivial⟩
              rw [← hpd]
              have h9 := (HRD5.out.below hbz).drop at_ (A' := some ⟨g5, 0 + at_ * 5, none⟩) addr_drop
              rw [Nat.zero_add] at h9
              exact h9.take m
            have SN := Lib.hid (show ∀ W, Below wr.heap.size wr W → Calls Tryd.prog 25 #[.slice (some ⟨g5, at_ * 5, none⟩) m (c5 - at_), .slice Ak m ck] W (Ret W (.bool true)) from fun W hW => by
              have h3 := samenodes_v _ _ l l W (hsl.below hW) (HSK.out.below hW) (by rw [← HM.out]; omega) (by rw [← HM.out]; omega)
              rw [(sameL_iff _ _).2 rfl] at h3
              exact h3)
            have hne : ¬ at_ = c5 := by omega
            clear hm hpd hsl
            go_upto_region 20 with (fail)
            refine wp_region_eq (by kernel_rfl) (by kernel_rfl) ?_
            apply EqGo.run
            focus
              kernel_rfl
            focus
              intro x K hK
              go_wp2_with fail
              first | exact hK x (Below.refl _ _) | exact Below.refl _ _
            simp only [Act.put, List.setIfInBounds_toArray, List.set_cons_succ, List.set_cons_zero]
            apply EqGo.run
            focus
              kernel_rfl
            focus
              intro x K hK
              go_wp2_with fail
              first | exact hK x (Below.refl _ _) | exact Below.refl _ _
            simp only [Act.put, List.setIfInBounds_toArray, List.set_cons_succ, List.set_cons_zero]
            apply EqGo.run
            focus
              kernel_rfl
            focus
              intro x K hK
              go_wp2_with fail
              first | exact hK x (Below.refl _ _) | exact Below.refl _ _
            simp only [Act.put, List.setIfInBounds_toArray, List.set_cons_succ, List.set_cons_zero]
            apply EqGo.run
            focus
              kernel_rfl
            focus
              intro x K hK
              go_wp2_with fail
              first | exact hK x (Below.refl _ _) | exact Below.refl _ _
            simp only [Act.put, List.setIfInBounds_toArray, List.set_cons_succ, List.set_cons_zero]
            apply EqGo.run
            focus
              kernel_rfl
            focus
              intro x K hK
              go_wp2_with fail
              first | exact hK x (Below.refl _ _) | exact Below.refl _ _
            simp only [Act.put, List.setIfInBounds_toArray, List.set_cons_succ, List.set_cons_zero]
            apply EqGo.run
            focus
              kernel_rfl
            focus
              intro x K hK
              go_wp2_with fail
              first | exact hK x (Below.refl _ _) | exact Below.refl _ _
            simp only [Act.put, List.setIfInBounds_toArray, List.set_cons_succ, List.set_cons_zero]
            apply EqGo.run
            focus
              kernel_rfl
            focus
              intro x K hK
              go_wp2_with fail
              first | exact hK x (Below.refl _ _) | exact Below.refl _ _
            simp only [Act.put, List.setIfInBounds_toArray, List.set_cons_succ, List.set_cons_zero]
            apply EqGo.run
            focus
              kernel_rfl
            focus
              intro x K hK
              go_wp2_with fail
              first | exact hK x (Below.refl _ _) | exact Below.refl _ _
            simp only [Act.put, List.setIfInBounds_toArray, List.set_cons_succ, List.set_cons_zero]
            apply EqGo.run
            focus
              kernel_rfl
            focus
              intro x K hK
              go_wp2_with fail
              first | exact hK x (Below.refl _ _) | exact Below.refl _ _
            simp only [Act.put, List.setIfInBounds_toArray, List.set_cons_succ, List.set_cons_zero]
            apply EqGo.run
            focus
              kernel_rfl
            focus
              intro x K hK
              go_wp2_with fail
              first | exact hK x (Below.refl _ _) | exact Below.refl _ _
            simp only [Act.put, List.setIfInBounds_toArray, List.set_cons_succ, List.set_cons_zero]
            try simp only [Nat.add_sub_cancel_left, Nat.sub_self]
            apply EqGo.run
            focus
              kernel_rfl
            focus
              intro x K hK
              go_wp2_with fail
              first | exact hK x (Below.refl _ _) | exact Below.refl _ _
            simp only [Act.put, List.setIfInBounds_toArray, List.set_cons_succ, List.set_cons_zero]
            apply EqGo.run
            focus
              kernel_rfl
            focus
              intro x K hK
              go_wp2_with fail
              first | exact hK x (Below.refl _ _) | exact Below.refl _ _
            simp only [Act.put, List.setIfInBounds_toArray, List.set_cons_succ, List.set_cons_zero]
            apply EqGo.run
            focus
              kernel_rfl
            focus
              intro x K hK
              go_wp2_with fail
              first | exact hK x (Below.refl _ _) | exact Below.refl _ _
            simp only [Act.put, List.setIfInBounds_toArray, List.set_cons_succ, List.set_cons_zero]
            apply EqGo.run
            focus
              kernel_rfl
            focus
              intro x K hK
              go_wp2_with fail
              first | exact hK x (Below.refl _ _) | exact Below.refl _ _
            simp only [Act.put, List.setIfInBounds_toArray, List.set_cons_succ, List.set_cons_zero]
            apply EqGo.run
            focus
              kernel_rfl
            focus
              intro x K hK
              go_wp2_with fail
              refine (Hid.out SN x.val x.below).mono ?_
              rintro e x' ⟨rfl, hb'⟩
              exact hK ⟨x', x.below.trans (hb'.mono x.below.size)⟩ hb'
            simp only [Act.put, List.setIfInBounds_toArray, List.set_cons_succ, List.set_cons_zero]
            apply EqGo.run
            focus
              kernel_rfl
            focus
              intro x K hK
              go_wp2_with fail
              first | exact hK x (Below.refl _ _) | exact Below.refl _ _
            simp only [Act.put, List.setIfInBounds_toArray, List.set_cons_succ, List.set_cons_zero]
            intro x
            have hbx := hbz.trans (x.below.mono hbz.size)
            have hckx := cell_keep x.below hckz
            go_wp2_with fail
            go_roundw
            case rel => exact ⟨i + 1, _, by go_num, by go_num, by omega, by omega, by omega, hbx, HAT2⟩
            case measure => simp [intOf]; omega
          · obtain rfl : c5 = at_ := by omega
            have hm0 : m = 0 := by omega
            have hsl : SlRd wr (.slice (some ⟨g5, 0, none⟩) m 0) l := by
              have hl0 := List.eq_nil_of_length_eq_zero (hm.symm.trans hm0)
              rw [hl0] at hm ⊢
              exact ⟨some ⟨g5, 0, none⟩, 0, by rw [hm], RdL.nil _ _ _ _, Nat.le_refl _, by decide, (fun h => by cases h), trivial⟩
            have SN := Lib.hid (show ∀ W, Below wr.heap.size wr W → Calls Tryd.prog 25 #[.slice (some ⟨g5, 0, none⟩) m 0, .slice Ak m ck] W (Ret W (.bool true)) from fun W hW => by
              have h3 := samenodes_v _ _ l l W (hsl.below hW) (HSK.out.below hW) (by rw [← HM.out]; omega) (by rw [← HM.out]; omega)
              rw [(sameL_iff _ _).2 rfl] at h3
              exact h3)
            clear hm hpd hsl hm0 hlc
            go_upto_region 20 with (fail)
            refine wp_region_eq (by kernel_rfl) (by kernel_rfl) ?_
            apply EqGo.run
            focus
              kernel_rfl
            focus
              intro x K hK
              go_wp2_with fail
              first | exact hK x (Below.refl _ _) | exact Below.refl _ _
            simp only [Act.put, List.setIfInBounds_toArray, List.set_cons_succ, List.set_cons_zero]
            apply EqGo.run
            focus
              kernel_rfl
            focus
              intro x K hK
              go_wp2_with fail
              first | exact hK x (Below.refl _ _) | exact Below.refl _ _
            simp only [Act.put, List.setIfInBounds_toArray, List.set_cons_succ, List.set_cons_zero]
            apply EqGo.run
            focus
              kernel_rfl
            focus
              intro x K hK
              go_wp2_with fail
              first | exact hK x (Below.refl _ _) | exact Below.refl _ _
            simp only [Act.put, List.setIfInBounds_toArray, List.set_cons_succ, List.set_cons_zero]
            apply EqGo.run
            focus
              kernel_rfl
            focus
              intro x K hK
              go_wp2_with fail
              first | exact hK x (Below.refl _ _) | exact Below.refl _ _
            simp only [Act.put, List.setIfInBounds_toArray, List.set_cons_succ, List.set_cons_zero]
            apply EqGo.run
            focus
              kernel_rfl
            focus
              intro x K hK
              go_wp2_with fail
              first | exact hK x (Below.refl _ _) | exact Below.refl _ _
            simp only [Act.put, List.setIfInBounds_toArray, List.set_cons_succ, List.set_cons_zero]
            apply EqGo.run
            focus
              kernel_rfl
            focus
              intro x K hK
              go_wp2_with fail
              first | exact hK x (Below.refl _ _) | exact Below.refl _ _
            simp only [Act.put, List.setIfInBounds_toArray, List.set_cons_succ, List.set_cons_zero]
            apply EqGo.run
            focus
              kernel_rfl
            focus
              intro x K hK
              go_wp2_with fail
              first | exact hK x (Below.refl _ _) | exact Below.refl _ _
            simp only [Act.put, List.setIfInBounds_toArray, List.set_cons_succ, List.set_cons_zero]
            apply EqGo.run
            focus
              kernel_rfl
            focus
              intro x K hK
              go_wp2_with fail
              first | exact hK x (Below.refl _ _) | exact Below.refl _ _
            simp only [Act.put, List.setIfInBounds_toArray, List.set_cons_succ, List.set_cons_zero]
            apply EqGo.run
            focus
              kernel_rfl
            focus
              intro x K hK
              go_wp2_with fail
              first | exact hK x (Below.refl _ _) | exact Below.refl _ _
            simp only [Act.put, List.setIfInBounds_toArray, List.set_cons_succ, List.set_cons_zero]
            apply EqGo.run
            focus
              kernel_rfl
            focus
              intro x K hK
              go_wp2_with fail
              first | exact hK x (Below.refl _ _) | exact Below.refl _ _
            simp only [Act.put, List.setIfInBounds_toArray, List.set_cons_succ, List.set_cons_zero]
            try simp only [Nat.add_sub_cancel_left, Nat.sub_self]
            apply EqGo.run
            focus
              kernel_rfl
            focus
              intro x K hK
              go_wp2_with fail
              first | exact hK x (Below.refl _ _) | exact Below.refl _ _
            simp only [Act.put, List.setIfInBounds_toArray, List.set_cons_succ, List.set_cons_zero]
            apply EqGo.run
            focus
              kernel_rfl
            focus
              intro x K hK
              go_wp2_with fail
              first | exact hK x (Below.refl _ _) | exact Below.refl _ _
            simp only [Act.put, List.setIfInBounds_toArray, List.set_cons_succ, List.set_cons_zero]
            apply EqGo.run
            focus
              kernel_rfl
            focus
              intro x K hK
              go_wp2_with fail
              first | exact hK x (Below.refl _ _) | exact Below.refl _ _
            simp only [Act.put, List.setIfInBounds_toArray, List.set_cons_succ, List.set_cons_zero]
            apply EqGo.run
            focus
              kernel_rfl
            focus
              intro x K hK
              go_wp2_with fail
              first | exact hK x (Below.refl _ _) | exact Below.refl _ _
            simp only [Act.put, List.setIfInBounds_toArray, List.set_cons_succ, List.set_cons_zero]
            apply EqGo.run
            focus
              kernel_rfl
            focus
              intro x K hK
              go_wp2_with fail
              refine (Hid.out SN x.val x.below).mono ?_
              rintro e x' ⟨rfl, hb'⟩
              exact hK ⟨x', x.below.trans (hb'.mono x.below.size)⟩ hb'
            simp only [Act.put, List.setIfInBounds_toArray, List.set_cons_succ, List.set_cons_zero]
            apply EqGo.run
            focus
              kernel_rfl
            focus
              intro x K hK
              go_wp2_with fail
              first | exact hK x (Below.refl _ _) | exact Below.refl _ _
            simp only [Act.put, List.setIfInBounds_toArray, List.set_cons_succ, List.set_cons_zero]
            intro x
            have hbx := hbz.trans (x.below.mono hbz.size)
            have hckx := cell_keep x.below hckz
            go_wp2_with fail
            go_roundw
            case rel => exact ⟨i + 1, _, by go_num, by go_num, by omega, by omega, by omega, hbx, HAT2⟩
            case measure => simp [intOf]; omega
        · obtain rfl : k = i := by omega
          have hnd : ∀ x ∈ newL kind n s ls, NdOk x := by
            intro x hx
            rw [newL] at hx
            rcases List.mem_cons.1 hx with rfl | hx
            · exact ⟨by have := HSL.out; simp only; omega, by simp only; rw [← HK.out]; omega⟩
            · obtain ⟨l, hl, hx⟩ := List.mem_flatten.1 hx
              exact ⟨by have := (HLT2.out l hl).2 x hx; omega, wf_le9 ((HIN.out l hl).1 x hx).2.2.2.1⟩
          have hTb : T ≤ 801 := by omega
          have HS5 := Lib.hid (show SlRd w5 (.slice (some ⟨g5, 0, none⟩) T c5) (newL kind n s ls) from SlRd.of_own HO5.out PL.out)
          have CF := Lib.hid (check5_any _ _ wr (HS5.out.below hbz) (by rw [← PL.out]; omega) hnd)
          obtain ⟨b, hbb⟩ : ∃ b, b = fineB (newL kind n s ls) := ⟨_, rfl⟩
          rw [← hbb] at CF
          have HFB := Lib.hid hbb
          clear hbb hnd HAT PD PE
          go_wp2_with fail
          refine CF.out.mono ?_
          rintro e w6 ⟨c6, A6, n6, k6, rfl, hc6, hb6⟩
          have hfd : ∀ W : World, (Instr.field 38 (.agg #[.int .i64 c6, .slice A6 n6 k6]) 0).run Tryd.prog W = .ok (.int .i64 c6) W := fun _ => by kernel_rfl
          have hb56 := hbz.trans (hb6.mono hbz.size)
          have HS6 := Lib.hid (HS5.out.below hb56)
          clear CF hb6 hbz
          go_upto_region 24 with (fail)
          clear hfd
          go_cut [164] from 153 to 164 (fun v wx => v = .bool false ∧ Below w6.heap.size w6 wx)
          case first =>
            cases b
            case false =>
              go_wp2_with fail
              go_meet
              exact ⟨rfl, Below.refl _ _⟩
            case true =>
              have hag := newL_again HFB.out.symm
              obtain ⟨ha1, ha2⟩ := again_len hag
              have KC := Lib.hid (kids_any _ _ w6 HS6.out (by rw [← PL.out]; omega))
              have NC := Lib.hid (show ∀ A c W, KdRd W A (kidsL (newL kind n s ls)) → Calls Tryd.prog 16 #[.int .i64 kind, .int .i64 n, .string ⟨s.toArray⟩, .slice A (kidsL (newL kind n s ls)).length c] W (NodesRet (newL kind n s ls) W) from fun A c W h => by
                have h2 := new_any kind n s A c _ W h (by rw [ha1, ← HK.out]; omega) (by rw [ha2]; have := PL.out; rw [newL_len] at this; omega)
                rwa [hag] at h2)
              have SC := Lib.hid (show ∀ va vb W, SlRd W va (newL kind n s ls) → SlRd W vb (newL kind n s ls) → Calls Tryd.prog 25 #[va, vb] W (Ret W (.bool true)) from fun va vb W h1 h2 => by
                have h3 := samenodes_v va vb _ _ W h1 h2 (by rw [← PL.out]; omega) (by rw [← PL.out]; omega)
                rw [(sameL_iff _ _).2 rfl] at h3
                exact h3)
              clear hag ha1 ha2
              go_wp2_with fail
              refine KC.out.mono ?_
              rintro e w7 ⟨A7, c7, vs7, rfl, ho7, hoa7, hb7⟩
              have hkd7 := KdRd.of_own ho7 rfl hoa7
              have HS7 := Lib.hid (HS6.out.below hb7)
              clear KC ho7 hoa7
              go_wp2_with fail
              refine (NC.out _ _ _ hkd7).mono ?_
              rintro e w8 h8
              obtain ⟨A8, c8, rfl, ho8, hb8⟩ := h8
              have hs8 := SlRd.of_own ho8 rfl
              have HS8 := Lib.hid (HS7.out.below hb8)
              have hb78 := hb7.trans (hb8.mono hb7.size)
              clear NC ho8 hkd7 hb7 hb8
              go_wp2_with fail
              refine (SC.out _ _ _ hs8 HS8.out).mono ?_
              rintro e w9 ⟨rfl, hb9⟩
              have hb79 := hb78.trans (hb9.mono hb78.size)
              go_wp2_with fail
              go_meet
              exact ⟨rfl, hb79⟩
          case rest =>
          obtain ⟨rfl, hbc⟩ := hcut
          have hb5c := hb56.trans (hbc.mono hb56.size)
          have HO6 := Lib.hid (own_below HO5.out hb5c)
          have HB6 := Lib.hid (HB5.out.trans (hb5c.mono HB5.out.size))
          generalize wr = wp at *
          generalize wc = ws at *
          clear hbc hb56 HFB HS6 HS5
          go_wp2_with fail
          go_loopw [17] (fun jv wr => ∃ (j : Nat) (xs : List Value), 1 ≤ j ∧ j ≤ T ∧ jv = .int .i64 j ∧ wr.ownsRow wq.heap.size 44 5 (.slice (some ⟨g5, 0, none⟩) T c5) T xs ∧ ws.grownBy wr (some g5)) (fun jv _ => T - (intOf jv).toNat)
          case atStart => exact ⟨1, _, Nat.le_refl _, hT1, rfl, HO6.out, World.grownBy.refl _ _⟩
          case round =>
            obtain ⟨j, xs, hj1, hjT, rfl, hx, hg⟩ := hrel
            by_cases hlt3 : j < T
            · have hxl := hx.1
              have c4 := hx.cellAt (j * 5 + 4) (by omega)
              rw [List.getElem?_eq_getElem (by omega)] at c4
              have f4 := hx.frozenAt (j * 5 + 4)
              have z4 := hx.stored (j * 5 + 4) (.string { data := #[115, 112, 111, 105, 108, 116] })
              have Z := Lib.hid (And.intro z4.1 (hg.trans z4.2))
              clear z4
              go_wp2_with fail
              go_roundw
              case rel => exact ⟨j + 1, _, by omega, by omega, by go_num, Z.out.1, Z.out.2⟩
              case measure => simp [intOf]; omega
            · obtain rfl : T = j := by omega
              have hbr := HB6.out.grown hg HB6.out.size (fun q hq => by cases hq; exact hg5)
              have hbw6 : Below w.heap.size w wq := hbr0
              have hbwr := hbw6.trans (hbr.mono hbw6.size)
              have HOWr := Lib.hid (own_below HOW.out hbr)
              have HALLr := Lib.hid (HALL.out.below hbr)
              have HBR := Lib.hid hbr
              clear hx hg hlt3 hjT hbr
              go_wp2_with fail
              refine (NW.out wr HBR.out).mono ?_
              rintro e w7 ⟨A7, c7, rfl, ho7, hb7⟩
              rw [← PL.out] at ho7 ⊢
              clear NW
              go_wp2_with (at_builtin; refine wpList_push rfl _ _ _ rfl Tryd.underlying25 hi hz0 hz1 hz2 rfl (by decide) ho7 rfl rfl rfl (by simp [Value.oneCell']) (by omega) (by decide) hb7.size ?_; intro A8 c8 w8 ho8 hb8 hoo8)
              have hb78 := hb7.trans hb8
              have hbw8 := hbwr.trans (hb78.mono hbwr.size)
              have HOW8 := Lib.hid (own_below HOWr.out hb78)
              have HALL8 := Lib.hid (HALLr.out.below hb78)
              clear ho7 ho8 hb7 hb8 hoo8 hb78 HOWr HALLr HBR
              generalize wr = wp2 at *
              go_wp2_with fail
              go_loopw [19] (fun iv wr => ∃ (i : Nat), iv = .int .i64 i ∧ i ≤ k ∧ Below w8.heap.size w8 wr) (fun iv _ => k - (intOf iv).toNat)
              case atStart => exact ⟨0, rfl, Nat.zero_le _, Below.refl _ _⟩
              case round =>
                obtain ⟨i, rfl, hik, hbz⟩ := hrel
                by_cases hlt4 : i < k
                ·
                  have hlt' : i < ls.length := by rw [← HK.out]; exact hlt4
                  obtain ⟨bk, ok, vk, rfl, hbk, hck, hsk⟩ := HKD.out.at_ hlt'
                  have hbwz := hbw8.trans (hbz.mono hbw8.size)
                  have hrdo := (rd_one HOW8.out (by rw [HALL8.out.1]; exact HK.out)).1
                  have hiv : i < vs.length := by rw [HALL8.out.1]; exact hlt'
                  obtain ⟨bo, oo, rfl, hbo⟩ := hrdo.addr (by omega)
                  have hco := (hrdo.at_ hiv).2 0 _ rfl
                  have hmk := HALL8.out.2 i hlt' vs[i] (List.getElem?_eq_getElem hiv)
                  generalize vs[i] = vo at *
                  obtain ⟨l, hl⟩ : ∃ l, l = ls[i] := ⟨_, rfl⟩
                  rw [← hl] at hsk hmk
                  have hl200 := (HLT2.out l (by rw [hl]; exact List.getElem_mem _)).1
                  have HSK := Lib.hid (hsk.below hbwz)
                  have HSO := Lib.hid (hmk.rd.below hbz)
                  obtain ⟨Ak, ck, rfl, hrdk, hcck, hcmk, hAk, _⟩ := hsk
                  obtain ⟨go, co, rfl, hco1, hco2, hown9⟩ := hmk
                  have hmark := MkRow.mark hown9
                  obtain ⟨m, hm⟩ : ∃ m, m = l.length := ⟨_, rfl⟩
                  rw [← hm] at hck HSK HSO hcck hco hco1 hl200 hmark
                  have HM := Lib.hid hm
                  have SN := Lib.hid (show ∀ W, Below wr.heap.size wr W → Calls Tryd.prog 25 #[.slice (some ⟨go, 0, none⟩) m co, .slice Ak m ck] W (Ret W (.bool true)) from fun W hW => by
                    have h3 := samenodes_v _ _ l l W (HSO.out.below hW) (HSK.out.below hW) (by rw [← HM.out]; omega) (by rw [← HM.out]; omega)
                    rw [(sameL_iff _ _).2 rfl] at h3
                    exact h3)
                  have ek := Later.cell (cell_keep hbwz hck)
                  simp only [Nat.mul_one, Nat.add_zero] at hco
                  have eo := Later.cell (cell_keep hbz hco)
                  have em := Later.cell (cell_keep hbz hmark)
                  clear hl hm hrdk hAk hrdo hown9
                  go_upto_region 34 with (fail)
                  refine wp_region_eq (by kernel_rfl) (by kernel_rfl) ?_
                  apply EqGo.run
                  focus
                    kernel_rfl
                  focus
                    intro x K hK
                    go_wp2_with fail
                    first | exact hK x (Below.refl _ _) | exact Below.refl _ _
                  simp only [Act.put, List.setIfInBounds_toArray, List.set_cons_succ, List.set_cons_zero]
                  apply EqGo.run
                  focus
                    kernel_rfl
                  focus
                    intro x K hK
                    go_wp2_with fail
                    first | exact hK x (Below.refl _ _) | exact Below.refl _ _
                  simp only [Act.put, List.setIfInBounds_toArray, List.set_cons_succ, List.set_cons_zero]
                  apply EqGo.run
                  focus
                    kernel_rfl
                  focus
                    intro x K hK
                    go_wp2_with fail
                    first | exact hK x (Below.refl _ _) | exact Below.refl _ _
                  simp only [Act.put, List.setIfInBounds_toArray, List.set_cons_succ, List.set_cons_zero]
                  apply EqGo.run
                  focus
                    kernel_rfl
                  focus
                    intro x K hK
                    go_wp2_with fail
                    first | exact hK x (Below.refl _ _) | exact Below.refl _ _
                  simp only [Act.put, List.setIfInBounds_toArray, List.set_cons_succ, List.set_cons_zero]
                  apply EqGo.run
                  focus
                    kernel_rfl
                  focus
                    intro x K hK
                    go_wp2_with fail
                    first | exact hK x (Below.refl _ _) | exact Below.refl _ _
                  simp only [Act.put, List.setIfInBounds_toArray, List.set_cons_succ, List.set_cons_zero]
                  apply EqGo.run
                  focus
                    kernel_rfl
                  focus
                    intro x K hK
                    go_wp2_with fail
                    first | exact hK x (Below.refl _ _) | exact Below.refl _ _
                  simp only [Act.put, List.setIfInBounds_toArray, List.set_cons_succ, List.set_cons_zero]
                  apply EqGo.run
                  focus
                    kernel_rfl
                  focus
                    intro x K hK
                    go_wp2_with fail
                    first | exact hK x (Below.refl _ _) | exact Below.refl _ _
                  simp only [Act.put, List.setIfInBounds_toArray, List.set_cons_succ, List.set_cons_zero]
                  apply EqGo.run
                  focus
                    kernel_rfl
                  focus
                    intro x K hK
                    go_wp2_with fail
                    first | exact hK x (Below.refl _ _) | exact Below.refl _ _
                  simp only [Act.put, List.setIfInBounds_toArray, List.set_cons_succ, List.set_cons_zero]
                  apply EqGo.run
                  focus
                    kernel_rfl
                  focus
                    intro x K hK
                    go_wp2_with fail
                    refine (Hid.out SN x.val x.below).mono ?_
                    rintro e x' ⟨rfl, hb'⟩
                    exact hK ⟨x', x.below.trans (hb'.mono x.below.size)⟩ hb'
                  simp only [Act.put, List.setIfInBounds_toArray, List.set_cons_succ, List.set_cons_zero]
                  apply EqGo.run
                  focus
                    kernel_rfl
                  focus
                    intro x K hK
                    go_wp2_with fail
                    first | exact hK x (Below.refl _ _) | exact Below.refl _ _
                  simp only [Act.put, List.setIfInBounds_toArray, List.set_cons_succ, List.set_cons_zero]
                  apply EqGo.run
                  focus
                    kernel_rfl
                  focus
                    intro x K hK
                    go_wp2_with fail
                    first | exact hK x (Below.refl _ _) | exact Below.refl _ _
                  simp only [Act.put, List.setIfInBounds_toArray, List.set_cons_succ, List.set_cons_zero]
                  apply EqGo.run
                  focus
                    kernel_rfl
                  focus
                    intro x K hK
                    go_wp2_with fail
                    first | exact hK x (Below.refl _ _) | exact Below.refl _ _
                  simp only [Act.put, List.setIfInBounds_toArray, List.set_cons_succ, List.set_cons_zero]
                  apply EqGo.run
                  focus
                    kernel_rfl
                  focus
                    intro x K hK
                    go_wp2_with fail
                    first | exact hK x (Below.refl _ _) | exact Below.refl _ _
                  simp only [Act.put, List.setIfInBounds_toArray, List.set_cons_succ, List.set_cons_zero]
                  apply EqGo.run
                  focus
                    kernel_rfl
                  focus
                    intro x K hK
                    go_wp2_with fail
                    first | exact hK x (Below.refl _ _) | exact Below.refl _ _
                  simp only [Act.put, List.setIfInBounds_toArray, List.set_cons_succ, List.set_cons_zero]
                  apply EqGo.run
                  focus
                    kernel_rfl
                  focus
                    intro x K hK
                    go_wp2_with fail
                    first | exact hK x (Below.refl _ _) | exact Below.refl _ _
                  simp only [Act.put, List.setIfInBounds_toArray, List.set_cons_succ, List.set_cons_zero]
                  apply EqGo.run
                  focus
                    kernel_rfl
                  focus
                    intro x K hK
                    go_wp2_with fail
                    first | exact hK x (Below.refl _ _) | exact Below.refl _ _
                  simp only [Act.put, List.setIfInBounds_toArray, List.set_cons_succ, List.set_cons_zero]
                  apply EqGo.run
                  focus
                    kernel_rfl
                  focus
                    intro x K hK
                    go_wp2_with fail
                    first | exact hK x (Below.refl _ _) | exact Below.refl _ _
                  simp only [Act.put, List.setIfInBounds_toArray, List.set_cons_succ, List.set_cons_zero]
                  apply EqGo.run
                  focus
                    kernel_rfl
                  focus
                    intro x K hK
                    go_wp2_with fail
                    first | exact hK x (Below.refl _ _) | exact Below.refl _ _
                  simp only [Act.put, List.setIfInBounds_toArray, List.set_cons_succ, List.set_cons_zero]
                  apply EqGo.run
                  focus
                    kernel_rfl
                  focus
                    intro x K hK
                    go_wp2_with fail
                    first | exact hK x (Below.refl _ _) | exact Below.refl _ _
                  simp only [Act.put, List.setIfInBounds_toArray, List.set_cons_succ, List.set_cons_zero]
                  apply EqGo.run
                  focus
                    kernel_rfl
                  focus
                    intro x K hK
                    go_wp2_with fail
                    first | exact hK x (Below.refl _ _) | exact Below.refl _ _
                  simp only [Act.put, List.setIfInBounds_toArray, List.set_cons_succ, List.set_cons_zero]
                  apply EqGo.run
                  focus
                    kernel_rfl
                  focus
                    intro x K hK
                    go_wp2_with fail
                    first | exact hK x (Below.refl _ _) | exact Below.refl _ _
                  simp only [Act.put, List.setIfInBounds_toArray, List.set_cons_succ, List.set_cons_zero]
                  apply EqGo.run
                  focus
                    kernel_rfl
                  focus
                    intro x K hK
                    go_wp2_with fail
                    first | exact hK x (Below.refl _ _) | exact Below.refl _ _
                  simp only [Act.put, List.setIfInBounds_toArray, List.set_cons_succ, List.set_cons_zero]
                  try simp only [Nat.sub_zero]
                  apply EqGo.run
                  focus
                    kernel_rfl
                  focus
                    intro x K hK
                    go_wp2_with fail
                    first | exact hK x (Below.refl _ _) | exact Below.refl _ _
                  simp only [Act.put, List.setIfInBounds_toArray, List.set_cons_succ, List.set_cons_zero]
                  apply EqGo.run
                  focus
                    kernel_rfl
                  focus
                    intro x K hK
                    go_wp2_with fail
                    first | exact hK x (Below.refl _ _) | exact Below.refl _ _
                  simp only [Act.put, List.setIfInBounds_toArray, List.set_cons_succ, List.set_cons_zero]
                  apply EqGo.run
                  focus
                    kernel_rfl
                  focus
                    intro x K hK
                    go_wp2_with fail
                    first | exact hK x (Below.refl _ _) | exact Below.refl _ _
                  simp only [Act.put, List.setIfInBounds_toArray, List.set_cons_succ, List.set_cons_zero]
                  apply EqGo.run
                  focus
                    kernel_rfl
                  focus
                    intro x K hK
                    go_wp2_with fail
                    first | exact hK x (Below.refl _ _) | exact Below.refl _ _
                  simp only [Act.put, List.setIfInBounds_toArray, List.set_cons_succ, List.set_cons_zero]
                  apply EqGo.run
                  focus
                    kernel_rfl
                  focus
                    intro x K hK
                    go_wp2_with fail
                    first | exact hK x (Below.refl _ _) | exact Below.refl _ _
                  simp only [Act.put, List.setIfInBounds_toArray, List.set_cons_succ, List.set_cons_zero]
                  apply EqGo.run
                  focus
                    kernel_rfl
                  focus
                    intro x K hK
                    go_wp2_with fail
                    first | exact hK x (Below.refl _ _) | exact Below.refl _ _
                  simp only [Act.put, List.setIfInBounds_toArray, List.set_cons_succ, List.set_cons_zero]
                  apply EqGo.run
                  focus
                    kernel_rfl
                  focus
                    intro x K hK
                    go_wp2_with fail
                    first | exact hK x (Below.refl _ _) | exact Below.refl _ _
                  simp only [Act.put, List.setIfInBounds_toArray, List.set_cons_succ, List.set_cons_zero]
                  apply EqGo.run
                  focus
                    kernel_rfl
                  focus
                    intro x K hK
                    go_wp2_with fail
                    first | exact hK x (Below.refl _ _) | exact Below.refl _ _
                  simp only [Act.put, List.setIfInBounds_toArray, List.set_cons_succ, List.set_cons_zero]
                  apply EqGo.run
                  focus
                    kernel_rfl
                  focus
                    intro x K hK
                    go_wp2_with fail
                    first | exact hK x (Below.refl _ _) | exact Below.refl _ _
                  simp only [Act.put, List.setIfInBounds_toArray, List.set_cons_succ, List.set_cons_zero]
                  apply EqGo.run
                  focus
                    kernel_rfl
                  focus
                    intro x K hK
                    go_wp2_with fail
                    first | exact hK x (Below.refl _ _) | exact Below.refl _ _
                  simp only [Act.put, List.setIfInBounds_toArray, List.set_cons_succ, List.set_cons_zero]
                  intro x
                  have hbx := hbz.trans (x.below.mono hbz.size)
                  go_wp2_with fail
                  go_roundw
                  case rel => exact ⟨i + 1, by go_num, by omega, hbx⟩
                  case measure => simp [intOf]; omega
                · obtain rfl : k = i := by omega
                  have hbwz := hbw8.trans (hbz.mono hbw8.size)
                  have hfl9 : ls.flatten.length ≤ 801 := by have := PL.out; rw [newL_len] at this; omega
                  have hsl9 := seqLs_len ls
                  have SA := Lib.hid (show ∀ W, Below w.heap.size w W → Calls Tryd.prog 19 #[.slice A k cp] W (VRet (seqLs ls) W) from fun W hW => seqL_any A cp k ls W (HKD.out.below hW) HK.out (by rw [← HK.out]; omega) (by omega))
                  have SB := Lib.hid (show ∀ W, Below w.heap.size w W → Calls Tryd.prog 28 #[.slice A k cp] W (SRet (seqLs ls) W) from fun W hW => seq5_any A cp k ls W (HKD.out.below hW) HK.out (by rw [← HK.out]; omega) (by omega))
                  have SC := Lib.hid (show ∀ va vb W, SlRd W va (seqLs ls) → SlRd W vb (seqLs ls) → Calls Tryd.prog 25 #[va, vb] W (Ret W (.bool true)) from fun va vb W h1 h2 => by
                    have h3 := samenodes_v va vb _ _ W h1 h2 (by omega) (by omega)
                    rw [(sameL_iff _ _).2 rfl] at h3
                    exact h3)
                  clear hfl9 hsl9
                  go_wp2_with fail
                  refine (SA.out _ hbwz).mono ?_
                  rintro e w10 ⟨A10, n10, c10, rfl, o10, hb10⟩
                  have s10 := o10.rd
                  have hbw10 := hbwz.trans (hb10.mono hbwz.size)
                  clear o10 SA
                  go_wp2_with fail
                  refine (SB.out _ hbw10).mono ?_
                  rintro e w11 ⟨A11, n11, c11, rfl, s11, hb11⟩
                  have s10' := s10.below hb11
                  have hbw11 := hbw10.trans (hb11.mono hbw10.size)
                  clear s10 SB
                  go_wp2_with fail
                  refine (SC.out _ _ _ s10' s11).mono ?_
                  rintro e w12 ⟨rfl, hb12⟩
                  have hbw12 := hbw11.trans (hb12.mono hbw11.size)
                  go_wp2_with fail
                  rw [← HQQ.out]
                  go_ret
                  exact ⟨rfl, hbw12⟩
theorem coremakes_card (kind n : Int) (s : ByteArray) (A : Option Addr) (cp : Nat) (ls : List (List Nd)) (L : List Addr) (w : World) (_ : (Lit.int .i64 kind).wf = true) (_ : (Lit.int .i64 n).wf = true) (hkd : KdRd w A ls) (hcp : ls.length ≤ cp) (hcm : cp ≤ maxLen) (hA : A = none → cp = 0) (hi : ∀ l ∈ ls, ∀ y ∈ l, NdIn y) (hb : ∀ l ∈ ls, ∀ y ∈ l, y.s.length ≤ 140737488351232) (hS : SenW w L) :
    Calls Tryd.prog 6 #[.int .i64 kind, .int .i64 n, .string s, .slice A ls.length cp] w fun e w' => e = .returned (.bool true) ∧ Below w.heap.size w w' := by
  have h := coremakes_walk kind n s.data.toList A cp ls L w hkd hcp hcm hA (fun l hl => ⟨hi l hl, hb l hl⟩) hS
  simpa using h
end Go.Proofs.YtjhgljfmheopmaaDoor
