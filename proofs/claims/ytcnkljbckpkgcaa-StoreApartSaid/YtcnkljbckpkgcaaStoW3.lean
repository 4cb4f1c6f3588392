/- The walks over a store's names, its variables, and its making. Bounds on the lengths. -/
import Derived.Test.YtcnkljbckpkgcaaStoW2
import Derived.Test.YtcnkljbckpkgcaaIter
import Derived.Carry
set_option linter.unusedVariables false
set_option linter.unusedSimpArgs false
namespace Go.Proofs.Ytcnkljbckpkgcaa
variable {X : Nat → Prop}
open Go.RowKit Go.Maps Go.Sort

theorem encT_flat (l : List (List UInt8)) : l.map encStr = l.flatMap strc := by
  induction l with
  | nil => rfl
  | cons x t ih => rw [List.map_cons, List.flatMap_cons, ih]; rfl
theorem keysV_any (mb : Option Nat) (W : World) : Calls Try.prog 32 #[.map mb] W fun e w' => e = .returned (.func (.func 40) #[] #[.pointer (some ⟨W.heap.size, 0, none⟩)]) ∧ w' = W.alloc (.cells #[.map mb] 44) :=
  callsIn_wide.1 (Try.maps_Keys_32 mb W)
theorem keysF_any (mb : Option Nat) (W : World) : Calls Try.prog 34 #[.map mb] W fun e w' => e = .returned (.func (.func 41) #[] #[.pointer (some ⟨W.heap.size, 0, none⟩)]) ∧ w' = W.alloc (.cells #[.map mb] 47) :=
  callsIn_wide.1 (Try.maps_Keys_34 mb W)
theorem sortedV_any {α : Type} {R : World → Value → α → Prop} {M : List (Txt × α)} (b n : Nat) (w : World) (h : MapR R w b n (lookA M)) (hs : SortA M) (hn : n ≤ 1000000) : Calls Try.prog 31 #[.func (.func 40) #[] #[.pointer (some ⟨w.heap.size, 0, none⟩)]] (w.alloc (.cells #[.map (some b)] 44)) (OwnTRet (M.map Prod.fst) w) := by
  obtain ⟨D, h1, h2, h3⟩ := MapR.keys h
  have hsz : Maps.size D ≤ n := h1.size_le
  have hb0 : Below w.heap.size w (w.alloc (.cells #[.map (some b)] 44)) := (Below.refl _ _).alloc (Nat.le_refl _) _
  refine (callsIn_wide.1 (Try.slices_Sorted_keys_31_32 b n D hR w h1 (by unfold maxLen; omega) (by omega))).mono ?_
  rintro e w' ⟨v, ss, rfl, hp, hrow, _, hb⟩
  have he : ss.mergeSort (fun x y => decide (x ≤ y)) = M.map Prod.fst := keys_sort hs (hp.nodup_iff.2 h2) fun s => by rw [hp.mem_iff, h3]
  rw [encT_flat, he] at hrow
  have hl : ss.length = (M.map Prod.fst).length := by rw [← he]; exact (List.mergeSort_perm ss _).length_eq.symm
  rw [hl] at hrow
  obtain ⟨A, c, rfl, _⟩ := own_form hrow
  exact ⟨_, rfl, ⟨A, c, rfl, own_mono hrow hb0.size⟩, hb0.trans (hb.mono hb0.size)⟩
theorem sortedF_any {α : Type} {R : World → Value → α → Prop} {M : List (Txt × α)} (b n : Nat) (w : World) (h : MapR R w b n (lookA M)) (hs : SortA M) (hn : n ≤ 1000000) : Calls Try.prog 31 #[.func (.func 41) #[] #[.pointer (some ⟨w.heap.size, 0, none⟩)]] (w.alloc (.cells #[.map (some b)] 47)) (OwnTRet (M.map Prod.fst) w) := by
  obtain ⟨D, h1, h2, h3⟩ := MapR.keys h
  have hsz : Maps.size D ≤ n := h1.size_le
  have hb0 : Below w.heap.size w (w.alloc (.cells #[.map (some b)] 47)) := (Below.refl _ _).alloc (Nat.le_refl _) _
  refine (callsIn_wide.1 (Try.slices_Sorted_keys_31_34 b n D hR w h1 (by unfold maxLen; omega) (by omega))).mono ?_
  rintro e w' ⟨v, ss, rfl, hp, hrow, _, hb⟩
  have he : ss.mergeSort (fun x y => decide (x ≤ y)) = M.map Prod.fst := keys_sort hs (hp.nodup_iff.2 h2) fun s => by rw [hp.mem_iff, h3]
  rw [encT_flat, he] at hrow
  have hl : ss.length = (M.map Prod.fst).length := by rw [← he]; exact (List.mergeSort_perm ss _).length_eq.symm
  rw [hl] at hrow
  obtain ⟨A, c, rfl, _⟩ := own_form hrow
  exact ⟨_, rfl, ⟨A, c, rfl, own_mono hrow hb0.size⟩, hb0.trans (hb.mono hb0.size)⟩
theorem funs_any (st vb fb N : Nat) (x : Sto) (F : List (Txt × List Nd)) (w : World) (h : StI X w st vb fb N x F) (hN : N ≤ 1000000) :
    Calls Try.prog 14 #[.pointer (some ⟨st, 2, none⟩)] w (OwnTRet (F.map Prod.fst) w) := by
  obtain ⟨va, hb, hr⟩ := h.blk
  have c0 := hb.cell 2
  simp only [List.getElem?_toArray, List.getElem?_cons_succ, List.getElem?_cons_zero] at c0
  have HS := Lib.hid (sortedF_any fb N w h.funs h.sf hN)
  clear hb hr h
  go_enter Try.func14, Try.ntmps14
  go_wp2_with fail
  refine (keysF_any (some fb) w).mono ?_
  rintro e w3 ⟨rfl, rfl⟩
  go_wp2_with fail
  refine HS.out.mono ?_
  rintro e w4 ⟨v, rfl, h1, hb4⟩
  have H1 := Lib.hid h1
  obtain ⟨A1, c1', rfl, -⟩ := h1
  rw [List.length_map] at H1 ⊢
  go_wp2_with fail
  go_ret
  exact ⟨_, rfl, H1.out, hb4⟩

/-- A variable as cells. -/
def valc (p : Txt × Value) : List Value := [.string ⟨p.1.toArray⟩, p.2]
theorem valc_len (p : Txt × Value) : (valc p).length = 2 := rfl
theorem infoVal : (Try.prog.info? 34).map (fun i => (i.zero, i.size, i.bytes)) = some (some (.agg #[.string ByteArray.empty, .slice none 0 0]), 2, 40) := by kernel_rfl
def AllV (R : World → Value → List Txt → Prop) (w : World) (vs : List (Txt × Value)) (M : List (Txt × List Txt)) : Prop := vs.length = M.length ∧ ∀ i (h : i < vs.length) (h2 : i < M.length), vs[i].1 = M[i].1 ∧ R w vs[i].2 M[i].2
def ValR (w : World) (v : Value) (M : List (Txt × List Txt)) : Prop := ∃ A c vs, v = .slice A M.length c ∧ RdL w 2 valc A vs ∧ AllV TxR w vs M ∧ (A = none → c = 0) ∧ M.length ≤ c ∧ c ≤ maxLen
def OwnV (w : World) (B : Nat) (v : Value) (M : List (Txt × List Txt)) : Prop := ∃ A c vs, v = .slice A M.length c ∧ w.ownsRow B 34 2 (.slice A M.length c) M.length (vs.flatMap valc) ∧ AllV (fun w v l => OwnT w B v l) w vs M
theorem AllV.mono {R R' : World → Value → List Txt → Prop} {w w' : World} {vs : List (Txt × Value)} {M : List (Txt × List Txt)} (h : AllV R w vs M) (hR : ∀ v l, R w v l → R' w' v l) : AllV R' w' vs M :=
  ⟨h.1, fun i h1 h2 => ⟨(h.2 i h1 h2).1, hR _ _ (h.2 i h1 h2).2⟩⟩
theorem AllV.nil (R : World → Value → List Txt → Prop) (w : World) : AllV R w [] [] := ⟨rfl, fun i h => absurd h (Nat.not_lt_zero _)⟩
theorem AllV.snoc {R : World → Value → List Txt → Prop} {w : World} {vs : List (Txt × Value)} {M : List (Txt × List Txt)} (h : AllV R w vs M) {n : Txt} {v : Value} {l : List Txt} (hv : R w v l) : AllV R w (vs ++ [(n, v)]) (M ++ [(n, l)]) := by
  refine ⟨by simp [h.1], fun i h1 h2 => ?_⟩
  by_cases hlt : i < vs.length
  · simp only [List.getElem_append_left hlt, List.getElem_append_left (show i < M.length by rw [← h.1]; exact hlt)]
    exact h.2 i hlt _
  · have he : i = vs.length := by simp at h1; omega
    subst he
    have e1 : (vs ++ [(n, v)])[vs.length]'h1 = (n, v) := by simp
    have e2 : (M ++ [(n, l)])[vs.length]'h2 = (n, l) := by
      rw [List.getElem_append_right (by rw [h.1]; exact Nat.le_refl _)]
      simp [h.1]
    rw [e1, e2]
    exact ⟨rfl, hv⟩
theorem OwnV.rd {w : World} {B : Nat} {v : Value} {M : List (Txt × List Txt)} (h : OwnV w B v M) : ValR w v M := by
  obtain ⟨A, c, vs, rfl, ho, ha⟩ := h
  obtain ⟨A', c', he, h1, h2, h3, h4⟩ := RdL.of_own valc_len ho ha.1.symm
  injection he with he1 _ he3
  subst he1 he3
  exact ⟨A, c, vs, rfl, h3, ha.mono fun v l h => h.rd, h4, h1, h2⟩
theorem ValR.below {w w' : World} {v : Value} {M : List (Txt × List Txt)} (h : ValR w v M) (hb : Below w.heap.size w w') : ValR w' v M :=
  let ⟨A, c, vs, h1, h2, h3, h4⟩ := h
  ⟨A, c, vs, h1, h2.below hb, h3.mono fun v l h => h.below hb, h4⟩
theorem ValR.butS {w w' : World} {v : Value} {M : List (Txt × List Txt)} (h : ValR w v M) {st vb fb : Nat} (hs : StoS w st vb fb) (hb : ButS [st, vb, fb] w w') : ValR w' v M := by
  obtain ⟨A, c, vs, h1, h2, h3, h4⟩ := h
  refine ⟨A, c, vs, h1, h2.butS hb ?_, h3.mono fun v l h => h.butS hs hb, h4⟩
  rintro b o rfl hl
  exact hs.apart ((h2.at_ hl).2 0 _ rfl) rfl
theorem OwnV.below {w w' : World} {B : Nat} {v : Value} {M : List (Txt × List Txt)} (h : OwnV w B v M) (hb : Below w.heap.size w w') : OwnV w' B v M :=
  let ⟨A, c, vs, h1, h2, h3⟩ := h
  ⟨A, c, vs, h1, own_below h2 hb, h3.mono fun v l h => h.below hb⟩
def OwnVRet (M : List (Txt × List Txt)) (w : World) (e : Ending) (w' : World) : Prop := ∃ v, e = .returned v ∧ OwnV w' w.heap.size v M ∧ Below w.heap.size w w'
set_option maxRecDepth 100000 in
set_option maxHeartbeats 4000000 in
theorem vars_any (st vb fb N : Nat) (x : Sto) (F : List (Txt × List Nd)) (w : World) (h : StI X w st vb fb N x F) (hs : SmS x) (hN : N ≤ 1000000) (hM : x.vars.length ≤ 1000000) (hn : ∀ p ∈ x.vars, p.1.length ≤ maxLen) :
    Calls Try.prog 12 #[.pointer (some ⟨st, 0, none⟩)] w (OwnVRet x.vars w) := by
  obtain ⟨i0, hi, hz0, hz1, hz2⟩ := info_parts infoVal
  obtain ⟨va, hb, hr⟩ := h.blk
  have HQ := Lib.hid hb
  have c0 := hb.cell 0
  simp only [List.getElem?_toArray, List.getElem?_cons_succ, List.getElem?_cons_zero] at c0
  have HS := Lib.hid (sortedV_any vb N w h.vars h.sv hN)
  have HI := Lib.hid h
  obtain ⟨M, hMM⟩ : ∃ M, M = x.vars := ⟨_, rfl⟩
  have HSV := Lib.hid h.sv
  have HSM := Lib.hid hs
  have HNM := Lib.hid hn
  rw [← hMM] at hM HS HSV HNM ⊢
  have HMM := Lib.hid hMM
  obtain ⟨m, hm⟩ : ∃ m, m = M.length := ⟨_, rfl⟩
  rw [← hm] at hM
  have HML := Lib.hid hm
  clear hb hr h hs hn hMM hm
  go_enter Try.func12, Try.ntmps12
  go_wp2_with fail
  refine (keysV_any (some vb) w).mono ?_
  rintro e w3 ⟨rfl, rfl⟩
  go_wp2_with fail
  refine HS.out.mono ?_
  rintro e w4 ⟨v, rfl, ⟨A1, k1, rfl, ho1⟩, hb4⟩
  rw [List.length_map, ← HML.out] at ho1 ⊢
  obtain ⟨A', c', he, _, _, hrn, _⟩ := RdL.of_own strc_len ho1 (by rw [List.length_map]; exact HML.out)
  injection he with he1 _ _
  subst he1
  have HRN := Lib.hid hrn
  clear ho1 hrn HS c0
  go_wp2_with fail
  go_loopw [3, 13] (fun u j wr => ∃ (k : Nat) (A' : Option Addr) (c' : Nat) (vs : List (Txt × Value)), k ≤ m ∧ j = .int .i64 k ∧ u = .slice A' k c' ∧ wr.ownsRow w4.heap.size 34 2 (.slice A' k c') k (vs.flatMap valc) ∧ Hid (AllV (fun w v l => OwnT w w4.heap.size v l) wr vs (M.take k)) ∧ Below w4.heap.size w4 wr) (fun _ j _ => m - (intOf j).toNat)
  case atStart => exact ⟨0, none, 0, [], Nat.zero_le _, rfl, rfl, World.ownsRow_nil _ _ _ _, Lib.hid (AllV.nil _ _), Below.refl _ _⟩
  case round =>
    obtain ⟨k, A', c', vs, hk, rfl, rfl, hown, HAL, hbr⟩ := hrel
    by_cases hlt : k < m
    · have hkM : k < M.length := by rw [← HML.out]; exact hlt
      obtain ⟨bn, on, rfl, _, hcn⟩ := (HRN.out.below hbr) k (by rw [List.length_map]; exact hkM)
      have cn := hcn 0 _ rfl
      simp only [List.getElem_map, Nat.mul_one, Nat.add_zero] at cn
      obtain ⟨p, hp⟩ : ∃ p, p = M[k] := ⟨_, rfl⟩
      rw [← hp] at cn
      have HT := Lib.hid (show M.take (k + 1) = M.take k ++ [p] by rw [List.take_succ_eq_append_getElem hkM, hp])
      have hpm : p ∈ M := by rw [hp]; exact List.getElem_mem _
      have hbw := hb4.trans (hbr.mono hb4.size)
      have hlook : lookA x.vars p.1 = some p.2 := by rw [← HMM.out]; exact look_of_mem HSV.out hpm
      have hpl := HSM.out.vars _ _ hlook
      obtain ⟨u, hlk, _, hu2⟩ := ((HI.out.below hbw).vars).look1 Try.underlying44 zslT (s := p.1) (HNM.out p hpm)
      have hu := hu2 _ hlook
      have HC := Lib.hid (cloneT_any u _ wr hu.rd hpl)
      have c0 := (HQ.out.below hbw).cell 0
      simp only [List.getElem?_toArray, List.getElem?_cons_succ, List.getElem?_cons_zero] at c0
      obtain ⟨⟨Au, cu, rfl, -⟩, -⟩ := hu
      obtain ⟨nm, l⟩ := p
      simp only at cn hlk HC hpl ⊢
      generalize l.length = nl at *
      clear hcn hp hkM hpm hlook hu2
      go_wp2_with fail
      refine HC.out.mono ?_
      rintro e w5 ⟨v, rfl, h5, hb5⟩
      have H5 := Lib.hid (h5.mono hbr.size)
      obtain ⟨A5, c5, rfl, -⟩ := h5
      have hown5 := own_below hown hb5
      have hbr5 := hbr.trans (hb5.mono hbr.size)
      have HAL5 := Lib.hid (HAL.out.mono (w' := w5) (R' := fun w v l => OwnT w w4.heap.size v l) fun v l h => h.below hb5)
      clear hown hb5 hbr HAL HC hlk cn
      go_wp2_with (at_builtin; refine wpList_push rfl _ _ _ rfl Try.underlying22 hi hz0 hz1 hz2 rfl (by decide) hown5 rfl rfl rfl (by simp [Value.oneCell']) (by omega) (by decide) hbr5.size ?_; intro A4 c4 w6 hown6 hb6 hoo6)
      go_roundw
      case rel =>
        have hb56 : Others [34] w5 w6 := hoo6
        refine ⟨k + 1, A4, c4, vs ++ [(nm, .slice A5 l.length c5)], by omega, by go_num, rfl, by rw [List.flatMap_append]; simpa [valc] using hown6, Lib.hid ?_, hbr5.trans hb6⟩
        rw [HT.out]
        have hO : ∀ v l, OwnT w5 w4.heap.size v l → OwnT w6 w4.heap.size v l := fun v l ⟨A, c, h1, h2⟩ => ⟨A, c, h1, own_others h2 hb56 (by decide)⟩
        exact (HAL5.out.mono hO).snoc (hO _ _ H5.out)
      case measure => simp [intOf]; omega
    · obtain rfl : k = m := by omega
      have HAF := Lib.hid (show AllV (fun w v l => OwnT w w4.heap.size v l) wr vs M by
        have := HAL.out
        rwa [List.take_of_length_le (by rw [← HML.out]; exact Nat.le_refl _)] at this)
      clear HAL
      go_wp2_with fail
      go_ret
      exact ⟨_, rfl, ⟨A', c', vs, by rw [HML.out]; rfl, by rw [← HML.out]; exact own_mono hown hb4.size, HAF.out.mono fun v l h => h.mono hb4.size⟩, hb4.trans (hbr.mono hb4.size)⟩
end Go.Proofs.Ytcnkljbckpkgcaa
