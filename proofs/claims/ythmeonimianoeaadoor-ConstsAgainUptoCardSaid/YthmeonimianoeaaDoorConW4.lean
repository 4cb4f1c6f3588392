/- The walk over consts.opened. Bounds on the lengths. -/
import Derived.Test.YthmeonimianoeaaDoorConW1
import Derived.Test.YthmeonimianoeaaDoorConW3
import Derived.Test.YthmeonimianoeaaDoorGA
import Derived.Deep.LoopGhost
set_option linter.unusedVariables false
set_option linter.unusedSimpArgs false
namespace Go.Proofs.YthmeonimianoeaaDoor
open Go.RowKit

/-- A row of trees comes back. -/
def RowTRet (B : Nat) (ts : List Tr) (w : World) (e : Ending) (w' : World) : Prop := ∃ A m c, e = .returned (.slice A m c) ∧ RowO w' B A m c ts ∧ Below w.heap.size w w'
/-- The first tree of a row, its head. -/
theorem RowO.at_ {w : World} {B m c : Nat} {A : Option Addr} {ts : List Tr} (h : RowO w B A m c ts) {k : Nat} (hk : k < ts.length) :
    ∃ b o Ak nk ck, A = some ⟨b, o, none⟩ ∧ b < w.heap.size ∧ w.cell? ⟨b, o + k, none⟩ = some (.slice Ak nk ck) ∧ OwnNd w B (.slice Ak nk ck) (flat ts[k]) := by
  obtain ⟨b, o, n, ck, Ak, hA, hb, hc, ho⟩ := h.kd.at_ (k := k) (by simpa using hk)
  rw [List.getElem_map] at ho
  exact ⟨b, o, Ak, n, ck, hA, hb, hc, ho⟩
theorem RowO.tail {w : World} {B m c b o : Nat} {t : Tr} {ts : List Tr} (h : RowO w B (some ⟨b, o, none⟩) (m + 1) c (t :: ts)) : ∃ vs, RdL w 1 one1 (some ⟨b, o + 1, none⟩) vs ∧ OwnAll w B vs (ts.map flat) ∧ vs.length = m := by
  obtain ⟨vs, h1, h2⟩ := h.kd
  have hl := h.len
  have hvl : vs.length = m + 1 := by rw [h2.1, List.length_map]; exact hl.symm
  refine ⟨vs.drop 1, h1.drop 1 (A' := some ⟨b, o + 1, none⟩) (fun b' o' he _ => by simp only [Option.some.injEq, Addr.mk.injEq, and_true] at he; obtain ⟨rfl, rfl⟩ := he; rfl), ⟨?_, fun i hi v hv => ?_⟩, by rw [List.length_drop, hvl]; rfl⟩
  · rw [List.length_drop, hvl, List.length_map]
    rw [List.length_cons] at hl
    omega
  · have := h2.2 (i + 1) (by simpa using hi) v (by rw [List.getElem?_drop, Nat.add_comm] at hv; exact hv)
    simpa using this
def kidsQ (B N : Nat) (ls : List (List Nd)) : TT := ⟨fun v => ∃ A c, v = .slice A N c, ⟨_, none, 0, rfl⟩, fun v x => ∃ A c vs, v = .slice A N c ∧ (A = none → c = 0) ∧ RdL x 1 one1 A vs ∧ OwnAll x B vs ls, fun _ _ _ ⟨A, c, vs, h1, h2, h3, h4⟩ hb => ⟨A, c, vs, h1, h2, h3.below hb, h4.below hb⟩⟩
theorem rows_lit (w : World) (a b : Value) : RdL (w.alloc (.cells #[a, b] 26)) 1 one1 (some ⟨w.heap.size, 0, none⟩) [a, b] := by
  intro k hk
  refine ⟨w.heap.size, 0, rfl, by simp, fun j u hu => ?_⟩
  have hj : j = 0 := by
    have := (List.getElem?_eq_some_iff.1 hu).1
    simp [one1] at this
    exact this
  subst hj
  rw [cell_of_row _ _ _ _ _ _ (heap_alloc_new w _)]
  simp only [one1, List.getElem?_cons_zero, Option.some.injEq] at hu
  rw [← hu]
  simp at hk
  rcases (show k = 0 ∨ k = 1 by omega) with rfl | rfl <;> rfl

set_option maxRecDepth 100000 in
set_option maxHeartbeats 8000000 in
theorem copened_any (P : Tr → Prop) (hP : Opens P) (B : Nat) : ∀ (n : Nat) (A : Option Addr) (m c : Nat) (ts : List Tr) (w : World), B ≤ w.heap.size → sizeL ts ≤ n → n ≤ 1000000 → ts ≠ [] → (∀ t ∈ ts, P t) → RowO w B A m c ts →
    Calls Tryd.prog 100 #[.slice A m c] w (RowTRet B (opn n ts) w) := by
  intro n
  induction n with
  | zero =>
    intro A m c ts w _ h _ hne _ _
    exfalso
    have := sizeL_len ts
    have h2 := List.length_pos_iff.2 hne
    omega
  | succ n ih =>
  intro A m c ts w hB hsz hn hne hp hrow
  obtain ⟨i0, hi, hz0, hz1, hz2⟩ := info_parts infoNodes
  obtain ⟨u1, u2, u3, u4⟩ := unj_spec hP (sizeL ts) ts (Nat.le_refl _) hne hp
  have hdef : opn (n + 1) ts = if headJ (fullF 0 (unj (sizeL ts) ts)) then opn n (fullF 0 (unj (sizeL ts) ts)) else fullF 0 (unj (sizeL ts) ts) := rfl
  obtain ⟨U, hU⟩ : ∃ U, U = unj (sizeL ts) ts := ⟨_, rfl⟩
  rw [← hU] at u1 u2 u3 u4 hdef
  have HDEF := Lib.hid hdef
  have HU1 := Lib.hid u1
  have HU2 := Lib.hid u2
  have HU3 := Lib.hid u3
  have HU4 := Lib.hid u4
  have HIH := Lib.hid ih
  have HPO := Lib.hid hP
  have hs0 : sizeL ts ≤ 1000001 := by omega
  have HN := Lib.hid (And.intro hsz hn)
  have HROW := Lib.hid hrow
  obtain ⟨N0, hN0⟩ : ∃ N0, N0 = sizeL ts := ⟨_, rfl⟩
  have HSTART := Lib.hid (show sizeL ts ≤ N0 ∧ unj N0 ts = U ∧ ts ≠ [] ∧ (∀ t ∈ ts, P t) from ⟨by rw [hN0]; exact Nat.le_refl _, by rw [hN0]; exact hU.symm, hne, hp⟩)
  rw [← hN0] at hs0
  have HN0 := Lib.hid hN0
  clear hdef u1 u2 u3 u4 ih hP hrow hne hp hU hsz hn hN0
  go_enter Tryd.func100, Tryd.ntmps100
  go_wp2_with fail
  go_loopg [0] N0 (fun g v wr => ∃ (A : Option Addr) (m c : Nat) (ks : List Tr), v = .slice A m c ∧ g ≤ N0 ∧ Hid (RowO wr B A m c ks) ∧ Hid (sizeL ks ≤ g ∧ unj g ks = U ∧ ks ≠ [] ∧ (∀ t ∈ ks, P t)) ∧ Below w.heap.size w wr)
  case atStart => exact ⟨A, m, c, ts, rfl, by rw [HN0.out]; exact Nat.le_refl _, HROW, HSTART, Below.refl _ _⟩
  case round =>
    obtain ⟨A, m, c, ks, rfl, hg, HR, HK, hb⟩ := hrel
    obtain ⟨k1, k2, k3, k4⟩ := HK.out
    obtain ⟨t, ks', rfl⟩ : ∃ t ks', ks = t :: ks' := by cases ks with | nil => exact absurd rfl k3 | cons t ks' => exact ⟨t, ks', rfl⟩
    obtain ⟨b, o, A0, n0, c0, rfl, -, cc0, own0⟩ := HR.out.at_ (k := 0) (by simp)
    simp only [List.getElem_cons_zero, Nat.add_zero] at cc0 own0
    obtain ⟨b0, o0, rfl, h00, -, -, -, e0, -, -, -, -⟩ := head_cells own0.rd
    have hm1 : 0 < m := by have := HR.out.len; rw [List.length_cons] at this; omega
    have hmc := HR.out.cap
    have hcm := HR.out.max
    unfold maxLen at hcm
    have hml := HR.out.len
    rw [List.length_cons] at hml
    have hkl := sizeL_len (t :: ks')
    rw [List.length_cons] at hkl
    have HOW := Lib.hid own0
    by_cases hj : t.kind = 4
    · obtain ⟨g', rfl⟩ : ∃ g', gk = g' + 1 := ⟨gk - 1, by have := sizeL_cons t ks'; have := flat_pos t; omega⟩
      have hst := unj_step (n := g') (us := ks') hj
      rw [k2] at hst
      have hsk := sizeL_kids t
      have hcs := sizeL_cons t ks'
      have hnx : sizeL (t.kids ++ ks') ≤ g' ∧ unj g' (t.kids ++ ks') = U ∧ t.kids ++ ks' ≠ [] ∧ (∀ u ∈ t.kids ++ ks', P u) := by
        refine ⟨by rw [sizeL_append]; omega, hst.symm, fun he => HPO.out.some_ t (k4 t (List.mem_cons_self ..)) hj (List.append_eq_nil_iff.1 he).1, fun u hu => ?_⟩
        rcases List.mem_append.1 hu with hu | hu
        · exact HPO.out.kids t (k4 t (List.mem_cons_self ..)) (.inl hj) u hu
        · exact k4 u (List.mem_cons_of_mem _ hu)
      have HNX := Lib.hid hnx
      have hkk := sizeL_len t.kids
      obtain ⟨m', rfl⟩ : ∃ m', m = m' + 1 := ⟨m - 1, by omega⟩
      have HT := Lib.hid (fun W (hW : Below wr.heap.size wr W) => RowO.tail (HR.out.below hW))
      have hm'l : m' = ks'.length := by omega
      have HML := Lib.hid hm'l
      have KC := Lib.hid (fun W (hW : Below wr.heap.size wr W) => show Calls Tryd.prog 51 #[.slice (some ⟨b0, o0, none⟩) n0 c0] W (KidsRet (t.kids.map flat) W) by rw [← kidsL_tree]; exact kids_any _ _ W (HOW.out.below hW).rd (by omega))
      rw [hj] at e0
      obtain ⟨q, hq⟩ : ∃ q, q = t.kids.length := ⟨_, rfl⟩
      have HQ := Lib.hid hq
      have hq6 : q ≤ 1000000 := by omega
      have hm6 : m' ≤ 1000000 := by omega
      clear hst hsk hcs hnx hkk k1 k2 k3 k4 hkl hml hm'l hq hj own0 hm1
      rcases Nat.lt_or_ge 1 c with hc1 | hc1
      · have hcn : ¬ c = 1 := by omega
        replace HT := Lib.hid (fun W hW => HT.out W hW)
        go_upto_region 2 with (fail)
        apply wp_region_relA 6 [eqT _, eqT _, eqT _, kidsQ wr.heap.size q (t.kids.map flat), eqT _, eqT _] (by kernel_rfl) (by kernel_rfl) (by kernel_rfl) rfl
        focus
          refine ⟨?_, ?_⟩
          focus
            unfold opGoal
            rw [if_pos (by kernel_rfl)]
            intro x hb hd K hk
            clear hd
            go_wp2_with fail
            exact hk _ _ rfl trivial (Below.refl _ _)
          rintro _ rfl
          simp only [Act.put, List.setIfInBounds_toArray, List.set_cons_succ, List.set_cons_zero]
          refine ⟨?_, ?_⟩
          focus
            unfold opGoal
            rw [if_pos (by kernel_rfl)]
            intro x hb hd K hk
            clear hd
            go_wp2_with fail
            exact hk _ _ rfl trivial (Below.refl _ _)
          rintro _ rfl
          simp only [Act.put, List.setIfInBounds_toArray, List.set_cons_succ, List.set_cons_zero]
          refine ⟨?_, ?_⟩
          focus
            unfold opGoal
            rw [if_pos (by kernel_rfl)]
            intro x hb hd K hk
            clear hd
            have l0 := cell_keep hb cc0
            go_wp2_with fail
            exact hk _ _ rfl trivial (Below.refl _ _)
          rintro _ rfl
          simp only [Act.put, List.setIfInBounds_toArray, List.set_cons_succ, List.set_cons_zero]
          refine ⟨?_, ?_⟩
          focus
            unfold opGoal
            rw [if_pos (by kernel_rfl)]
            intro x hb hd K hk
            clear hd
            have hsz := hb.size
            have HC := Lib.hid (KC.out x hb)
            go_wp2_with fail
            refine HC.out.mono ?_
            rintro e x' ⟨A1, c1, vs, rfl, ho, ha, hb'⟩
            obtain ⟨r1, r2, -⟩ := rd_one ho ha.1.symm
            rw [List.length_map, ← HQ.out] at ho ⊢
            exact hk _ _ ⟨_, _, rfl⟩ ⟨A1, c1, vs, rfl, r2, r1, ha.mono hsz⟩ hb'
          rintro _ ⟨A1, c1, rfl⟩
          simp only [Act.put, List.setIfInBounds_toArray, List.set_cons_succ, List.set_cons_zero]
          refine ⟨?_, ?_⟩
          focus
            unfold opGoal
            rw [if_pos (by kernel_rfl)]
            intro x hb hd K hk
            clear hd
            go_wp2_with fail
            exact hk _ _ rfl trivial (Below.refl _ _)
          rintro _ rfl
          simp only [Act.put, List.setIfInBounds_toArray, List.set_cons_succ, List.set_cons_zero]
          refine ⟨?_, ?_⟩
          focus
            unfold opGoal
            rw [if_pos (by kernel_rfl)]
            intro x hb hd K hk
            clear hd
            go_wp2_with fail
            exact hk _ _ rfl trivial (Below.refl _ _)
          rintro _ rfl
          simp only [Act.put, List.setIfInBounds_toArray, List.set_cons_succ, List.set_cons_zero]
          intro x hbx hf
          simp only [List.drop_succ_cons, List.drop_zero]
          have hk3 := hf 3 (kidsQ wr.heap.size q (t.kids.map flat)) (.slice A1 q c1) (by kernel_rfl) (by kernel_rfl)
          obtain ⟨_, _, vs1, he1, z1, r1, a1⟩ := hk3
          injection he1 with he1 _ he2
          subst he1 he2
          obtain ⟨vs2, r2, a2, l2⟩ := HT.out x hbx
          have hbw := hb.trans (hbx.mono hb.size)
          obtain ⟨X1, hX1⟩ : ∃ X1, X1 = x.alloc (.cells #[.slice A1 q c1, .slice (some ⟨b, o + 1, none⟩) m' (c - 1)] 26) := ⟨_, rfl⟩
          have hbX : Below x.heap.size x X1 := by rw [hX1]; exact (Below.refl _ _).alloc (Nat.le_refl _) _
          have hv1 : q = vs1.length := by rw [a1.1, List.length_map]; exact HQ.out
          have CC := Lib.hid (cconcat_any (some ⟨x.heap.size, 0, none⟩) A1 (some ⟨b, o + 1, none⟩) 2 c1 (c - 1) q m' vs1 vs2 X1 (by rw [hX1]; exact rows_lit x _ _) (r1.below hbX) (r2.below hbX) hv1 l2.symm z1 (fun h => by cases h) a1.cells a2.cells hq6 hm6)
          have HA := Lib.hid (show OwnAll X1 B (vs1 ++ vs2) ((t.kids ++ ks').map flat) by
            rw [List.map_append]
            exact ((a1.mono (Nat.le_trans hB hb.size)).below hbX).append (a2.below hbX))
          have HX1 := Lib.hid hX1
          have HXB := Lib.hid (hbw.trans (hbX.mono hbw.size))
          have hl12 : q + m' = (t.kids ++ ks').length := by rw [List.length_append, ← HQ.out, ← HML.out]
          have HL12 := Lib.hid hl12
          clear hf r1 a1 r2 a2 hbX hX1 hv1 l2 hl12 z1 KC HT e0 cc0 hbx hbw hb
          go_wp2_with fail
          rw [← HX1.out]
          refine CC.out.mono ?_
          rintro e x2 ⟨A5, c5, rfl, ho5, hb5⟩
          have HR5 := Lib.hid (RowO.of_own ho5 (HA.out.below hb5) HL12.out)
          have hbx5 := HXB.out.trans (hb5.mono HXB.out.size)
          clear ho5 hb5 CC HA
          go_wp2_with fail
          go_roundg g'
          case measure => omega
          case rel => exact ⟨A5, q + m', c5, t.kids ++ ks', rfl, by omega, HR5, HNX, hbx5⟩
      · obtain rfl : c = 1 := by omega
        obtain rfl : m' = 0 := by omega
        replace HT := Lib.hid (show ∀ W, Below wr.heap.size wr W → ∃ vs, RdL W 1 one1 (some ⟨b, o, none⟩) vs ∧ OwnAll W B vs (ks'.map flat) ∧ vs.length = 0 from fun W hW => by
          obtain ⟨vs, g1, g2, g3⟩ := HT.out W hW
          have : vs = [] := List.eq_nil_of_length_eq_zero g3
          subst this
          exact ⟨[], RdL.nil _ _ _ _, g2, rfl⟩)
        go_upto_region 2 with (fail)
        apply wp_region_relA 6 [eqT _, eqT _, eqT _, kidsQ wr.heap.size q (t.kids.map flat), eqT _, eqT _] (by kernel_rfl) (by kernel_rfl) (by kernel_rfl) rfl
        focus
          refine ⟨?_, ?_⟩
          focus
            unfold opGoal
            rw [if_pos (by kernel_rfl)]
            intro x hb hd K hk
            clear hd
            go_wp2_with fail
            exact hk _ _ rfl trivial (Below.refl _ _)
          rintro _ rfl
          simp only [Act.put, List.setIfInBounds_toArray, List.set_cons_succ, List.set_cons_zero]
          refine ⟨?_, ?_⟩
          focus
            unfold opGoal
            rw [if_pos (by kernel_rfl)]
            intro x hb hd K hk
            clear hd
            go_wp2_with fail
            exact hk _ _ rfl trivial (Below.refl _ _)
          rintro _ rfl
          simp only [Act.put, List.setIfInBounds_toArray, List.set_cons_succ, List.set_cons_zero]
          refine ⟨?_, ?_⟩
          focus
            unfold opGoal
            rw [if_pos (by kernel_rfl)]
            intro x hb hd K hk
            clear hd
            have l0 := cell_keep hb cc0
            go_wp2_with fail
            exact hk _ _ rfl trivial (Below.refl _ _)
          rintro _ rfl
          simp only [Act.put, List.setIfInBounds_toArray, List.set_cons_succ, List.set_cons_zero]
          refine ⟨?_, ?_⟩
          focus
            unfold opGoal
            rw [if_pos (by kernel_rfl)]
            intro x hb hd K hk
            clear hd
            have hsz := hb.size
            have HC := Lib.hid (KC.out x hb)
            go_wp2_with fail
            refine HC.out.mono ?_
            rintro e x' ⟨A1, c1, vs, rfl, ho, ha, hb'⟩
            obtain ⟨r1, r2, -⟩ := rd_one ho ha.1.symm
            rw [List.length_map, ← HQ.out] at ho ⊢
            exact hk _ _ ⟨_, _, rfl⟩ ⟨A1, c1, vs, rfl, r2, r1, ha.mono hsz⟩ hb'
          rintro _ ⟨A1, c1, rfl⟩
          simp only [Act.put, List.setIfInBounds_toArray, List.set_cons_succ, List.set_cons_zero]
          refine ⟨?_, ?_⟩
          focus
            unfold opGoal
            rw [if_pos (by kernel_rfl)]
            intro x hb hd K hk
            clear hd
            go_wp2_with fail
            exact hk _ _ rfl trivial (Below.refl _ _)
          rintro _ rfl
          simp only [Act.put, List.setIfInBounds_toArray, List.set_cons_succ, List.set_cons_zero]
          refine ⟨?_, ?_⟩
          focus
            unfold opGoal
            rw [if_pos (by kernel_rfl)]
            intro x hb hd K hk
            clear hd
            go_wp2_with fail
            exact hk _ _ rfl trivial (Below.refl _ _)
          rintro _ rfl
          simp only [Act.put, List.setIfInBounds_toArray, List.set_cons_succ, List.set_cons_zero]
          intro x hbx hf
          simp only [List.drop_succ_cons, List.drop_zero]
          have hk3 := hf 3 (kidsQ wr.heap.size q (t.kids.map flat)) (.slice A1 q c1) (by kernel_rfl) (by kernel_rfl)
          obtain ⟨_, _, vs1, he1, z1, r1, a1⟩ := hk3
          injection he1 with he1 _ he2
          subst he1 he2
          obtain ⟨vs2, r2, a2, l2⟩ := HT.out x hbx
          have hbw := hb.trans (hbx.mono hb.size)
          obtain ⟨X1, hX1⟩ : ∃ X1, X1 = x.alloc (.cells #[.slice A1 q c1, .slice (some ⟨b, o, none⟩) 0 0] 26) := ⟨_, rfl⟩
          have hbX : Below x.heap.size x X1 := by rw [hX1]; exact (Below.refl _ _).alloc (Nat.le_refl _) _
          have hv1 : q = vs1.length := by rw [a1.1, List.length_map]; exact HQ.out
          have CC := Lib.hid (cconcat_any (some ⟨x.heap.size, 0, none⟩) A1 (some ⟨b, o, none⟩) 2 c1 0 q 0 vs1 vs2 X1 (by rw [hX1]; exact rows_lit x _ _) (r1.below hbX) (r2.below hbX) hv1 l2.symm z1 (fun h => by cases h) a1.cells a2.cells hq6 hm6)
          have HA := Lib.hid (show OwnAll X1 B (vs1 ++ vs2) ((t.kids ++ ks').map flat) by
            rw [List.map_append]
            exact ((a1.mono (Nat.le_trans hB hb.size)).below hbX).append (a2.below hbX))
          have HX1 := Lib.hid hX1
          have HXB := Lib.hid (hbw.trans (hbX.mono hbw.size))
          have hl12 : q + 0 = (t.kids ++ ks').length := by rw [List.length_append, ← HQ.out, ← HML.out]
          have HL12 := Lib.hid hl12
          clear hf r1 a1 r2 a2 hbX hX1 hv1 l2 hl12 z1 KC HT e0 cc0 hbx hbw hb
          go_wp2_with fail
          rw [← HX1.out]
          refine CC.out.mono ?_
          rintro e x2 ⟨A5, c5, rfl, ho5, hb5⟩
          have HR5 := Lib.hid (RowO.of_own ho5 (HA.out.below hb5) HL12.out)
          have hbx5 := HXB.out.trans (hb5.mono HXB.out.size)
          clear ho5 hb5 CC HA
          go_wp2_with fail
          go_roundg g'
          case measure => omega
          case rel => exact ⟨A5, q + 0, c5, t.kids ++ ks', rfl, by omega, HR5, HNX, hbx5⟩
    · have hjf : (t.kind == 4) = false := by rw [beq_eq_false_iff_ne]; exact hj
      have hstop : t :: ks' = U := by rw [← k2]; exact (unj_stop (by simp [headJ, hjf])).symm
      have HRU := Lib.hid (show RowO wr B (some ⟨b, o, none⟩) m c U by rw [← hstop]; exact HR.out)
      have hmU : m = U.length := by rw [← hstop, List.length_cons]; exact hml
      have HMU := Lib.hid hmU
      have hm6 : m ≤ 2000000 := by omega
      clear k1 k2 k3 k4 HK hkl HOW own0 HR hstop hmU hml
      go_upto_region 3 with (fail)
      clear e0 cc0 hjf hj h00 hm1 hmc hcm
      go_wp2_with fail
      go_loopw [3, 23] (fun v i w2 => ∃ (k q : Nat) (A' : Option Addr) (c' : Nat) (us : List Value) (out : List Tr), k ≤ m ∧ i = .int .i64 k ∧ v = .slice A' q c' ∧ q ≤ k ∧ Hid (q = out.length) ∧
          w2.ownsRow wr.heap.size 23 1 (.slice A' q c') q us ∧ OwnAll w2 B us (out.map flat) ∧ Hid (out ++ fullF q (U.drop k) = fullF 0 U) ∧ Below wr.heap.size wr w2) (fun _ i _ => m - (intOf i).toNat)
      case atStart => exact ⟨0, 0, none, 0, [], [], Nat.zero_le _, rfl, rfl, Nat.le_refl _, rfl, World.ownsRow_nil _ _ _ _, OwnAll.nil _ _, Lib.hid (by simp), Below.refl _ _⟩
      case round =>
        obtain ⟨k, q, A', c', us, out, hk, rfl, rfl, hqk, HQ, hown, hall, HO, hb2⟩ := hrel
        by_cases hlt : k < m
        · have hkU : k < U.length := by rw [← HMU.out]; exact hlt
          obtain ⟨b1, o1, A1, n1, c1, he1, -, cc1, own1⟩ := (HRU.out.below hb2).at_ hkU
          simp only [Option.some.injEq, Addr.mk.injEq, and_true] at he1
          obtain ⟨he1, he2⟩ := he1
          subst he1 he2
          have hdr := List.drop_eq_getElem_cons hkU
          have hrl : (U.drop (k + 1)).length = m - k - 1 := by rw [List.length_drop, ← HMU.out]; omega
          obtain ⟨x, hx⟩ : ∃ x, x = U[k] := ⟨_, rfl⟩
          rw [← hx] at own1 hdr
          obtain ⟨b3, o3, rfl, h03, -, -, -, -, -, -, -, e4⟩ := head_cells own1.rd
          have LC := Lib.hid (clit_v _ n1 c1 x _ own1.rd)
          have HL1 := Lib.hid (OwnAll.one own1.own')
          have hfs : fullF q (U.drop k) = if emptyB x && decide (2 ≤ q + (m - k - 1)) then fullF q (U.drop (k + 1)) else x :: fullF (q + 1) (U.drop (k + 1)) := by rw [hdr, fullF, hrl]
          have HFS := Lib.hid hfs
          have hem : emptyB x = (isLit x && x.str.isEmpty) := rfl
          obtain ⟨l, hl⟩ : ∃ l, isLit x = l := ⟨_, rfl⟩
          rw [hl] at LC hem
          obtain ⟨r, hr⟩ : ∃ r, m = k + r + 1 := ⟨m - k - 1, by omega⟩
          have hr2 : m - k - 1 = r := by omega
          rw [hr2] at HFS
          have HRR := Lib.hid hr
          clear hx hdr hrl hkU hfs own1 hr2 hr
          cases l
          · rw [hem] at HFS
            go_wp2_with fail
            refine LC.out.mono ?_
            rintro e w3 ⟨rfl, rfl⟩
            go_wp2_with (at_builtin; refine wpList_push rfl _ _ _ rfl Tryd.underlying26 hi hz0 hz1 hz2 rfl (by decide) hown rfl rfl rfl (by simp [Value.oneCell']) (by omega) (by decide) hb2.size ?_; intro A4 c4 w4 hown4 hb4 hoo4)
            go_roundw
            case rel =>
              refine ⟨k + 1, q + 1, A4, c4, us ++ [.slice (some ⟨b3, o3, none⟩) n1 c1], out ++ [x], by omega, by go_num, rfl, by omega, Lib.hid (by rw [List.length_append, ← HQ.out]; rfl), by simpa using hown4, ?_, Lib.hid ?_, hb2.trans hb4⟩
              · rw [List.map_append]
                exact (hall.others hoo4 (by decide)).append (HL1.out.others hoo4 (by decide))
              · rw [← HO.out, HFS.out]
                simp
            case measure => simp [intOf]; omega
          · obtain ⟨s, hs⟩ : ∃ s, x.str = s := ⟨_, rfl⟩
            rw [hs] at hem e4
            clear hs hl
            cases s with
            | nil =>
              by_cases h2 : 2 ≤ q + r
              · have HF2 := Lib.hid (show fullF q (U.drop k) = fullF q (U.drop (k + 1)) by rw [HFS.out, hem, decide_eq_true h2]; rfl)
                have d2 : decide ((2 : Int) ≤ (q : Int) + (m : Int) - (k : Int) - 1) = true := decide_eq_true (by have := HRR.out; omega)
                clear HFS hem h2
                go_wp2_with fail
                refine LC.out.mono ?_
                rintro e w3 ⟨rfl, rfl⟩
                go_wp2_with fail
                go_roundw
                case rel => exact ⟨k + 1, q, A', c', us, out, by omega, by go_num, rfl, by omega, HQ, hown, hall, Lib.hid (by rw [← HO.out, HF2.out]), hb2⟩
                case measure => simp [intOf]; omega
              · have HF2 := Lib.hid (show fullF q (U.drop k) = x :: fullF (q + 1) (U.drop (k + 1)) by rw [HFS.out, hem, decide_eq_false h2]; rfl)
                have d2 : decide ((2 : Int) ≤ (q : Int) + (m : Int) - (k : Int) - 1) = false := decide_eq_false (by have := HRR.out; omega)
                clear HFS hem h2
                have HFS := HF2
                go_wp2_with fail
                refine LC.out.mono ?_
                rintro e w3 ⟨rfl, rfl⟩
                go_wp2_with (at_builtin; refine wpList_push rfl _ _ _ rfl Tryd.underlying26 hi hz0 hz1 hz2 rfl (by decide) hown rfl rfl rfl (by simp [Value.oneCell']) (by omega) (by decide) hb2.size ?_; intro A4 c4 w4 hown4 hb4 hoo4)
                go_roundw
                case rel =>
                  refine ⟨k + 1, q + 1, A4, c4, us ++ [.slice (some ⟨b3, o3, none⟩) n1 c1], out ++ [x], by omega, by go_num, rfl, by omega, Lib.hid (by rw [List.length_append, ← HQ.out]; rfl), by simpa using hown4, ?_, Lib.hid ?_, hb2.trans hb4⟩
                  · rw [List.map_append]
                    exact (hall.others hoo4 (by decide)).append (HL1.out.others hoo4 (by decide))
                  · rw [← HO.out, HFS.out]
                    simp
                case measure => simp [intOf]; omega
            | cons a s =>
              have HF2 := Lib.hid (show fullF q (U.drop k) = x :: fullF (q + 1) (U.drop (k + 1)) by rw [HFS.out, hem]; rfl)
              clear HFS hem
              have HFS := HF2
              go_wp2_with fail
              refine LC.out.mono ?_
              rintro e w3 ⟨rfl, rfl⟩
              go_wp2_with (at_builtin; refine wpList_push rfl _ _ _ rfl Tryd.underlying26 hi hz0 hz1 hz2 rfl (by decide) hown rfl rfl rfl (by simp [Value.oneCell']) (by omega) (by decide) hb2.size ?_; intro A4 c4 w4 hown4 hb4 hoo4)
              go_roundw
              case rel =>
                refine ⟨k + 1, q + 1, A4, c4, us ++ [.slice (some ⟨b3, o3, none⟩) n1 c1], out ++ [x], by omega, by go_num, rfl, by omega, Lib.hid (by rw [List.length_append, ← HQ.out]; rfl), by simpa using hown4, ?_, Lib.hid ?_, hb2.trans hb4⟩
                · rw [List.map_append]
                  exact (hall.others hoo4 (by decide)).append (HL1.out.others hoo4 (by decide))
                · rw [← HO.out, HFS.out]
                  simp
              case measure => simp [intOf]; omega
        · obtain rfl : k = m := by omega
          have hou : out = fullF 0 U := by
            have h := HO.out
            rw [List.drop_of_length_le (by rw [← HMU.out]; exact Nat.le_refl _)] at h
            simpa [fullF] using h
          rw [← hou] at HDEF
          have hone := full_ne 0 U (by omega) HU2.out
          have hfsz := full_size 0 U
          have hmem := full_mem 0 U
          rw [← hou] at hone hfsz hmem
          have HRO := Lib.hid (RowO.of_own hown hall HQ.out)
          obtain ⟨t0, out', rfl⟩ : ∃ t0 out', out = t0 :: out' := by cases out with | nil => exact absurd rfl hone | cons t0 out' => exact ⟨t0, out', rfl⟩
          obtain ⟨b4, o4, A4, n4, c4, rfl, -, cc4, own4⟩ := HRO.out.at_ (k := 0) (by simp)
          simp only [List.getElem_cons_zero, Nat.add_zero] at cc4 own4
          obtain ⟨b5, o5, rfl, h05, -, -, -, e5, -, -, -, -⟩ := head_cells own4.rd
          have hq1 : 0 < q := by have := HQ.out; rw [List.length_cons] at this; omega
          have hqc := HRO.out.cap
          have hcm := HRO.out.max
          unfold maxLen at hcm
          have hbw := hb.trans (hb2.mono hb.size)
          by_cases hj : t0.kind = 4
          · have hlt : sizeL (t0 :: out') ≤ n := by
              rcases hfsz with h | h
              · have h1 := HU1.out
                rw [← h] at h1
                simp [headJ, hj] at h1
              · have := HU4.out; have := HN.out; omega
            have IC := Lib.hid (HIH.out _ q c' (t0 :: out') _ (Nat.le_trans hB hbw.size) hlt (by have := HN.out; omega) (by simp) (fun u hu => HU3.out u (hmem u hu)) HRO.out)
            have HD2 := Lib.hid (show opn (n + 1) ts = opn n (t0 :: out') by rw [HDEF.out, if_pos (by simp [headJ, hj])])
            rw [hj] at e5
            clear hown hall hou hone hfsz hmem own4 hlt hj
            go_wp2_with fail
            refine IC.out.mono ?_
            rintro e w6 ⟨A6, m6, c6, rfl, hr6, hb6⟩
            have HR6 := Lib.hid hr6
            have hbx := hbw.trans (hb6.mono hbw.size)
            clear hr6
            go_wp2_with fail
            go_ret
            exact ⟨A6, m6, c6, rfl, by rw [HD2.out]; exact HR6.out, hbx⟩
          · have hjf : (t0.kind == 4) = false := by rw [beq_eq_false_iff_ne]; exact hj
            have HD2 := Lib.hid (show opn (n + 1) ts = t0 :: out' by rw [HDEF.out, if_neg (by simp [headJ, hjf])])
            clear hown hall hou hone hfsz hmem own4
            go_wp2_with fail
            go_ret
            exact ⟨_, q, c', rfl, by rw [HD2.out]; exact HRO.out, hbw⟩
end Go.Proofs.YthmeonimianoeaaDoor
