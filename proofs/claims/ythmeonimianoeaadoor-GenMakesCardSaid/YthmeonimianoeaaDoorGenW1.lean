/- The walks over the writer's least methods: where it stands, one instruction more, how high the stack is. Bounds on the lengths. -/
import Derived.Test.YthmeonimianoeaaDoorGL
import Derived.Test.YthmeonimianoeaaDoorGenA
import Derived.Test.YthmeonimianoeaaDoorGA
import Derived.Outline
import Derived.Handy
set_option linter.unusedVariables false
set_option linter.unusedSimpArgs false
namespace Go.Proofs.YthmeonimianoeaaDoor
open Go.RowKit

/-- The writer, its row at A with so much room. -/
def WrA (w : World) (base g : Nat) (X : List Ins) (now high : Nat) (A : Option Addr) (c : Nat) : Prop :=
  (base ≤ g ∧ now ≤ high) ∧ Blk w g 72 #[.slice A X.length c, .int .i64 now, .int .i64 high] ∧ w.ownsRow base 53 4 (.slice A X.length c) X.length (X.flatMap insc)
theorem WrI.at_ {w : World} {base g : Nat} {X : List Ins} {now high : Nat} (h : WrI w base g X now high) : ∃ A c, WrA w base g X now high A c := by
  obtain ⟨h0, v, h1, A, c, rfl, h2⟩ := h
  exact ⟨A, c, h0, h1, h2⟩
theorem WrA.i {w : World} {base g : Nat} {X : List Ins} {now high : Nat} {A : Option Addr} {c : Nat} (h : WrA w base g X now high A c) : WrI w base g X now high := ⟨h.1, _, h.2.1, A, c, rfl, h.2.2⟩
theorem WrA.below {w w' : World} {base g : Nat} {X : List Ins} {now high : Nat} {A : Option Addr} {c : Nat} (h : WrA w base g X now high A c) (hb : Below w.heap.size w w') : WrA w' base g X now high A c := ⟨h.1, h.2.1.below hb, own_below h.2.2 hb⟩
theorem Others.up {ts ts' : List TypeId} {w w' : World} (h : Others ts w w') (hs : ∀ t ∈ ts, t ∈ ts') : Others ts' w w' := h.mono hs
theorem frw_set {w : World} {base g : Nat} {t : TypeId} {cs : Array Value} (hg : Blk w g t cs) (ht : t ∈ tsW) (hb : base ≤ g) (hw : base ≤ w.heap.size) (i : Nat) (u : Value) : FrW base w (w.setCell ⟨g, i, none⟩ u) :=
  ⟨Others.setCell (p := ⟨g, i, none⟩) hg ht u, (But.set (B := g) w i u).below hb hw⟩

set_option maxHeartbeats 2000000 in
theorem here_any {base g : Nat} {X : List Ins} {now high : Nat} (w : World) (h : WrI w base g X now high) : Calls Tryd.prog 62 #[.pointer (some ⟨g, 0, none⟩)] w (fun e w' => e = .returned (.int .i64 X.length) ∧ w' = w) := by
  obtain ⟨A, c, h0, h1, h2⟩ := h.at_
  have c0 := h1.cell 0
  simp only [List.getElem?_toArray, List.getElem?_cons_zero] at c0
  generalize X.length = n at *
  clear h h1 h2
  go_enter Tryd.func62, Tryd.ntmps62
  go_wp2_with fail
  go_ret
  exact ⟨rfl, rfl⟩
/-- An instruction more. -/
def AddRet (base g : Nat) (X : List Ins) (now high : Nat) (A : Option Addr) (c : Nat) (i : Ins) (w : World) (e : Ending) (w' : World) : Prop :=
  ∃ A' c', e = .returned (.int .i64 X.length) ∧ WrA w' base g (X ++ [i]) now high A' c' ∧ FrW base w w' ∧ ((X.length < c ∧ A' = A ∧ c' = c) ∨ (c ≤ X.length ∧ A' = some ⟨w.heap.size, 0, none⟩ ∧ But g w w'))
set_option maxHeartbeats 2000000 in
theorem add_any {base g : Nat} {X : List Ins} {now high : Nat} {A : Option Addr} {c lb : Nat} (i : Ins) (w : World) (h : WrA w base g X now high A c) (hX : X.length ≤ 1000000000) (hl : ∀ j u, (insc i)[j]? = some u → w.cell? ⟨lb, j, none⟩ = some u) (hbw : base ≤ w.heap.size) :
    Calls Tryd.prog 66 #[.pointer (some ⟨g, 0, none⟩), .slice (some ⟨lb, 0, none⟩) 1 1] w (AddRet base g X now high A c i w) := by
  obtain ⟨i0, hi, hz0, hz1, hz2⟩ := info_parts infoIns
  obtain ⟨h0, h1, h2⟩ := h
  have c0 := h1.cell 0
  have f0 := h1.frozen 0
  simp only [List.getElem?_toArray, List.getElem?_cons_zero] at c0
  have HB := Lib.hid h1
  have HL := Lib.hid (show ∀ j u, (insc i)[j]? = some u → w.cell? ((⟨lb, 0, none⟩ : Addr).add j) = some u from fun j u hu => by rw [Addr.add_lit, Nat.zero_add]; exact hl j u hu)
  obtain ⟨n, hn⟩ : ∃ n, n = X.length := ⟨_, rfl⟩
  rw [← hn] at c0 h2 HB hX
  have HN := Lib.hid hn
  rw [show AddRet base g X now high A c i w = fun e w' => ∃ A' c', e = .returned (.int .i64 n) ∧ WrA w' base g (X ++ [i]) now high A' c' ∧ FrW base w w' ∧ ((n < c ∧ A' = A ∧ c' = c) ∨ (c ≤ n ∧ A' = some ⟨w.heap.size, 0, none⟩ ∧ But g w w')) from by funext e w'; unfold AddRet; rw [hn]]
  clear hl hn h1
  go_enter Tryd.func66, Tryd.ntmps66
  go_wp2_with (at_builtin; refine wpList_push2 rfl _ _ _ rfl Tryd.underlying28 hi hz0 hz1 hz2 rfl (by decide) h2 rfl rfl (insc_len i) HL.out (insc_one i) (by omega) (by decide) hbw ?_; intro A2 c2 w2 hown2 hb2 hoo2 hloc; have d0 := (HB.out.others hoo2 (by decide)).cell 0; have e0 := (HB.out.others hoo2 (by decide)).frozen 0; simp only [List.getElem?_toArray, List.getElem?_cons_zero] at d0; have HO2 := Lib.hid hown2; have HB2 := Lib.hid hb2; have HQ2 := Lib.hid hoo2; have HLC := Lib.hid hloc; clear hown2 hb2 hoo2 hloc)
  have hG := HB.out.others HQ2.out (by decide)
  have hS := hG.set 0 (.slice A2 (n + 1) c2)
  have hB := But.set (B := g) w2 0 (.slice A2 (n + 1) c2)
  have d1 := hS.cell 0
  simp only [List.getElem?_toArray, List.setIfInBounds_toArray, List.set_cons_zero, List.getElem?_cons_zero] at d1
  have HFIN := Lib.hid (show ∃ A' c', WrA (w2.setCell ⟨g, 0, none⟩ (.slice A2 (n + 1) c2)) base g (X ++ [i]) now high A' c' ∧ FrW base w (w2.setCell ⟨g, 0, none⟩ (.slice A2 (n + 1) c2)) ∧ ((n < c ∧ A' = A ∧ c' = c) ∨ (c ≤ n ∧ A' = some ⟨w.heap.size, 0, none⟩ ∧ But g w (w2.setCell ⟨g, 0, none⟩ (.slice A2 (n + 1) c2)))) from by
    refine ⟨A2, c2, ⟨h0, ?_, ?_⟩, ?_, ?_⟩
    · rw [List.length_append, ← HN.out]
      simpa using hS
    · rw [List.length_append, ← HN.out, List.flatMap_append]
      simpa using own_but HO2.out hB hG (by decide)
    · exact (⟨HQ2.out.up (by simp [tsW]), HB2.out⟩ : FrW base w w2).trans (frw_set hG (by simp [tsW]) h0.1 (Nat.le_trans hbw HB2.out.size) 0 _)
    · rcases HLC.out with h | ⟨h3, h1, h2⟩
      · exact .inl h
      · exact .inr ⟨h3, h1, (But.of h2).trans hB⟩)
  clear hG hS hB d0 e0 c0 f0
  go_wp2_with fail
  go_ret
  obtain ⟨A', c', h1, h2, h3⟩ := HFIN.out
  exact ⟨A', c', rfl, h1, h2, h3⟩
def OpRet (base g : Nat) (X : List Ins) (now high : Nat) (A : Option Addr) (c : Nat) (i : Ins) (w : World) (e : Ending) (w' : World) : Prop :=
  ∃ A' c', e = .returned (.int .i64 X.length) ∧ WrA w' base g (X ++ [i]) now high A' c' ∧ FrW base w w' ∧ ((X.length < c ∧ A' = A ∧ c' = c) ∨ (c ≤ X.length ∧ A' = some ⟨w.heap.size + 1, 0, none⟩ ∧ But g w w'))
set_option maxHeartbeats 2000000 in
theorem op_any {base g : Nat} {X : List Ins} {now high : Nat} {A : Option Addr} {c : Nat} (op a b : Int) (s : List UInt8) (w : World) (h : WrA w base g X now high A c) (hX : X.length ≤ 1000000000) (hbw : base ≤ w.heap.size) :
    Calls Tryd.prog 39 #[.pointer (some ⟨g, 0, none⟩), .int .i64 op, .int .i64 a, .int .i64 b, .string ⟨s.toArray⟩] w (OpRet base g X now high A c ⟨op, a, b, s⟩ w) := by
  obtain ⟨w1, hw1⟩ : ∃ w1, w1 = w.alloc (.cells #[.int .i64 op, .int .i64 a, .int .i64 b, .string ⟨s.toArray⟩] 53) := ⟨_, rfl⟩
  have hb1 : Below w.heap.size w w1 := by rw [hw1]; exact (Below.refl _ _).alloc (Nat.le_refl _) _
  have hs1 : w1.heap.size = w.heap.size + 1 := by rw [hw1]; simp
  have HA := Lib.hid (add_any (lb := w.heap.size) ⟨op, a, b, s⟩ w1 (h.below hb1) hX (fun j u hu => by
    rw [hw1, cell_of_row _ _ j _ _ (0, 0) (heap_alloc_new w _)]
    simpa [insc] using hu) (Nat.le_trans hbw hb1.size))
  have HW := Lib.hid hw1
  have HB := Lib.hid hb1
  have HS := Lib.hid hs1
  clear hw1 hb1 hs1
  go_enter Tryd.func39, Tryd.ntmps39
  go_wp2_with fail
  rw [← HW.out]
  refine HA.out.mono ?_
  rintro e w2 ⟨A', c', rfl, h1, h2, h3⟩
  have HFIN := Lib.hid (show WrA w2 base g (X ++ [⟨op, a, b, s⟩]) now high A' c' ∧ FrW base w w2 ∧ ((X.length < c ∧ A' = A ∧ c' = c) ∨ (c ≤ X.length ∧ A' = some ⟨w.heap.size + 1, 0, none⟩ ∧ But g w w2)) from
    ⟨h1, (FrW.of HB.out hbw).trans h2, h3.imp id fun ⟨e0, e1, e2⟩ => ⟨e0, by rw [e1, HS.out], (But.of HB.out).trans e2⟩⟩)
  clear h1 h2 h3 HA
  go_wp2_with fail
  go_ret
  exact ⟨A', c', rfl, HFIN.out⟩
/-- So many lists more on the stack. -/
def PushRet (base g : Nat) (X : List Ins) (now high : Nat) (w : World) (e : Ending) (w' : World) : Prop := e = .returned (.tuple #[]) ∧ WrI w' base g X now high ∧ FrW base w w'
set_option maxHeartbeats 2000000 in
theorem push_any {base g : Nat} {X : List Ins} {now high m : Nat} (n : Int) (w : World) (h : WrI w base g X now high) (hm : (now : Int) + n = m) (hnow : now ≤ 1000000000) (hm9 : m ≤ 1000000000) (hhi : high ≤ 1000000000) (hbw : base ≤ w.heap.size) :
    Calls Tryd.prog 93 #[.pointer (some ⟨g, 0, none⟩), .int .i64 n] w (PushRet base g X m (max high m) w) := by
  obtain ⟨⟨h0, hnh⟩, v, h1, hv⟩ := h
  have c1 := h1.cell 1
  have f1 := h1.frozen 1
  simp only [List.getElem?_toArray, List.getElem?_cons_zero, List.getElem?_cons_succ] at c1
  have h2 := h1.set 1 (.int .i64 m)
  have f2 := h2.frozen 2
  have d1 := h2.cell 1
  have d2 := h2.cell 2
  simp only [List.getElem?_toArray, List.setIfInBounds_toArray, List.set_cons_zero, List.set_cons_succ, List.getElem?_cons_zero, List.getElem?_cons_succ] at d1 d2
  have hB1 := But.set (B := g) w 1 (.int .i64 m)
  have HQ := Lib.hid h2
  have HFIN := Lib.hid (show ∀ y, Below (w.setCell ⟨g, 1, none⟩ (.int .i64 m)).heap.size (w.setCell ⟨g, 1, none⟩ (.int .i64 m)) y → PushRet base g X m (max high m) w (.returned (.tuple #[])) (y.setCell ⟨g, 2, none⟩ (.int .i64 (max high m : Nat))) from fun y hy => by
    have h2y := h2.below hy
    have h3 := h2y.set 2 (.int .i64 (max high m : Nat))
    have hB2 := But.set (B := g) y 2 (.int .i64 (max high m : Nat))
    have hsz := Nat.le_trans hbw (Nat.le_trans hB1.size hy.size)
    refine ⟨rfl, ⟨⟨h0, Nat.le_max_right _ _⟩, v, by simpa using h3, (let ⟨A, c, e1, e2⟩ := hv; ⟨A, c, e1, own_but (own_below (own_but e2 hB1 h1 (by decide)) hy) hB2 h2y (by decide)⟩)⟩, ?_⟩
    exact ((frw_set h1 (by simp [tsW]) h0 hbw 1 _).trans (FrW.of hy (Nat.le_trans hbw hB1.size))).trans (frw_set h2y (by simp [tsW]) h0 hsz 2 _))
  have hww : wrap64 ((now : Int) + n) = m := by rw [hm]; unfold wrap64; omega
  have hmx : max (high : Int) (m : Int) = ((max high m : Nat) : Int) := by omega
  have hmx2 : max high m ≤ 1000000000 := by omega
  generalize max high m = mx at *
  clear h1 hv h2 hB1 hm f2
  go_enter Tryd.func93, Tryd.ntmps93
  go_upto_region 1 with (fail)
  simp only [hww]
  generalize w.setCell ⟨g, 1, none⟩ (.int .i64 m) = w2 at *
  clear hww c1 f1
  apply wp_region_relA 12 [eqT _, eqT _, eqT _, eqT _, eqT _, eqT _, eqT _, eqT _, eqT _, eqT _, eqT _, eqT _] (by kernel_rfl) (by kernel_rfl) (by kernel_rfl) rfl
  focus
    refine ⟨?_, ?_⟩
    focus
      unfold opGoal
      rw [if_pos (by kernel_rfl)]
      intro x hb hd K hk
      clear hd
      go_wp2_with fail
      exact hk _ _ rfl trivial (Below.refl _ _)
    rintro _ rfl
    simp only [Act.put, List.setIfInBounds_toArray, List.set_cons_succ, List.set_cons_zero]
    refine ⟨?_, ?_⟩
    focus
      unfold opGoal
      rw [if_pos (by kernel_rfl)]
      intro x hb hd K hk
      clear hd
      go_wp2_with fail
      exact hk _ _ rfl trivial (Below.refl _ _)
    rintro _ rfl
    simp only [Act.put, List.setIfInBounds_toArray, List.set_cons_succ, List.set_cons_zero]
    refine ⟨?_, ?_⟩
    focus
      unfold opGoal
      rw [if_pos (by kernel_rfl)]
      intro x hb hd K hk
      clear hd
      go_wp2_with fail
      exact hk _ _ rfl trivial (Below.refl _ _)
    rintro _ rfl
    simp only [Act.put, List.setIfInBounds_toArray, List.set_cons_succ, List.set_cons_zero]
    refine ⟨?_, ?_⟩
    focus
      unfold opGoal
      rw [if_pos (by kernel_rfl)]
      intro x hb hd K hk
      clear hd
      go_wp2_with fail
      exact hk _ _ rfl trivial (Below.refl _ _)
    rintro _ rfl
    simp only [Act.put, List.setIfInBounds_toArray, List.set_cons_succ, List.set_cons_zero]
    refine ⟨?_, ?_⟩
    focus
      unfold opGoal
      rw [if_pos (by kernel_rfl)]
      intro x hb hd K hk
      clear hd
      have l0 := cell_keep hb d2
      go_wp2_with fail
      exact hk _ _ rfl trivial (Below.refl _ _)
    rintro _ rfl
    simp only [Act.put, List.setIfInBounds_toArray, List.set_cons_succ, List.set_cons_zero]
    refine ⟨?_, ?_⟩
    focus
      unfold opGoal
      rw [if_pos (by kernel_rfl)]
      intro x hb hd K hk
      clear hd
      go_wp2_with fail
      exact hk _ _ rfl trivial (Below.refl _ _)
    rintro _ rfl
    simp only [Act.put, List.setIfInBounds_toArray, List.set_cons_succ, List.set_cons_zero]
    refine ⟨?_, ?_⟩
    focus
      unfold opGoal
      rw [if_pos (by kernel_rfl)]
      intro x hb hd K hk
      clear hd
      go_wp2_with fail
      exact hk _ _ rfl trivial (Below.refl _ _)
    rintro _ rfl
    simp only [Act.put, List.setIfInBounds_toArray, List.set_cons_succ, List.set_cons_zero]
    refine ⟨?_, ?_⟩
    focus
      unfold opGoal
      rw [if_pos (by kernel_rfl)]
      intro x hb hd K hk
      clear hd
      go_wp2_with fail
      exact hk _ _ rfl trivial (Below.refl _ _)
    rintro _ rfl
    simp only [Act.put, List.setIfInBounds_toArray, List.set_cons_succ, List.set_cons_zero]
    refine ⟨?_, ?_⟩
    focus
      unfold opGoal
      rw [if_pos (by kernel_rfl)]
      intro x hb hd K hk
      clear hd
      have l0 := cell_keep hb d1
      go_wp2_with fail
      exact hk _ _ rfl trivial (Below.refl _ _)
    rintro _ rfl
    simp only [Act.put, List.setIfInBounds_toArray, List.set_cons_succ, List.set_cons_zero]
    refine ⟨?_, ?_⟩
    focus
      unfold opGoal
      rw [if_pos (by kernel_rfl)]
      intro x hb hd K hk
      clear hd
      go_wp2_with fail
      all_goals
        refine hk (.int .i64 mx) _ ?_ trivial (Below.refl _ _)
        first | rfl | skip
    rintro _ rfl
    simp only [Act.put, List.setIfInBounds_toArray, List.set_cons_succ, List.set_cons_zero]
    refine ⟨?_, ?_⟩
    focus
      unfold opGoal
      rw [if_pos (by kernel_rfl)]
      intro x hb hd K hk
      clear hd
      go_wp2_with fail
      exact hk _ _ rfl trivial (Below.refl _ _)
    rintro _ rfl
    simp only [Act.put, List.setIfInBounds_toArray, List.set_cons_succ, List.set_cons_zero]
    refine ⟨?_, ?_⟩
    focus
      unfold opGoal
      rw [if_pos (by kernel_rfl)]
      intro x hb hd K hk
      clear hd
      go_wp2_with fail
      exact hk _ _ rfl trivial (Below.refl _ _)
    rintro _ rfl
    simp only [Act.put, List.setIfInBounds_toArray, List.set_cons_succ, List.set_cons_zero]
    intro y hby hf
    clear hf
    simp only [List.drop_succ_cons, List.drop_zero]
    have e2 := (HQ.out.below hby).frozen 2
    have d2 := (HQ.out.below hby).cell 2
    simp only [List.getElem?_toArray, List.setIfInBounds_toArray, List.set_cons_zero, List.set_cons_succ, List.getElem?_cons_zero, List.getElem?_cons_succ] at d2
    have HFY := Lib.hid (HFIN.out y hby)
    clear HFIN hby HQ
    go_wp2_with fail
    go_returns
    exact HFY.out
end Go.Proofs.YthmeonimianoeaaDoor
