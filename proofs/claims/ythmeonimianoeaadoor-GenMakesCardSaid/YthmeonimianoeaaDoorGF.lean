/- The walk over code.places: an instruction's places. No condition. -/
import Derived.Test.YthmeonimianoeaaDoorGC
import Derived.Test.YthmeonimianoeaaDoorGL
set_option linter.unusedVariables false
set_option linter.unusedSimpArgs false
namespace Go.Proofs.YthmeonimianoeaaDoor
open Go.RowKit

theorem infoIntC : (Tryd.prog.info? 3).map (fun i => (i.zero, i.size, i.bytes)) = some (some (.int .i64 0), 1, 8) := by kernel_rfl
def placesL (x : Ins) : List Int := (if placeA x.op = true then [x.a] else []) ++ (if placeB x.op = true then [x.b] else [])
def PlacesRet (L : List Int) (w : World) (e : Ending) (w' : World) : Prop := ∃ A c m, m = L.length ∧ e = .returned (.slice A m c) ∧ RdL w' 1 intc A L ∧ Below w.heap.size w w'
theorem intc_flat (L : List Int) : L.flatMap intc = L.map fun n => Value.int .i64 n := by
  induction L with
  | nil => rfl
  | cons x L ih => rw [List.flatMap_cons, ih]; rfl
theorem own_ints {w : World} {base n c : Nat} {A : Option Addr} {L : List Int} (h : w.ownsRow base 3 1 (.slice A n c) n (L.flatMap intc)) (hn : n = L.length) : RdL w 1 intc A L := by
  obtain ⟨A', c', h1, _, _, h2, _⟩ := RdL.of_own (enc := intc) (sz := 1) (fun _ => rfl) h hn
  injection h1 with h1 _ _
  subst h1
  exact h2
set_option maxHeartbeats 4000000 in
theorem places_any (x : Ins) (w : World) : Calls Tryd.prog 57 #[.agg #[.int .i64 x.op, .int .i64 x.a, .int .i64 x.b, .string ⟨x.s.toArray⟩]] w (PlacesRet (placesL x) w) := by
  obtain ⟨i0, hi, hz0, hz1, hz2⟩ := info_parts infoIntC
  obtain ⟨W0, hW0⟩ : ∃ W0, W0 = w.alloc (.cells #[.int .i64 x.op, .int .i64 x.a, .int .i64 x.b, .string ⟨x.s.toArray⟩] 53) := ⟨_, rfl⟩
  have hb0 : Below w.heap.size w W0 := by rw [hW0]; exact (Below.refl _ _).alloc (Nat.le_refl _) _
  have hB0 : Blk W0 w.heap.size 53 #[.int .i64 x.op, .int .i64 x.a, .int .i64 x.b, .string ⟨x.s.toArray⟩] := by rw [hW0]; exact Blk.new w _ _
  have HB := Lib.hid hb0
  have HBK := Lib.hid hB0
  have HJ := Lib.hid (jumps_any x.op W0)
  obtain ⟨L, hL⟩ : ∃ L, L = placesL x := ⟨_, rfl⟩
  rw [← hL]
  have HP := Lib.hid (show L = (if placeA x.op = true then [x.a] else []) ++ (if placeB x.op = true then [x.b] else []) from hL)
  clear hL
  generalize placeA x.op = pa at *
  generalize placeB x.op = pb at *
  have z0 := hB0.cell 0
  simp only [List.getElem?_toArray, List.getElem?_cons_zero] at z0
  clear hb0 hB0
  go_enter Tryd.func57, Tryd.ntmps57
  go_upto_region 1 with (fail)
  rw [← hW0]
  clear hW0
  go_wp2_with fail
  refine HJ.out.mono ?_
  rintro e w1 ⟨rfl, hb1⟩
  have HB1 := Lib.hid (HB.out.trans (hb1.mono HB.out.size))
  have HBK1 := Lib.hid (HBK.out.below hb1)
  have y1 := HBK1.out.cell 1
  have y2 := HBK1.out.cell 2
  simp only [List.getElem?_toArray, List.getElem?_cons_zero, List.getElem?_cons_succ] at y1 y2
  have hown0 : w1.ownsRow w1.heap.size 3 1 (.slice none 0 0) 0 [] := ⟨by simp, .inl ⟨rfl, rfl⟩⟩
  clear z0 hb1 HJ HBK HB
  cases pa
  · cases pb
    · go_wp2_with fail
      go_ret
      exact ⟨none, 0, 0, by rw [HP.out]; rfl, rfl, by rw [HP.out]; exact RdL.nil _ _ _ _, HB1.out⟩
    · go_wp2_with (at_builtin; refine wpList_push rfl _ _ _ rfl Tryd.underlying41 hi hz0 hz1 hz2 rfl (by decide) hown0 rfl rfl rfl (by simp [Value.oneCell']) (by omega) (by decide) (Nat.le_refl _) ?_; intro A2 c2 w2 hown2 hb2 hoo2)
      go_ret
      exact ⟨A2, c2, 1, by rw [HP.out]; rfl, rfl, by rw [HP.out]; exact own_ints (L := [x.b]) hown2 rfl, HB1.out.trans (hb2.mono HB1.out.size)⟩
  · cases pb
    · go_wp2_with (at_builtin; refine wpList_push rfl _ _ _ rfl Tryd.underlying41 hi hz0 hz1 hz2 rfl (by decide) hown0 rfl rfl rfl (by simp [Value.oneCell']) (by omega) (by decide) (Nat.le_refl _) ?_; intro A2 c2 w2 hown2 hb2 hoo2)
      go_ret
      exact ⟨A2, c2, 1, by rw [HP.out]; rfl, rfl, by rw [HP.out]; exact own_ints (L := [x.a]) hown2 rfl, HB1.out.trans (hb2.mono HB1.out.size)⟩
    · go_upto_region 5 with (at_builtin; refine wpList_push rfl _ _ _ rfl Tryd.underlying41 hi hz0 hz1 hz2 rfl (by decide) hown0 rfl rfl rfl (by simp [Value.oneCell']) (by omega) (by decide) (Nat.le_refl _) ?_; intro A2 c2 w2 hown2 hb2 hoo2)
      clear y1 y2
      have y2 := (HBK1.out.others hoo2 (by decide)).cell 2
      simp only [List.getElem?_toArray, List.getElem?_cons_zero, List.getElem?_cons_succ] at y2
      clear hown0
      go_wp2_with (at_builtin; refine wpList_push rfl _ _ _ rfl Tryd.underlying41 hi hz0 hz1 hz2 rfl (by decide) hown2 rfl rfl rfl (by simp [Value.oneCell']) (by omega) (by decide) hb2.size ?_; intro A3 c3 w3 hown3 hb3 hoo3)
      go_ret
      exact ⟨A3, c3, 2, by rw [HP.out]; rfl, rfl, by rw [HP.out]; exact own_ints (L := [x.a, x.b]) hown3 rfl, (HB1.out.trans (hb2.mono HB1.out.size)).trans (hb3.mono HB1.out.size)⟩
end Go.Proofs.YthmeonimianoeaaDoor

/- The walk over code.may at an instruction that may be. -/
set_option linter.unusedVariables false
set_option linter.unusedSimpArgs false
namespace Go.Proofs.YthmeonimianoeaaDoor
open Go.RowKit

theorem counts_list (op : Int) : ([3, 4, 15, 38, 27] : List Int).contains op = countA op := by
  rw [Bool.eq_iff_iff]
  simp [countA, or_assoc]
theorem places_in {m : Nat} {x : Ins} {n : Int} (h : okI m x = true) (hn : (m : Int) < n) : (placesL x).any (outB n) = false := by
  unfold okI at h
  simp only [Bool.and_eq_true, Bool.or_eq_true, Bool.not_eq_true', decide_eq_true_eq] at h
  obtain ⟨⟨⟨⟨⟨h1, h2⟩, h3⟩, h4⟩, h5⟩, h6⟩ := h
  rw [List.any_eq_false]
  intro i hi
  unfold placesL at hi
  simp only [outB, Bool.or_eq_true, decide_eq_true_eq, not_or]
  rcases List.mem_append.1 hi with hi | hi
  · split at hi
    · rename_i hp
      rw [List.mem_singleton.1 hi]
      have := h3.resolve_left (by rw [hp]; simp)
      omega
    · cases hi
  · split at hi
    · rename_i hp
      rw [List.mem_singleton.1 hi]
      have := h4.resolve_left (by rw [hp]; simp)
      omega
    · cases hi
set_option maxRecDepth 100000 in
set_option maxHeartbeats 4000000 in
theorem may_any (x : Ins) (m : Nat) (n : Int) (w : World) (hok : okI m x = true) (hn : (m : Int) < n) : Calls Tryd.prog 40 #[.agg #[.int .i64 x.op, .int .i64 x.a, .int .i64 x.b, .string ⟨x.s.toArray⟩], .int .i64 n] w (Ret w (.bool true)) := by
  have hany := places_in hok hn
  have hmf : ∀ (fn : Fn) (first cap : Array Value) (w : World), (Instr.makeFunc fn first cap).run Tryd.prog w = .ok (.func fn first cap) w := fun _ _ _ _ => rfl
  obtain ⟨W0, hW0⟩ : ∃ W0, W0 = w.alloc (.cells #[.int .i64 x.op, .int .i64 x.a, .int .i64 x.b, .string ⟨x.s.toArray⟩] 53) := ⟨_, rfl⟩
  have hb0 : Below w.heap.size w W0 := by rw [hW0]; exact (Below.refl _ _).alloc (Nat.le_refl _) _
  have hB0 : Blk W0 w.heap.size 53 #[.int .i64 x.op, .int .i64 x.a, .int .i64 x.b, .string ⟨x.s.toArray⟩] := by rw [hW0]; exact Blk.new w _ _
  have hs0 : W0.heap.size = w.heap.size + 1 := by rw [hW0]; simp
  obtain ⟨W1, hW1⟩ : ∃ W1, W1 = W0.alloc (.cells #[.int .i64 n] 3) := ⟨_, rfl⟩
  have hb1 : Below W0.heap.size W0 W1 := by rw [hW1]; exact (Below.refl _ _).alloc (Nat.le_refl _) _
  have hB1 : Blk W1 (w.heap.size + 1) 3 #[.int .i64 n] := by rw [hW1, ← hs0]; exact Blk.new W0 _ _
  have HBX := Lib.hid (hB0.below hb1)
  have HBN := Lib.hid hB1
  have HB := Lib.hid (hb0.trans (hb1.mono hb0.size))
  unfold okI at hok
  simp only [Bool.and_eq_true, Bool.or_eq_true, Bool.not_eq_true', decide_eq_true_eq] at hok
  obtain ⟨⟨⟨⟨⟨h1, h2⟩, h3⟩, h4⟩, h5⟩, h6⟩ := hok
  have HNM := Lib.hid (fun W => name_any x.op h1 h2 W)
  have hsz := nameS_size x.op h1 h2
  have HPL := Lib.hid (fun W => places_any x W)
  have HCL := Lib.hid (counts_list x.op)
  have HAN := Lib.hid hany
  obtain ⟨c, l, hs⟩ : ∃ c l, nameS x.op.toNat = ⟨(c :: l : List UInt8).toArray⟩ := by
    revert hsz
    generalize nameS x.op.toNat = s
    intro hsz
    obtain ⟨⟨d⟩⟩ := s
    cases d with
    | nil => exact absurd rfl hsz
    | cons c l => exact ⟨c, l, rfl⟩
  rw [hs] at HNM
  clear hs hsz
  have HPN : (placesL x).length ≤ 4000000 := by
    unfold placesL
    split <;> split <;> simp
  generalize placesL x = L at *
  have HLL := Lib.hid HPN
  have y0 := HBX.out.cell 0
  have y1 := HBX.out.cell 1
  have y3 := HBX.out.cell 3
  have yn := HBN.out.cell 0
  simp only [List.getElem?_toArray, List.getElem?_cons_zero, List.getElem?_cons_succ] at y0 y1 y3 yn
  clear h1 h2 h3 h4 hB0 hB1 hb0 hb1 hany HPN hs0
  generalize hq : countA x.op = q at *
  go_enter Tryd.func40, Tryd.ntmps40
  go_upto_region 2 with (fail)
  rw [← hW0, ← hW1]
  clear hW0 hW1
  obtain ⟨W2, hW2⟩ : ∃ W2, W2 = W1.alloc (.cells #[.int .i64 3, .int .i64 4, .int .i64 15, .int .i64 38, .int .i64 27] 3) := ⟨_, rfl⟩
  have hb2 : Below W1.heap.size W1 W2 := by rw [hW2]; exact (Below.refl _ _).alloc (Nat.le_refl _) _
  have HBX2 := Lib.hid (HBX.out.below hb2)
  have HBN2 := Lib.hid (HBN.out.below hb2)
  have HB2 := Lib.hid (HB.out.trans (hb2.mono HB.out.size))
  have HCT := Lib.hid (show Calls Tryd.prog 54 #[.slice (some ⟨W1.heap.size, 0, none⟩) 5 5, .int .i64 x.op] W2 (fun e w' => e = .returned (.bool q) ∧ w' = W2) from by
    refine (contains_any (some ⟨W1.heap.size, 0, none⟩) 5 [3, 4, 15, 38, 27] x.op W2 ?_ (by decide)).mono ?_
    · intro k hk
      refine ⟨W1.heap.size, 0, rfl, by rw [hW2]; simp, fun j u hu => ?_⟩
      have hj : j = 0 := by
        have := (List.getElem?_eq_some_iff.1 hu).1
        simp [intc] at this
        exact this
      subst hj
      rw [hW2, cell_of_row _ _ _ _ _ _ (heap_alloc_new W1 _)]
      have hk' : k < 5 := hk
      rcases k with _ | _ | _ | _ | _ | k
      all_goals first | (simpa [intc] using hu) | omega
    · rintro e w' ⟨he, hw⟩
      rw [HCL.out] at he
      exact ⟨he, hw⟩)
  have v0 := HBX2.out.cell 0
  rw [hW2] at v0
  simp only [List.getElem?_toArray, List.getElem?_cons_zero, List.getElem?_cons_succ] at v0
  have HW2 := Lib.hid hW2
  clear hb2 hW2 y0 y1 y3 yn
  go_wp2_with fail
  rw [← HW2.out]
  refine HCT.out.mono ?_
  rintro e w3 ⟨rfl, rfl⟩
  clear v0 HCT HW2
  have z0 := HBX2.out.cell 0
  simp only [List.getElem?_toArray, List.getElem?_cons_zero, List.getElem?_cons_succ] at z0
  go_wp2_with fail
  refine (HNM.out _).mono ?_
  rintro e w4 ⟨rfl, hb4⟩
  have HBX4 := Lib.hid (HBX2.out.below hb4)
  have HBN4 := Lib.hid (HBN2.out.below hb4)
  have HB4 := Lib.hid (HB2.out.trans (hb4.mono HB2.out.size))
  clear z0 hb4 HNM
  have y0 := HBX4.out.cell 0
  have y1 := HBX4.out.cell 1
  have y2 := HBX4.out.cell 2
  have y3 := HBX4.out.cell 3
  simp only [List.getElem?_toArray, List.getElem?_cons_zero, List.getElem?_cons_succ] at y0 y1 y2 y3
  go_wp2_with fail
  refine (HPL.out _).mono ?_
  rintro e w5 ⟨A, cp, mm, hmm, rfl, hrd, hb5⟩
  have HBX5 := Lib.hid (HBX4.out.below hb5)
  have HB5 := Lib.hid (HB4.out.trans (hb5.mono HB4.out.size))
  have HBN5 := HBN4.out.below hb5
  have HCF := Lib.hid (ctf_ints A cp mm L (w.heap.size + 1) n w5 hmm hrd HLL.out (by have := HBN5.cell 0; simpa using this))
  rw [HAN.out] at HCF
  clear y0 y1 y2 y3 hb5 hrd HBN5 HPL hmm
  go_wp2_with fail
  refine HCF.out.mono ?_
  rintro e w6 ⟨rfl, rfl⟩
  have y1 := HBX5.out.cell 1
  have y3 := HBX5.out.cell 3
  simp only [List.getElem?_toArray, List.getElem?_cons_zero, List.getElem?_cons_succ] at y1 y3
  clear HCF
  cases q
  · go_wp2_with fail
    go_ret
    exact ⟨name_ret (by simp; try omega), HB5.out⟩
  · have ha : 0 ≤ x.a := by rcases h5 with h | h; cases h; exact h
    go_wp2_with fail
    go_ret
    exact ⟨name_ret (by simp; try omega), HB5.out⟩
end Go.Proofs.YthmeonimianoeaaDoor

/- The walk over code.Check at a code that may be: nil. -/
set_option linter.unusedVariables false
set_option linter.unusedSimpArgs false
namespace Go.Proofs.YthmeonimianoeaaDoor
open Go.RowKit

set_option maxRecDepth 100000 in
set_option maxHeartbeats 8000000 in
theorem ccheck_ok (A : Option Addr) (c : Nat) (st : Nat) (X : List Ins) (w : World) (hpos : 0 < X.length) (hlen : X.length ≤ 9000) (hst : st ≤ 9000) (hok : ∀ x ∈ X, okI (X.length - 1) x = true) (hlast : ∀ h : X.length - 1 < X.length, X[X.length - 1].op = 41) (hrd : RdL w 4 insc A X) :
    Calls Tryd.prog 13 #[.agg #[.slice A X.length c, .int .i64 st]] w (Ret w .nilIface) := by
  obtain ⟨m, hm⟩ : ∃ m, m = X.length := ⟨_, rfl⟩
  rw [← hm] at hpos hlen ⊢
  have HM := Lib.hid hm
  obtain ⟨W0, hW0⟩ : ∃ W0, W0 = w.alloc (.cells #[.slice A m c, .int .i64 st] 30) := ⟨_, rfl⟩
  have hb0 : Below w.heap.size w W0 := by rw [hW0]; exact (Below.refl _ _).alloc (Nat.le_refl _) _
  have hB0 : Blk W0 w.heap.size 30 #[.slice A m c, .int .i64 st] := by rw [hW0]; exact Blk.new w _ _
  have HB := Lib.hid hb0
  have HBK := Lib.hid hB0
  have HRD := Lib.hid (hrd.below hb0)
  have HOK := Lib.hid hok
  have HLAST := Lib.hid hlast
  have y0 := hB0.cell 0
  have y1 := hB0.cell 1
  simp only [List.getElem?_toArray, List.getElem?_cons_zero, List.getElem?_cons_succ] at y0 y1
  have b1 : ((m : Int) == 0) = false := by simp; omega
  obtain ⟨B, hB⟩ : ∃ B, B = w.heap.size := ⟨_, rfl⟩
  clear hm hb0 hB0 hrd hok hlast
  go_enter Tryd.func13, Tryd.ntmps13
  go_upto_region 1 with (fail)
  rw [← hW0]
  clear hW0
  rw [← hB] at y0 y1 HBK ⊢
  clear hB
  go_upto_region 3 with (fail)
  clear y0 y1
  have y0 := HBK.out.cell 0
  simp only [List.getElem?_toArray, List.getElem?_cons_zero, List.getElem?_cons_succ] at y0
  go_wp2_with fail
  have HBK2 := Lib.hid HBK.out
  clear y0
  go_loopw [30] (fun i wr => ∃ k : Nat, k ≤ m ∧ i = .int .i64 k ∧ Hid (Below W0.heap.size W0 wr)) (fun i _ => m - (intOf i).toNat)
  case atStart => exact ⟨0, Nat.zero_le _, rfl, Lib.hid (Below.refl _ _)⟩
  case round =>
    obtain ⟨k, hk, rfl, HR⟩ := hrel
    by_cases hlt : k < m
    · have hkL : k < X.length := by rw [← HM.out]; exact hlt
      obtain ⟨b, o, rfl, _, hcell⟩ := (HRD.out.below HR.out) k hkL
      obtain ⟨x, hx⟩ : ∃ x, x = X[k] := ⟨_, rfl⟩
      rw [← hx] at hcell
      have c0 := hcell 0 _ rfl
      have c1 := hcell 1 _ rfl
      have c2 := hcell 2 _ rfl
      have c3 := hcell 3 _ rfl
      simp only [Nat.add_zero] at c0
      have HX := Lib.hid (show okI (m - 1) x = true by rw [HM.out]; exact HOK.out x (by rw [hx]; exact List.getElem_mem _))
      have HL := Lib.hid (show k + 1 = m → x.op = 41 from fun h => by
        have hk2 : k = X.length - 1 := by rw [← HM.out]; omega
        subst hk2
        rw [hx]
        exact HLAST.out hkL)
      have HBR := Lib.hid (HBK.out.below HR.out)
      clear hcell hx hkL
      go_upto_region 6 with (fail)
      obtain ⟨W3, hW3⟩ : ∃ W3, W3 = wr.alloc (.cells #[.int .i64 x.op, .int .i64 x.a, .int .i64 x.b, .string ⟨x.s.toArray⟩] 53) := ⟨_, rfl⟩
      have hb3 : Below wr.heap.size wr W3 := by rw [hW3]; exact (Below.refl _ _).alloc (Nat.le_refl _) _
      have hB3 : Blk W3 wr.heap.size 53 #[.int .i64 x.op, .int .i64 x.a, .int .i64 x.b, .string ⟨x.s.toArray⟩] := by rw [hW3]; exact Blk.new wr _ _
      have HR3 := Lib.hid (HR.out.trans (hb3.mono HR.out.size))
      have HMAY := Lib.hid (may_any x (m - 1) m W3 HX.out (by omega))
      have p0 := hB3.cell 0
      have p1 := hB3.cell 1
      have p2 := hB3.cell 2
      have p3 := hB3.cell 3
      have y0 := (HBR.out.below hb3).cell 0
      simp only [List.getElem?_toArray, List.getElem?_cons_zero, List.getElem?_cons_succ] at p0 p1 p2 p3 y0
      rw [← hW3]
      clear hb3 hB3 hW3 c0 c1 c2 c3
      generalize wr.heap.size = gi at *
      clear HX
      by_cases hk1 : k + 1 = m
      · have hop := HL.out hk1
        clear HL
        obtain ⟨op, xa, xb, xs⟩ := x
        simp only at hop p0 p1 p2 p3 HMAY
        subst hop
        have hg : ((k : Int) == (m : Int) - 1) = true := by rw [beq_iff_eq]; omega
        clear hk1
        go_wp2_with fail
        refine HMAY.out.mono ?_
        rintro e w4 ⟨rfl, hb4⟩
        have HR4 := Lib.hid (HR3.out.trans (hb4.mono HR3.out.size))
        have y4 := cell_keep hb4 y0
        clear HMAY p0 p1 p2 p3 y0 hb4
        go_wp2_with fail
        go_roundw
        case rel => exact ⟨k + 1, by omega, by go_num, HR4⟩
        case measure => simp [intOf]; omega
      · have hg : ((k : Int) == (m : Int) - 1) = false := by simp; omega
        have hcase : x.op = 41 ∨ x.op = 40 ∨ x.op = 18 ∨ (x.op ≠ 41 ∧ x.op ≠ 40 ∧ x.op ≠ 18) := by omega
        clear HL hk1
        rcases hcase with hop | hop | hop | ⟨g1, g2, g3⟩
        · skip
          obtain ⟨op, xa, xb, xs⟩ := x
          simp only at hop p0 p1 p2 p3 HMAY
          subst hop
          go_wp2_with fail
          refine HMAY.out.mono ?_
          rintro e w4 ⟨rfl, hb4⟩
          have HR4 := Lib.hid (HR3.out.trans (hb4.mono HR3.out.size))
          have y4 := cell_keep hb4 y0
          clear HMAY p0 p1 p2 p3 y0 hb4
          go_wp2_with fail
          go_roundw
          case rel => exact ⟨k + 1, by omega, by go_num, HR4⟩
          case measure => simp [intOf]; omega
        · skip
          obtain ⟨op, xa, xb, xs⟩ := x
          simp only at hop p0 p1 p2 p3 HMAY
          subst hop
          go_wp2_with fail
          refine HMAY.out.mono ?_
          rintro e w4 ⟨rfl, hb4⟩
          have HR4 := Lib.hid (HR3.out.trans (hb4.mono HR3.out.size))
          have y4 := cell_keep hb4 y0
          clear HMAY p0 p1 p2 p3 y0 hb4
          go_wp2_with fail
          go_roundw
          case rel => exact ⟨k + 1, by omega, by go_num, HR4⟩
          case measure => simp [intOf]; omega
        · skip
          obtain ⟨op, xa, xb, xs⟩ := x
          simp only at hop p0 p1 p2 p3 HMAY
          subst hop
          go_wp2_with fail
          refine HMAY.out.mono ?_
          rintro e w4 ⟨rfl, hb4⟩
          have HR4 := Lib.hid (HR3.out.trans (hb4.mono HR3.out.size))
          have y4 := cell_keep hb4 y0
          clear HMAY p0 p1 p2 p3 y0 hb4
          go_wp2_with fail
          go_roundw
          case rel => exact ⟨k + 1, by omega, by go_num, HR4⟩
          case measure => simp [intOf]; omega
        · have e1 : (x.op == 41) = false := by simp [g1]
          have e2 : (x.op == 40) = false := by simp [g2]
          have e3 : (x.op == 18) = false := by simp [g3]
          clear g1 g2 g3
          go_wp2_with fail
          refine HMAY.out.mono ?_
          rintro e w4 ⟨rfl, hb4⟩
          have HR4 := Lib.hid (HR3.out.trans (hb4.mono HR3.out.size))
          have y4 := cell_keep hb4 y0
          clear HMAY p0 p1 p2 p3 y0 hb4
          go_wp2_with fail
          go_roundw
          case rel => exact ⟨k + 1, by omega, by go_num, HR4⟩
          case measure => simp [intOf]; omega
    · obtain rfl : k = m := by omega
      go_wp2_with fail
      go_ret
      exact ⟨rfl, HB.out.trans (HR.out.mono HB.out.size)⟩
end Go.Proofs.YthmeonimianoeaaDoor
