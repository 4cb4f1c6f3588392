/- The walk over code.places: an instruction's places. No condition. -/
import Derived.Test.YtpogngdddendiaaDoorGC
import Derived.Test.YtpogngdddendiaaDoorGL
set_option linter.unusedVariables false
set_option linter.unusedSimpArgs false
namespace Go.Proofs.YtpogngdddendiaaDoor
open Go.RowKit

theorem infoIntC : (Tryd.prog.info? 3).map (fun i => (i.zero, i.size, i.bytes)) = some (some (.int .i64 0), 1, 8) := by kernel_rfl
def placesL (x : Ins) : List Int := (if placeA x.op = true then [x.a] else []) ++ (if placeB x.op = true then [x.b] else [])
def PlacesRet (L : List Int) (w : World) (e : Ending) (w' : World) : Prop := ∃ A c m, m = L.length ∧ e = .returned (.slice A m c) ∧ RdL w' 1 intc A L ∧ Below w.heap.size w w'
theorem intc_flat (L : List Int) : L.flatMap intc = L.map fun n => Value.int .i64 n := by
  induction L with
  | nil => rfl
  | cons x L ih => rw [List.flatMap_cons, ih]; rfl
theorem own_ints {w : World} {base n c : Nat} {A : Option Addr} {L : List Int} (h : w.ownsRow base 3 1 (.slice A n c) n (L.flatMap intc)) (hn : n = L.length) : RdL w 1 intc A L := by
  obtain ⟨A', c', h1, _, _, h2, _⟩ := RdL.of_own (enc := intc) (sz := 1) (fun _ => rfl) h hn
  injection h1 with h1 _ _
  subst h1
  exact h2
set_option maxHeartbeats 4000000 in
theorem places_any (x : Ins) (w : World) : Calls Tryd.prog 40 #[.agg #[.int .i64 x.op, .int .i64 x.a, .int .i64 x.b, .string ⟨x.s.toArray⟩]] w (PlacesRet (placesL x) w) := by
  obtain ⟨i0, hi, hz0, hz1, hz2⟩ := info_parts infoIntC
  obtain ⟨W0, hW0⟩ : ∃ W0, W0 = w.alloc (.cells #[.int .i64 x.op, .int .i64 x.a, .int .i64 x.b, .string ⟨x.s.toArray⟩] 36) := ⟨_, rfl⟩
  have hb0 : Below w.heap.size w W0 := by rw [hW0]; exact (Below.refl _ _).alloc (Nat.le_refl _) _
  have hB0 : Blk W0 w.heap.size 36 #[.int .i64 x.op, .int .i64 x.a, .int .i64 x.b, .string ⟨x.s.toArray⟩] := by rw [hW0]; exact Blk.new w _ _
  have HB := Lib.hid hb0
  have HBK := Lib.hid hB0
  have HJ := Lib.hid (jumps_any x.op W0)
  obtain ⟨L, hL⟩ : ∃ L, L = placesL x := ⟨_, rfl⟩
  rw [← hL]
  have HP := Lib.hid (show L = (if placeA x.op = true then [x.a] else []) ++ (if placeB x.op = true then [x.b] else []) from hL)
  clear hL
  generalize placeA x.op = pa at *
  generalize placeB x.op = pb at *
  have z0 := hB0.cell 0
  simp only [List.getElem?_toArray, List.getElem?_cons_zero] at z0
  clear hb0 hB0
  go_enter Tryd.func40, Tryd.ntmps40
  go_upto_region 1 with (fail)
  rw [← hW0]
  clear hW0
  go_wp2_with fail
  refine HJ.out.mono ?_
  rintro e w1 ⟨rfl, hb1⟩
  have HB1 := Lib.hid (HB.out.trans (hb1.mono HB.out.size))
  have HBK1 := Lib.hid (HBK.out.below hb1)
  have y1 := HBK1.out.cell 1
  have y2 := HBK1.out.cell 2
  simp only [List.getElem?_toArray, List.getElem?_cons_zero, List.getElem?_cons_succ] at y1 y2
  have hown0 : w1.ownsRow w1.heap.size 3 1 (.slice none 0 0) 0 [] := ⟨by simp, .inl ⟨rfl, rfl⟩⟩
  clear z0 hb1 HJ HBK HB
  cases pa
  · cases pb
    · go_wp2_with fail
      go_ret
      exact ⟨none, 0, 0, by rw [HP.out]; rfl, rfl, by rw [HP.out]; exact RdL.nil _ _ _ _, HB1.out⟩
    · go_wp2_with (at_builtin; refine wpList_push rfl _ _ _ rfl Tryd.underlying45 hi hz0 hz1 hz2 rfl (by decide) hown0 rfl rfl rfl (by simp [Value.oneCell']) (by omega) (by decide) (Nat.le_refl _) ?_; intro A2 c2 w2 hown2 hb2 hoo2)
      go_ret
      exact ⟨A2, c2, 1, by rw [HP.out]; rfl, rfl, by rw [HP.out]; exact own_ints (L := [x.b]) hown2 rfl, HB1.out.trans (hb2.mono HB1.out.size)⟩
  · cases pb
    · go_wp2_with (at_builtin; refine wpList_push rfl _ _ _ rfl Tryd.underlying45 hi hz0 hz1 hz2 rfl (by decide) hown0 rfl rfl rfl (by simp [Value.oneCell']) (by omega) (by decide) (Nat.le_refl _) ?_; intro A2 c2 w2 hown2 hb2 hoo2)
      go_ret
      exact ⟨A2, c2, 1, by rw [HP.out]; rfl, rfl, by rw [HP.out]; exact own_ints (L := [x.a]) hown2 rfl, HB1.out.trans (hb2.mono HB1.out.size)⟩
    · go_upto_region 5 with (at_builtin; refine wpList_push rfl _ _ _ rfl Tryd.underlying45 hi hz0 hz1 hz2 rfl (by decide) hown0 rfl rfl rfl (by simp [Value.oneCell']) (by omega) (by decide) (Nat.le_refl _) ?_; intro A2 c2 w2 hown2 hb2 hoo2)
      clear y1 y2
      have y2 := (HBK1.out.others hoo2 (by decide)).cell 2
      simp only [List.getElem?_toArray, List.getElem?_cons_zero, List.getElem?_cons_succ] at y2
      clear hown0
      go_wp2_with (at_builtin; refine wpList_push rfl _ _ _ rfl Tryd.underlying45 hi hz0 hz1 hz2 rfl (by decide) hown2 rfl rfl rfl (by simp [Value.oneCell']) (by omega) (by decide) hb2.size ?_; intro A3 c3 w3 hown3 hb3 hoo3)
      go_ret
      exact ⟨A3, c3, 2, by rw [HP.out]; rfl, rfl, by rw [HP.out]; exact own_ints (L := [x.a, x.b]) hown3 rfl, (HB1.out.trans (hb2.mono HB1.out.size)).trans (hb3.mono HB1.out.size)⟩
end Go.Proofs.YtpogngdddendiaaDoor

/- The walk over code.may at an instruction that may be. -/
set_option linter.unusedVariables false
set_option linter.unusedSimpArgs false
namespace Go.Proofs.YtpogngdddendiaaDoor
open Go.RowKit

theorem counts_list (op : Int) : ([3, 4, 15, 38, 27] : List Int).contains op = countA op := by
  rw [Bool.eq_iff_iff]
  simp [countA, or_assoc]
theorem places_in {m : Nat} {x : Ins} {n : Int} (h : okI m x = true) (hn : (m : Int) < n) : (placesL x).any (outB n) = false := by
  unfold okI at h
  simp only [Bool.and_eq_true, Bool.or_eq_true, Bool.not_eq_true', decide_eq_true_eq] at h
  obtain ⟨⟨⟨⟨⟨h1, h2⟩, h3⟩, h4⟩, h5⟩, h6⟩ := h
  rw [List.any_eq_false]
  intro i hi
  unfold placesL at hi
  simp only [outB, Bool.or_eq_true, decide_eq_true_eq, not_or]
  rcases List.mem_append.1 hi with hi | hi
  · split at hi
    · rename_i hp
      rw [List.mem_singleton.1 hi]
      have := h3.resolve_left (by rw [hp]; simp)
      omega
    · cases hi
  · split at hi
    · rename_i hp
      rw [List.mem_singleton.1 hi]
      have := h4.resolve_left (by rw [hp]; simp)
      omega
    · cases hi
set_option maxRecDepth 100000 in
set_option maxHeartbeats 4000000 in
theorem may_any (x : Ins) (m : Nat) (n : Int) (w : World) (hok : okI m x = true) (hn : (m : Int) < n) : Calls Tryd.prog 38 #[.agg #[.int .i64 x.op, .int .i64 x.a, .int .i64 x.b, .string ⟨x.s.toArray⟩], .int .i64 n] w (Ret w (.bool true)) := by
  have hany := places_in hok hn
  have hmf : ∀ (fn : Fn) (first cap : Array Value) (w : World), (Instr.makeFunc fn first cap).run Tryd.prog w = .ok (.func fn first cap) w := fun _ _ _ _ => rfl
  obtain ⟨W0, hW0⟩ : ∃ W0, W0 = w.alloc (.cells #[.int .i64 x.op, .int .i64 x.a, .int .i64 x.b, .string ⟨x.s.toArray⟩] 36) := ⟨_, rfl⟩
  have hb0 : Below w.heap.size w W0 := by rw [hW0]; exact (Below.refl _ _).alloc (Nat.le_refl _) _
  have hB0 : Blk W0 w.heap.size 36 #[.int .i64 x.op, .int .i64 x.a, .int .i64 x.b, .string ⟨x.s.toArray⟩] := by rw [hW0]; exact Blk.new w _ _
  have hs0 : W0.heap.size = w.heap.size + 1 := by rw [hW0]; simp
  obtain ⟨W1, hW1⟩ : ∃ W1, W1 = W0.alloc (.cells #[.int .i64 n] 3) := ⟨_, rfl⟩
  have hb1 : Below W0.heap.size W0 W1 := by rw [hW1]; exact (Below.refl _ _).alloc (Nat.le_refl _) _
  have hB1 : Blk W1 (w.heap.size + 1) 3 #[.int .i64 n] := by rw [hW1, ← hs0]; exact Blk.new W0 _ _
  have HBX := Lib.hid (hB0.below hb1)
  have HBN := Lib.hid hB1
  have HB := Lib.hid (hb0.trans (hb1.mono hb0.size))
  unfold okI at hok
  simp only [Bool.and_eq_true, Bool.or_eq_true, Bool.not_eq_true', decide_eq_true_eq] at hok
  obtain ⟨⟨⟨⟨⟨h1, h2⟩, h3⟩, h4⟩, h5⟩, h6⟩ := hok
  have HNM := Lib.hid (fun W => name_any x.op h1 h2 W)
  have hsz := nameS_size x.op h1 h2
  have HPL := Lib.hid (fun W => places_any x W)
  have HCL := Lib.hid (counts_list x.op)
  have HAN := Lib.hid hany
  obtain ⟨c, l, hs⟩ : ∃ c l, nameS x.op.toNat = ⟨(c :: l : List UInt8).toArray⟩ := by
    revert hsz
    generalize nameS x.op.toNat = s
    intro hsz
    obtain ⟨⟨d⟩⟩ := s
    cases d with
    | nil => exact absurd rfl hsz
    | cons c l => exact ⟨c, l, rfl⟩
  rw [hs] at HNM
  clear hs hsz
  have HPN : (placesL x).length ≤ 4000000 := by
    unfold placesL
    split <;> split <;> simp
  generalize placesL x = L at *
  have HLL := Lib.hid HPN
  have y0 := HBX.out.cell 0
  have y1 := HBX.out.cell 1
  have y3 := HBX.out.cell 3
  have yn := HBN.out.cell 0
  simp only [List.getElem?_toArray, List.getElem?_cons_zero, List.getElem?_cons_succ] at y0 y1 y3 yn
  clear h1 h2 h3 h4 hB0 hB1 hb0 hb1 hany HPN hs0
  generalize hq : countA x.op = q at *
  go_enter Tryd.func38, Tryd.ntmps38
  go_upto_region 2 with (fail)
  rw [← hW0, ← hW1]
  clear hW0 hW1
  obtain ⟨W2, hW2⟩ : ∃ W2, W2 = W1.alloc (.cells #[.int .i64 3, .int .i64 4, .int .i64 15, .int .i64 38, .int .i64 27] 3) := ⟨_, rfl⟩
  have hb2 : Below W1.heap.size W1 W2 := by rw [hW2]; exact (Below.refl _ _).alloc (Nat.le_refl _) _
  have HBX2 := Lib.hid (HBX.out.below hb2)
  have HBN2 := Lib.hid (HBN.out.below hb2)
  have HB2 := Lib.hid (HB.out.trans (hb2.mono HB.out.size))
  have HCT := Lib.hid (show Calls Tryd.prog 39 #[.slice (some ⟨W1.heap.size, 0, none⟩) 5 5, .int .i64 x.op] W2 (fun e w' => e = .returned (.bool q) ∧ w' = W2) from by
    refine (contains_any (some ⟨W1.heap.size, 0, none⟩) 5 [3, 4, 15, 38, 27] x.op W2 ?_ (by decide)).mono ?_
    · intro k hk
      refine ⟨W1.heap.size, 0, rfl, by rw [hW2]; simp, fun j u hu => ?_⟩
      have hj : j = 0 := by
        have := (List.getElem?_eq_some_iff.1 hu).1
        simp [intc] at this
        exact this
      subst hj
      rw [hW2, cell_of_row _ _ _ _ _ _ (heap_alloc_new W1 _)]
      have hk' : k < 5 := hk
      rcases k with _ | _ | _ | _ | _ | k
      all_goals first | (simpa [intc] using hu) | omega
    · rintro e w' ⟨he, hw⟩
      rw [HCL.out] at he
      exact ⟨he, hw⟩)
  have v0 := HBX2.out.cell 0
  rw [hW2] at v0
  simp only [List.getElem?_toArray, List.getElem?_cons_zero, List.getElem?_cons_succ] at v0
  have HW2 := Lib.hid hW2
  clear hb2 hW2 y0 y1 y3 yn
  go_wp2_with fail
  rw [← HW2.out]
  refine HCT.out.mono ?_
  rintro e w3 ⟨rfl, rfl⟩
  clear v0 HCT HW2
  have z0 := HBX2.out.cell 0
  simp only [List.getElem?_toArray, List.getElem?_cons_zero, List.getElem?_cons_succ] at z0
  go_wp2_with fail
  refine (HNM.out _).mono ?_
  rintro e w4 ⟨rfl, hb4⟩
  have HBX4 := Lib.hid (HBX2.out.below hb4)
  have HBN4 := Lib.hid (HBN2.out.below hb4)
  have HB4 := Lib.hid (HB2.out.trans (hb4.mono HB2.out.size))
  clear z0 hb4 HNM
  have y0 := HBX4.out.cell 0
  have y1 := HBX4.out.cell 1
  have y2 := HBX4.out.cell 2
  have y3 := HBX4.out.cell 3
  simp only [List.getElem?_toArray, List.getElem?_cons_zero, List.getElem?_cons_succ] at y0 y1 y2 y3
  go_wp2_with fail
  refine (HPL.out _).mono ?_
  rintro e w5 ⟨A, cp, mm, hmm, rfl, hrd, hb5⟩
  have HBX5 := Lib.hid (HBX4.out.below hb5)
  have HB5 := Lib.hid (HB4.out.trans (hb5.mono HB4.out.size))
  have HBN5 := HBN4.out.below hb5
  have HCF := Lib.hid (ctf_ints A cp mm L (w.heap.size + 1) n w5 hmm hrd HLL.out (by have := HBN5.cell 0; simpa using this))
  rw [HAN.out] at HCF
  clear y0 y1 y2 y3 hb5 hrd HBN5 HPL hmm
  go_wp2_with fail
  refine HCF.out.mono ?_
  rintro e w6 ⟨rfl, rfl⟩
  have y1 := HBX5.out.cell 1
  have y3 := HBX5.out.cell 3
  simp only [List.getElem?_toArray, List.getElem?_cons_zero, List.getElem?_cons_succ] at y1 y3
  clear HCF
  cases q
  · go_wp2_with fail
    go_ret
    exact ⟨name_ret (by simp; try omega), HB5.out⟩
  · have ha : 0 ≤ x.a := by rcases h5 with h | h; cases h; exact h
    go_wp2_with fail
    go_ret
    exact ⟨name_ret (by simp; try omega), HB5.out⟩
end Go.Proofs.YtpogngdddendiaaDoor
