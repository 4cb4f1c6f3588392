/- The walks over code.Name and code.may at any instruction. A bound on the length. -/
import Derived.Test.YtpogngdddendiaaDoorGF
set_option linter.unusedVariables false
set_option linter.unusedSimpArgs false
namespace Go.Proofs.YtpogngdddendiaaDoor
open Go.RowKit

def inOp (op : Int) : Bool := decide (1 ≤ op) && decide (op ≤ 41)
/-- An instruction's name; none where there is no such instruction. -/
def nameO (op : Int) : ByteArray := if inOp op = true then nameS op.toNat else ⟨#[]⟩
set_option maxRecDepth 100000 in
set_option maxHeartbeats 2000000 in
theorem name_all (op : Int) (w : World) : Calls Tryd.prog 29 #[.int .i64 op] w (Ret w (.string (nameO op))) := by
  by_cases h1 : 1 ≤ op
  · by_cases h2 : op ≤ 41
    · have he : nameO op = nameS op.toNat := by unfold nameO inOp; rw [decide_eq_true h1, decide_eq_true h2]; rfl
      rw [he]
      exact name_any op h1 h2 w
    · have he : nameO op = ⟨#[]⟩ := by unfold nameO inOp; rw [decide_eq_false h2, Bool.and_false]; rfl
      rw [he]
      clear he
      go_enter Tryd.func29, Tryd.ntmps29
      go_wp2_with fail
      go_ret
      exact ⟨rfl, Below.refl _ _⟩
  · have he : nameO op = ⟨#[]⟩ := by unfold nameO inOp; rw [decide_eq_false h1]; rfl
    rw [he]
    clear he
    go_enter Tryd.func29, Tryd.ntmps29
    go_wp2_with fail
    go_ret
    exact ⟨rfl, Below.refl _ _⟩
/-- Are its places in a code of so many? -/
def placesIn (m : Nat) (x : Ins) : Bool := (!placeA x.op || decide (0 ≤ x.a) && decide (x.a ≤ m)) && (!placeB x.op || decide (0 ≤ x.b) && decide (x.b ≤ m))
theorem okI_eq (m : Nat) (x : Ins) : okI m x = (inOp x.op && placesIn m x && (!countA x.op || decide (0 ≤ x.a)) && decide (x.s.length ≤ 2000)) := by
  unfold okI inOp placesIn
  simp only [Bool.and_assoc]
theorem outB_eq (m : Nat) (i : Int) : outB ((m : Int) + 1) i = !(decide (0 ≤ i) && decide (i ≤ m)) := by
  unfold outB
  by_cases h1 : i < 0
  · simp [h1, show ¬ (0 ≤ i) by omega]
  · by_cases h2 : i ≤ m
    · simp [h1, h2, show 0 ≤ i by omega, show ¬ ((m : Int) + 1 ≤ i) by omega]
    · simp [h1, h2, show 0 ≤ i by omega, show (m : Int) + 1 ≤ i by omega]
theorem places_out (m : Nat) (x : Ins) : (placesL x).any (outB ((m : Int) + 1)) = !placesIn m x := by
  unfold placesL placesIn
  rw [List.any_append]
  cases placeA x.op <;> cases placeB x.op <;> simp [outB_eq]

set_option maxRecDepth 100000 in
set_option maxHeartbeats 4000000 in
theorem may_all (x : Ins) (m : Nat) (w : World) (hm : m ≤ 4000000) (hsl : x.s.length ≤ 4000000) : Calls Tryd.prog 38 #[.agg #[.int .i64 x.op, .int .i64 x.a, .int .i64 x.b, .string ⟨x.s.toArray⟩], .int .i64 ((m : Int) + 1)] w (Ret w (.bool (okI m x))) := by
  have hany := places_out m x
  have HOKE := Lib.hid (okI_eq m x)
  generalize hokv : okI m x = okv at *
  clear hokv
  have hin0 : inOp x.op = true → (nameO x.op).size ≠ 0 := fun h => by
    unfold nameO
    rw [if_pos h]
    unfold inOp at h
    simp only [Bool.and_eq_true, decide_eq_true_eq] at h
    exact nameS_size x.op h.1 h.2
  have hin1 : inOp x.op = false → nameO x.op = ⟨#[]⟩ := fun h => by unfold nameO; rw [if_neg (by rw [h]; exact Bool.noConfusion)]
  obtain ⟨n, hn⟩ : ∃ n : Int, n = (m : Int) + 1 := ⟨_, rfl⟩
  rw [← hn] at hany ⊢
  clear hn
  have hmf : ∀ (fn : Fn) (first cap : Array Value) (w : World), (Instr.makeFunc fn first cap).run Tryd.prog w = .ok (.func fn first cap) w := fun _ _ _ _ => rfl
  obtain ⟨W0, hW0⟩ : ∃ W0, W0 = w.alloc (.cells #[.int .i64 x.op, .int .i64 x.a, .int .i64 x.b, .string ⟨x.s.toArray⟩] 36) := ⟨_, rfl⟩
  have hb0 : Below w.heap.size w W0 := by rw [hW0]; exact (Below.refl _ _).alloc (Nat.le_refl _) _
  have hB0 : Blk W0 w.heap.size 36 #[.int .i64 x.op, .int .i64 x.a, .int .i64 x.b, .string ⟨x.s.toArray⟩] := by rw [hW0]; exact Blk.new w _ _
  have hs0 : W0.heap.size = w.heap.size + 1 := by rw [hW0]; simp
  obtain ⟨W1, hW1⟩ : ∃ W1, W1 = W0.alloc (.cells #[.int .i64 n] 3) := ⟨_, rfl⟩
  have hb1 : Below W0.heap.size W0 W1 := by rw [hW1]; exact (Below.refl _ _).alloc (Nat.le_refl _) _
  have hB1 : Blk W1 (w.heap.size + 1) 3 #[.int .i64 n] := by rw [hW1, ← hs0]; exact Blk.new W0 _ _
  have HBX := Lib.hid (hB0.below hb1)
  have HBN := Lib.hid hB1
  have HB := Lib.hid (hb0.trans (hb1.mono hb0.size))
  have HNM := Lib.hid (fun W => name_all x.op W)
  have HPL := Lib.hid (fun W => places_any x W)
  have HCL := Lib.hid (counts_list x.op)
  have HAN := Lib.hid hany
  have HI0 := Lib.hid hin0
  have HI1 := Lib.hid hin1
  obtain ⟨nm, hnm⟩ : ∃ nm, nameO x.op = nm := ⟨_, rfl⟩
  rw [hnm] at HNM HI0 HI1
  clear hnm
  have HPN : (placesL x).length ≤ 4000000 := by
    unfold placesL
    split <;> split <;> simp
  generalize placesL x = L at *
  have HLL := Lib.hid HPN
  have y0 := HBX.out.cell 0
  have y1 := HBX.out.cell 1
  have y3 := HBX.out.cell 3
  have yn := HBN.out.cell 0
  simp only [List.getElem?_toArray, List.getElem?_cons_zero, List.getElem?_cons_succ] at y0 y1 y3 yn
  clear hB0 hB1 hb0 hb1 hany HPN hs0 hin0 hin1
  generalize placesIn m x = pin at *
  generalize hq : countA x.op = q at *
  go_enter Tryd.func38, Tryd.ntmps38
  go_upto_region 2 with (fail)
  rw [← hW0, ← hW1]
  clear hW0 hW1
  obtain ⟨W2, hW2⟩ : ∃ W2, W2 = W1.alloc (.cells #[.int .i64 3, .int .i64 4, .int .i64 15, .int .i64 38, .int .i64 27] 3) := ⟨_, rfl⟩
  have hb2 : Below W1.heap.size W1 W2 := by rw [hW2]; exact (Below.refl _ _).alloc (Nat.le_refl _) _
  have HBX2 := Lib.hid (HBX.out.below hb2)
  have HBN2 := Lib.hid (HBN.out.below hb2)
  have HB2 := Lib.hid (HB.out.trans (hb2.mono HB.out.size))
  have HCT := Lib.hid (show Calls Tryd.prog 39 #[.slice (some ⟨W1.heap.size, 0, none⟩) 5 5, .int .i64 x.op] W2 (fun e w' => e = .returned (.bool q) ∧ w' = W2) from by
    refine (contains_any (some ⟨W1.heap.size, 0, none⟩) 5 [3, 4, 15, 38, 27] x.op W2 ?_ (by decide)).mono ?_
    · intro k hk
      refine ⟨W1.heap.size, 0, rfl, by rw [hW2]; simp, fun j u hu => ?_⟩
      have hj : j = 0 := by
        have := (List.getElem?_eq_some_iff.1 hu).1
        simp [intc] at this
        exact this
      subst hj
      rw [hW2, cell_of_row _ _ _ _ _ _ (heap_alloc_new W1 _)]
      have hk' : k < 5 := hk
      rcases k with _ | _ | _ | _ | _ | k
      all_goals first | (simpa [intc] using hu) | omega
    · rintro e w' ⟨he, hw⟩
      rw [HCL.out] at he
      exact ⟨he, hw⟩)
  have v0 := HBX2.out.cell 0
  rw [hW2] at v0
  simp only [List.getElem?_toArray, List.getElem?_cons_zero, List.getElem?_cons_succ] at v0
  have HW2 := Lib.hid hW2
  clear hb2 hW2 y0 y1 y3 yn
  go_wp2_with fail
  rw [← HW2.out]
  refine HCT.out.mono ?_
  rintro e w3 ⟨rfl, rfl⟩
  clear v0 HCT HW2
  have z0 := HBX2.out.cell 0
  simp only [List.getElem?_toArray, List.getElem?_cons_zero, List.getElem?_cons_succ] at z0
  cases hio : inOp x.op
  · have hne := HI1.out hio
    subst hne
    have HF := Lib.hid (show okv = false by rw [HOKE.out, hio]; rfl)
    clear hio
    go_wp2_with fail
    refine (HNM.out _).mono ?_
    rintro e w4 ⟨rfl, hb4⟩
    have HB4 := Lib.hid (HB2.out.trans (hb4.mono HB2.out.size))
    go_wp2_with fail
    go_ret
    exact ⟨by rw [HF.out]; rfl, HB4.out⟩
  obtain ⟨c, l, hs⟩ : ∃ c l, nm = ⟨(c :: l : List UInt8).toArray⟩ := by
    have hsz := HI0.out hio
    revert hsz
    generalize nm = s
    intro hsz
    obtain ⟨⟨d⟩⟩ := s
    cases d with
    | nil => exact absurd rfl hsz
    | cons c l => exact ⟨c, l, rfl⟩
  subst hs
  have HOK2 := Lib.hid (show okv = (pin && (!q || decide (0 ≤ x.a)) && decide (x.s.length ≤ 2000)) by rw [HOKE.out, hio, Bool.true_and])
  clear hio HI0 HI1 HOKE
  go_wp2_with fail
  refine (HNM.out _).mono ?_
  rintro e w4 ⟨rfl, hb4⟩
  have HBX4 := Lib.hid (HBX2.out.below hb4)
  have HBN4 := Lib.hid (HBN2.out.below hb4)
  have HB4 := Lib.hid (HB2.out.trans (hb4.mono HB2.out.size))
  clear z0 hb4 HNM
  have y0 := HBX4.out.cell 0
  have y1 := HBX4.out.cell 1
  have y2 := HBX4.out.cell 2
  have y3 := HBX4.out.cell 3
  simp only [List.getElem?_toArray, List.getElem?_cons_zero, List.getElem?_cons_succ] at y0 y1 y2 y3
  go_wp2_with fail
  refine (HPL.out _).mono ?_
  rintro e w5 ⟨A, cp, mm, hmm, rfl, hrd, hb5⟩
  have HBX5 := Lib.hid (HBX4.out.below hb5)
  have HB5 := Lib.hid (HB4.out.trans (hb5.mono HB4.out.size))
  have HBN5 := HBN4.out.below hb5
  have HCF := Lib.hid (ctf_ints A cp mm L (w.heap.size + 1) n w5 hmm hrd HLL.out (by have := HBN5.cell 0; simpa using this))
  rw [HAN.out] at HCF
  clear y0 y1 y2 y3 hb5 hrd HBN5 HPL hmm
  go_wp2_with fail
  refine HCF.out.mono ?_
  rintro e w6 ⟨rfl, rfl⟩
  have y1 := HBX5.out.cell 1
  have y3 := HBX5.out.cell 3
  simp only [List.getElem?_toArray, List.getElem?_cons_zero, List.getElem?_cons_succ] at y1 y3
  clear HCF
  cases pin
  · have HF := Lib.hid (show okv = false by rw [HOK2.out]; rfl)
    go_wp2_with fail
    go_ret
    exact ⟨by rw [HF.out]; rfl, HB5.out⟩
  have hlen : x.s.length ≤ 4000000 := hsl
  by_cases hle : x.s.length ≤ 2000
  · have g1 : decide ((x.s.length : Int) ≤ 2000) = true := decide_eq_true (by omega)
    cases q
    · have HF := Lib.hid (show okv = true by rw [HOK2.out, decide_eq_true hle]; rfl)
      clear hle hlen hsl
      go_wp2_with fail
      go_ret
      exact ⟨by rw [HF.out]; rfl, HB5.out⟩
    · by_cases ha : 0 ≤ x.a
      · have HF := Lib.hid (show okv = true by rw [HOK2.out, decide_eq_true hle, decide_eq_true ha]; rfl)
        clear hle hlen hsl
        go_wp2_with fail
        go_ret
        exact ⟨by rw [HF.out]; rfl, HB5.out⟩
      · have HF := Lib.hid (show okv = false by rw [HOK2.out, decide_eq_false ha]; rfl)
        clear hle hlen hsl
        go_wp2_with fail
        go_ret
        exact ⟨by rw [HF.out]; rfl, HB5.out⟩
  · have g1 : decide ((x.s.length : Int) ≤ 2000) = false := decide_eq_false (by omega)
    have HF := Lib.hid (show okv = false by rw [HOK2.out, decide_eq_false hle, Bool.and_false])
    clear hle hlen hsl
    cases q
    · go_wp2_with fail
      go_ret
      exact ⟨by rw [HF.out]; rfl, HB5.out⟩
    · by_cases ha : 0 ≤ x.a
      · go_wp2_with fail
        go_ret
        exact ⟨by rw [HF.out]; rfl, HB5.out⟩
      · go_wp2_with fail
        go_ret
        exact ⟨by rw [HF.out]; rfl, HB5.out⟩
end Go.Proofs.YtpogngdddendiaaDoor
