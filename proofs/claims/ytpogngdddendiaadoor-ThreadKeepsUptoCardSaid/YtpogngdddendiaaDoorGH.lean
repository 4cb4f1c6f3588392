/- The walks over code.Name and code.may at any instruction. A bound on the length. -/
import Derived.Test.YtpogngdddendiaaDoorGF
import Derived.Test.YtpogngdddendiaaDoorGM
set_option linter.unusedVariables false
set_option linter.unusedSimpArgs false
namespace Go.Proofs.YtpogngdddendiaaDoor
open Go.RowKit

def inOp (op : Int) : Bool := decide (1 ≤ op) && decide (op ≤ 41)
/-- An instruction's name; none where there is no such instruction. -/
def nameO (op : Int) : ByteArray := if inOp op = true then nameS op.toNat else ⟨#[]⟩
set_option maxRecDepth 100000 in
set_option maxHeartbeats 2000000 in
theorem name_all (op : Int) (w : World) : Calls Tryd.prog 29 #[.int .i64 op] w (Ret w (.string (nameO op))) := by
  by_cases h1 : 1 ≤ op
  · by_cases h2 : op ≤ 41
    · have he : nameO op = nameS op.toNat := by unfold nameO inOp; rw [decide_eq_true h1, decide_eq_true h2]; rfl
      rw [he]
      exact name_any op h1 h2 w
    · have he : nameO op = ⟨#[]⟩ := by unfold nameO inOp; rw [decide_eq_false h2, Bool.and_false]; rfl
      rw [he]
      clear he
      go_enter Tryd.func29, Tryd.ntmps29
      go_wp2_with fail
      go_ret
      exact ⟨rfl, Below.refl _ _⟩
  · have he : nameO op = ⟨#[]⟩ := by unfold nameO inOp; rw [decide_eq_false h1]; rfl
    rw [he]
    clear he
    go_enter Tryd.func29, Tryd.ntmps29
    go_wp2_with fail
    go_ret
    exact ⟨rfl, Below.refl _ _⟩
/-- Are its places in a code of so many? -/
def placesIn (m : Nat) (x : Ins) : Bool := (!placeA x.op || decide (0 ≤ x.a) && decide (x.a ≤ m)) && (!placeB x.op || decide (0 ≤ x.b) && decide (x.b ≤ m))
theorem okI_eq (m : Nat) (x : Ins) : okI m x = (inOp x.op && placesIn m x && (!countA x.op || decide (0 ≤ x.a)) && decide (x.s.length ≤ 2000)) := by
  unfold okI inOp placesIn
  simp only [Bool.and_assoc]
theorem outB_eq (m : Nat) (i : Int) : outB ((m : Int) + 1) i = !(decide (0 ≤ i) && decide (i ≤ m)) := by
  unfold outB
  by_cases h1 : i < 0
  · simp [h1, show ¬ (0 ≤ i) by omega]
  · by_cases h2 : i ≤ m
    · simp [h1, h2, show 0 ≤ i by omega, show ¬ ((m : Int) + 1 ≤ i) by omega]
    · simp [h1, h2, show 0 ≤ i by omega, show (m : Int) + 1 ≤ i by omega]
theorem places_out (m : Nat) (x : Ins) : (placesL x).any (outB ((m : Int) + 1)) = !placesIn m x := by
  unfold placesL placesIn
  rw [List.any_append]
  cases placeA x.op <;> cases placeB x.op <;> simp [outB_eq]

set_option maxRecDepth 100000 in
set_option maxHeartbeats 4000000 in
theorem may_all (x : Ins) (m : Nat) (w : World) (hm : m ≤ 4000000) (hsl : x.s.length ≤ 4000000) : Calls Tryd.prog 38 #[.agg #[.int .i64 x.op, .int .i64 x.a, .int .i64 x.b, .string ⟨x.s.toArray⟩], .int .i64 ((m : Int) + 1)] w (Ret w (.bool (okI m x))) := by
  have hany := places_out m x
  have HOKE := Lib.hid (okI_eq m x)
  generalize hokv : okI m x = okv at *
  clear hokv
  have hin0 : inOp x.op = true → (nameO x.op).size ≠ 0 := fun h => by
    unfold nameO
    rw [if_pos h]
    unfold inOp at h
    simp only [Bool.and_eq_true, decide_eq_true_eq] at h
    exact nameS_size x.op h.1 h.2
  have hin1 : inOp x.op = false → nameO x.op = ⟨#[]⟩ := fun h => by unfold nameO; rw [if_neg (by rw [h]; exact Bool.noConfusion)]
  obtain ⟨n, hn⟩ : ∃ n : Int, n = (m : Int) + 1 := ⟨_, rfl⟩
  rw [← hn] at hany ⊢
  clear hn
  have hmf : ∀ (fn : Fn) (first cap : Array Value) (w : World), (Instr.makeFunc fn first cap).run Tryd.prog w = .ok (.func fn first cap) w := fun _ _ _ _ => rfl
  obtain ⟨W0, hW0⟩ : ∃ W0, W0 = w.alloc (.cells #[.int .i64 x.op, .int .i64 x.a, .int .i64 x.b, .string ⟨x.s.toArray⟩] 36) := ⟨_, rfl⟩
  have hb0 : Below w.heap.size w W0 := by rw [hW0]; exact (Below.refl _ _).alloc (Nat.le_refl _) _
  have hB0 : Blk W0 w.heap.size 36 #[.int .i64 x.op, .int .i64 x.a, .int .i64 x.b, .string ⟨x.s.toArray⟩] := by rw [hW0]; exact Blk.new w _ _
  have hs0 : W0.heap.size = w.heap.size + 1 := by rw [hW0]; simp
  obtain ⟨W1, hW1⟩ : ∃ W1, W1 = W0.alloc (.cells #[.int .i64 n] 3) := ⟨_, rfl⟩
  have hb1 : Below W0.heap.size W0 W1 := by rw [hW1]; exact (Below.refl _ _).alloc (Nat.le_refl _) _
  have hB1 : Blk W1 (w.heap.size + 1) 3 #[.int .i64 n] := by rw [hW1, ← hs0]; exact Blk.new W0 _ _
  have HBX := Lib.hid (hB0.below hb1)
  have HBN := Lib.hid hB1
  have HB := Lib.hid (hb0.trans (hb1.mono hb0.size))
  have HNM := Lib.hid (fun W => name_all x.op W)
  have HPL := Lib.hid (fun W => places_any x W)
  have HCL := Lib.hid (counts_list x.op)
  have HAN := Lib.hid hany
  have HI0 := Lib.hid hin0
  have HI1 := Lib.hid hin1
  obtain ⟨nm, hnm⟩ : ∃ nm, nameO x.op = nm := ⟨_, rfl⟩
  rw [hnm] at HNM HI0 HI1
  clear hnm
  have HPN : (placesL x).length ≤ 4000000 := by
    unfold placesL
    split <;> split <;> simp
  generalize placesL x = L at *
  have HLL := Lib.hid HPN
  have y0 := HBX.out.cell 0
  have y1 := HBX.out.cell 1
  have y3 := HBX.out.cell 3
  have yn := HBN.out.cell 0
  simp only [List.getElem?_toArray, List.getElem?_cons_zero, List.getElem?_cons_succ] at y0 y1 y3 yn
  clear hB0 hB1 hb0 hb1 hany HPN hs0 hin0 hin1
  generalize placesIn m x = pin at *
  generalize hq : countA x.op = q at *
  go_enter Tryd.func38, Tryd.ntmps38
  go_upto_region 2 with (fail)
  rw [← hW0, ← hW1]
  clear hW0 hW1
  obtain ⟨W2, hW2⟩ : ∃ W2, W2 = W1.alloc (.cells #[.int .i64 3, .int .i64 4, .int .i64 15, .int .i64 38, .int .i64 27] 3) := ⟨_, rfl⟩
  have hb2 : Below W1.heap.size W1 W2 := by rw [hW2]; exact (Below.refl _ _).alloc (Nat.le_refl _) _
  have HBX2 := Lib.hid (HBX.out.below hb2)
  have HBN2 := Lib.hid (HBN.out.below hb2)
  have HB2 := Lib.hid (HB.out.trans (hb2.mono HB.out.size))
  have HCT := Lib.hid (show Calls Tryd.prog 39 #[.slice (some ⟨W1.heap.size, 0, none⟩) 5 5, .int .i64 x.op] W2 (fun e w' => e = .returned (.bool q) ∧ w' = W2) from by
    refine (contains_any (some ⟨W1.heap.size, 0, none⟩) 5 [3, 4, 15, 38, 27] x.op W2 ?_ (by decide)).mono ?_
    · intro k hk
      refine ⟨W1.heap.size, 0, rfl, by rw [hW2]; simp, fun j u hu => ?_⟩
      have hj : j = 0 := by
        have := (List.getElem?_eq_some_iff.1 hu).1
        simp [intc] at this
        exact this
      subst hj
      rw [hW2, cell_of_row _ _ _ _ _ _ (heap_alloc_new W1 _)]
      have hk' : k < 5 := hk
      rcases k with _ | _ | _ | _ | _ | k
      all_goals first | (simpa [intc] using hu) | omega
    · rintro e w' ⟨he, hw⟩
      rw [HCL.out] at he
      exact ⟨he, hw⟩)
  have v0 := HBX2.out.cell 0
  rw [hW2] at v0
  simp only [List.getElem?_toArray, List.getElem?_cons_zero, List.getElem?_cons_succ] at v0
  have HW2 := Lib.hid hW2
  clear hb2 hW2 y0 y1 y3 yn
  go_wp2_with fail
  rw [← HW2.out]
  refine HCT.out.mono ?_
  rintro e w3 ⟨rfl, rfl⟩
  clear v0 HCT HW2
  have z0 := HBX2.out.cell 0
  simp only [List.getElem?_toArray, List.getElem?_cons_zero, List.getElem?_cons_succ] at z0
  cases hio : inOp x.op
  · have hne := HI1.out hio
    subst hne
    have HF := Lib.hid (show okv = false by rw [HOKE.out, hio]; rfl)
    clear hio
    go_wp2_with fail
    refine (HNM.out _).mono ?_
    rintro e w4 ⟨rfl, hb4⟩
    have HB4 := Lib.hid (HB2.out.trans (hb4.mono HB2.out.size))
    go_wp2_with fail
    go_ret
    exact ⟨by rw [HF.out]; rfl, HB4.out⟩
  obtain ⟨c, l, hs⟩ : ∃ c l, nm = ⟨(c :: l : List UInt8).toArray⟩ := by
    have hsz := HI0.out hio
    revert hsz
    generalize nm = s
    intro hsz
    obtain ⟨⟨d⟩⟩ := s
    cases d with
    | nil => exact absurd rfl hsz
    | cons c l => exact ⟨c, l, rfl⟩
  subst hs
  have HOK2 := Lib.hid (show okv = (pin && (!q || decide (0 ≤ x.a)) && decide (x.s.length ≤ 2000)) by rw [HOKE.out, hio, Bool.true_and])
  clear hio HI0 HI1 HOKE
  go_wp2_with fail
  refine (HNM.out _).mono ?_
  rintro e w4 ⟨rfl, hb4⟩
  have HBX4 := Lib.hid (HBX2.out.below hb4)
  have HBN4 := Lib.hid (HBN2.out.below hb4)
  have HB4 := Lib.hid (HB2.out.trans (hb4.mono HB2.out.size))
  clear z0 hb4 HNM
  have y0 := HBX4.out.cell 0
  have y1 := HBX4.out.cell 1
  have y2 := HBX4.out.cell 2
  have y3 := HBX4.out.cell 3
  simp only [List.getElem?_toArray, List.getElem?_cons_zero, List.getElem?_cons_succ] at y0 y1 y2 y3
  go_wp2_with fail
  refine (HPL.out _).mono ?_
  rintro e w5 ⟨A, cp, mm, hmm, rfl, hrd, hb5⟩
  have HBX5 := Lib.hid (HBX4.out.below hb5)
  have HB5 := Lib.hid (HB4.out.trans (hb5.mono HB4.out.size))
  have HBN5 := HBN4.out.below hb5
  have HCF := Lib.hid (ctf_ints A cp mm L (w.heap.size + 1) n w5 hmm hrd HLL.out (by have := HBN5.cell 0; simpa using this))
  rw [HAN.out] at HCF
  clear y0 y1 y2 y3 hb5 hrd HBN5 HPL hmm
  go_wp2_with fail
  refine HCF.out.mono ?_
  rintro e w6 ⟨rfl, rfl⟩
  have y1 := HBX5.out.cell 1
  have y3 := HBX5.out.cell 3
  simp only [List.getElem?_toArray, List.getElem?_cons_zero, List.getElem?_cons_succ] at y1 y3
  clear HCF
  cases pin
  · have HF := Lib.hid (show okv = false by rw [HOK2.out]; rfl)
    go_wp2_with fail
    go_ret
    exact ⟨by rw [HF.out]; rfl, HB5.out⟩
  have hlen : x.s.length ≤ 4000000 := hsl
  by_cases hle : x.s.length ≤ 2000
  · have g1 : decide ((x.s.length : Int) ≤ 2000) = true := decide_eq_true (by omega)
    cases q
    · have HF := Lib.hid (show okv = true by rw [HOK2.out, decide_eq_true hle]; rfl)
      clear hle hlen hsl
      go_wp2_with fail
      go_ret
      exact ⟨by rw [HF.out]; rfl, HB5.out⟩
    · by_cases ha : 0 ≤ x.a
      · have HF := Lib.hid (show okv = true by rw [HOK2.out, decide_eq_true hle, decide_eq_true ha]; rfl)
        clear hle hlen hsl
        go_wp2_with fail
        go_ret
        exact ⟨by rw [HF.out]; rfl, HB5.out⟩
      · have HF := Lib.hid (show okv = false by rw [HOK2.out, decide_eq_false ha]; rfl)
        clear hle hlen hsl
        go_wp2_with fail
        go_ret
        exact ⟨by rw [HF.out]; rfl, HB5.out⟩
  · have g1 : decide ((x.s.length : Int) ≤ 2000) = false := decide_eq_false (by omega)
    have HF := Lib.hid (show okv = false by rw [HOK2.out, decide_eq_false hle, Bool.and_false])
    clear hle hlen hsl
    cases q
    · go_wp2_with fail
      go_ret
      exact ⟨by rw [HF.out]; rfl, HB5.out⟩
    · by_cases ha : 0 ≤ x.a
      · go_wp2_with fail
        go_ret
        exact ⟨by rw [HF.out]; rfl, HB5.out⟩
      · go_wp2_with fail
        go_ret
        exact ⟨by rw [HF.out]; rfl, HB5.out⟩
end Go.Proofs.YtpogngdddendiaaDoor

/- The walk over code.Check at any code of at most so many instructions: nil, or the fault. -/
set_option linter.unusedVariables false
set_option linter.unusedSimpArgs false
namespace Go.Proofs.YtpogngdddendiaaDoor
open Go.RowKit

def endsB (op : Int) : Bool := op == 41 || op == 40 || op == 18
/-- Is an instruction amiss in a code of m? -/
def badI (m k : Nat) (x : Ins) : Bool := !okI (m - 1) x || (k + 1 == m && !endsB x.op)
def firstBad (m : Nat) : Nat → List Ins → Option Nat
  | _, [] => none
  | k, x :: xs => if badI m k x = true then some k else firstBad m (k + 1) xs
/-- P22.1 as plain data: the error's kind and place. -/
def ofBad : Option Nat → Int × List Int
  | none => (0, [])
  | some i => (116, [(i : Int)])
def faultC (X : List Ins) (st : Int) : Int × List Int := if X.length = 0 ∨ st < 0 ∨ 9000 < st then (111, []) else ofBad (firstBad X.length 0 X)
def ErrRet (L : List Addr) (code : Int) (ats : List Int) (w : World) (e : Ending) (w' : World) : Prop :=
  ∃ v, e = .returned v ∧ ErrV w' L v code ats ∧ (code = 0 → v = .nilIface) ∧ (code ≠ 0 → ∃ a, v = .iface 226 (.pointer (some a)) ∨ v = .iface 81 (.pointer (some a))) ∧ Below w.heap.size w w'
theorem new2E (w : World) (a b : Value) : (w.alloc (.cells #[a, b] 83)).cell? ⟨w.heap.size, 0, none⟩ = some a ∧ (w.alloc (.cells #[a, b] 83)).cell? ⟨w.heap.size, 1, none⟩ = some b ∧ True := by
  have h0 := Blk.new w 83 #[a, b]
  have q0 := h0.cell 0
  have q1 := h0.cell 1
  simp only [List.getElem?_toArray, List.getElem?_cons_zero, List.getElem?_cons_succ] at q0 q1
  exact ⟨q0, q1, trivial⟩
set_option maxRecDepth 100000 in
set_option maxHeartbeats 4000000 in
theorem ccheck_all (A : Option Addr) (c : Nat) (st : Int) (X : List Ins) (L : List Addr) (w : World) (hlen : X.length ≤ 9000) (hs : ∀ x ∈ X, x.s.length ≤ 4000000) (hrd : RdL w 4 insc A X) (hS : SenW w L) :
    Calls Tryd.prog 13 #[.agg #[.slice A X.length c, .int .i64 st]] w (ErrRet L (faultC X st).1 (faultC X st).2 w) := by
  obtain ⟨m, hm⟩ : ∃ m, m = X.length := ⟨_, rfl⟩
  have HFC0 := Lib.hid (show faultC X st = if m = 0 ∨ st < 0 ∨ 9000 < st then ((111 : Int), ([] : List Int)) else ofBad (firstBad m 0 X) by rw [hm]; rfl)
  rw [← hm] at hlen ⊢
  have HM := Lib.hid hm
  obtain ⟨W0, hW0⟩ : ∃ W0, W0 = w.alloc (.cells #[.slice A m c, .int .i64 st] 29) := ⟨_, rfl⟩
  have hb0 : Below w.heap.size w W0 := by rw [hW0]; exact (Below.refl _ _).alloc (Nat.le_refl _) _
  have hB0 : Blk W0 w.heap.size 29 #[.slice A m c, .int .i64 st] := by rw [hW0]; exact Blk.new w _ _
  have HB := Lib.hid hb0
  have HBK := Lib.hid hB0
  have HRD := Lib.hid (hrd.below hb0)
  have HSL := Lib.hid hs
  have HSEN := Lib.hid (hS.below hb0)
  have hl := hS.len
  have hM := List.getElem?_eq_getElem (show 10 < L.length by omega)
  have hC := List.getElem?_eq_getElem (show 15 < L.length by omega)
  obtain ⟨aM, haM⟩ : ∃ aM, L[10] = aM := ⟨_, rfl⟩
  obtain ⟨aC, haC⟩ : ∃ aC, L[15] = aC := ⟨_, rfl⟩
  rw [haM] at hM
  rw [haC] at hC
  have HAM := Lib.hid hM
  have HAC := Lib.hid hC
  have y0 := hB0.cell 0
  have y1 := hB0.cell 1
  have gm := (hS.below hb0).var 10 _ aM rfl hM
  unfold sentV at gm
  simp only [List.getElem?_toArray, List.getElem?_cons_zero, List.getElem?_cons_succ] at y0 y1
  obtain ⟨B, hB⟩ : ∃ B, B = w.heap.size := ⟨_, rfl⟩
  have HMANY := Lib.hid (show ∀ W v, Below w.heap.size w W → v = .iface 226 (.pointer (some aM)) → faultC X st = (111, []) → ErrRet L (faultC X st).1 (faultC X st).2 w (.returned v) W from fun W v hb hv hf => by
    rw [hf]
    exact ⟨v, rfl, .inr (.inl ⟨10, aM, hM, hv, rfl, rfl⟩), fun h => absurd h (by decide), fun _ => ⟨aM, .inl hv⟩, hb⟩)
  clear hm hb0 hB0 hrd hs hS hl hM hC haM haC
  go_enter Tryd.func13, Tryd.ntmps13
  go_upto_region 1 with (fail)
  rw [← hW0]
  clear hW0
  rw [← hB] at y0 y1 HBK ⊢
  clear hB
  rcases Nat.eq_zero_or_pos m with h0 | h0
  · subst h0
    have HF := Lib.hid (show faultC X st = (111, []) by rw [HFC0.out, if_pos (.inl rfl)])
    go_wp2_with fail
    go_ret
    exact HMANY.out _ _ HB.out rfl HF.out
  have b1 : ((m : Int) == 0) = false := by simp; omega
  have b2 : decide ((9000 : Int) < (m : Int)) = false := decide_eq_false (by omega)
  by_cases hst1 : st < 0
  · have HF := Lib.hid (show faultC X st = (111, []) by rw [HFC0.out, if_pos (.inr (.inl hst1))])
    go_wp2_with fail
    go_ret
    exact HMANY.out _ _ HB.out rfl HF.out
  by_cases hst2 : 9000 < st
  · have HF := Lib.hid (show faultC X st = (111, []) by rw [HFC0.out, if_pos (.inr (.inr hst2))])
    go_wp2_with fail
    go_ret
    exact HMANY.out _ _ HB.out rfl HF.out
  have HFC := Lib.hid (show faultC X st = ofBad (firstBad m 0 X) by rw [HFC0.out, if_neg (by omega)])
  clear HFC0 HMANY gm
  go_upto_region 3 with (fail)
  clear y0 y1
  have y0 := HBK.out.cell 0
  simp only [List.getElem?_toArray, List.getElem?_cons_zero, List.getElem?_cons_succ] at y0
  clear hst1 hst2 b2
  go_wp2_with fail
  clear y0
  go_loopw [30] (fun i wr => ∃ k : Nat, k ≤ m ∧ i = .int .i64 k ∧ Hid (Below W0.heap.size W0 wr) ∧ Hid (firstBad m k (X.drop k) = firstBad m 0 X)) (fun i _ => m - (intOf i).toNat)
  case atStart => exact ⟨0, Nat.zero_le _, rfl, Lib.hid (Below.refl _ _), Lib.hid rfl⟩
  case round =>
    obtain ⟨k, hk, rfl, HR, HFB⟩ := hrel
    by_cases hlt : k < m
    · have hkL : k < X.length := by rw [← HM.out]; exact hlt
      obtain ⟨b, o, rfl, _, hcell⟩ := (HRD.out.below HR.out) k hkL
      obtain ⟨x, hx⟩ : ∃ x, x = X[k] := ⟨_, rfl⟩
      have hdr := List.drop_eq_getElem_cons hkL
      rw [← hx] at hcell hdr
      have HFS := Lib.hid (show firstBad m k (X.drop k) = if badI m k x = true then some k else firstBad m (k + 1) (X.drop (k + 1)) by rw [hdr, firstBad])
      have hxs := HSL.out x (by rw [hx]; exact List.getElem_mem _)
      have c0 := hcell 0 _ rfl
      have c1 := hcell 1 _ rfl
      have c2 := hcell 2 _ rfl
      have c3 := hcell 3 _ rfl
      simp only [Nat.add_zero] at c0
      have HBR := Lib.hid (HBK.out.below HR.out)
      obtain ⟨m', hm'⟩ : ∃ m', m = m' + 1 := ⟨m - 1, by omega⟩
      clear hcell hx hkL hdr
      go_upto_region 6 with (fail)
      obtain ⟨W3, hW3⟩ : ∃ W3, W3 = wr.alloc (.cells #[.int .i64 x.op, .int .i64 x.a, .int .i64 x.b, .string ⟨x.s.toArray⟩] 36) := ⟨_, rfl⟩
      have hb3 : Below wr.heap.size wr W3 := by rw [hW3]; exact (Below.refl _ _).alloc (Nat.le_refl _) _
      have hB3 : Blk W3 wr.heap.size 36 #[.int .i64 x.op, .int .i64 x.a, .int .i64 x.b, .string ⟨x.s.toArray⟩] := by rw [hW3]; exact Blk.new wr _ _
      have HR3 := Lib.hid (HR.out.trans (hb3.mono HR.out.size))
      have hmay := may_all x m' W3 (by omega) hxs
      rw [show ((m' : Int) + 1) = (m : Int) by omega] at hmay
      obtain ⟨q, hq⟩ : ∃ q, okI m' x = q := ⟨_, rfl⟩
      rw [hq] at hmay
      have HMAY := Lib.hid hmay
      have HOQ := Lib.hid (show okI (m - 1) x = q by rw [← hq]; congr 1; omega)
      have p0 := hB3.cell 0
      have p1 := hB3.cell 1
      have p2 := hB3.cell 2
      have p3 := hB3.cell 3
      have y0 := (HBR.out.below hb3).cell 0
      simp only [List.getElem?_toArray, List.getElem?_cons_zero, List.getElem?_cons_succ] at p0 p1 p2 p3 y0
      rw [← hW3]
      clear hb3 hB3 hW3 c0 c1 c2 c3 hmay hq hm' hxs
      generalize wr.heap.size = gi at *
      have hcase : x.op = 41 ∨ x.op = 40 ∨ x.op = 18 ∨ (x.op ≠ 41 ∧ x.op ≠ 40 ∧ x.op ≠ 18) := by omega
      rcases hcase with hop | hop | hop | ⟨g1, g2, g3⟩
      · obtain ⟨op, xa, xb, xs⟩ := x
        simp only at hop p0 p1 p2 p3 HMAY
        subst hop
        have he : endsB 41 = true := rfl
        cases q
        · have HBAD := Lib.hid (show faultC X st = (116, [(k : Int)]) by rw [HFC.out, ← HFB.out, HFS.out, badI, HOQ.out]; rfl)
          clear HFS HFB
          go_wp2_with fail
          refine HMAY.out.mono ?_
          rintro e w4 ⟨rfl, hb4⟩
          have HR4 := Lib.hid (HR3.out.trans (hb4.mono HR3.out.size))
          have y4 := cell_keep hb4 y0
          clear p0 p1 p2 p3 y0 hb4
          have gv := (HSEN.out.below HR4.out).var 15 _ aC rfl HAC.out
          unfold sentV at gv
          clear HMAY
          go_wp2_with fail
          go_ret
          have hcc := new2E w4 (.int .i64 k) (.iface 226 (.pointer (some aC)))
          rw [HBAD.out]
          exact ⟨_, rfl, .inr (.inr ⟨15, aC, _, k, HAC.out, rfl, hcc.1, hcc.2.1, rfl, rfl⟩), fun h => absurd h (by simp), fun _ => ⟨_, .inr rfl⟩, (HB.out.trans (HR4.out.mono HB.out.size)).alloc (Nat.le_trans HB.out.size HR4.out.size) _⟩
        · have HNX := Lib.hid (show firstBad m (k + 1) (X.drop (k + 1)) = firstBad m 0 X by rw [← HFB.out, HFS.out, badI, HOQ.out, he]; simp)
          clear HFS
          by_cases hk1 : k + 1 = m
          · have hg : ((k : Int) == (m : Int) - 1) = true := by rw [beq_iff_eq]; omega
            clear hk1
            go_wp2_with fail
            refine HMAY.out.mono ?_
            rintro e w4 ⟨rfl, hb4⟩
            have HR4 := Lib.hid (HR3.out.trans (hb4.mono HR3.out.size))
            have y4 := cell_keep hb4 y0
            clear p0 p1 p2 p3 y0 hb4
            clear HMAY
            go_wp2_with fail
            go_roundw
            case rel => exact ⟨k + 1, by omega, by go_num, HR4, HNX⟩
            case measure => simp [intOf]; omega
          · have hg : ((k : Int) == (m : Int) - 1) = false := by simp; omega
            clear hk1
            go_wp2_with fail
            refine HMAY.out.mono ?_
            rintro e w4 ⟨rfl, hb4⟩
            have HR4 := Lib.hid (HR3.out.trans (hb4.mono HR3.out.size))
            have y4 := cell_keep hb4 y0
            clear p0 p1 p2 p3 y0 hb4
            clear HMAY
            go_wp2_with fail
            go_roundw
            case rel => exact ⟨k + 1, by omega, by go_num, HR4, HNX⟩
            case measure => simp [intOf]; omega
      · obtain ⟨op, xa, xb, xs⟩ := x
        simp only at hop p0 p1 p2 p3 HMAY
        subst hop
        have he : endsB 40 = true := rfl
        cases q
        · have HBAD := Lib.hid (show faultC X st = (116, [(k : Int)]) by rw [HFC.out, ← HFB.out, HFS.out, badI, HOQ.out]; rfl)
          clear HFS HFB
          go_wp2_with fail
          refine HMAY.out.mono ?_
          rintro e w4 ⟨rfl, hb4⟩
          have HR4 := Lib.hid (HR3.out.trans (hb4.mono HR3.out.size))
          have y4 := cell_keep hb4 y0
          clear p0 p1 p2 p3 y0 hb4
          have gv := (HSEN.out.below HR4.out).var 15 _ aC rfl HAC.out
          unfold sentV at gv
          clear HMAY
          go_wp2_with fail
          go_ret
          have hcc := new2E w4 (.int .i64 k) (.iface 226 (.pointer (some aC)))
          rw [HBAD.out]
          exact ⟨_, rfl, .inr (.inr ⟨15, aC, _, k, HAC.out, rfl, hcc.1, hcc.2.1, rfl, rfl⟩), fun h => absurd h (by simp), fun _ => ⟨_, .inr rfl⟩, (HB.out.trans (HR4.out.mono HB.out.size)).alloc (Nat.le_trans HB.out.size HR4.out.size) _⟩
        · have HNX := Lib.hid (show firstBad m (k + 1) (X.drop (k + 1)) = firstBad m 0 X by rw [← HFB.out, HFS.out, badI, HOQ.out, he]; simp)
          clear HFS
          by_cases hk1 : k + 1 = m
          · have hg : ((k : Int) == (m : Int) - 1) = true := by rw [beq_iff_eq]; omega
            clear hk1
            go_wp2_with fail
            refine HMAY.out.mono ?_
            rintro e w4 ⟨rfl, hb4⟩
            have HR4 := Lib.hid (HR3.out.trans (hb4.mono HR3.out.size))
            have y4 := cell_keep hb4 y0
            clear p0 p1 p2 p3 y0 hb4
            clear HMAY
            go_wp2_with fail
            go_roundw
            case rel => exact ⟨k + 1, by omega, by go_num, HR4, HNX⟩
            case measure => simp [intOf]; omega
          · have hg : ((k : Int) == (m : Int) - 1) = false := by simp; omega
            clear hk1
            go_wp2_with fail
            refine HMAY.out.mono ?_
            rintro e w4 ⟨rfl, hb4⟩
            have HR4 := Lib.hid (HR3.out.trans (hb4.mono HR3.out.size))
            have y4 := cell_keep hb4 y0
            clear p0 p1 p2 p3 y0 hb4
            clear HMAY
            go_wp2_with fail
            go_roundw
            case rel => exact ⟨k + 1, by omega, by go_num, HR4, HNX⟩
            case measure => simp [intOf]; omega
      · obtain ⟨op, xa, xb, xs⟩ := x
        simp only at hop p0 p1 p2 p3 HMAY
        subst hop
        have he : endsB 18 = true := rfl
        cases q
        · have HBAD := Lib.hid (show faultC X st = (116, [(k : Int)]) by rw [HFC.out, ← HFB.out, HFS.out, badI, HOQ.out]; rfl)
          clear HFS HFB
          go_wp2_with fail
          refine HMAY.out.mono ?_
          rintro e w4 ⟨rfl, hb4⟩
          have HR4 := Lib.hid (HR3.out.trans (hb4.mono HR3.out.size))
          have y4 := cell_keep hb4 y0
          clear p0 p1 p2 p3 y0 hb4
          have gv := (HSEN.out.below HR4.out).var 15 _ aC rfl HAC.out
          unfold sentV at gv
          clear HMAY
          go_wp2_with fail
          go_ret
          have hcc := new2E w4 (.int .i64 k) (.iface 226 (.pointer (some aC)))
          rw [HBAD.out]
          exact ⟨_, rfl, .inr (.inr ⟨15, aC, _, k, HAC.out, rfl, hcc.1, hcc.2.1, rfl, rfl⟩), fun h => absurd h (by simp), fun _ => ⟨_, .inr rfl⟩, (HB.out.trans (HR4.out.mono HB.out.size)).alloc (Nat.le_trans HB.out.size HR4.out.size) _⟩
        · have HNX := Lib.hid (show firstBad m (k + 1) (X.drop (k + 1)) = firstBad m 0 X by rw [← HFB.out, HFS.out, badI, HOQ.out, he]; simp)
          clear HFS
          by_cases hk1 : k + 1 = m
          · have hg : ((k : Int) == (m : Int) - 1) = true := by rw [beq_iff_eq]; omega
            clear hk1
            go_wp2_with fail
            refine HMAY.out.mono ?_
            rintro e w4 ⟨rfl, hb4⟩
            have HR4 := Lib.hid (HR3.out.trans (hb4.mono HR3.out.size))
            have y4 := cell_keep hb4 y0
            clear p0 p1 p2 p3 y0 hb4
            clear HMAY
            go_wp2_with fail
            go_roundw
            case rel => exact ⟨k + 1, by omega, by go_num, HR4, HNX⟩
            case measure => simp [intOf]; omega
          · have hg : ((k : Int) == (m : Int) - 1) = false := by simp; omega
            clear hk1
            go_wp2_with fail
            refine HMAY.out.mono ?_
            rintro e w4 ⟨rfl, hb4⟩
            have HR4 := Lib.hid (HR3.out.trans (hb4.mono HR3.out.size))
            have y4 := cell_keep hb4 y0
            clear p0 p1 p2 p3 y0 hb4
            clear HMAY
            go_wp2_with fail
            go_roundw
            case rel => exact ⟨k + 1, by omega, by go_num, HR4, HNX⟩
            case measure => simp [intOf]; omega
      · have e1 : (x.op == 41) = false := by simp [g1]
        have e2 : (x.op == 40) = false := by simp [g2]
        have e3 : (x.op == 18) = false := by simp [g3]
        have he : endsB x.op = false := by unfold endsB; rw [e1, e2, e3]; rfl
        clear g1 g2 g3
        cases q
        · have HBAD := Lib.hid (show faultC X st = (116, [(k : Int)]) by rw [HFC.out, ← HFB.out, HFS.out, badI, HOQ.out]; rfl)
          clear HFS HFB he
          go_wp2_with fail
          refine HMAY.out.mono ?_
          rintro e w4 ⟨rfl, hb4⟩
          have HR4 := Lib.hid (HR3.out.trans (hb4.mono HR3.out.size))
          have y4 := cell_keep hb4 y0
          clear p0 p1 p2 p3 y0 hb4
          have gv := (HSEN.out.below HR4.out).var 15 _ aC rfl HAC.out
          unfold sentV at gv
          clear HMAY
          go_wp2_with fail
          go_ret
          have hcc := new2E w4 (.int .i64 k) (.iface 226 (.pointer (some aC)))
          rw [HBAD.out]
          exact ⟨_, rfl, .inr (.inr ⟨15, aC, _, k, HAC.out, rfl, hcc.1, hcc.2.1, rfl, rfl⟩), fun h => absurd h (by simp), fun _ => ⟨_, .inr rfl⟩, (HB.out.trans (HR4.out.mono HB.out.size)).alloc (Nat.le_trans HB.out.size HR4.out.size) _⟩
        · by_cases hk1 : k + 1 = m
          · have hg : ((k : Int) == (m : Int) - 1) = true := by rw [beq_iff_eq]; omega
            have HBAD := Lib.hid (show faultC X st = (116, [(k : Int)]) by rw [HFC.out, ← HFB.out, HFS.out, badI, HOQ.out, he, show (k + 1 == m) = true by rw [hk1]; exact beq_self_eq_true m]; rfl)
            clear hk1 HFS HFB he
            go_wp2_with fail
            refine HMAY.out.mono ?_
            rintro e w4 ⟨rfl, hb4⟩
            have HR4 := Lib.hid (HR3.out.trans (hb4.mono HR3.out.size))
            have y4 := cell_keep hb4 y0
            clear p0 p1 p2 p3 y0 hb4
            have gv := (HSEN.out.below HR4.out).var 15 _ aC rfl HAC.out
            unfold sentV at gv
            clear HMAY
            go_wp2_with fail
            go_ret
            have hcc := new2E w4 (.int .i64 k) (.iface 226 (.pointer (some aC)))
            rw [HBAD.out]
            exact ⟨_, rfl, .inr (.inr ⟨15, aC, _, k, HAC.out, rfl, hcc.1, hcc.2.1, rfl, rfl⟩), fun h => absurd h (by simp), fun _ => ⟨_, .inr rfl⟩, (HB.out.trans (HR4.out.mono HB.out.size)).alloc (Nat.le_trans HB.out.size HR4.out.size) _⟩
          · have hg : ((k : Int) == (m : Int) - 1) = false := by simp; omega
            have HNX := Lib.hid (show firstBad m (k + 1) (X.drop (k + 1)) = firstBad m 0 X by rw [← HFB.out, HFS.out, badI, HOQ.out, show (k + 1 == m) = false by rw [beq_eq_false_iff_ne]; exact hk1]; simp)
            clear hk1 HFS he
            go_wp2_with fail
            refine HMAY.out.mono ?_
            rintro e w4 ⟨rfl, hb4⟩
            have HR4 := Lib.hid (HR3.out.trans (hb4.mono HR3.out.size))
            have y4 := cell_keep hb4 y0
            clear p0 p1 p2 p3 y0 hb4
            clear HMAY
            go_wp2_with fail
            go_roundw
            case rel => exact ⟨k + 1, by omega, by go_num, HR4, HNX⟩
            case measure => simp [intOf]; omega
    · obtain rfl : k = m := by omega
      have hfb : firstBad k 0 X = none := by
        rw [← HFB.out, List.drop_of_length_le (by rw [← HM.out]; exact Nat.le_refl _), firstBad]
      have HF := Lib.hid (show faultC X st = (0, []) by rw [HFC.out, hfb]; rfl)
      clear hfb HFB
      go_wp2_with fail
      go_ret
      rw [HF.out]
      exact ⟨_, rfl, .inl ⟨rfl, rfl, rfl⟩, fun _ => rfl, fun h => absurd rfl h, HB.out.trans (HR.out.mono HB.out.size)⟩
end Go.Proofs.YtpogngdddendiaaDoor
