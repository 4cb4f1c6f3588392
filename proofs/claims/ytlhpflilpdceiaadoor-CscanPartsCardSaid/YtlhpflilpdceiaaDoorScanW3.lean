/- The walks over text.Name and over package cscan's peek, ends, fault, brace, bracket. Bounds on the lengths. -/
import Derived.Test.YtlhpflilpdceiaaDoorScanW2
import Derived.Test.YtlhpflilpdceiaaDoorPatW1
set_option linter.unusedVariables false
set_option linter.unusedSimpArgs false
namespace Go.Proofs.YtlhpflilpdceiaaDoor
open Go.RowKit

def nameOK : List UInt8 → Bool
  | [] => false
  | c :: t => decide (t.length + 1 ≤ 20) && nameB c && (c :: t).all nameG
theorem all_take (L : List UInt8) {k : Nat} (h : k < L.length) (ha : (L.take k).all nameG = true) : (L.take (k + 1)).all nameG = nameG L[k] := by
  rw [List.take_succ_eq_append_getElem h, List.all_append, ha]
  simp
theorem all_no (L : List UInt8) {k : Nat} (h : k < L.length) (hg : nameG L[k] = false) : L.all nameG = false := by
  rw [Bool.eq_false_iff]
  intro ha
  have := List.all_eq_true.1 ha _ (List.getElem_mem h)
  rw [hg] at this
  cases this
set_option maxRecDepth 100000 in
set_option maxHeartbeats 2000000 in
theorem tname_any (s : ByteArray) (w : World) : Calls Tryd.prog 79 #[.string s] w fun e w' => e = .returned (.bool (nameOK s.data.toList)) ∧ w' = w := by
  by_cases h0 : s.size = 0
  · have hs : s = ⟨#[]⟩ := by
      obtain ⟨⟨l⟩⟩ := s
      have : l = [] := List.eq_nil_of_length_eq_zero h0
      rw [this]
    subst hs
    go_enter Tryd.func79, Tryd.ntmps79
    go_wp2_with fail
    go_ret
    exact ⟨rfl, rfl⟩
  · have hne : s.toList.isEmpty = false := by
      rw [Lib.toList_data, List.isEmpty_eq_false_iff]
      exact fun h => h0 (by have := congrArg List.length h; simpa using this)
    have h0' : 0 < s.size := by omega
    obtain ⟨L, hL⟩ : ∃ L, L = s.data.toList := ⟨_, rfl⟩
    have hn : L.length = s.size := by rw [hL]; rfl
    rw [← hL]
    obtain ⟨c, hc⟩ : ∃ c, c = L[0]'(by omega) := ⟨_, rfl⟩
    have hx0 : ∀ h, s[0]'h = c := fun h => by subst hL; exact hc.symm
    have hLe : L = c :: L.drop 1 := by
      have := List.drop_eq_getElem_cons (l := L) (i := 0) (by omega)
      rw [hc]
      simpa using this
    have HOK := Lib.hid (show nameOK L = (decide (s.size ≤ 20) && nameB c && L.all nameG) by
      conv => lhs; rw [hLe]
      rw [nameOK]
      rw [← hLe, show (L.drop 1).length + 1 = s.size by rw [List.length_drop]; omega])
    by_cases h20 : s.size ≤ 20
    · have HB := Lib.hid (begins_any c)
      have HG := Lib.hid (fun c W => goesOn_any c W)
      cases hb : nameB c with
      | false =>
        rw [hb] at HB
        have HO2 := Lib.hid (show nameOK L = false by rw [HOK.out, hb]; simp)
        clear HOK hLe hb hc hn hL HG
        go_enter Tryd.func79, Tryd.ntmps79
        go_wp2_with fail
        refine (HB.out _).mono ?_
        rintro e w1 ⟨rfl, rfl⟩
        go_wp2_with fail
        go_ret
        rw [HO2.out]
        exact ⟨rfl, rfl⟩
      | true =>
        rw [hb] at HB
        have HO2 := Lib.hid (show nameOK L = L.all nameG by rw [HOK.out, hb, decide_eq_true h20]; simp)
        clear HOK hLe hb hc
        have HAT := Lib.hid (show ∀ (k : Nat) (hk : k < s.size) (hk2 : k < L.length), s[k]'hk = L[k]'hk2 from fun k hk hk2 => by subst hL; rfl)
        have HL := Lib.hid hL
        have HN := Lib.hid hn
        clear hL hn
        go_enter Tryd.func79, Tryd.ntmps79
        go_wp2_with fail
        refine (HB.out _).mono ?_
        rintro e w1 ⟨rfl, rfl⟩
        go_wp2_with fail
        go_loopw [19] (fun t wr => ∃ k : Nat, k ≤ s.size ∧ t = .int .i64 k ∧ w1 = wr ∧ Hid ((L.take k).all nameG = true)) (fun t _ => s.size - (intOf t).toNat)
        case atStart => exact ⟨0, Nat.zero_le _, rfl, rfl, rfl⟩
        case round =>
          obtain ⟨k, hk, rfl, hw, H⟩ := hrel
          subst hw
          clear hx0
          by_cases hlt : k < s.size
          · have hlt' : k < L.length := by have := HN.out; omega
            obtain ⟨d, hd⟩ : ∃ d, d = L[k] := ⟨_, rfl⟩
            have hxk : ∀ h, s[k]'h = d := fun h => by rw [hd]; exact HAT.out k h hlt'
            have HGK := Lib.hid (HG.out d)
            have HA := Lib.hid (all_take L hlt' H.out)
            rw [← hd] at HA
            cases hg : nameG d with
            | true =>
              have HT := Lib.hid (show (L.take (k + 1)).all nameG = true by rw [HA.out, hg])
              rw [hg] at HGK
              clear hg HA H hd hlt'
              go_wp2_with fail
              refine (HGK.out _).mono ?_
              rintro e w3 ⟨rfl, rfl⟩
              go_wp2_with fail
              go_roundw
              case rel => exact ⟨k + 1, by omega, by go_num, trivial, HT⟩
              case measure => simp [intOf]; omega
            | false =>
              have HO3 := Lib.hid (show nameOK L = false by rw [HO2.out]; exact all_no L hlt' (by rw [← hd]; exact hg))
              rw [hg] at HGK
              clear hg HA H hd hlt'
              go_wp2_with fail
              refine (HGK.out _).mono ?_
              rintro e w3 ⟨rfl, rfl⟩
              go_wp2_with fail
              go_ret
              rw [HO3.out]
              exact ⟨rfl, rfl⟩
          · obtain rfl : k = s.size := by omega
            have HO3 := Lib.hid (show nameOK L = true by
              rw [HO2.out]
              have := H.out
              rwa [List.take_of_length_le (by have := HN.out; omega)] at this)
            clear H
            go_wp2_with fail
            go_ret
            rw [HO3.out]
            exact ⟨rfl, rfl⟩
    · have HO2 := Lib.hid (show nameOK L = false by rw [HOK.out, decide_eq_false h20]; simp)
      have HL := Lib.hid hL
      clear hL hn hc hLe HOK
      go_enter Tryd.func79, Tryd.ntmps79
      go_wp2_with fail
      go_ret
      rw [HO2.out]
      exact ⟨rfl, rfl⟩

/-- A reader of a source, at a place. -/
def Rdr (w : World) (B S : Nat) (s : ByteArray) (i : Nat) : Prop := Blk w B 79 #[.pointer (some ⟨S, 0, none⟩), .int .i64 i] ∧ Blk w S 113 #[.string s]
theorem Rdr.below {w w' : World} {B S : Nat} {s : ByteArray} {i : Nat} (h : Rdr w B S s i) (hb : Below w.heap.size w w') : Rdr w' B S s i := ⟨h.1.below hb, h.2.below hb⟩
theorem Rdr.ne {w : World} {B S : Nat} {s : ByteArray} {i : Nat} (h : Rdr w B S s i) : S ≠ B := Blk.apart h.2 h.1 (by decide)
theorem Rdr.set {w : World} {B S : Nat} {s : ByteArray} {i : Nat} (h : Rdr w B S s i) (j : Nat) : Rdr (w.setCell ⟨B, 1, none⟩ (.int .i64 j)) B S s j := by
  refine ⟨h.1.set 1 _, ?_⟩
  have hne := h.ne
  unfold Blk
  rw [Below.heap_setCell _ _ _ _ hne]
  exact h.2
theorem Rdr.c0 {w : World} {B S : Nat} {s : ByteArray} {i : Nat} (h : Rdr w B S s i) : w.cell? ⟨B, 0, none⟩ = some (.pointer (some ⟨S, 0, none⟩)) := h.1.cell 0
theorem Rdr.c1 {w : World} {B S : Nat} {s : ByteArray} {i : Nat} (h : Rdr w B S s i) : w.cell? ⟨B, 1, none⟩ = some (.int .i64 i) := h.1.cell 1
theorem Rdr.c2 {w : World} {B S : Nat} {s : ByteArray} {i : Nat} (h : Rdr w B S s i) : w.cell? ⟨S, 0, none⟩ = some (.string s) := h.2.cell 0

set_option maxHeartbeats 1000000 in
theorem peek_any (B S : Nat) (s : ByteArray) (i : Nat) (w : World) (h : Rdr w B S s i) : Calls Tryd.prog 29 #[.pointer (some ⟨B, 0, none⟩)] w (Ret w (byteV s.data.toList i)) := by
  have l0 := Later.cell h.c0
  have l1 := Later.cell h.c1
  have l2 := Later.cell h.c2
  have HB := Lib.hid (fun W => byte_any s i W)
  clear h
  unfold byteV at *
  generalize cAt s.data.toList i = c at *
  generalize decide (i < s.data.toList.length) = b at *
  go_enter Tryd.func29, Tryd.ntmps29
  go_upto_region 1 with (fail)
  refine wp_region_eq (by kernel_rfl) (by kernel_rfl) ?_
  apply EqGo.run
  focus
    kernel_rfl
  focus
    intro x K hK
    go_wp2_with fail
    first | exact hK x (Below.refl _ _) | exact Below.refl _ _
  simp only [Act.put, List.setIfInBounds_toArray, List.set_cons_succ, List.set_cons_zero]
  apply EqGo.run
  focus
    kernel_rfl
  focus
    intro x K hK
    go_wp2_with fail
    first | exact hK x (Below.refl _ _) | exact Below.refl _ _
  simp only [Act.put, List.setIfInBounds_toArray, List.set_cons_succ, List.set_cons_zero]
  apply EqGo.run
  focus
    kernel_rfl
  focus
    intro x K hK
    go_wp2_with fail
    first | exact hK x (Below.refl _ _) | exact Below.refl _ _
  simp only [Act.put, List.setIfInBounds_toArray, List.set_cons_succ, List.set_cons_zero]
  apply EqGo.run
  focus
    kernel_rfl
  focus
    intro x K hK
    go_wp2_with fail
    first | exact hK x (Below.refl _ _) | exact Below.refl _ _
  simp only [Act.put, List.setIfInBounds_toArray, List.set_cons_succ, List.set_cons_zero]
  apply EqGo.run
  focus
    kernel_rfl
  focus
    intro x K hK
    go_wp2_with fail
    first | exact hK x (Below.refl _ _) | exact Below.refl _ _
  simp only [Act.put, List.setIfInBounds_toArray, List.set_cons_succ, List.set_cons_zero]
  apply EqGo.run
  focus
    kernel_rfl
  focus
    intro x K hK
    go_wp2_with fail
    first | exact hK x (Below.refl _ _) | exact Below.refl _ _
  simp only [Act.put, List.setIfInBounds_toArray, List.set_cons_succ, List.set_cons_zero]
  apply EqGo.run
  focus
    kernel_rfl
  focus
    intro x K hK
    go_wp2_with fail
    first | exact hK x (Below.refl _ _) | exact Below.refl _ _
  simp only [Act.put, List.setIfInBounds_toArray, List.set_cons_succ, List.set_cons_zero]
  apply EqGo.run
  focus
    kernel_rfl
  focus
    intro x K hK
    go_wp2_with fail
    first | exact hK x (Below.refl _ _) | exact Below.refl _ _
  simp only [Act.put, List.setIfInBounds_toArray, List.set_cons_succ, List.set_cons_zero]
  apply EqGo.run
  focus
    kernel_rfl
  focus
    intro x K hK
    go_wp2_with fail
    first | exact hK x (Below.refl _ _) | exact Below.refl _ _
  simp only [Act.put, List.setIfInBounds_toArray, List.set_cons_succ, List.set_cons_zero]
  apply EqGo.run
  focus
    kernel_rfl
  focus
    intro x K hK
    go_wp2_with fail
    first | exact hK x (Below.refl _ _) | exact Below.refl _ _
  simp only [Act.put, List.setIfInBounds_toArray, List.set_cons_succ, List.set_cons_zero]
  apply EqGo.run
  focus
    kernel_rfl
  focus
    intro x K hK
    go_wp2_with fail
    first | exact hK x (Below.refl _ _) | exact Below.refl _ _
  simp only [Act.put, List.setIfInBounds_toArray, List.set_cons_succ, List.set_cons_zero]
  apply EqGo.run
  focus
    kernel_rfl
  focus
    intro x K hK
    go_wp2_with fail
    refine (Hid.out HB x.val).mono ?_
    rintro e x' ⟨rfl, hb'⟩
    exact hK ⟨x', x.below.trans (hb'.mono x.below.size)⟩ hb'
  simp only [Act.put, List.setIfInBounds_toArray, List.set_cons_succ, List.set_cons_zero]
  apply EqGo.run
  focus
    kernel_rfl
  focus
    intro x K hK
    go_wp2_with fail
    first | exact hK x (Below.refl _ _) | exact Below.refl _ _
  simp only [Act.put, List.setIfInBounds_toArray, List.set_cons_succ, List.set_cons_zero]
  apply EqGo.run
  focus
    kernel_rfl
  focus
    intro x K hK
    go_wp2_with fail
    first | exact hK x (Below.refl _ _) | exact Below.refl _ _
  simp only [Act.put, List.setIfInBounds_toArray, List.set_cons_succ, List.set_cons_zero]
  apply EqGo.run
  focus
    kernel_rfl
  focus
    intro x K hK
    go_wp2_with fail
    first | exact hK x (Below.refl _ _) | exact Below.refl _ _
  simp only [Act.put, List.setIfInBounds_toArray, List.set_cons_succ, List.set_cons_zero]
  apply EqGo.run
  focus
    kernel_rfl
  focus
    intro x K hK
    go_wp2_with fail
    first | exact hK x (Below.refl _ _) | exact Below.refl _ _
  simp only [Act.put, List.setIfInBounds_toArray, List.set_cons_succ, List.set_cons_zero]
  intro x
  have hb := x.below
  clear l0 l1 l2 HB
  generalize x.val = wx at *
  clear x
  go_wp2_with fail
  go_ret2
  exact ⟨rfl, hb⟩
/-- Does what is read end here? -/
def stopA (L : List UInt8) (e : UInt8 → Bool) (i : Nat) : Bool := match L[i]? with
  | none => true
  | some c => e c
theorem stopA_in {L : List UInt8} (e : UInt8 → Bool) {i : Nat} (h : i < L.length) : stopA L e i = e L[i] := by unfold stopA; rw [List.getElem?_eq_getElem h]
theorem stopA_out {L : List UInt8} (e : UInt8 → Bool) {i : Nat} (h : L.length ≤ i) : stopA L e i = true := by unfold stopA; rw [List.getElem?_eq_none h]
theorem stopA_ends (L : List UInt8) (i : Nat) : stopA L endB i = endsA L i := by
  by_cases h : i < L.length
  · rw [stopA_in _ h, endsA_at h]
  · rw [stopA_out _ (by omega), endsA_end (by omega)]
theorem i8 (c : UInt8) : (c.toNat : Int).toNat.toUInt8 = c := by simp
set_option maxHeartbeats 1000000 in
theorem ends_any (B S : Nat) (s : ByteArray) (i : Nat) (w : World) (h : Rdr w B S s i) : Calls Tryd.prog 51 #[.pointer (some ⟨B, 0, none⟩)] w (Ret w (.bool (stopA s.data.toList endB i))) := by
  have HP := Lib.hid (peek_any B S s i w h)
  by_cases hlt : i < s.data.toList.length
  · rw [byteV_in hlt] at HP
    rw [stopA_in _ hlt]
    have HI := Lib.hid (fun W => Tryd.strings_IndexByte ⟨#[32, 9, 10, 59]⟩ (s.data.toList[i]).toNat W)
    rw [i8] at HI
    have hq : ∀ W, Calls Tryd.prog 25 #[.string ⟨#[32, 9, 10, 59]⟩, .int .u8 (s.data.toList[i]).toNat] W fun e w' => e = .returned (.int .i64 (Lib.indexByte [32, 9, 10, 59] s.data.toList[i])) ∧ w' = W := fun W => HI.out W
    have hd := idx_end s.data.toList[i]
    have HQ := Lib.hid hq
    clear HI hq
    generalize Lib.indexByte [32, 9, 10, 59] s.data.toList[i] = r at *
    rw [← hd]
    clear hd h
    generalize (s.data.toList[i]).toNat = c at *
    clear hlt
    by_cases hr : 0 ≤ r
    all_goals
      go_enter Tryd.func51, Tryd.ntmps51
      go_wp2_with fail
      refine HP.out.mono ?_
      rintro e w1 ⟨rfl, hb⟩
      go_wp2_with fail
      refine (HQ.out _).mono ?_
      rintro e w2 ⟨rfl, rfl⟩
      go_wp2_with fail
      all_goals go_ret
      all_goals exact ⟨by simp [hr], hb⟩
  · rw [byteV_out (by omega)] at HP
    rw [stopA_out _ (by omega)]
    go_enter Tryd.func51, Tryd.ntmps51
    go_wp2_with fail
    refine HP.out.mono ?_
    rintro e w1 ⟨rfl, hb⟩
    go_wp2_with fail
    go_ret
    exact ⟨rfl, hb⟩
theorem quo_int (c : UInt8) : quoB c = ((c.toNat : Int) == 34) := by
  have := u8_beq c 34 (by decide)
  rw [show ((c.toNat : Int) == 34) = ((c.toNat : Int) == ((34 : Nat) : Int)) from rfl, this]
  unfold quoB
  rw [Bool.eq_iff_iff]
  simp
set_option maxHeartbeats 1000000 in
theorem quo1_any (V B S : Nat) (s : ByteArray) (i : Nat) (w : World) (hV : w.cell? ⟨V, 0, none⟩ = some (.pointer (some ⟨B, 0, none⟩))) (h : Rdr w B S s i) : Calls Tryd.prog 70 #[.pointer (some ⟨V, 0, none⟩)] w (Ret w (.bool (stopA s.data.toList quoB i))) := by
  have HP := Lib.hid (peek_any B S s i w h)
  by_cases hlt : i < s.data.toList.length
  · rw [byteV_in hlt] at HP
    rw [stopA_in _ hlt, quo_int]
    clear h
    generalize (s.data.toList[i]).toNat = c at *
    clear hlt
    cases hc : ((c : Int) == 34)
    all_goals
      go_enter Tryd.func70, Tryd.ntmps70
      go_wp2_with fail
      refine HP.out.mono ?_
      rintro e w1 ⟨rfl, hb⟩
      go_wp2_with fail
      all_goals go_ret
      all_goals exact ⟨by simp [hc], hb⟩
  · rw [byteV_out (by omega)] at HP
    rw [stopA_out _ (by omega)]
    go_enter Tryd.func70, Tryd.ntmps70
    go_wp2_with fail
    refine HP.out.mono ?_
    rintro e w1 ⟨rfl, hb⟩
    go_wp2_with fail
    go_ret
    exact ⟨rfl, hb⟩
set_option maxHeartbeats 1000000 in
theorem cfault_any (i : Nat) (a : Addr) (w : World) : Calls Tryd.prog 47 #[.int .i64 i, sentV a] w (AtRet i a w) := by
  unfold sentV
  go_enter Tryd.func47, Tryd.ntmps47
  go_wp2_with fail
  go_ret
  refine ⟨_, rfl, ⟨w.heap.size, rfl, Nat.le_refl _, ?_, ?_⟩, (Below.refl _ _).alloc (Nat.le_refl _) _⟩
  · exact (Blk.new w _ _).cell 0
  · exact (Blk.new w _ _).cell 1
end Go.Proofs.YtlhpflilpdceiaaDoor
