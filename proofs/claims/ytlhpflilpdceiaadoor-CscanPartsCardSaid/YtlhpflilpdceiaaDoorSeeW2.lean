/- The walks over package patoissee's look-up of an error's number. What the package-level errors hold is a hypothesis. -/
import Derived.Test.YtlhpflilpdceiaaDoorSeeW
import Derived.LaidEql
set_option linter.unusedVariables false
set_option linter.unusedSimpArgs false
namespace Go.Proofs.YtlhpflilpdceiaaDoor
open Go.RowKit

/-- package api's errors, in the order of package patoissee -/
def gsE : List Nat := [0, 7, 3, 5, 1, 6, 2, 8, 9, 10, 11, 12, 13, 14, 15, 16, 17]
structure SenW (w : World) (L : List Addr) : Prop where
  len : L.length = 17
  var : ∀ (i g : Nat) (a : Addr), gsE[i]? = some g → L[i]? = some a → w.cell? ⟨g, 0, none⟩ = some (sentV a)
  blk : ∀ a ∈ L, ∃ t cs, Blk w a.block t cs
  inj : ∀ (i j : Nat) (a : Addr), L[i]? = some a → L[j]? = some a → i = j
theorem SenW.below {w w' : World} {L : List Addr} (h : SenW w L) (hb : Below w.heap.size w w') : SenW w' L :=
  ⟨h.len, fun i g a h1 h2 => cell_keep hb (h.var i g a h1 h2), fun a ha => (h.blk a ha).imp fun _ h2 => h2.imp fun _ h3 => h3.below hb, h.inj⟩

theorem infoPE : (Tryd.prog.info? 171).map (·.comparable) = some true := by kernel_rfl
theorem infoE : (Tryd.prog.info? 185).map (·.size) = some 1 := by kernel_rfl
theorem map_some {α β : Type} {o : Option α} {f : α → β} {b : β} (h : o.map f = some b) : ∃ a, o = some a ∧ f a = b := by
  cases o with
  | none => cases h
  | some a => exact ⟨a, rfl, by simpa using h⟩

theorem eql_sent (w : World) (a b : Addr) (ta tb : TypeId) (ca cb : Array Value) (ha : Blk w a.block ta ca) (hb : Blk w b.block tb cb) :
    (binOp .eql 26 (sentV a) (sentV b)).run Tryd.prog w = .ok (.bool (decide (a = b))) w := by
  obtain ⟨i, hi, hc⟩ := map_some infoPE
  obtain ⟨j, hj, hs⟩ := map_some infoE
  by_cases h : a = b
  · subst h
    rw [decide_eq_true rfl]
    exact run_eql_iface_ptr_same w a Tryd.underlying26 Tryd.underlying171 hi hc hj
  · rw [decide_eq_false h]
    exact run_eql_iface_ptr_other w Tryd.underlying26 Tryd.underlying171 hi hc hj (by rw [hs]; decide) h ha hb

theorem alike_any (a b : Addr) (w : World) (ta tb : TypeId) (ca cb : Array Value) (ha : Blk w a.block ta ca) (hb : Blk w b.block tb cb) :
    Calls Tryd.prog 85 #[sentV a, sentV b] w fun e w' => e = .returned (.bool (decide (a = b))) ∧ w' = w := by
  have hq := eql_sent w a b ta tb ca cb ha hb
  clear ha hb
  unfold sentV at *
  go_enter Tryd.func85, Tryd.ntmps85
  go_wp2_with fail
  go_ret
  exact ⟨rfl, rfl⟩

def senc (a : Addr) : List Value := [sentV a]
def SensRet (L : List Addr) (w : World) (e : Ending) (w' : World) : Prop := ∃ A c, e = .returned (.slice A 17 c) ∧ RdL w' 1 senc A L ∧ Below w.heap.size w w'
theorem senc_len (a : Addr) : (senc a).length = 1 := rfl

set_option maxHeartbeats 2000000 in
theorem sentinels_any (L : List Addr) (w : World) (h : SenW w L) : Calls Tryd.prog 84 #[] w (SensRet L w) := by
  obtain ⟨hlen, hvar, _, _⟩ := h
  match L, hlen with
  | [a0, a1, a2, a3, a4, a5, a6, a7, a8, a9, a10, a11, a12, a13, a14, a15, a16], _ =>
    have h0 := hvar 0 _ _ rfl rfl
    have h1 := hvar 1 _ _ rfl rfl
    have h2 := hvar 2 _ _ rfl rfl
    have h3 := hvar 3 _ _ rfl rfl
    have h4 := hvar 4 _ _ rfl rfl
    have h5 := hvar 5 _ _ rfl rfl
    have h6 := hvar 6 _ _ rfl rfl
    have h7 := hvar 7 _ _ rfl rfl
    have h8 := hvar 8 _ _ rfl rfl
    have h9 := hvar 9 _ _ rfl rfl
    have h10 := hvar 10 _ _ rfl rfl
    have h11 := hvar 11 _ _ rfl rfl
    have h12 := hvar 12 _ _ rfl rfl
    have h13 := hvar 13 _ _ rfl rfl
    have h14 := hvar 14 _ _ rfl rfl
    have h15 := hvar 15 _ _ rfl rfl
    have h16 := hvar 16 _ _ rfl rfl
    clear hvar
    have hrd := RdL.of_own (l := [a0, a1, a2, a3, a4, a5, a6, a7, a8, a9, a10, a11, a12, a13, a14, a15, a16]) senc_len (World.ownsRow_lit (base := w.heap.size) (e := 26) w #[sentV a0, sentV a1, sentV a2, sentV a3, sentV a4, sentV a5, sentV a6, sentV a7, sentV a8, sentV a9, sentV a10, sentV a11, sentV a12, sentV a13, sentV a14, sentV a15, sentV a16] 17 (Nat.le_refl _) (by decide) rfl) rfl
    obtain ⟨A, c, he, _, _, hr, _⟩ := hrd
    injection he with h1' _ h3'
    subst h1' h3'
    have HR := Lib.hid hr
    clear hr
    unfold sentV at *
    go_enter Tryd.func84, Tryd.ntmps84
    go_wp2_with fail
    go_ret
    exact ⟨_, _, rfl, HR.out, (Below.refl _ _).alloc (Nat.le_refl _) _⟩

set_option maxRecDepth 100000 in
set_option maxHeartbeats 2000000 in
theorem sentinel_any (L : List Addr) (w : World) (j : Nat) (a : Addr) (h : SenW w L) (hj : L[j]? = some a) : Calls Tryd.prog 74 #[sentV a] w (Ret w (.int .i64 (101 + j))) := by
  have HS := Lib.hid (sentinels_any L w h)
  have hlen := h.len
  have hj17 : j < 17 := by have := (List.getElem?_eq_some_iff.1 hj).1; omega
  have HJ := Lib.hid hj
  have HH := Lib.hid h
  clear hj h
  go_enter Tryd.func74, Tryd.ntmps74
  go_wp2_with fail
  refine HS.out.mono ?_
  rintro e w1 ⟨A, c, rfl, hrd, hb1⟩
  clear HS
  have HR := Lib.hid hrd
  have HL := Lib.hid hlen
  clear hrd hlen
  go_wp2_with fail
  go_loopw [4] (fun i wr => ∃ k : Nat, k ≤ j ∧ i = .int .i64 k ∧ w1 = wr) (fun i _ => 17 - (intOf i).toNat)
  case atStart => exact ⟨0, Nat.zero_le _, rfl, rfl⟩
  case round =>
    obtain ⟨k, hk, rfl, rfl⟩ := hrel
    have hkL : k < L.length := by rw [HL.out]; omega
    obtain ⟨b, o, rfl, _, hcell⟩ := HR.out k hkL
    have c0 := hcell 0 _ rfl
    have hS1 := HH.out.below hb1
    obtain ⟨tb, cb, hBb⟩ := hS1.blk L[k] (List.getElem_mem _)
    obtain ⟨ta, ca, hBa⟩ := hS1.blk a (List.mem_of_getElem? HJ.out)
    have HC := Lib.hid (alike_any a L[k] w1 ta tb ca cb hBa hBb)
    have hkj : (a = L[k]) ↔ k = j := by
      constructor
      · intro h
        exact hS1.inj k j a (by rw [List.getElem?_eq_getElem hkL, h]) HJ.out
      · rintro rfl
        exact (List.getElem?_eq_some_iff.1 HJ.out).2.symm
    have HK := Lib.hid hkj
    obtain ⟨y, hy⟩ : ∃ y, y = L[k] := ⟨_, rfl⟩
    rw [← hy] at HC HK c0
    clear hcell hS1 hBa hBb hkj hy hkL
    simp only [Nat.add_zero, Nat.mul_one] at c0
    unfold sentV at *
    by_cases hd : k = j
    · have hay := HK.out.2 hd
      subst hd
      rw [decide_eq_true hay] at HC
      clear hay HK
      go_wp2_with fail
      refine HC.out.mono ?_
      rintro e w2 ⟨rfl, rfl⟩
      go_wp2_with fail
      go_ret
      exact ⟨rfl, hb1⟩
    · have hay : a ≠ y := fun h => hd (HK.out.1 h)
      rw [decide_eq_false hay] at HC
      clear hay HK
      go_wp2_with fail
      refine HC.out.mono ?_
      rintro e w2 ⟨rfl, rfl⟩
      go_wp2_with fail
      go_roundw
      case rel => exact ⟨k + 1, by omega, by go_num, trivial⟩
      case measure => simp [intOf]; omega

end Go.Proofs.YtlhpflilpdceiaaDoor
