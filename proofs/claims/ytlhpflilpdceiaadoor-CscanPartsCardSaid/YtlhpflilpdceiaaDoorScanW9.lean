/- The walk over package cscan's word: without quotes or braces. Bounds on the lengths. -/
import Derived.Test.YtlhpflilpdceiaaDoorScanW8
set_option linter.unusedVariables false
set_option linter.unusedSimpArgs false
namespace Go.Proofs.YtlhpflilpdceiaaDoor
open Go.RowKit

/-- A word, or an error; the reader has moved. -/
def WdRet (r : WdR) (Ls : List Addr) (B S : Nat) (s : ByteArray) (w : World) (e : Ending) (w' : World) : Prop := match r with
  | .err k a => ∃ (p0 : Nat) (v : Value) (j : Nat), e = .returned (.tuple #[.agg #[.int .i64 p0, .bool false, .slice none 0 0], v]) ∧ AtE w' Ls v k a ∧ Rdr w' B S s j ∧ But B w w'
  | .ok x j _ => ∃ v, e = .returned (.tuple #[.agg #[.int .i64 x.pos, .bool x.braced, v], .nilIface]) ∧ OwnP 48 w' w.heap.size v x.parts ∧ Rdr w' B S s j ∧ But B w w'
theorem Rdr.set3 {w : World} {B S : Nat} {s : ByteArray} {i g : Nat} (h : Rdr w B S s i) {cs : Array Value} (hg : Blk w g 36 cs) (a b c : Value) : Rdr (((w.setCell ⟨g, 0, none⟩ a).setCell ⟨g, 1, none⟩ b).setCell ⟨g, 2, none⟩ c) B S s i := by
  have h1 : B ≠ g := Blk.apart h.1 hg (by decide)
  have h2 : S ≠ g := Blk.apart h.2 hg (by decide)
  exact ⟨(But.set3 g w a b c).blk h.1 h1, (But.set3 g w a b c).blk h.2 h2⟩
theorem below_set3 {w0 w : World} {n g : Nat} (h : Below n w0 w) (hg : n ≤ g) (a b c : Value) : Below n w0 (((w.setCell ⟨g, 0, none⟩ a).setCell ⟨g, 1, none⟩ b).setCell ⟨g, 2, none⟩ c) :=
  ((h.setCell (p := ⟨g, 0, none⟩) hg a).setCell (p := ⟨g, 1, none⟩) hg b).setCell (p := ⟨g, 2, none⟩) hg c
theorem Rdr.but {w w' : World} {B S : Nat} {s : ByteArray} {i g : Nat} (h : Rdr w B S s i) {cs : Array Value} (hg : Blk w g 36 cs) (hb : But g w w') : Rdr w' B S s i :=
  ⟨hb.blk h.1 (Blk.apart h.1 hg (by decide)), hb.blk h.2 (Blk.apart h.2 hg (by decide))⟩
/-- An error stands where only a word's cells are written. -/
theorem AtE.word {w w' : World} {Ls : List Addr} {v : Value} {k i g : Nat} {b : Bool} (h : AtE w Ls v k i) (hb : But g w w') (hg : w.cell? ⟨g, 1, none⟩ = some (.bool b)) : AtE w' Ls v k i := by
  obtain ⟨j, a, q, h1, h2, h3, h4, h5⟩ := h
  have hne : q ≠ g := fun e => by
    rw [e, hg] at h5
    injection h5 with h5
    cases h5
  exact ⟨j, a, q, h1, h2, h3, hb.cell h4 hne, hb.cell h5 hne⟩
set_option maxRecDepth 100000 in
set_option maxHeartbeats 4000000 in
theorem word_plain_any (B S : Nat) (s : ByteArray) (i : Nat) (Ls : List Addr) (w : World) (h : Rdr w B S s i) (hE : SenB w Ls B) (hs : s.size ≤ 8192) (hi : i < s.size) (hc1 : s.data.toList[i]'hi ≠ 123) (hc2 : s.data.toList[i]'hi ≠ 34) :
    Calls Tryd.prog 30 #[.pointer (some ⟨B, 0, none⟩)] w (WdRet (wordA s.data.toList i) Ls B S s w) := by
  have hmf : ∀ (fn : Fn) (first cap : Array Value) (w : World), (Instr.makeFunc fn first cap).run Tryd.prog w = .ok (.func fn first cap) w := fun _ _ _ _ => rfl
  obtain ⟨w2, hw2⟩ : ∃ w2, w2 = (w.alloc (.cells #[.int .i64 0, .bool false, .slice none 0 0] 36)).alloc (.cells #[.int .i64 i, .bool false, .slice none 0 0] 36) := ⟨_, rfl⟩
  have hb2 : Below w.heap.size w w2 := by rw [hw2]; exact below3 _ _ _
  have HQ2 := Lib.hid (show Blk w2 w.heap.size 36 #[.int .i64 0, .bool false, .slice none 0 0] by rw [hw2]; exact (Blk.new w _ _).below ((Below.refl _ _).alloc (Nat.le_refl _) _))
  have HP2 := Lib.hid (show Blk w2 (w.heap.size + 1) 36 #[.int .i64 i, .bool false, .slice none 0 0] by
    rw [hw2]
    have := Blk.new (w.alloc (.cells #[.int .i64 0, .bool false, .slice none 0 0] 36)) 36 #[.int .i64 i, .bool false, .slice none 0 0]
    rwa [alloc_size] at this)
  have HR2 := Lib.hid (h.below hb2)
  have HE2 := Lib.hid (hE.below hb2)
  have HB2 := Lib.hid (But.of hb2 (B := B))
  have HW2 := Lib.hid hw2
  have HLT := Lib.hid (show B < w.heap.size from h.1.lt)
  have r1 := (h.below ((Below.refl w.heap.size w).alloc (Nat.le_refl _) (.cells #[.int .i64 0, .bool false, .slice none 0 0] 36))).c1
  clear hw2 hb2 h hE
  obtain ⟨L, hL⟩ : ∃ L, L = s.data.toList := ⟨_, rfl⟩
  have hn : L.length = s.size := by rw [hL]; rfl
  have hi' : i < L.length := by omega
  have HPK := Lib.hid (fun (W : World) (hr : Rdr W B S s i) => peek_any B S s i W hr)
  have HPS := Lib.hid (fun (W : World) (hr : Rdr W B S s i) (he : SenB W Ls B) => parts_ends_any B S 0 s i Ls W hr he hs (by omega))
  have hc1' : L[i] ≠ 123 := by subst hL; exact hc1
  have hc2' : L[i] ≠ 34 := by subst hL; exact hc2
  rw [← hL] at HPK HPS ⊢
  rw [byteV_in hi'] at HPK
  have HL := Lib.hid hL
  have HWA := Lib.hid (wordA_plain (L := L) (i := i) fun _ => ⟨hc1', hc2'⟩)
  obtain ⟨R, hR⟩ : ∃ R, R = wordA L i := ⟨_, rfl⟩
  rw [← hR]
  have HR := Lib.hid hR
  have n1 := int_ne (toNat_ne (d := 123) (by decide) hc1')
  have n2 := int_ne (toNat_ne (d := 34) (by decide) hc2')
  clear hc1 hc2 hc1' hc2' hR hL
  generalize (L[i]).toNat = c at *
  go_enter Tryd.func30, Tryd.ntmps30
  go_upto_region 2 with (fail)
  rw [← HW2.out]
  go_wp2_with fail
  refine (HPK.out _ HR2.out).mono ?_
  rintro e w3 ⟨rfl, hb3⟩
  replace HQ2 := Lib.hid (HQ2.out.below hb3)
  replace HP2 := Lib.hid (HP2.out.below hb3)
  replace HR2 := Lib.hid (HR2.out.below hb3)
  replace HE2 := Lib.hid (HE2.out.below hb3)
  replace HB2 := Lib.hid (HB2.out.trans (But.of hb3))
  clear hb3
  go_wp2_with fail
  refine (HPS.out _ HR2.out HE2.out).mono ?_
  have HQB := Lib.hid (show w.heap.size ≠ B by have := HLT.out; omega)
  have HPB := Lib.hid (show w.heap.size + 1 ≠ B by have := HLT.out; omega)
  cases hp : partsA L endB i [] with
  | err k a =>
    rintro e w4 ⟨v, j, rfl, hE4, hR4, hB4⟩
    have HRe := Lib.hid (show R = .err k a by rw [HR.out, HWA.out, hp])
    have hQ4 := hB4.blk HQ2.out HQB.out
    have hP4 := hB4.blk HP2.out HPB.out
    have HB4 := Lib.hid (HB2.out.trans hB4)
    have HR4 := Lib.hid hR4
    have HE4 := Lib.hid hE4
    clear hp hR4 hE4 hB4
    have p0 := hP4.cell 0
    have p1 := hP4.cell 1
    have p2 := hP4.cell 2
    have q0 := hQ4.cell 0
    have q1 := hQ4.cell 1
    have q2 := hQ4.cell 2
    have g1 := hP4.frozen 1
    have g2 := hP4.frozen 2
    have f0 := hQ4.frozen 0
    have f1 := hQ4.frozen 1
    have f2 := hQ4.frozen 2
    simp only [List.getElem?_toArray, List.getElem?_cons_zero, List.getElem?_cons_succ] at p0 p1 p2 q0 q1 q2
    have hne : w.heap.size ≠ w.heap.size + 1 := by omega
    have HQ4 := Lib.hid hQ4
    have HP4 := Lib.hid hP4
    clear hQ4 hP4
    go_wp2_with fail
    have hQ5 := HQ4.out.other (a := ⟨w.heap.size + 1, 2, none⟩) hne (.slice none 0 0)
    have hB5 := But.set (B := w.heap.size + 1) w4 2 (.slice none 0 0)
    have hQf := hQ5.set3 (.int .i64 i) (.bool false) (.slice none 0 0)
    have hB6 := But.set3 w.heap.size (w4.setCell ⟨w.heap.size + 1, 2, none⟩ (.slice none 0 0)) (.int .i64 i) (.bool false) (.slice none 0 0)
    have hRf := (HR4.out.but HP4.out hB5).but hQ5 hB6
    have hEf := (HE4.out.word hB5 p1).word hB6 (hQ5.cell 1)
    have hBf := HB4.out.of2 (below_set3 ((Below.refl w.heap.size w4).setCell (p := ⟨w.heap.size + 1, 2, none⟩) (by show w.heap.size ≤ w.heap.size + 1; omega) (.slice none 0 0)) (Nat.le_refl _) (.int .i64 i) (.bool false) (.slice none 0 0))
    have t0 := hQf.cell 0
    have t1 := hQf.cell 1
    have t2 := hQf.cell 2
    simp only [List.getElem?_toArray, List.getElem?_cons_zero, List.getElem?_cons_succ] at t0 t1 t2
    refine bodyPost_ret (v := .tuple #[.agg #[(.int .i64 i), (.bool false), (.slice none 0 0)], v]) (by simp [results, Tryd.results30, go_sem, t0, t1, t2]) rfl ?_
    rw [HRe.out]
    exact ⟨i, v, j, rfl, hEf, hRf, hBf⟩
  | ok ps j r =>
    rintro e w4 ⟨v, rfl, hO4, hR4, hB4⟩
    obtain ⟨A4, c4, hv4, -, -, -, -⟩ := own_form hO4
    subst hv4
    have HRe := Lib.hid (show R = .ok ⟨i, false, ps⟩ j r by rw [HR.out, HWA.out, hp])
    have hQ4 := hB4.blk HQ2.out HQB.out
    have hP4 := hB4.blk HP2.out HPB.out
    have HB4 := Lib.hid (HB2.out.trans hB4)
    have HR4 := Lib.hid hR4
    have HO4 := Lib.hid (hO4.mono HB2.out.size)
    clear hp hR4 hO4 hB4
    have p0 := hP4.cell 0
    have p1 := hP4.cell 1
    have p2 := hP4.cell 2
    have q0 := hQ4.cell 0
    have q1 := hQ4.cell 1
    have q2 := hQ4.cell 2
    have g1 := hP4.frozen 1
    have g2 := hP4.frozen 2
    have f0 := hQ4.frozen 0
    have f1 := hQ4.frozen 1
    have f2 := hQ4.frozen 2
    simp only [List.getElem?_toArray, List.getElem?_cons_zero, List.getElem?_cons_succ] at p0 p1 p2 q0 q1 q2
    have hne : w.heap.size ≠ w.heap.size + 1 := by omega
    have HQ4 := Lib.hid hQ4
    have HP4 := Lib.hid hP4
    clear hQ4 hP4
    go_wp2_with fail
    have hQ5 := HQ4.out.other (a := ⟨w.heap.size + 1, 2, none⟩) hne (.slice A4 ps.length c4)
    have hB5 := But.set (B := w.heap.size + 1) w4 2 (.slice A4 ps.length c4)
    have hQf := hQ5.set3 (.int .i64 i) (.bool false) (.slice A4 ps.length c4)
    have hB6 := But.set3 w.heap.size (w4.setCell ⟨w.heap.size + 1, 2, none⟩ (.slice A4 ps.length c4)) (.int .i64 i) (.bool false) (.slice A4 ps.length c4)
    have hRf := (HR4.out.but HP4.out hB5).but hQ5 hB6
    have hOf := (HO4.out.but hB5 HP4.out (by decide)).but hB6 hQ5 (by decide)
    have hBf := HB4.out.of2 (below_set3 ((Below.refl w.heap.size w4).setCell (p := ⟨w.heap.size + 1, 2, none⟩) (by show w.heap.size ≤ w.heap.size + 1; omega) (.slice A4 ps.length c4)) (Nat.le_refl _) (.int .i64 i) (.bool false) (.slice A4 ps.length c4))
    have t0 := hQf.cell 0
    have t1 := hQf.cell 1
    have t2 := hQf.cell 2
    simp only [List.getElem?_toArray, List.getElem?_cons_zero, List.getElem?_cons_succ] at t0 t1 t2
    refine bodyPost_ret (v := .tuple #[.agg #[(.int .i64 i), (.bool false), (.slice A4 ps.length c4)], .nilIface]) (by simp [results, Tryd.results30, go_sem, t0, t1, t2]) rfl ?_
    rw [HRe.out]
    exact ⟨_, rfl, hOf, hRf, hBf⟩
end Go.Proofs.YtlhpflilpdceiaaDoor
