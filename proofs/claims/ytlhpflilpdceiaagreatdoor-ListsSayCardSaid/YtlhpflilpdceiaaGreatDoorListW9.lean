/- The walk over the laws' own first: the chapter's examples hold. What the package-level error holds is a hypothesis. -/
import Derived.Test.YtlhpflilpdceiaaGreatDoorJH
import Derived.Test.YtlhpflilpdceiaaGreatDoorLightS
import Derived.Test.YtlhpflilpdceiaaGreatDoorRef2S
set_option linter.unusedVariables false
set_option linter.unusedSimpArgs false
namespace Go.Proofs.YtlhpflilpdceiaaGreatDoor
open Go.RowKit

theorem alloc_size (w : World) (o : Obj) : (w.alloc o).heap.size = w.heap.size + 1 := Array.size_push ..
theorem below1 (w : World) (o : Obj) : Below w.heap.size w (w.alloc o) := (Below.refl _ _).alloc (Nat.le_refl _) _
/-- Texts just laid. -/
theorem SlS.lit (w : World) (l : List (List UInt8)) (cs : Array Value) (h : cs = (l.flatMap strc).toArray) (hl : l.length ≤ 1000) :
    SlS (w.alloc (.cells cs 9)) (.slice (some ⟨w.heap.size, 0, none⟩) l.length l.length) l := by
  subst h
  refine OwnS.rd (B := w.heap.size) ?_
  unfold OwnS
  have hs : (l.flatMap strc).toArray.size = l.length := by rw [List.size_toArray, flat_len strc_len, Nat.mul_one]
  exact World.ownsRow_lit w (l.flatMap strc).toArray l.length (size := 1) (Nat.le_refl _) (by simp only [maxLen]; omega) (by rw [hs, Nat.mul_one])
theorem SlS.nil (w : World) : SlS w (.slice none 0 0) [] := ⟨none, 0, rfl, RdL.nil _ _ _ _, fun _ => rfl, Nat.le_refl _, Nat.zero_le _⟩
theorem Sml.of (l : List (List UInt8)) (h : l.length ≤ 1000000 ∧ l.all (fun s => decide (s.length ≤ 1000000)) = true) : Sml l := ⟨h.1, fun s hs => of_decide_eq_true (List.all_eq_true.1 h.2 s hs)⟩
theorem sameTexts_v (va vb : Value) (a b : List (List UInt8)) (w : World) (ha : SlS w va a) (hb : SlS w vb b) (hla : a.length ≤ 1000000) (hlb : b.length ≤ 1000000) :
    Calls Tryz.prog 20 #[va, vb] w (Ret w (.bool (decide (a = b)))) := by
  obtain ⟨A, c, rfl, hr, _⟩ := ha
  obtain ⟨B, d, rfl, hs, _⟩ := hb
  exact sameTexts_any A B c d a b w hr hs hla hlb
theorem joins_any (v : Value) (ls : List (List (List UInt8))) (A : Option Addr) (n c : Nat) (a : Addr) (w : World) (hv : v = .slice A n c) (hnn : n = ls.length) (hK : KdS w A ls) (hn : ls.length ≤ 1000000) (hc : ls.length ≤ c) (hcm : c ≤ maxLen) (hl : ∀ x ∈ ls, Sml x) (hE : BigW w a) :
    Calls Tryz.prog 8 #[v] w (ListRet (joinL ls) a w) := by
  subst hv hnn
  exact join_any A c ls a w hK hn hc hcm hl hE
theorem ListRet.ok {r : Option (List (List UInt8))} {l : List (List UInt8)} {a : Addr} {w : World} {e : Ending} {w' : World} (h : ListRet r a w e w') (hr : r = some l) : ∃ v, e = .returned (.tuple #[v, .nilIface]) ∧ OwnS w' w.heap.size v l ∧ Below w.heap.size w w' := by
  subst hr
  exact h

theorem ListRet.up {r : Option (List (List UInt8))} {a : Addr} {w w0 : World} {e : Ending} {w' : World} (h : ListRet r a w e w') (hb : Below w0.heap.size w0 w) : ListRet r a w0 e w' := by
  cases r with
  | none => exact ⟨h.1, hb.trans (h.2.mono hb.size)⟩
  | some l =>
    obtain ⟨v, rfl, ho, hb'⟩ := h
    exact ⟨v, rfl, ho.mono hb.size, hb.trans (hb'.mono hb.size)⟩
/-- Lists joined, cats and light of a row of slice values just laid. -/
theorem joinN (vs : Array Value) (ls : List (List (List UInt8))) (n : Nat) (a : Addr) (w : World) (h : AllS w vs.toList ls) (hnn : n = ls.length) (hn : ls.length ≤ 1000) (hl : ∀ x ∈ ls, Sml x) (hE : BigW w a) :
    Calls Tryz.prog 8 #[.slice (some ⟨w.heap.size, 0, none⟩) n n] (w.alloc (.cells vs 23)) (ListRet (joinL ls) a w) := by
  subst hnn
  exact (join_any _ ls.length ls a _ (KdS.lit h) (by omega) (Nat.le_refl _) (by simp only [maxLen]; omega) hl (hE.below (below1 w _))).mono fun _ _ h => h.up (below1 w _)
theorem catN (vs : Array Value) (ls : List (List (List UInt8))) (n : Nat) (a : Addr) (w : World) (h : AllS w vs.toList ls) (hnn : n = ls.length) (hn : ls.length ≤ 1000) (hl : ∀ x ∈ ls, x.length ≤ 1000000) (hE : BigW w a) :
    Calls Tryz.prog 6 #[.slice (some ⟨w.heap.size, 0, none⟩) n n] (w.alloc (.cells vs 23)) (ListRet (catL ls) a w) := by
  subst hnn
  exact (cat_any _ ls.length ls a _ (KdS.lit h) (by omega) hl (hE.below (below1 w _))).mono fun _ _ h => h.up (below1 w _)
theorem lightN (vs : Array Value) (ls : List (List (List UInt8))) (n : Nat) (w : World) (h : AllS w vs.toList ls) (hnn : n = ls.length) (hn : ls.length ≤ 1000) (hl : ∀ x ∈ ls, ∀ s ∈ x, s.length ≤ 140737488355328) :
    Calls Tryz.prog 5 #[.slice (some ⟨w.heap.size, 0, none⟩) n n] (w.alloc (.cells vs 23)) (Ret w (.bool (lightL ls))) := by
  subst hnn
  refine (light_any _ ls.length ls _ (KdS.lit h) (by simp only [maxLen]; omega) hl).mono ?_
  rintro e w' ⟨rfl, rfl⟩
  exact ⟨rfl, below1 w _⟩
theorem AllS.two {w : World} {v u : Value} {x y : List (List UInt8)} (h1 : SlS w v x) (h2 : SlS w u y) : AllS w (#[v, u] : Array Value).toList [x, y] := AllS.cons h1 (AllS.cons h2 (AllS.nil _))
theorem AllS.one {w : World} {v : Value} {x : List (List UInt8)} (h1 : SlS w v x) : AllS w (#[v] : Array Value).toList [x] := AllS.cons h1 (AllS.nil _)
theorem AllS.three {w : World} {v u t : Value} {x y z : List (List UInt8)} (h1 : SlS w v x) (h2 : SlS w u y) (h3 : SlS w t z) : AllS w (#[v, u, t] : Array Value).toList [x, y, z] := AllS.cons h1 (AllS.cons h2 (AllS.cons h3 (AllS.nil _)))
theorem sml_two {x y : List (List UInt8)} (h1 : Sml x) (h2 : Sml y) : ∀ z ∈ [x, y], Sml z := by
  intro z hz
  simp only [List.mem_cons, List.not_mem_nil, or_false] at hz
  rcases hz with rfl | rfl
  · exact h1
  · exact h2
/-- Two literal lists joined. -/
theorem joinLit (x y r : List (List UInt8)) (cx cy : Array Value) (a : Addr) (w : World) (hx : cx = (x.flatMap strc).toArray) (hy : cy = (y.flatMap strc).toArray) (lx : x.length ≤ 1000) (ly : y.length ≤ 1000) (sx : Sml x) (sy : Sml y) (hr : joinL [x, y] = some r) (hE : BigW w a) :
    Calls Tryz.prog 8 #[.slice (some ⟨w.heap.size + 1 + 1, 0, none⟩) 2 2] (((w.alloc (.cells cx 9)).alloc (.cells cy 9)).alloc (.cells #[.slice (some ⟨w.heap.size, 0, none⟩) x.length x.length, .slice (some ⟨w.heap.size + 1, 0, none⟩) y.length y.length] 23))
      fun e w' => ∃ v, e = .returned (.tuple #[v, .nilIface]) ∧ OwnS w' w.heap.size v r ∧ Below w.heap.size w w' := by
  have b1 := below1 w (.cells cx 9)
  have b2 := below1 (w.alloc (.cells cx 9)) (.cells cy 9)
  have b12 := b1.trans (b2.mono b1.size)
  have h1 := (SlS.lit w x cx hx lx).below b2
  have h2 := SlS.lit (w.alloc (.cells cx 9)) y cy hy ly
  have h := joinN #[.slice (some ⟨w.heap.size, 0, none⟩) x.length x.length, .slice (some ⟨(w.alloc (.cells cx 9)).heap.size, 0, none⟩) y.length y.length] [x, y] 2 a _ (AllS.two h1 h2) rfl (by show 2 ≤ 1000; decide) (sml_two sx sy) (hE.below b12)
  simp only [alloc_size] at h
  refine h.mono fun e w' h => (h.up b12).ok hr
/-- .. one with none. -/
theorem joinLit0 (x r : List (List UInt8)) (cx : Array Value) (a : Addr) (w : World) (hx : cx = (x.flatMap strc).toArray) (lx : x.length ≤ 1000) (sx : Sml x) (hr : joinL [x, []] = some r) (hE : BigW w a) :
    Calls Tryz.prog 8 #[.slice (some ⟨w.heap.size + 1, 0, none⟩) 2 2] ((w.alloc (.cells cx 9)).alloc (.cells #[.slice (some ⟨w.heap.size, 0, none⟩) x.length x.length, .slice none 0 0] 23))
      fun e w' => ∃ v, e = .returned (.tuple #[v, .nilIface]) ∧ OwnS w' w.heap.size v r ∧ Below w.heap.size w w' := by
  have b1 := below1 w (.cells cx 9)
  have h1 := SlS.lit w x cx hx lx
  have h := joinN #[.slice (some ⟨w.heap.size, 0, none⟩) x.length x.length, .slice none 0 0] [x, []] 2 a _ (AllS.two h1 (SlS.nil _)) rfl (by show 2 ≤ 1000; decide) (sml_two sx (Sml.of [] (by decide))) (hE.below b1)
  simp only [alloc_size] at h
  exact h.mono fun e w' h => (h.up b1).ok hr
def globS (N : List (List UInt8)) (s : List UInt8) : List (List UInt8) := if liveL s then (if 0 < (sortedS (N.filter (isFile s))).length then sortedS (N.filter (isFile s)) else [plainL s]) else [plainL s]
theorem glob_eq (N : List (List UInt8)) : globOf N = globS N := by
  funext s
  unfold globOf globS
  rw [show filesL s N = sortedS (N.filter (isFile s)) from (sortedS_eq (compact_sort (N.filter (isFile s))).1 (compact_sort (N.filter (isFile s))).2).symm]
theorem globLit (x y r : List (List UInt8)) (cx cy : Array Value) (a : Addr) (w : World) (hx : cx = (x.flatMap strc).toArray) (hy : cy = (y.flatMap strc).toArray) (lx : x.length ≤ 1000) (ly : y.length ≤ 1000) (sx : Thin x) (sy : Sml y) (hr : eachL (globS y) x = some r) (hE : BigW w a) :
    Calls Tryz.prog 18 #[.slice (some ⟨w.heap.size, 0, none⟩) x.length x.length, .slice (some ⟨w.heap.size + 1, 0, none⟩) y.length y.length] ((w.alloc (.cells cx 9)).alloc (.cells cy 9))
      fun e w' => ∃ v, e = .returned (.tuple #[v, .nilIface]) ∧ OwnS w' w.heap.size v r ∧ Below w.heap.size w w' := by
  have b1 := below1 w (.cells cx 9)
  have b2 := below1 (w.alloc (.cells cx 9)) (.cells cy 9)
  have b12 := b1.trans (b2.mono b1.size)
  have h1 := (SlS.lit w x cx hx lx).below b2
  have h2 := SlS.lit (w.alloc (.cells cx 9)) y cy hy ly
  have h := lglob_any _ _ x y a _ h1 sx h2 sy (hE.below b12)
  simp only [alloc_size] at h
  exact h.mono fun e w' h => (h.up b12).ok (by rw [glob_eq]; exact hr)
set_option maxRecDepth 100000 in
set_option maxHeartbeats 4000000 in
theorem first3_any (a : Addr) (w : World) (hE : BigW w a) : Calls Tryz.prog 4 #[] w (Ret w (.bool true)) := by
  have HE := Lib.hid hE
  have hb := Below.refl w.heap.size w
  clear hE
  go_enter Tryz.func4, Tryz.ntmps4
  go_wp2_with fail
  refine (joinLit [[97],[98]] [[49],[50]] [[97,49],[98,50]] _ _ a w rfl rfl (by decide) (by decide) (Sml.of _ (by decide)) (Sml.of _ (by decide)) (by decide +kernel) (HE.out.below hb)).mono ?_
  rintro e w1 ⟨vw1, rfl, how1, hbn⟩
  have sw1 := how1.rd
  replace hb := hb.trans (hbn.mono hb.size)
  clear how1
  clear hbn
  go_wp2_with fail
  refine (joinLit [[97],[98]] [[120]] [[97,120],[98,120]] _ _ a w1 rfl rfl (by decide) (by decide) (Sml.of _ (by decide)) (Sml.of _ (by decide)) (by decide +kernel) (HE.out.below hb)).mono ?_
  rintro e w2 ⟨vw2, rfl, how2, hbn⟩
  have sw2 := how2.rd
  replace hb := hb.trans (hbn.mono hb.size)
  clear how2
  replace sw1 := SlS.below sw1 hbn
  clear hbn
  go_wp2_with fail
  refine (joinLit0 [[97]] [[97]] _ a w2 rfl (by decide) (Sml.of _ (by decide)) (by decide +kernel) (HE.out.below hb)).mono ?_
  rintro e w3 ⟨vw3, rfl, how3, hbn⟩
  have sw3 := how3.rd
  replace hb := hb.trans (hbn.mono hb.size)
  clear how3
  replace sw1 := SlS.below sw1 hbn
  replace sw2 := SlS.below sw2 hbn
  clear hbn
  go_wp2_with fail
  refine (globLit [[42, 46, 99], [113, 42]] [[120, 46, 99], [97, 46, 99]] [[97, 46, 99], [120, 46, 99], [113, 42]] _ _ a w3 rfl rfl (by decide) (by decide) ⟨by decide, by decide⟩ (Sml.of _ (by decide)) (by decide +kernel) (HE.out.below hb)).mono ?_
  rintro e w4 ⟨vw4, rfl, how4, hbn⟩
  have sw4 := how4.rd
  replace hb := hb.trans (hbn.mono hb.size)
  clear how4
  replace sw1 := SlS.below sw1 hbn
  replace sw2 := SlS.below sw2 hbn
  replace sw3 := SlS.below sw3 hbn
  clear hbn
  go_wp2_with fail
  refine (sameTexts_v vw1 _ [[97,49],[98,50]] [[97,49],[98,50]] _ (SlS.below sw1 (below1 _ _)) (SlS.lit w4 [[97,49],[98,50]] _ rfl (by decide)) (by decide) (by decide)).mono ?_
  rw [decide_eq_true rfl]
  rintro e w5 ⟨rfl, hbm⟩
  have hbn := (below1 w4 _).trans (hbm.mono (below1 w4 _).size)
  replace hb := hb.trans (hbn.mono hb.size)
  clear hbm sw1
  replace sw2 := SlS.below sw2 hbn
  replace sw3 := SlS.below sw3 hbn
  replace sw4 := SlS.below sw4 hbn
  clear hbn
  go_wp2_with fail
  refine (sameTexts_v vw2 _ [[97,120],[98,120]] [[97,120],[98,120]] _ (SlS.below sw2 (below1 _ _)) (SlS.lit w5 [[97,120],[98,120]] _ rfl (by decide)) (by decide) (by decide)).mono ?_
  rw [decide_eq_true rfl]
  rintro e w6 ⟨rfl, hbm⟩
  have hbn := (below1 w5 _).trans (hbm.mono (below1 w5 _).size)
  replace hb := hb.trans (hbn.mono hb.size)
  clear hbm sw2
  replace sw3 := SlS.below sw3 hbn
  replace sw4 := SlS.below sw4 hbn
  clear hbn
  go_wp2_with fail
  refine (sameTexts_v vw3 _ [[97]] [[97]] _ (SlS.below sw3 (below1 _ _)) (SlS.lit w6 [[97]] _ rfl (by decide)) (by decide) (by decide)).mono ?_
  rw [decide_eq_true rfl]
  rintro e w7 ⟨rfl, hbm⟩
  have hbn := (below1 w6 _).trans (hbm.mono (below1 w6 _).size)
  replace hb := hb.trans (hbn.mono hb.size)
  clear hbm sw3
  replace sw4 := SlS.below sw4 hbn
  clear hbn
  go_wp2_with fail
  refine (sameTexts_v vw4 _ [[97,46,99],[120,46,99],[113,42]] [[97,46,99],[120,46,99],[113,42]] _ (SlS.below sw4 (below1 _ _)) (SlS.lit w7 [[97,46,99],[120,46,99],[113,42]] _ rfl (by decide)) (by decide) (by decide)).mono ?_
  rw [decide_eq_true rfl]
  rintro e w8 ⟨rfl, hbm⟩
  have hbn := (below1 w7 _).trans (hbm.mono (below1 w7 _).size)
  replace hb := hb.trans (hbn.mono hb.size)
  clear hbm sw4
  clear hbn
  go_wp2_with fail
  refine (pick_any _ [[97], [98]] 3 _ (SlS.lit w8 [[97], [98]] _ rfl (by decide)) (by decide) (by decide)).mono ?_
  rintro e w9 ⟨v9, rfl, ho9, hbn⟩
  obtain ⟨A9, c9, rfl, _⟩ := ho9.rd
  replace hb := (hb.alloc hb.size _).trans (hbn.mono (hb.alloc hb.size _).size)
  go_wp2_with fail
  go_ret
  exact ⟨rfl, hb⟩
end Go.Proofs.YtlhpflilpdceiaaGreatDoor
