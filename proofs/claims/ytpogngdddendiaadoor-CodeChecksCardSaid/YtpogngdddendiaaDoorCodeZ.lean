/- The chapter's examples (the law's first). -/
import Derived.Test.YtpogngdddendiaaDoorCodeX
import Derived.Test.YtpogngdddendiaaDoorCodeQ
import Derived.Test.YtpogngdddendiaaDoorCodeO
import Derived.Test.YtpogngdddendiaaDoorCodeU
set_option linter.unusedVariables false
set_option linter.unusedSimpArgs false
namespace Go.Proofs.YtpogngdddendiaaDoor
open Go.RowKit

def xA : List Ins := [⟨1, 0, 0, [97]⟩, ⟨15, 1, 0, []⟩, ⟨41, 0, 0, []⟩]
def xB : List Ins := [⟨18, 5, 0, []⟩]
def qP (s : List UInt8) : List UInt8 := [34] ++ s ++ [34]
theorem rd_blk {w : World} {g c : Nat} {cs : Array Value} {L : List Ins} (h : Blk w g 36 cs) (hcs : cs.toList = L.flatMap insc) (hl : L.length * 4 = cs.size) (hb : L.length ≤ maxLen) : RdL w 4 insc (some ⟨g, 0, none⟩) L := by
  refine own_insc (base := 0) (n := L.length) (c := L.length) ⟨?_, .inr ⟨g, L.length, cs, rfl, Nat.zero_le _, h, Nat.le_refl _, hb, hl.symm, ?_⟩⟩ rfl
  · rw [← hcs]; simp [hl]
  · rw [← hcs, List.take_of_length_le (by simp [hl])]
theorem faultA : faultC xA 1 = (0, []) := by decide +kernel
theorem faultB : faultC xB 0 = (116, [0]) := by decide +kernel
theorem printA : printL qP xA 1 = [115, 116, 97, 99, 107, 32, 49, 10, 108, 105, 116, 32, 48, 32, 48, 32, 34, 97, 34, 10, 99, 97, 108, 108, 32, 49, 32, 48, 10, 104, 97, 108, 116, 32, 48, 32, 48, 10] := by decide +kernel
theorem opA : opL ⟨#[116, 105, 99, 107]⟩ = 14 := by decide +kernel
theorem nameA : nameO 41 = ⟨#[104, 97, 108, 116]⟩ := by decide +kernel
theorem quoteA (w : World) : QuoteIn qP xA w := by
  intro x hx
  simp only [xA, List.mem_cons, List.not_mem_nil, or_false] at hx
  rcases hx with rfl | rfl | rfl
  · exact ⟨⟨by decide, by decide⟩, ⟨by decide, by decide⟩, by decide, fun _ W _ => quoteP_any ⟨#[97]⟩ W (by decide) (by decide)⟩
  · exact ⟨⟨by decide, by decide⟩, ⟨by decide, by decide⟩, by decide, fun h => absurd rfl h⟩
  · exact ⟨⟨by decide, by decide⟩, ⟨by decide, by decide⟩, by decide, fun h => absurd rfl h⟩
def cellsA : Array Value := #[.int .i64 1, .int .i64 0, .int .i64 0, .string ⟨#[97]⟩, .int .i64 15, .int .i64 1, .int .i64 0, .string ⟨#[]⟩, .int .i64 41, .int .i64 0, .int .i64 0, .string ⟨#[]⟩]
def cellsB : Array Value := #[.int .i64 18, .int .i64 5, .int .i64 0, .string ⟨#[]⟩]
set_option maxRecDepth 100000 in
set_option maxHeartbeats 4000000 in
theorem first22_any (L : List Addr) (w : World) (hS : SenW w L) (hp : PowI w) : Calls Tryd.prog 22 #[] w (Ret w (.bool true)) := by
  obtain ⟨W1, hW1⟩ : ∃ W1, W1 = w.alloc (.cells cellsA 36) := ⟨_, rfl⟩
  obtain ⟨W2, hW2⟩ : ∃ W2, W2 = W1.alloc (.cells #[.slice (some ⟨w.heap.size, 0, none⟩) 3 3, .int .i64 1] 29) := ⟨_, rfl⟩
  obtain ⟨W3, hW3⟩ : ∃ W3, W3 = W2.alloc (.cells cellsB 36) := ⟨_, rfl⟩
  have hb1 : Below w.heap.size w W1 := by rw [hW1]; exact (Below.refl _ _).alloc (Nat.le_refl _) _
  have hb2 : Below W1.heap.size W1 W2 := by rw [hW2]; exact (Below.refl _ _).alloc (Nat.le_refl _) _
  have hb3 : Below W2.heap.size W2 W3 := by rw [hW3]; exact (Below.refl _ _).alloc (Nat.le_refl _) _
  have hBA : Blk W1 w.heap.size 36 cellsA := by rw [hW1]; exact Blk.new w _ _
  have hBC : Blk W2 W1.heap.size 29 #[.slice (some ⟨w.heap.size, 0, none⟩) 3 3, .int .i64 1] := by rw [hW2]; exact Blk.new W1 _ _
  have hBB : Blk W3 W2.heap.size 36 cellsB := by rw [hW3]; exact Blk.new W2 _ _
  have hb13 : Below w.heap.size w W3 := hb1.trans ((hb2.mono hb1.size).trans (hb3.mono (Nat.le_trans hb1.size hb2.size)))
  have HB3 := Lib.hid hb13
  have rA := rd_blk (c := 3) (L := xA) ((hBA.below hb2).below hb3) rfl rfl (by decide)
  have rB := rd_blk (c := 1) (L := xB) hBB rfl rfl (by decide)
  have s1 : W1.heap.size = w.heap.size + 1 := by rw [hW1]; exact Array.size_push _
  have s2 : W2.heap.size = w.heap.size + 2 := by rw [hW2, show (W1.alloc _).heap.size = W1.heap.size + 1 from Array.size_push _, s1]
  have hBC3 := hBC.below hb3
  rw [s1] at hBC3
  rw [s2] at rB
  have HRA := Lib.hid rA
  have HRB := Lib.hid rB
  have HBC := Lib.hid hBC3
  have HSW := Lib.hid (hS.below hb13)
  have HP := Lib.hid (hp.below hb13)
  have CB := Lib.hid (ccheck_all (some ⟨w.heap.size + 2, 0, none⟩) 1 0 xB L W3 (by decide) (by decide) rB HSW.out)
  rw [faultB] at CB
  have hlB : xB.length = 1 := rfl
  rw [hlB] at CB
  clear hS hp hb1 hb2 hb3 hBA hBC hBB hb13 rA rB hBC3 hlB
  go_enter Tryd.func22, Tryd.ntmps22
  go_upto_region 2 with (fail)
  have hW2' := hW2
  rw [hW1] at hW2'
  unfold cellsA at hW2'
  rw [← hW2']
  have hW3' := hW3
  unfold cellsB at hW3'
  generalize hsz : w.heap.size = z at *
  have HZ := Lib.hid hsz
  have HS2 := Lib.hid s2
  clear hsz s1 s2 hW1 hW2 hW3 hW2'
  have HW3 := Lib.hid hW3'
  clear hW3'
  go_wp2_with fail
  rw [← HW3.out, HS2.out]
  refine CB.out.mono ?_
  rintro e w4 ⟨v, rfl, hv, -, hnz, hb4⟩
  have HV4 := Lib.hid hv
  obtain ⟨av, hav⟩ := hnz (by decide)
  have HR4 := Lib.hid (HB3.out.trans (hb4.mono (by rw [← HZ.out]; exact HB3.out.size)))
  have HA4 := Lib.hid (HRA.out.below hb4)
  have HC4 := Lib.hid (HBC.out.below hb4)
  have HS4 := Lib.hid (HSW.out.below hb4)
  have HP4 := Lib.hid (HP.out.below hb4)
  have c0 := HC4.out.cell 0
  have c1 := HC4.out.cell 1
  simp only [List.getElem?_toArray, List.getElem?_cons_zero, List.getElem?_cons_succ] at c0 c1
  have CA := Lib.hid (ccheck_all (some ⟨z, 0, none⟩) 3 1 xA L w4 (by decide) (by decide) HA4.out HS4.out)
  rw [faultA] at CA
  have hlA : xA.length = 3 := rfl
  rw [hlA] at CA
  clear hv hnz hb4 CB HSW HP HRA HRB HBC HB3
  go_wp2_with fail
  refine CA.out.mono ?_
  rintro e w5 ⟨v5, rfl, -, hz5, -, hb5⟩
  obtain rfl := hz5 rfl
  have HR5 := Lib.hid (HR4.out.trans (hb5.mono (by rw [← HZ.out]; exact HR4.out.size)))
  have HA5 := Lib.hid (HA4.out.below hb5)
  have HC5 := Lib.hid (HC4.out.below hb5)
  have HS5 := Lib.hid (HS4.out.below hb5)
  have HP5 := Lib.hid (HP4.out.below hb5)
  have HV5 := Lib.hid (HV4.out.below hb5)
  have d0 := HC5.out.cell 0
  have d1 := HC5.out.cell 1
  simp only [List.getElem?_toArray, List.getElem?_cons_zero, List.getElem?_cons_succ] at d0 d1
  have PA := Lib.hid (print_any (some ⟨z, 0, none⟩) 3 1 xA L qP w5 (by decide) (by decide) ⟨by decide, by decide⟩ HA5.out HS5.out HP5.out (fun _ => quoteA w5))
  rw [faultA, if_pos rfl, printA, hlA] at PA
  clear hz5 hb5 CA HA4 HC4 HS4 HP4 HV4 c0 c1
  go_wp2_with fail
  refine PA.out.mono ?_
  rintro e w6 ⟨rfl, hb6⟩
  have HR6 := Lib.hid (HR5.out.trans (hb6.mono (by rw [← HZ.out]; exact HR5.out.size)))
  have HS6 := Lib.hid (HS5.out.below hb6)
  have HV6 := Lib.hid (HV5.out.below hb6)
  clear hb6 PA HA5 HC5 HS5 HP5 HV5 d0 d1
  go_wp2_with fail
  refine (placed_any 116 0 w6 (by decide)).mono ?_
  rintro e w7 ⟨u, rfl, hu, hb7⟩
  have HR7 := Lib.hid (HR6.out.trans (hb7.mono (by rw [← HZ.out]; exact HR6.out.size)))
  have SC := Lib.hid (seesame_any L w7 v u 116 116 [0] [0] (HS6.out.below hb7) (HV6.out.below hb7) hu (by decide))
  clear hu hb7 HS6 HV6
  go_wp2_with fail
  refine SC.out.mono ?_
  rintro e w8 ⟨rfl, hb8⟩
  have hsm : ((116 : Int) == 116 && SameI [0] [0]) = true := by decide
  rw [hsm]
  have HR8 := Lib.hid (HR7.out.trans (hb8.mono (by rw [← HZ.out]; exact HR7.out.size)))
  clear hb8 SC hsm
  have NA := Lib.hid (name_all 41 w8)
  rw [nameA] at NA
  go_wp2_with fail
  refine NA.out.mono ?_
  rintro e w9 ⟨rfl, hb9⟩
  have HR9 := Lib.hid (HR8.out.trans (hb9.mono (by rw [← HZ.out]; exact HR8.out.size)))
  have OA := Lib.hid (op_anyC ⟨#[116, 105, 99, 107]⟩ w9)
  rw [opA] at OA
  clear hb9 NA
  go_wp2_with fail
  refine OA.out.mono ?_
  rintro e w10 ⟨rfl, hb10⟩
  have HR10 := Lib.hid (HR9.out.trans (hb10.mono (by rw [← HZ.out]; exact HR9.out.size)))
  clear hb10 OA
  go_wp2_with fail
  go_ret
  exact ⟨rfl, by rw [HZ.out]; exact HR10.out⟩
end Go.Proofs.YtpogngdddendiaaDoor
