/- The walk over package builtin's Do, whatever the command does. No condition. -/
import Derived.Test.YtjpfolbghjhodaaDoorBuiltW1
import Derived.Deep.Cut
set_option linter.unusedVariables false
set_option linter.unusedSimpArgs false
namespace Go.Proofs.YtjpfolbghjhodaaDoor
open Go.RowKit Go.Maps

theorem zeroO (w : World) : (w.alloc (.cells #[.string { data := #[] }, .string { data := #[] }, .int .i64 0, .string { data := #[] }, .string { data := #[] }, .bool false] tO)) = w.alloc (.cells #[.string { data := #[] }, .string { data := #[] }, .int .i64 0, .string { data := #[] }, .string { data := #[] }, .bool false] tO) := rfl
theorem Blk.set6 {w : World} {g : Nat} {t : TypeId} {a b c d e f : Value} (h : Blk w g t #[a, b, c, d, e, f]) (a' b' c' d' e' f' : Value) :
    Blk ((((((w.setCell ⟨g, 0, none⟩ a').setCell ⟨g, 1, none⟩ b').setCell ⟨g, 2, none⟩ c').setCell ⟨g, 3, none⟩ d').setCell ⟨g, 4, none⟩ e').setCell ⟨g, 5, none⟩ f') g t #[a', b', c', d', e', f'] := by
  simpa using (((((h.set 0 a').set 1 b').set 2 c').set 3 d').set 4 e').set 5 f'
theorem But.set6 (g : Nat) (x : World) (a b c d e f : Value) : But g x ((((((x.setCell ⟨g, 0, none⟩ a).setCell ⟨g, 1, none⟩ b).setCell ⟨g, 2, none⟩ c).setCell ⟨g, 3, none⟩ d).setCell ⟨g, 4, none⟩ e).setCell ⟨g, 5, none⟩ f) :=
  (((((But.set _ 0 _).trans (But.set _ 1 _)).trans (But.set _ 2 _)).trans (But.set _ 3 _)).trans (But.set _ 4 _)).trans (But.set _ 5 _)
set_option maxRecDepth 100000 in
set_option maxHeartbeats 4000000 in
theorem do_any (name inn : List UInt8) (args : Value) (f : Nat) (o' : Outc) (w : World) (hE : ∀ args w, (callFunc f args).run Tryd.prog w = .ok (.enter f args) w) (hnl : name.length ≤ 1000) (hhas : Maps.has cmdD (.string name) = true) (hat : ∀ zd, cmdD.atKey (.string name) zd = .held (fnV f))
    (HC : ∀ (W : World) (g : Nat), Below w.heap.size w W → w.heap.size ≤ g → OcB W g (oc0 inn) → Calls Tryd.prog f #[.pointer (some ⟨g, 0, none⟩), .string ⟨inn.toArray⟩, args] W (CmdRet g o' W)) :
    Calls Tryd.prog 22 #[.string ⟨name.toArray⟩, .string ⟨inn.toArray⟩, args] w (Ret w (.tuple #[ocV o', .bool true])) := by
  have HCC := Lib.hid HC
  have HK := Lib.hid (show ∀ (W : World) (b : Nat), W.ownsMap Tryd.prog 9 hR b 11 cmdD → (Instr.lookup 76 (.map (some b)) (.string ⟨name.toArray⟩) true).run Tryd.prog W = .ok (.tuple #[.func (.func f) #[] #[], .bool true]) W from fun W b h => by
    have := look_held h lawStr Tryd.underlying76 (Tryd.zeroValue74 _) (WideMaps.keyOf_string_mk Tryd.underlying9 (s := ⟨name.toArray⟩) (by show name.toArray.size ≤ _; rw [List.size_toArray]; unfold maxLen; omega)) (hat _)
    rw [show (⟨name.toArray⟩ : ByteArray).data.toList = name from rfl, hhas] at this
    exact this)
  clear HC hhas hat hnl
  obtain ⟨w1, hw1⟩ : ∃ w1, w1 = w.alloc (.cells #[.string { data := #[] }, .string { data := #[] }, .int .i64 0, .string { data := #[] }, .string { data := #[] }, .bool false] 45) := ⟨_, rfl⟩
  have HB1 := Lib.hid (show Below w.heap.size w w1 by rw [hw1]; exact (Below.refl _ _).alloc (Nat.le_refl _) _)
  have HQ1 := Lib.hid (show Blk w1 w.heap.size 45 #[.string { data := #[] }, .string { data := #[] }, .int .i64 0, .string { data := #[] }, .string { data := #[] }, .bool false] by rw [hw1]; exact Blk.new w _ _)
  have HW1 := Lib.hid hw1
  obtain ⟨g6, hg6⟩ : ∃ g6, g6 = w.heap.size := ⟨_, rfl⟩
  have HG6 := Lib.hid hg6
  clear hw1
  go_enter Tryd.func22, Tryd.ntmps22
  go_upto_region 1 with (fail)
  rw [← HW1.out, ← hg6]
  rw [← hg6] at HQ1
  clear HW1 hg6
  go_wp2_with fail
  refine (commands_any w1).mono ?_
  rintro e w2 ⟨b, rfl, hm, hb2⟩
  have hlk := HK.out w2 b hm
  have HB2 := Lib.hid (HB1.out.trans (hb2.mono HB1.out.size))
  have HQ2 := Lib.hid (HQ1.out.below hb2)
  clear hm hb2 HK HB1 HQ1
  go_upto_region 5 with (fail)
  have hb3 : Below w2.heap.size w2 (w2.alloc (.cells #[.string { data := #[] }, .string { data := inn.toArray }, .int .i64 0, .string { data := #[] }, .string { data := #[] }, .bool false] 45)) := (Below.refl _ _).alloc (Nat.le_refl _) _
  have hO3 : OcB (w2.alloc (.cells #[.string { data := #[] }, .string { data := inn.toArray }, .int .i64 0, .string { data := #[] }, .string { data := #[] }, .bool false] 45)) w2.heap.size (oc0 inn) := Blk.new w2 _ _
  obtain ⟨g, hg⟩ : ∃ g, g = w2.heap.size := ⟨_, rfl⟩
  rw [← hg] at hO3 ⊢
  have HB3 := Lib.hid (HB2.out.trans (hb3.mono HB2.out.size))
  have HQ3 := Lib.hid (HQ2.out.below hb3)
  have HGG := Lib.hid (show w.heap.size ≤ g by rw [hg]; exact HB2.out.size)
  have HNE := Lib.hid (show g6 ≠ g by have := HQ2.out.lt; omega)
  have HO3 := Lib.hid hO3
  clear hlk hb3 hO3 hg HQ2 HB2
  generalize w2.alloc (.cells #[.string { data := #[] }, .string { data := inn.toArray }, .int .i64 0, .string { data := #[] }, .string { data := #[] }, .bool false] 45) = w3 at *
  go_wp2_with fail
  refine (HCC.out w3 g HB3.out HGG.out HO3.out).mono ?_
  rintro e w4 ⟨rfl, hO4, hB4⟩
  unfold OcB at hO4
  have hQ4 := hB4.blk HQ3.out HNE.out
  have d0 := hO4.cell 0
  have d1 := hO4.cell 1
  have d2 := hO4.cell 2
  have d3 := hO4.cell 3
  have d4 := hO4.cell 4
  have d5 := hO4.cell 5
  have e0 := hQ4.cell 0
  have e1 := hQ4.cell 1
  have e2 := hQ4.cell 2
  have e3 := hQ4.cell 3
  have e4 := hQ4.cell 4
  have e5 := hQ4.cell 5
  have f0 := hQ4.frozen 0
  have f1 := hQ4.frozen 1
  have f2 := hQ4.frozen 2
  have f3 := hQ4.frozen 3
  have f4 := hQ4.frozen 4
  have f5 := hQ4.frozen 5
  simp only [List.getElem?_toArray, List.getElem?_cons_zero, List.getElem?_cons_succ] at d0 d1 d2 d3 d4 d5 e0 e1 e2 e3 e4 e5
  have HQ4 := Lib.hid hQ4
  have HB4 := Lib.hid (HB3.out.trans (hB4.below HGG.out HB3.out.size))
  clear hQ4 hO4 hB4 HCC HQ3 HB3
  go_wp2_with fail
  have hQ5 := HQ4.out.set6 (.string ⟨o'.out.toArray⟩) (.string ⟨o'.rest.toArray⟩) (.int .i64 o'.status) (.string ⟨o'.name.toArray⟩) (.string ⟨o'.value.toArray⟩) (.bool o'.fin)
  have hB5 := But.set6 g6 w4 (.string ⟨o'.out.toArray⟩) (.string ⟨o'.rest.toArray⟩) (.int .i64 o'.status) (.string ⟨o'.name.toArray⟩) (.string ⟨o'.value.toArray⟩) (.bool o'.fin)
  have t0 := hQ5.cell 0
  have t1 := hQ5.cell 1
  have t2 := hQ5.cell 2
  have t3 := hQ5.cell 3
  have t4 := hQ5.cell 4
  have t5 := hQ5.cell 5
  simp only [List.getElem?_toArray, List.getElem?_cons_zero, List.getElem?_cons_succ] at t0 t1 t2 t3 t4 t5
  have HBF := Lib.hid (HB4.out.trans (hB5.below (by rw [HG6.out]; exact Nat.le_refl _) HB4.out.size))
  generalize (((((w4.setCell ⟨g6, 0, none⟩ (.string ⟨o'.out.toArray⟩)).setCell ⟨g6, 1, none⟩ (.string ⟨o'.rest.toArray⟩)).setCell ⟨g6, 2, none⟩ (.int .i64 o'.status)).setCell ⟨g6, 3, none⟩ (.string ⟨o'.name.toArray⟩)).setCell ⟨g6, 4, none⟩ (.string ⟨o'.value.toArray⟩)).setCell ⟨g6, 5, none⟩ (.bool o'.fin) = wf at *
  refine bodyPost_ret (v := .tuple #[ocV o', .bool true]) (by simp [results, Tryd.results22, go_sem, ocV, t0, t1, t2, t3, t4, t5]) rfl ⟨rfl, HBF.out⟩
/-- A name that is none of these. -/
theorem do_none (name inn : List UInt8) (args : Value) (w : World) (hnl : name.length ≤ 1000) (hhas : Maps.has cmdD (.string name) = false) (hat : ∀ zd, cmdD.atKey (.string name) zd = zd) :
    Calls Tryd.prog 22 #[.string ⟨name.toArray⟩, .string ⟨inn.toArray⟩, args] w (Ret w (.tuple #[ocV (oc0 []), .bool false])) := by
  obtain ⟨zv, hzv⟩ : ∃ zv, (fun W : World => (zeroValue 74).run Tryd.prog W) = fun W => .ok zv W := ⟨_, funext fun W => Tryd.zeroValue74 W⟩
  have HK := Lib.hid (show ∀ (W : World) (b : Nat), W.ownsMap Tryd.prog 9 hR b 11 cmdD → (Instr.lookup 76 (.map (some b)) (.string ⟨name.toArray⟩) true).run Tryd.prog W = .ok (.tuple #[zv, .bool false]) W from fun W b h => by
    have := look_held h lawStr Tryd.underlying76 (congrFun hzv W) (WideMaps.keyOf_string_mk Tryd.underlying9 (s := ⟨name.toArray⟩) (by show name.toArray.size ≤ _; rw [List.size_toArray]; unfold maxLen; omega)) (hat _)
    rw [show (⟨name.toArray⟩ : ByteArray).data.toList = name from rfl, hhas] at this
    exact this)
  clear hhas hat hnl hzv
  obtain ⟨w1, hw1⟩ : ∃ w1, w1 = w.alloc (.cells #[.string { data := #[] }, .string { data := #[] }, .int .i64 0, .string { data := #[] }, .string { data := #[] }, .bool false] 45) := ⟨_, rfl⟩
  have HB1 := Lib.hid (show Below w.heap.size w w1 by rw [hw1]; exact (Below.refl _ _).alloc (Nat.le_refl _) _)
  have HQ1 := Lib.hid (show Blk w1 w.heap.size 45 #[.string { data := #[] }, .string { data := #[] }, .int .i64 0, .string { data := #[] }, .string { data := #[] }, .bool false] by rw [hw1]; exact Blk.new w _ _)
  have HW1 := Lib.hid hw1
  obtain ⟨g6, hg6⟩ : ∃ g6, g6 = w.heap.size := ⟨_, rfl⟩
  have HG6 := Lib.hid hg6
  clear hw1
  go_enter Tryd.func22, Tryd.ntmps22
  go_upto_region 1 with (fail)
  rw [← HW1.out, ← hg6]
  rw [← hg6] at HQ1
  clear HW1 hg6
  go_wp2_with fail
  refine (commands_any w1).mono ?_
  rintro e w2 ⟨b, rfl, hm, hb2⟩
  have hlk := HK.out w2 b hm
  have HB2 := Lib.hid (HB1.out.trans (hb2.mono HB1.out.size))
  have hQ4 := HQ1.out.below hb2
  have e0 := hQ4.cell 0
  have e1 := hQ4.cell 1
  have e2 := hQ4.cell 2
  have e3 := hQ4.cell 3
  have e4 := hQ4.cell 4
  have e5 := hQ4.cell 5
  have f0 := hQ4.frozen 0
  have f1 := hQ4.frozen 1
  have f2 := hQ4.frozen 2
  have f3 := hQ4.frozen 3
  have f4 := hQ4.frozen 4
  have f5 := hQ4.frozen 5
  simp only [List.getElem?_toArray, List.getElem?_cons_zero, List.getElem?_cons_succ] at e0 e1 e2 e3 e4 e5
  have HQ4 := Lib.hid hQ4
  clear hm hb2 HK HB1 HQ1 hQ4
  go_wp2_with fail
  have hQ5 := HQ4.out.set6 (.string { data := #[] }) (.string { data := #[] }) (.int .i64 0) (.string { data := #[] }) (.string { data := #[] }) (.bool false)
  have hB5 := But.set6 g6 w2 (.string { data := #[] }) (.string { data := #[] }) (.int .i64 0) (.string { data := #[] }) (.string { data := #[] }) (.bool false)
  have t0 := hQ5.cell 0
  have t1 := hQ5.cell 1
  have t2 := hQ5.cell 2
  have t3 := hQ5.cell 3
  have t4 := hQ5.cell 4
  have t5 := hQ5.cell 5
  simp only [List.getElem?_toArray, List.getElem?_cons_zero, List.getElem?_cons_succ] at t0 t1 t2 t3 t4 t5
  have HBF := Lib.hid (HB2.out.trans (hB5.below (by rw [HG6.out]; exact Nat.le_refl _) HB2.out.size))
  generalize (((((w2.setCell ⟨g6, 0, none⟩ (.string { data := #[] })).setCell ⟨g6, 1, none⟩ (.string { data := #[] })).setCell ⟨g6, 2, none⟩ (.int .i64 0)).setCell ⟨g6, 3, none⟩ (.string { data := #[] })).setCell ⟨g6, 4, none⟩ (.string { data := #[] })).setCell ⟨g6, 5, none⟩ (.bool false) = wf at *
  refine bodyPost_ret (v := .tuple #[ocV (oc0 []), .bool false]) (by simp [results, Tryd.results22, go_sem, ocV, oc0, t0, t1, t2, t3, t4, t5]) rfl ⟨rfl, HBF.out⟩
end Go.Proofs.YtjpfolbghjhodaaDoor
