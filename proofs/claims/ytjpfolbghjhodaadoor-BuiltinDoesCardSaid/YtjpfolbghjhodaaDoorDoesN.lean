/- The walks over builtin.Is and Names and the document's own list of them. A bound on the name's length. -/
import Derived.Test.YtjpfolbghjhodaaDoorDoesL
import Derived.Test.YtjpfolbghjhodaaDoorBuiltW5
import Derived.Test.YtjpfolbghjhodaaDoorIter
import Derived.Test.YtjpfolbghjhodaaDoorSortI
import Derived.Test.YtjpfolbghjhodaaDoorLater
set_option linter.unusedVariables false
set_option linter.unusedSimpArgs false
namespace Go.Proofs.YtjpfolbghjhodaaDoor
open Go.RowKit Go.Maps Go.Sort

theorem bis_any (name : List UInt8) (w : World) (hn : name.length ≤ 1000) : Calls Tryd.prog 24 #[.string ⟨name.toArray⟩] w (Ret w (.bool (cmdNames.contains name))) := by
  have HK := Lib.hid (show ∀ (W : World) (b : Nat), W.ownsMap Tryd.prog 9 hR b 11 cmdD → ∃ v, (Instr.lookup 76 (.map (some b)) (.string ⟨name.toArray⟩) true).run Tryd.prog W = .ok (.tuple #[v, .bool (cmdNames.contains name)]) W from fun W b h => by
    obtain ⟨v, ps, hrun, _⟩ := h.look_ok lawStr Tryd.underlying76 (Tryd.zeroValue74 _) (zd := .held _) (zp := []) rfl (WideMaps.keyOf_string_mk Tryd.underlying9 (s := ⟨name.toArray⟩) (by show name.toArray.size ≤ _; rw [List.size_toArray]; unfold maxLen; omega))
    rw [show (⟨name.toArray⟩ : ByteArray).data.toList = name from rfl, cmd_has] at hrun
    exact ⟨v, hrun⟩)
  generalize cmdNames.contains name = r at *
  go_enter Tryd.func24, Tryd.ntmps24
  go_wp2_with fail
  refine (commands_any w).mono ?_
  rintro e w2 ⟨b, rfl, hm, hb2⟩
  obtain ⟨v, hlk⟩ := HK.out w2 b hm
  clear hm HK
  go_wp2_with fail
  go_ret
  exact ⟨rfl, hb2⟩
theorem enc_flat (l : List (List UInt8)) : l.map encStr = l.flatMap strc := by
  induction l with
  | nil => rfl
  | cons x t ih => rw [List.map_cons, List.flatMap_cons, ih]; rfl
/-- A row of texts, read where it lies. -/
def TextsRet (L : List (List UInt8)) (w : World) (e : Ending) (w' : World) : Prop := ∃ A c, e = .returned (.slice A L.length c) ∧ RdL w' 1 strc A L ∧ Below w.heap.size w w'
theorem names_sorted : cmdNames.Pairwise (fun a b => leB a b = true) := by decide
theorem names_sort {ss : List (List UInt8)} (h : ss.Perm cmdNames) : ss.mergeSort (fun x y => decide (x ≤ y)) = cmdNames :=
  sort_unique ((List.mergeSort_perm ss leB).trans h) (sort_sorted ss) names_sorted
theorem keysB_any (mb : Option Nat) (W : World) : Calls Tryd.prog 45 #[.map mb] W fun e w' => e = .returned (.func (.func 76) #[] #[.pointer (some ⟨W.heap.size, 0, none⟩)]) ∧ w' = W.alloc (.cells #[.map mb] 76) :=
  callsIn_wide.1 (Tryd.maps_Keys_45 mb W)
theorem sortedB_any (b : Nat) (w : World) (h : w.ownsMap Tryd.prog 9 hR b 11 cmdD) : Calls Tryd.prog 32 #[.func (.func 76) #[] #[.pointer (some ⟨w.heap.size, 0, none⟩)]] (w.alloc (.cells #[.map (some b)] 76)) (TextsRet cmdNames w) := by
  refine (callsIn_wide.1 (Tryd.slices_Sorted_keys_32_45 b 11 cmdD hR w h (by rw [cmd_map]; unfold maxLen; decide) (by rw [cmd_map]; decide))).mono ?_
  rintro e w' ⟨v, ss, rfl, hp, hrow, _, hb⟩
  rw [cmd_keys] at hp
  rw [names_sort hp, enc_flat] at hrow
  have hl : ss.length = cmdNames.length := hp.length_eq
  obtain ⟨A, c, rfl, h1, h2, h3, h4⟩ := RdL.of_own strc_len hrow hl
  rw [hl]
  have hb0 : Below w.heap.size w (w.alloc (.cells #[.map (some b)] 76)) := (Below.refl _ _).alloc (Nat.le_refl _) _
  exact ⟨A, c, rfl, h3, hb0.trans (hb.mono hb0.size)⟩
theorem names_any (w : World) : Calls Tryd.prog 25 #[] w (TextsRet cmdNames w) := by
  go_enter Tryd.func25, Tryd.ntmps25
  go_wp2_with fail
  refine (commands_any w).mono ?_
  rintro e w1 ⟨b, rfl, hm, hb⟩
  have HS := Lib.hid (sortedB_any b w1 hm)
  clear hm
  go_wp2_with fail
  refine (keysB_any (some b) w1).mono ?_
  rintro e w2 ⟨rfl, rfl⟩
  go_wp2_with fail
  refine HS.out.mono ?_
  rintro e w3 ⟨A, c, rfl, hr, hb3⟩
  go_wp2_with fail
  go_ret
  exact ⟨A, c, rfl, hr, hb.trans (hb3.mono hb.size)⟩
theorem builtins_any (w : World) : Calls Tryd.prog 26 #[] w (TextsRet cmdNames w) := by
  have hr := rdl_lit w 9 cmdNames #[.string { data := #[97, 100, 100] }, .string { data := #[99, 97, 116] }, .string { data := #[101, 99, 104, 111] }, .string { data := #[101, 113] }, .string { data := #[101, 120, 105, 116] }, .string { data := #[102, 97, 108, 115, 101] }, .string { data := #[108, 101, 115, 115] }, .string { data := #[108, 105, 107, 101] }, .string { data := #[112, 117, 116] }, .string { data := #[114, 101, 97, 100] }, .string { data := #[116, 114, 117, 101] }] rfl
  have HR := Lib.hid hr
  clear hr
  go_enter Tryd.func26, Tryd.ntmps26
  go_wp2_with fail
  go_ret
  exact ⟨_, 11, rfl, HR.out, below1 w _⟩
end Go.Proofs.YtjpfolbghjhodaaDoor
