/- The walk over the statements' first: the chapter's examples: it returns true in every world. No condition. -/
import Derived.Test.YtckcpokfjofcaaaPatW3
import Derived.Test.YtckcpokfjofcaaaPatW5
import Derived.Test.YtckcpokfjofcaaaPatW6
set_option linter.unusedVariables false
set_option linter.unusedSimpArgs false
namespace Go.Proofs.Ytckcpokfjofcaaa
open Go.RowKit

theorem Ret.eq {w w' : World} {v u : Value} {e : Ending} (h : Ret w v e w') (hv : v = u) : Ret w u e w' := hv ▸ h
theorem str_eq {l m : List UInt8} (h : l = m) : Value.string ⟨l.toArray⟩ = .string ⟨m.toArray⟩ := by rw [h]

theorem first_escape (w : World) : Calls Try.prog 8 #[.string { data := #[97, 42, 98, 32, 99] }] w (Ret w (.string { data := #[97, 92, 42, 98, 92, 32, 99] })) :=
  (escape_any _ w (by decide)).mono fun _ _ h => h.eq (str_eq (by decide))
theorem first_plain (w : World) : Calls Try.prog 10 #[.string { data := #[97, 92, 42, 92, 92] }] w (Ret w (.string { data := #[97, 42, 92] })) :=
  (plain_any _ w (by decide)).mono fun _ _ h => h.eq (str_eq (by decide))
theorem first_match1 (w : World) : Calls Try.prog 14 #[.string { data := #[97, 42, 91, 98, 45, 100, 93] }, .string { data := #[97, 120, 120, 99] }] w (Ret w (.bool true)) :=
  (match_any _ _ w (by decide) (by decide)).mono fun _ _ h => h.eq (congrArg Value.bool (by decide))
theorem first_match2 (w : World) : Calls Try.prog 14 #[.string { data := #[91, 94, 97, 93] }, .string { data := #[97] }] w (Ret w (.bool false)) :=
  (match_any _ _ w (by decide) (by decide)).mono fun _ _ h => h.eq (congrArg Value.bool (by decide))
theorem first_match3 (w : World) : Calls Try.prog 14 #[.string { data := #[92, 42] }, .string { data := #[42] }] w (Ret w (.bool true)) :=
  (match_any _ _ w (by decide) (by decide)).mono fun _ _ h => h.eq (congrArg Value.bool (by decide))
theorem first_split (w : World) : Calls Try.prog 16 #[.string { data := #[97, 32, 98, 92, 32, 99, 32, 32, 100] }] w (StrsRet [[97], [98, 92, 32, 99], [100]] w) :=
  (split_any _ w (by decide)).mono fun _ _ h => by
    have he : splitL [97, 32, 98, 92, 32, 99, 32, 32, 100] = [[97], [98, 92, 32, 99], [100]] := by decide
    rw [← he]; exact h
theorem first_live1 (w : World) : Calls Try.prog 12 #[.string { data := #[91, 93] }] w (Ret w (.bool false)) :=
  (live_any _ w (by decide)).mono fun _ _ h => h.eq (congrArg Value.bool (by decide))
theorem first_live2 (w : World) : Calls Try.prog 12 #[.string { data := #[91, 97, 93] }] w (Ret w (.bool true)) :=
  (live_any _ w (by decide)).mono fun _ _ h => h.eq (congrArg Value.bool (by decide))

set_option maxHeartbeats 1000000 in
theorem first_any (w : World) : Calls Try.prog 4 #[] w (Ret w (.bool true)) := by
  go_enter Try.func4, Try.ntmps4
  go_wp2_with fail
  refine (first_escape _).mono ?_
  rintro e w1 ⟨rfl, hb1⟩
  go_wp2_with fail
  refine (first_plain _).mono ?_
  rintro e w2 ⟨rfl, hb2⟩
  replace hb2 := hb1.trans (hb2.mono hb1.size); clear hb1
  go_wp2_with fail
  refine (first_match1 _).mono ?_
  rintro e w1 ⟨rfl, hb1⟩
  replace hb1 := hb2.trans (hb1.mono hb2.size); clear hb2
  go_wp2_with fail
  refine (first_match2 _).mono ?_
  rintro e w2 ⟨rfl, hb2⟩
  replace hb2 := hb1.trans (hb2.mono hb1.size); clear hb1
  go_wp2_with fail
  refine (first_match3 _).mono ?_
  rintro e w1 ⟨rfl, hb1⟩
  replace hb1 := hb2.trans (hb1.mono hb2.size); clear hb2
  go_wp2_with fail
  refine (first_split _).mono ?_
  rintro e w2 ⟨A, c, rfl, hown, hb2⟩
  replace hb2 := hb1.trans (hb2.mono hb1.size); clear hb1
  go_wp2_with fail
  have h1 := (World.ownsRow_lit (base := w2.heap.size) (e := 9) w2 #[.string { data := #[97] }, .string { data := #[98, 92, 32, 99] }, .string { data := #[100] }] 3 (size := 1) (Nat.le_refl _) (by decide) rfl)
  obtain ⟨A1, c1, he1, _, _, hr1, _⟩ := RdL.of_own (l := [[97], [98, 92, 32, 99], [100]]) strc_len (own_below hown ((Below.refl _ _).alloc (Nat.le_refl _) (.cells #[.string { data := #[97] }, .string { data := #[98, 92, 32, 99] }, .string { data := #[100] }] 9))) rfl
  injection he1 with he1 _ he2
  subst he1 he2
  obtain ⟨A2, c2, he2, _, _, hr2, _⟩ := RdL.of_own (l := [[97], [98, 92, 32, 99], [100]]) (enc := strc) strc_len h1 rfl
  injection he2 with he1 _ he2
  subst he1 he2
  replace hb2 := hb2.alloc hb2.size (.cells #[.string { data := #[97] }, .string { data := #[98, 92, 32, 99] }, .string { data := #[100] }] 9)
  clear h1 hown
  refine (sameTexts_any A (some ⟨w2.heap.size, 0, none⟩) c 3 [[97], [98, 92, 32, 99], [100]] [[97], [98, 92, 32, 99], [100]] _ hr1 hr2 (by decide) (by decide)).mono ?_
  rintro e w3 ⟨rfl, hb3⟩
  replace hb3 := hb2.trans (hb3.mono hb2.size); clear hb2 hr1 hr2
  go_wp2_with fail
  refine (first_live1 _).mono ?_
  rintro e w2 ⟨rfl, hb2⟩
  replace hb2 := hb3.trans (hb2.mono hb3.size); clear hb3
  go_wp2_with fail
  refine (first_live2 _).mono ?_
  rintro e w1 ⟨rfl, hb1⟩
  replace hb1 := hb2.trans (hb1.mono hb2.size); clear hb2
  go_wp2_with fail
  go_ret
  exact ⟨rfl, hb1⟩
end Go.Proofs.Ytckcpokfjofcaaa
