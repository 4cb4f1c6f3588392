/- The walk over the statements' first: the chapter's examples: it returns true in every world. No condition. -/
import Derived.Test.YtlhpflilpdceiaaGreatDoorJQ
import Derived.Test.YtlhpflilpdceiaaGreatDoorPatW5
import Derived.Test.YtlhpflilpdceiaaGreatDoorPatW6
set_option linter.unusedVariables false
set_option linter.unusedSimpArgs false
namespace Go.Proofs.YtlhpflilpdceiaaGreatDoor
open Go.RowKit

theorem Ret.eq {w w' : World} {v u : Value} {e : Ending} (h : Ret w v e w') (hv : v = u) : Ret w u e w' := hv ▸ h
theorem str_eq {l m : List UInt8} (h : l = m) : Value.string ⟨l.toArray⟩ = .string ⟨m.toArray⟩ := by rw [h]

theorem first_escape (w : World) : Calls Tryz.prog 43 #[.string { data := #[97, 42, 98, 32, 99] }] w (Ret w (.string { data := #[97, 92, 42, 98, 92, 32, 99] })) :=
  (escape_any _ w (by decide)).mono fun _ _ h => h.eq (str_eq (by decide))
theorem first_plain (w : World) : Calls Tryz.prog 40 #[.string { data := #[97, 92, 42, 92, 92] }] w (Ret w (.string { data := #[97, 42, 92] })) :=
  (plain_any _ w (by decide)).mono fun _ _ h => h.eq (str_eq (by decide))
theorem first_match1 (w : World) : Calls Tryz.prog 72 #[.string { data := #[97, 42, 91, 98, 45, 100, 93] }, .string { data := #[97, 120, 120, 99] }] w (Ret w (.bool true)) :=
  (match_any _ _ w (by decide) (by decide)).mono fun _ _ h => h.eq (congrArg Value.bool (by decide))
theorem first_match2 (w : World) : Calls Tryz.prog 72 #[.string { data := #[91, 94, 97, 93] }, .string { data := #[97] }] w (Ret w (.bool false)) :=
  (match_any _ _ w (by decide) (by decide)).mono fun _ _ h => h.eq (congrArg Value.bool (by decide))
theorem first_match3 (w : World) : Calls Tryz.prog 72 #[.string { data := #[92, 42] }, .string { data := #[42] }] w (Ret w (.bool true)) :=
  (match_any _ _ w (by decide) (by decide)).mono fun _ _ h => h.eq (congrArg Value.bool (by decide))
theorem first_split (w : World) : Calls Tryz.prog 37 #[.string { data := #[97, 32, 98, 92, 32, 99, 32, 32, 100] }] w (StrsRet [[97], [98, 92, 32, 99], [100]] w) :=
  (split_any _ w (by decide)).mono fun _ _ h => by
    have he : splitL [97, 32, 98, 92, 32, 99, 32, 32, 100] = [[97], [98, 92, 32, 99], [100]] := by decide
    rw [← he]; exact h
theorem first_live1 (w : World) : Calls Tryz.prog 46 #[.string { data := #[91, 93] }] w (Ret w (.bool false)) :=
  (live_any _ w (by decide)).mono fun _ _ h => h.eq (congrArg Value.bool (by decide))
theorem first_live2 (w : World) : Calls Tryz.prog 46 #[.string { data := #[91, 97, 93] }] w (Ret w (.bool true)) :=
  (live_any _ w (by decide)).mono fun _ _ h => h.eq (congrArg Value.bool (by decide))

end Go.Proofs.YtlhpflilpdceiaaGreatDoor
