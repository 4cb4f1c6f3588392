/- The walks over package builtin's Do at each of its names. Bounds on the lengths; the library's table and bound are hypotheses. -/
import Derived.Test.YtjpfolbghjhodaaDoorBuiltD
import Derived.Test.YtjpfolbghjhodaaDoorBuiltW3
set_option linter.unusedVariables false
set_option linter.unusedSimpArgs false
namespace Go.Proofs.YtjpfolbghjhodaaDoor
open Go.RowKit Go.Maps

theorem has_add : Maps.has cmdD (.string [97, 100, 100]) = true := by kernel_rfl
theorem at_add : ∀ zd, cmdD.atKey (.string [97, 100, 100]) zd = .held (fnV 61) := fun zd => rfl
theorem en_add : ∀ args w, (callFunc 61 args).run Tryd.prog w = .ok (.enter 61 args) w := fun args w => by kernel_rfl
theorem has_cat : Maps.has cmdD (.string [99, 97, 116]) = true := by kernel_rfl
theorem at_cat : ∀ zd, cmdD.atKey (.string [99, 97, 116]) zd = .held (fnV 62) := fun zd => rfl
theorem en_cat : ∀ args w, (callFunc 62 args).run Tryd.prog w = .ok (.enter 62 args) w := fun args w => by kernel_rfl
theorem has_echo : Maps.has cmdD (.string [101, 99, 104, 111]) = true := by kernel_rfl
theorem at_echo : ∀ zd, cmdD.atKey (.string [101, 99, 104, 111]) zd = .held (fnV 63) := fun zd => rfl
theorem en_echo : ∀ args w, (callFunc 63 args).run Tryd.prog w = .ok (.enter 63 args) w := fun args w => by kernel_rfl
theorem has_eq : Maps.has cmdD (.string [101, 113]) = true := by kernel_rfl
theorem at_eq : ∀ zd, cmdD.atKey (.string [101, 113]) zd = .held (fnV 64) := fun zd => rfl
theorem en_eq : ∀ args w, (callFunc 64 args).run Tryd.prog w = .ok (.enter 64 args) w := fun args w => by kernel_rfl
theorem has_exit : Maps.has cmdD (.string [101, 120, 105, 116]) = true := by kernel_rfl
theorem at_exit : ∀ zd, cmdD.atKey (.string [101, 120, 105, 116]) zd = .held (fnV 65) := fun zd => rfl
theorem en_exit : ∀ args w, (callFunc 65 args).run Tryd.prog w = .ok (.enter 65 args) w := fun args w => by kernel_rfl
theorem has_no : Maps.has cmdD (.string [102, 97, 108, 115, 101]) = true := by kernel_rfl
theorem at_no : ∀ zd, cmdD.atKey (.string [102, 97, 108, 115, 101]) zd = .held (fnV 66) := fun zd => rfl
theorem en_no : ∀ args w, (callFunc 66 args).run Tryd.prog w = .ok (.enter 66 args) w := fun args w => by kernel_rfl
theorem has_less : Maps.has cmdD (.string [108, 101, 115, 115]) = true := by kernel_rfl
theorem at_less : ∀ zd, cmdD.atKey (.string [108, 101, 115, 115]) zd = .held (fnV 67) := fun zd => rfl
theorem en_less : ∀ args w, (callFunc 67 args).run Tryd.prog w = .ok (.enter 67 args) w := fun args w => by kernel_rfl
theorem has_like : Maps.has cmdD (.string [108, 105, 107, 101]) = true := by kernel_rfl
theorem at_like : ∀ zd, cmdD.atKey (.string [108, 105, 107, 101]) zd = .held (fnV 68) := fun zd => rfl
theorem en_like : ∀ args w, (callFunc 68 args).run Tryd.prog w = .ok (.enter 68 args) w := fun args w => by kernel_rfl
theorem has_put : Maps.has cmdD (.string [112, 117, 116]) = true := by kernel_rfl
theorem at_put : ∀ zd, cmdD.atKey (.string [112, 117, 116]) zd = .held (fnV 69) := fun zd => rfl
theorem en_put : ∀ args w, (callFunc 69 args).run Tryd.prog w = .ok (.enter 69 args) w := fun args w => by kernel_rfl
theorem has_read : Maps.has cmdD (.string [114, 101, 97, 100]) = true := by kernel_rfl
theorem at_read : ∀ zd, cmdD.atKey (.string [114, 101, 97, 100]) zd = .held (fnV 70) := fun zd => rfl
theorem en_read : ∀ args w, (callFunc 70 args).run Tryd.prog w = .ok (.enter 70 args) w := fun args w => by kernel_rfl
theorem has_yes : Maps.has cmdD (.string [116, 114, 117, 101]) = true := by kernel_rfl
theorem at_yes : ∀ zd, cmdD.atKey (.string [116, 114, 117, 101]) zd = .held (fnV 71) := fun zd => rfl
theorem en_yes : ∀ args w, (callFunc 71 args).run Tryd.prog w = .ok (.enter 71 args) w := fun args w => by kernel_rfl
theorem has_ls : Maps.has cmdD (.string [108, 115]) = false := by kernel_rfl
theorem at_ls : ∀ zd, cmdD.atKey (.string [108, 115]) zd = zd := fun zd => rfl
section
variable (inn : List UInt8) (A : Option Addr) (c : Nat) (L : List (List UInt8)) (w : World)
def DoRet (o : Outc) (w : World) : Ending → World → Prop := Ret w (.tuple #[ocV o, .bool true])
theorem do_echo (hrd : RdL w 1 strc A L) (hc : L.length ≤ c) (hsum : L.length - 1 + sumL L ≤ 100000) : Calls Tryd.prog 22 #[.string { data := #[101, 99, 104, 111] }, .string ⟨inn.toArray⟩, .slice A L.length c] w (DoRet ({ oc0 inn with out := spaced L ++ [10] }) w) :=
  do_any [101, 99, 104, 111] inn _ _ _ w en_echo (by decide) has_echo at_echo fun W g hb hg h => echo_any g _ W _ A c L h (hrd.below hb) hc hsum
theorem do_put (hrd : RdL w 1 strc A L) (hc : L.length ≤ c) (hsum : L.length - 1 + sumL L ≤ 100000) : Calls Tryd.prog 22 #[.string { data := #[112, 117, 116] }, .string ⟨inn.toArray⟩, .slice A L.length c] w (DoRet ({ oc0 inn with out := spaced L }) w) :=
  do_any [112, 117, 116] inn _ _ _ w en_put (by decide) has_put at_put fun W g hb hg h => put_any g _ W _ A c L h (hrd.below hb) hc hsum
theorem do_cat : Calls Tryd.prog 22 #[.string { data := #[99, 97, 116] }, .string ⟨inn.toArray⟩, .slice A L.length c] w (DoRet ({ oc0 inn with out := inn, rest := [] }) w) :=
  do_any [99, 97, 116] inn _ _ _ w en_cat (by decide) has_cat at_cat fun W g hb hg h => cat_any g _ W inn _ h
theorem do_yes : Calls Tryd.prog 22 #[.string { data := #[116, 114, 117, 101] }, .string ⟨inn.toArray⟩, .slice A L.length c] w (DoRet (oc0 inn) w) :=
  do_any [116, 114, 117, 101] inn _ _ _ w en_yes (by decide) has_yes at_yes fun W g hb hg h => yes_any g _ W _ _ h
theorem do_no : Calls Tryd.prog 22 #[.string { data := #[102, 97, 108, 115, 101] }, .string ⟨inn.toArray⟩, .slice A L.length c] w (DoRet ({ oc0 inn with status := 1 }) w) :=
  do_any [102, 97, 108, 115, 101] inn _ _ _ w en_no (by decide) has_no at_no fun W g hb hg h => no_any g _ W _ _ h
theorem do_eq (hrd : RdL w 1 strc A L) (hc : L.length ≤ c) (hsz : ∀ x ∈ L, x.length ≤ 1000000) : Calls Tryd.prog 22 #[.string { data := #[101, 113] }, .string ⟨inn.toArray⟩, .slice A L.length c] w (DoRet ({ oc0 inn with status := if eqA L then 0 else 1 }) w) :=
  do_any [101, 113] inn _ _ _ w en_eq (by decide) has_eq at_eq fun W g hb hg h => eq_any g _ W _ A c L h (hrd.below hb) hc hsz
theorem do_like (hrd : RdL w 1 strc A L) (hc : L.length ≤ c) (hsz : ∀ x ∈ L, x.length ≤ 1000000) : Calls Tryd.prog 22 #[.string { data := #[108, 105, 107, 101] }, .string ⟨inn.toArray⟩, .slice A L.length c] w (DoRet ({ oc0 inn with status := if likeA L then 0 else 1 }) w) :=
  do_any [108, 105, 107, 101] inn _ _ _ w en_like (by decide) has_like at_like fun W g hb hg h => like_any g _ W _ A c L h (hrd.below hb) hc hsz
theorem do_less (hrd : RdL w 1 strc A L) (hc : L.length ≤ c) (hsz : ∀ x ∈ L, x.length ≤ 1000000) : Calls Tryd.prog 22 #[.string { data := #[108, 101, 115, 115] }, .string ⟨inn.toArray⟩, .slice A L.length c] w (DoRet ({ oc0 inn with status := if lessA L then 0 else 1 }) w) :=
  do_any [108, 101, 115, 115] inn _ _ _ w en_less (by decide) has_less at_less fun W g hb hg h => less_any g _ W _ A c L h (hrd.below hb) hc hsz
theorem do_add (m0 : Int) (hl : LibW w m0) (hrd : RdL w 1 strc A L) (hc : L.length ≤ c) (hsz : ∀ x ∈ L, x.length ≤ 1000000) : Calls Tryd.prog 22 #[.string { data := #[97, 100, 100] }, .string ⟨inn.toArray⟩, .slice A L.length c] w (DoRet (addA L (oc0 inn)) w) :=
  do_any [97, 100, 100] inn _ _ _ w en_add (by decide) has_add at_add fun W g hb hg h => add_any g _ W _ A c L m0 (hl.below hb) (by have := hl.lts.1; omega) (by have := hl.lts.2; omega) h (hrd.below hb) hc hsz
theorem do_read (m0 : Int) (hl : LibW w m0) (hrd : RdL w 1 strc A L) (hc : L.length ≤ c) (hsz : ∀ x ∈ L, x.length ≤ 1000000) (hin : inn.length ≤ 1000000) : Calls Tryd.prog 22 #[.string { data := #[114, 101, 97, 100] }, .string ⟨inn.toArray⟩, .slice A L.length c] w (DoRet (readA inn L (oc0 inn)) w) :=
  do_any [114, 101, 97, 100] inn _ _ _ w en_read (by decide) has_read at_read fun W g hb hg h => bread_any g _ W A c L inn m0 (hl.below hb) (by have := hl.lts.1; omega) (by have := hl.lts.2; omega) h (hrd.below hb) hc hsz hin
theorem do_exit (hrd : RdL w 1 strc A L) (hc : L.length ≤ c) (hsz : ∀ x ∈ L, x.length ≤ 1000000) : Calls Tryd.prog 22 #[.string { data := #[101, 120, 105, 116] }, .string ⟨inn.toArray⟩, .slice A L.length c] w (DoRet (exitA L (oc0 inn)) w) :=
  do_any [101, 120, 105, 116] inn _ _ _ w en_exit (by decide) has_exit at_exit fun W g hb hg h => exit_any g _ W _ A c L h (fun hl a ha => by obtain ⟨b, o, hA, hlt⟩ := hrd.addr hl; rw [hA] at ha; injection ha with ha; subst ha; show b ≠ g; omega) (hrd.below hb) hc hsz
end
end Go.Proofs.YtjpfolbghjhodaaDoor
