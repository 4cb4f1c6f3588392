/- The map of package builtin's commands, and the walk over Do, whatever the command does. No condition. -/
import Derived.Test.YtjpfolbghjhodaaDoorBut
import Derived.Test.YtjpfolbghjhodaaDoorMapK
import Derived.Test.YtjpfolbghjhodaaDoorStrc
import Derived.Test.YtjpfolbghjhodaaDoorPatW1
import Derived.Carry
import Derived.StringKeys
set_option linter.unusedVariables false
set_option linter.unusedSimpArgs false
namespace Go.Proofs.YtjpfolbghjhodaaDoor
open Go.RowKit Go.Maps

abbrev tO : TypeId := 45
/-- What comes of a command. -/
structure Outc where
  out : List UInt8
  rest : List UInt8
  status : Int
  name : List UInt8
  value : List UInt8
  fin : Bool
def ocL (o : Outc) : List Value := [.string ⟨o.out.toArray⟩, .string ⟨o.rest.toArray⟩, .int .i64 o.status, .string ⟨o.name.toArray⟩, .string ⟨o.value.toArray⟩, .bool o.fin]
def oc0 (inn : List UInt8) : Outc := ⟨[], inn, 0, [], [], false⟩
def ocV (o : Outc) : Value := .agg #[.string ⟨o.out.toArray⟩, .string ⟨o.rest.toArray⟩, .int .i64 o.status, .string ⟨o.name.toArray⟩, .string ⟨o.value.toArray⟩, .bool o.fin]
def OcB (w : World) (g : Nat) (o : Outc) : Prop := Blk w g tO #[.string ⟨o.out.toArray⟩, .string ⟨o.rest.toArray⟩, .int .i64 o.status, .string ⟨o.name.toArray⟩, .string ⟨o.value.toArray⟩, .bool o.fin]
/-- A command has done its work. -/
def CmdRet (g : Nat) (o : Outc) (w : World) (e : Ending) (w' : World) : Prop := e = .returned (.tuple #[]) ∧ OcB w' g o ∧ But g w w'
def fnV (f : Nat) : Value := .func (.func f) #[] #[]
def cmdD : DataW Value :=
  (((((((((((DataW.map []).put (.string [97, 100, 100]) (.held (fnV 61))).put (.string [99, 97, 116]) (.held (fnV 62))).put (.string [101, 99, 104, 111]) (.held (fnV 63))).put (.string [101, 113]) (.held (fnV 64))).put (.string [101, 120, 105, 116]) (.held (fnV 65))).put (.string [102, 97, 108, 115, 101]) (.held (fnV 66))).put (.string [108, 101, 115, 115]) (.held (fnV 67))).put (.string [108, 105, 107, 101]) (.held (fnV 68))).put (.string [112, 117, 116]) (.held (fnV 69))).put (.string [114, 101, 97, 100]) (.held (fnV 70))).put (.string [116, 114, 117, 101]) (.held (fnV 71))
theorem lawStr : Keyed Tryd.prog 9 := string_keyed Tryd.underlying9
theorem nlt (n : Nat) (h : Nat.ble n 1000 = true) : n < maxLen := by
  have := Nat.le_of_ble_eq_true h
  unfold maxLen
  omega
theorem nle (n : Nat) (h : Nat.ble n 1000 = true) : n ≤ maxLen := Nat.le_of_lt (nlt n h)
set_option maxRecDepth 100000 in
set_option maxHeartbeats 4000000 in
theorem commands_any (w : World) : Calls Tryd.prog 40 #[] w fun e w' => ∃ b, e = .returned (.map (some b)) ∧ w'.ownsMap Tryd.prog 9 hR b 11 cmdD ∧ Below w.heap.size w w' := by
  have h0 : (w.alloc (.map #[] 0)).ownsMap Tryd.prog 9 hR w.heap.size 0 (.map []) := World.ownsMap_made w _ _ _
  have hb0 : Below w.heap.size w (w.alloc (.map #[] 0)) := (Below.refl _ _).alloc (Nat.le_refl _) _
  have hmk := run_makeMap (P := Tryd.prog) 76 w
  obtain ⟨w1, r1, h1, g1⟩ := h0.update lawStr Tryd.underlying76 (nlt _ rfl) (key := .string { data := #[97, 100, 100] }) (val := .func (.func 61) #[] #[]) (WideMaps.keyOf_string_mk Tryd.underlying9 (nle _ rfl)) rfl
  have hb1 := hb0.grown g1 hb0.size (fun k hk => by cases hk; exact Nat.le_refl _)
  obtain ⟨w2, r2, h2, g2⟩ := h1.update lawStr Tryd.underlying76 (nlt _ rfl) (key := .string { data := #[99, 97, 116] }) (val := .func (.func 62) #[] #[]) (WideMaps.keyOf_string_mk Tryd.underlying9 (nle _ rfl)) rfl
  have hb2 := hb1.grown g2 hb1.size (fun k hk => by cases hk; exact Nat.le_refl _)
  obtain ⟨w3, r3, h3, g3⟩ := h2.update lawStr Tryd.underlying76 (nlt _ rfl) (key := .string { data := #[101, 99, 104, 111] }) (val := .func (.func 63) #[] #[]) (WideMaps.keyOf_string_mk Tryd.underlying9 (nle _ rfl)) rfl
  have hb3 := hb2.grown g3 hb2.size (fun k hk => by cases hk; exact Nat.le_refl _)
  obtain ⟨w4, r4, h4, g4⟩ := h3.update lawStr Tryd.underlying76 (nlt _ rfl) (key := .string { data := #[101, 113] }) (val := .func (.func 64) #[] #[]) (WideMaps.keyOf_string_mk Tryd.underlying9 (nle _ rfl)) rfl
  have hb4 := hb3.grown g4 hb3.size (fun k hk => by cases hk; exact Nat.le_refl _)
  obtain ⟨w5, r5, h5, g5⟩ := h4.update lawStr Tryd.underlying76 (nlt _ rfl) (key := .string { data := #[101, 120, 105, 116] }) (val := .func (.func 65) #[] #[]) (WideMaps.keyOf_string_mk Tryd.underlying9 (nle _ rfl)) rfl
  have hb5 := hb4.grown g5 hb4.size (fun k hk => by cases hk; exact Nat.le_refl _)
  obtain ⟨w6, r6, h6, g6⟩ := h5.update lawStr Tryd.underlying76 (nlt _ rfl) (key := .string { data := #[102, 97, 108, 115, 101] }) (val := .func (.func 66) #[] #[]) (WideMaps.keyOf_string_mk Tryd.underlying9 (nle _ rfl)) rfl
  have hb6 := hb5.grown g6 hb5.size (fun k hk => by cases hk; exact Nat.le_refl _)
  obtain ⟨w7, r7, h7, g7⟩ := h6.update lawStr Tryd.underlying76 (nlt _ rfl) (key := .string { data := #[108, 101, 115, 115] }) (val := .func (.func 67) #[] #[]) (WideMaps.keyOf_string_mk Tryd.underlying9 (nle _ rfl)) rfl
  have hb7 := hb6.grown g7 hb6.size (fun k hk => by cases hk; exact Nat.le_refl _)
  obtain ⟨w8, r8, h8, g8⟩ := h7.update lawStr Tryd.underlying76 (nlt _ rfl) (key := .string { data := #[108, 105, 107, 101] }) (val := .func (.func 68) #[] #[]) (WideMaps.keyOf_string_mk Tryd.underlying9 (nle _ rfl)) rfl
  have hb8 := hb7.grown g8 hb7.size (fun k hk => by cases hk; exact Nat.le_refl _)
  obtain ⟨w9, r9, h9, g9⟩ := h8.update lawStr Tryd.underlying76 (nlt _ rfl) (key := .string { data := #[112, 117, 116] }) (val := .func (.func 69) #[] #[]) (WideMaps.keyOf_string_mk Tryd.underlying9 (nle _ rfl)) rfl
  have hb9 := hb8.grown g9 hb8.size (fun k hk => by cases hk; exact Nat.le_refl _)
  obtain ⟨w10, r10, h10, g10⟩ := h9.update lawStr Tryd.underlying76 (nlt _ rfl) (key := .string { data := #[114, 101, 97, 100] }) (val := .func (.func 70) #[] #[]) (WideMaps.keyOf_string_mk Tryd.underlying9 (nle _ rfl)) rfl
  have hb10 := hb9.grown g10 hb9.size (fun k hk => by cases hk; exact Nat.le_refl _)
  obtain ⟨w11, r11, h11, g11⟩ := h10.update lawStr Tryd.underlying76 (nlt _ rfl) (key := .string { data := #[116, 114, 117, 101] }) (val := .func (.func 71) #[] #[]) (WideMaps.keyOf_string_mk Tryd.underlying9 (nle _ rfl)) rfl
  have hb11 := hb10.grown g11 hb10.size (fun k hk => by cases hk; exact Nat.le_refl _)
  clear g1 g2 g3 g4 g5 g6 g7 g8 g9 g10 g11
  clear hb0 hb1 hb2 hb3 hb4 hb5 hb6 hb7 hb8 hb9 hb10
  clear h0 h1 h2 h3 h4 h5 h6 h7 h8 h9 h10
  go_enter Tryd.func40, Tryd.ntmps40
  go_wp2_with fail
  go_ret
  exact ⟨_, rfl, h11, hb11⟩
end Go.Proofs.YtjpfolbghjhodaaDoor
