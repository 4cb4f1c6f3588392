/- The contracts of slices.Sorted(maps.Keys(m)) that the kit has proved once, laid at this translation by the kit. -/
import Derived.Shelf.SlIter.Nil
import Derived.Shelf.SortM.Plain
import Derived.Shelf.SortM.SortNone
import Derived.Ground.GgzProg
import Derived.Ground.SlgmProg
import Derived.Test.YtclifaehbdeldaaDoorProg
namespace Go.Proofs
open Go.RowKit Go.Maps Go.Sort
open Go.Shelf
def Tryd.keys75_ren : Go.Shelf.Ren := ⟨fun | 7 => 75 | 10 => 121 | n => n, fun | 23 => 110 | 26 => 9 | 3 => 22 | 28 => 122 | 0 => 0 | 27 => 121 | 33 => 160 | 4 => 4 | n => n, fun | n => n⟩
theorem Tryd.keys75 : Go.Proofs.SlLaysZ.n7 Tryd.prog Tryd.keys75_ren := {
  mixed := by kernel_rfl
  f7 := ⟨Tryd.f75.name, by decide, Tryd.func75.trans (congrArg some (by kernel_rfl))⟩
  f10 := ⟨Tryd.f121.name, by decide, Tryd.func121.trans (congrArg some (by kernel_rfl))⟩
  t0 := Tryd.underlying0
  a0 := Tryd.isAgg0
  z0 := Tryd.sizeOf0
  v0 := Tryd.zeroValue0
  t4 := Tryd.underlying4
  a4 := Tryd.isAgg4
  z4 := Tryd.sizeOf4
  v4 := Tryd.zeroValue4
  t23 := Tryd.underlying110
  a23 := Tryd.isAgg110
  z23 := Tryd.sizeOf110
  v23 := Tryd.zeroValue110
  t26 := Tryd.underlying9
  a26 := Tryd.isAgg9
  z26 := Tryd.sizeOf9
  v26 := Tryd.zeroValue9
  t27 := Tryd.underlying121
  a27 := Tryd.isAgg121
  z27 := Tryd.sizeOf121
  v27 := Tryd.zeroValue121
  t28 := Tryd.underlying122
  a28 := Tryd.isAgg122
  z28 := Tryd.sizeOf122
  v28 := Tryd.zeroValue122
  t33 := Tryd.underlying160
  a33 := Tryd.isAgg160
  z33 := Tryd.sizeOf160
  v33 := Tryd.zeroValue160 }
def Tryd.sorted74_ren : Go.Shelf.Ren := ⟨fun | 6 => 74 | 8 => 119 | 9 => 120 | 11 => 162 | 13 => 116 | 12 => 163 | 23 => 159 | 24 => 160 | 14 => 192 | 15 => 193 | 16 => 194 | 17 => 195 | 18 => 196 | 19 => 197 | 20 => 198 | 21 => 199 | 22 => 200 | 25 => 212 | 26 => 187 | 27 => 188 | 28 => 213 | 29 => 214 | 30 => 215 | 31 => 227 | n => n, fun | 26 => 9 | 28 => 122 | 24 => 63 | 0 => 0 | 3 => 3 | 37 => 155 | 48 => 189 | 50 => 191 | 4 => 4 | 40 => 182 | 39 => 181 | 45 => 186 | 5 => 5 | 9 => 9 | 51 => 217 | 55 => 221 | 57 => 240 | 58 => 241 | 33 => 160 | n => n, fun | n => n⟩
theorem Tryd.sorted74 : Go.Proofs.SlLaysZ.n6 Tryd.prog Tryd.sorted74_ren := {
  mixed := by kernel_rfl
  f6 := ⟨Tryd.f74.name, by decide, Tryd.func74.trans (congrArg some (by kernel_rfl))⟩
  f8 := ⟨Tryd.f119.name, by decide, Tryd.func119.trans (congrArg some (by kernel_rfl))⟩
  f11 := ⟨Tryd.f162.name, by decide, Tryd.func162.trans (congrArg some (by kernel_rfl))⟩
  t0 := Tryd.underlying0
  a0 := Tryd.isAgg0
  z0 := Tryd.sizeOf0
  v0 := Tryd.zeroValue0
  t24 := Tryd.underlying63
  a24 := Tryd.isAgg63
  z24 := Tryd.sizeOf63
  v24 := Tryd.zeroValue63
  t26 := Tryd.underlying9
  a26 := Tryd.isAgg9
  z26 := Tryd.sizeOf9
  v26 := Tryd.zeroValue9
  t28 := Tryd.underlying122
  a28 := Tryd.isAgg122
  z28 := Tryd.sizeOf122
  v28 := Tryd.zeroValue122
  i26 := by kernel_rfl }
def Tryd.sort120_ren : Go.Shelf.Ren := ⟨fun | 6 => 120 | 8 => 116 | 9 => 163 | 19 => 159 | 20 => 160 | 21 => 192 | 22 => 193 | 23 => 194 | 24 => 195 | 25 => 196 | 26 => 197 | 27 => 198 | 28 => 199 | 29 => 200 | 36 => 212 | 31 => 187 | 32 => 188 | 37 => 213 | 38 => 214 | 39 => 215 | 41 => 227 | n => n, fun | 27 => 63 | 29 => 9 | 3 => 3 | 32 => 155 | 26 => 63 | 0 => 0 | 44 => 189 | 46 => 191 | 4 => 4 | 36 => 182 | 35 => 181 | 41 => 186 | 5 => 5 | 9 => 9 | 53 => 217 | 57 => 221 | 63 => 240 | 64 => 241 | n => n, fun | n => n⟩
theorem Tryd.sort120 : Go.Proofs.SlLaysM.n6 Tryd.prog Tryd.sort120_ren := {
  mixed := by kernel_rfl
  f6 := ⟨Tryd.f120.name, by decide, Tryd.func120.trans (congrArg some (by kernel_rfl))⟩
  f8 := Tryd.func116.trans (congrArg some (by kernel_rfl))
  f9 := ⟨Tryd.f163.name, by decide, Tryd.func163.trans (congrArg some (by kernel_rfl))⟩
  f19 := Tryd.func159.trans (congrArg some (by kernel_rfl))
  f20 := Tryd.func160.trans (congrArg some (by kernel_rfl))
  f21 := ⟨Tryd.f192.name, by decide, Tryd.func192.trans (congrArg some (by kernel_rfl))⟩
  f22 := ⟨Tryd.f193.name, by decide, Tryd.func193.trans (congrArg some (by kernel_rfl))⟩
  f23 := ⟨Tryd.f194.name, by decide, Tryd.func194.trans (congrArg some (by kernel_rfl))⟩
  f24 := ⟨Tryd.f195.name, by decide, Tryd.func195.trans (congrArg some (by kernel_rfl))⟩
  f25 := ⟨Tryd.f196.name, by decide, Tryd.func196.trans (congrArg some (by kernel_rfl))⟩
  f26 := ⟨Tryd.f197.name, by decide, Tryd.func197.trans (congrArg some (by kernel_rfl))⟩
  f27 := ⟨Tryd.f198.name, by decide, Tryd.func198.trans (congrArg some (by kernel_rfl))⟩
  f28 := ⟨Tryd.f199.name, by decide, Tryd.func199.trans (congrArg some (by kernel_rfl))⟩
  f29 := ⟨Tryd.f200.name, by decide, Tryd.func200.trans (congrArg some (by kernel_rfl))⟩
  f31 := Tryd.func187.trans (congrArg some (by kernel_rfl))
  f32 := Tryd.func188.trans (congrArg some (by kernel_rfl))
  f36 := ⟨Tryd.f212.name, by decide, Tryd.func212.trans (congrArg some (by kernel_rfl))⟩
  f37 := ⟨Tryd.f213.name, by decide, Tryd.func213.trans (congrArg some (by kernel_rfl))⟩
  f38 := ⟨Tryd.f214.name, by decide, Tryd.func214.trans (congrArg some (by kernel_rfl))⟩
  f39 := ⟨Tryd.f215.name, by decide, Tryd.func215.trans (congrArg some (by kernel_rfl))⟩
  f41 := ⟨Tryd.f227.name, by decide, Tryd.func227.trans (congrArg some (by kernel_rfl))⟩
  t0 := Tryd.underlying0
  a0 := Tryd.isAgg0
  z0 := Tryd.sizeOf0
  v0 := Tryd.zeroValue0
  t3 := Tryd.underlying3
  a3 := Tryd.isAgg3
  z3 := Tryd.sizeOf3
  v3 := Tryd.zeroValue3
  t4 := Tryd.underlying4
  a4 := Tryd.isAgg4
  z4 := Tryd.sizeOf4
  v4 := Tryd.zeroValue4
  t5 := Tryd.underlying5
  a5 := Tryd.isAgg5
  z5 := Tryd.sizeOf5
  v5 := Tryd.zeroValue5
  t9 := Tryd.underlying9
  a9 := Tryd.isAgg9
  z9 := Tryd.sizeOf9
  v9 := Tryd.zeroValue9
  t26 := Tryd.underlying63
  a26 := Tryd.isAgg63
  z26 := Tryd.sizeOf63
  v26 := Tryd.zeroValue63
  t27 := Tryd.underlying63
  a27 := Tryd.isAgg63
  z27 := Tryd.sizeOf63
  v27 := Tryd.zeroValue63
  t29 := Tryd.underlying9
  a29 := Tryd.isAgg9
  z29 := Tryd.sizeOf9
  v29 := Tryd.zeroValue9
  t32 := Tryd.underlying155
  a32 := Tryd.isAgg155
  z32 := Tryd.sizeOf155
  v32 := Tryd.zeroValue155
  t35 := Tryd.underlying181
  a35 := Tryd.isAgg181
  z35 := Tryd.sizeOf181
  v35 := Tryd.zeroValue181
  t36 := Tryd.underlying182
  a36 := Tryd.isAgg182
  z36 := Tryd.sizeOf182
  v36 := Tryd.zeroValue182
  t41 := Tryd.underlying186
  a41 := Tryd.isAgg186
  z41 := Tryd.sizeOf186
  v41 := Tryd.zeroValue186
  t44 := Tryd.underlying189
  a44 := Tryd.isAgg189
  z44 := Tryd.sizeOf189
  v44 := Tryd.zeroValue189
  t46 := Tryd.underlying191
  a46 := Tryd.isAgg191
  z46 := Tryd.sizeOf191
  v46 := Tryd.zeroValue191
  t53 := Tryd.underlying217
  a53 := Tryd.isAgg217
  z53 := Tryd.sizeOf217
  v53 := Tryd.zeroValue217
  t57 := Tryd.underlying221
  a57 := Tryd.isAgg221
  z57 := Tryd.sizeOf221
  v57 := Tryd.zeroValue221
  t63 := Tryd.underlying240
  a63 := Tryd.isAgg240
  z63 := Tryd.sizeOf240
  v63 := Tryd.zeroValue240
  t64 := Tryd.underlying241
  a64 := Tryd.isAgg241
  z64 := Tryd.sizeOf241
  v64 := Tryd.zeroValue241 }
theorem Tryd.sorts74 (m : Nat) : AnyZ.SortsIn Tryd.prog Tryd.sorted74_ren Fence.wide m :=
  ⟨fun blk off cap ss W hH hblk hsz => callsIn_wide.2 (AnyM.slices_Sort_string Tryd.sort120 blk off cap ss W hH hblk hsz),
   fun p cap W => callsIn_wide.2 (AnyM.slices_Sort_string_none Tryd.sort120 p cap W)⟩
theorem Tryd.maps_Keys_75 (mb : Option Nat) (W : World) : CallsIn Fence.wide 5 Tryd.prog 75 #[.map mb] W fun e w' => e = .returned (.func (.func 121) #[] #[.pointer (some ⟨W.heap.size, 0, none⟩)]) ∧ w' = W.alloc (.cells #[.map mb] 110) :=
  AnyZ.keys_in Tryd.keys75 Fence.wide 5 trivial rfl mb W
theorem Tryd.slices_Sorted_keys_74_75 {H : Type} (b nn : Nat) (D0 : DataW H) (R : Value → Option (DataW H × List MemPlace)) (w : World) (hown : w.ownsMap Tryd.prog 9 R b nn D0) (hmax : Maps.size D0 ≤ maxLen) (hbytes : Maps.size D0 * 16 ≤ 140737488355328) :
    CallsIn Fence.wide 5 Tryd.prog 74 #[.func (.func 121) #[] #[.pointer (some ⟨w.heap.size, 0, none⟩)]] (w.alloc (.cells #[.map (some b)] 110)) fun e w' => ∃ (v : Value) (ss : List (List UInt8)), e = .returned v ∧ ss.Perm (strKeys D0) ∧
      w'.ownsRow (w.alloc (.cells #[.map (some b)] 110)).heap.size 9 1 v ss.length ((ss.mergeSort (fun x y => decide (x ≤ y))).map encStr) ∧ (v = .slice none 0 0 ↔ ss = []) ∧ Below (w.alloc (.cells #[.map (some b)] 110)).heap.size (w.alloc (.cells #[.map (some b)] 110)) w' := by
  have hbl := hown.lt
  have hseq : SeqGives Fence.wide 2 Tryd.prog 121 #[.pointer (some ⟨w.heap.size, 0, none⟩)] encStr (fun ss => ss.Perm (strKeys D0)) (Maps.size D0) (w.alloc (.cells #[.map (some b)] 110)) :=
    AnyZ.keys_gives (ρ := Tryd.keys75_ren) { Tryd.keys75 with } Fence.wide _ trivial rfl (by omega) w.heap.size b nn D0 _ (by simp) (by simp) (by
      obtain ⟨es, clock, hb, Ft, hs, hD⟩ := hown
      exact ⟨es, clock, (Below.heap_alloc _ _ b hbl).trans hb, Ft, hs, hD⟩)
  exact AnyZ.sorted_in Tryd.sorted74 Fence.wide 5 trivial trivial trivial trivial rfl (by omega) (Tryd.sorts74 _) (enters_of Tryd.func120 (by kernel_rfl) rfl) 121 #[.pointer (some ⟨w.heap.size, 0, none⟩)] trivial (enters_of Tryd.func121 (by kernel_rfl) rfl) _ _ hmax hbytes _ hseq
theorem Tryd.slices_Sorted_keys_nil_74_75 (w : World) :
    CallsIn Fence.wide 5 Tryd.prog 74 #[.func (.func 121) #[] #[.pointer (some ⟨w.heap.size, 0, none⟩)]] (w.alloc (.cells #[.map none] 110)) fun e w' => ∃ (v : Value) (ss : List (List UInt8)), e = .returned v ∧ ss = [] ∧
      w'.ownsRow (w.alloc (.cells #[.map none] 110)).heap.size 9 1 v ss.length ((ss.mergeSort (fun x y => decide (x ≤ y))).map encStr) ∧ (v = .slice none 0 0 ↔ ss = []) ∧ Below (w.alloc (.cells #[.map none] 110)).heap.size (w.alloc (.cells #[.map none] 110)) w' := by
  have hseq : SeqGives Fence.wide 2 Tryd.prog 121 #[.pointer (some ⟨w.heap.size, 0, none⟩)] encStr (fun ss : List (List UInt8) => ss = []) 0 (w.alloc (.cells #[.map none] 110)) :=
    AnyZ.keys_gives_nil (ρ := Tryd.keys75_ren) { Tryd.keys75 with } Fence.wide _ trivial rfl w.heap.size _ (by simp) (by simp)
  exact AnyZ.sorted_in Tryd.sorted74 Fence.wide 5 trivial trivial trivial trivial rfl (by omega) (Tryd.sorts74 _) (enters_of Tryd.func120 (by kernel_rfl) rfl) 121 #[.pointer (some ⟨w.heap.size, 0, none⟩)] trivial (enters_of Tryd.func121 (by kernel_rfl) rfl) _ 0 (Nat.zero_le _) (by omega) _ hseq
end Go.Proofs
