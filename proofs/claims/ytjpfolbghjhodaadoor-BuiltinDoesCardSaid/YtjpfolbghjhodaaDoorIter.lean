/- The contracts of slices.Sorted(maps.Keys(m)) that the kit has proved once, laid at this translation by the kit. -/
import Derived.Shelf.SlIter.Nil
import Derived.Shelf.SortM.Plain
import Derived.Shelf.SortM.SortNone
import Derived.Ground.GgzProg
import Derived.Ground.SlgmProg
import Derived.Test.YtjpfolbghjhodaaDoorProg
namespace Go.Proofs
open Go.RowKit Go.Maps Go.Sort
open Go.Shelf
def Tryd.keys33_ren : Go.Shelf.Ren := ⟨fun | 7 => 33 | 10 => 51 | n => n, fun | 23 => 54 | 26 => 9 | 3 => 22 | 28 => 66 | 0 => 0 | 27 => 65 | 33 => 51 | 4 => 4 | n => n, fun | n => n⟩
theorem Tryd.keys33 : Go.Proofs.SlLaysZ.n7 Tryd.prog Tryd.keys33_ren := {
  mixed := by kernel_rfl
  f7 := ⟨Tryd.f33.name, by decide, Tryd.func33.trans (congrArg some (by kernel_rfl))⟩
  f10 := ⟨Tryd.f51.name, by decide, Tryd.func51.trans (congrArg some (by kernel_rfl))⟩
  t0 := Tryd.underlying0
  a0 := Tryd.isAgg0
  z0 := Tryd.sizeOf0
  v0 := Tryd.zeroValue0
  t4 := Tryd.underlying4
  a4 := Tryd.isAgg4
  z4 := Tryd.sizeOf4
  v4 := Tryd.zeroValue4
  t23 := Tryd.underlying54
  a23 := Tryd.isAgg54
  z23 := Tryd.sizeOf54
  v23 := Tryd.zeroValue54
  t26 := Tryd.underlying9
  a26 := Tryd.isAgg9
  z26 := Tryd.sizeOf9
  v26 := Tryd.zeroValue9
  t27 := Tryd.underlying65
  a27 := Tryd.isAgg65
  z27 := Tryd.sizeOf65
  v27 := Tryd.zeroValue65
  t28 := Tryd.underlying66
  a28 := Tryd.isAgg66
  z28 := Tryd.sizeOf66
  v28 := Tryd.zeroValue66
  t33 := Tryd.underlying51
  a33 := Tryd.isAgg51
  z33 := Tryd.sizeOf51
  v33 := Tryd.zeroValue51 }
def Tryd.sorted32_ren : Go.Shelf.Ren := ⟨fun | 6 => 32 | 8 => 49 | 9 => 50 | 11 => 79 | 13 => 81 | 12 => 80 | 23 => 107 | 24 => 108 | 14 => 98 | 15 => 99 | 16 => 100 | 17 => 101 | 18 => 102 | 19 => 103 | 20 => 104 | 21 => 105 | 22 => 106 | 25 => 122 | 26 => 123 | 27 => 124 | 28 => 125 | 29 => 126 | 30 => 127 | 31 => 133 | n => n, fun | 26 => 9 | 28 => 66 | 24 => 29 | 0 => 0 | 3 => 3 | 37 => 116 | 48 => 135 | 50 => 137 | 4 => 4 | 40 => 129 | 39 => 128 | 45 => 120 | 5 => 5 | 9 => 9 | 51 => 155 | 55 => 159 | 57 => 163 | 58 => 164 | 33 => 51 | n => n, fun | n => n⟩
theorem Tryd.sorted32 : Go.Proofs.SlLaysZ.n6 Tryd.prog Tryd.sorted32_ren := {
  mixed := by kernel_rfl
  f6 := ⟨Tryd.f32.name, by decide, Tryd.func32.trans (congrArg some (by kernel_rfl))⟩
  f8 := ⟨Tryd.f49.name, by decide, Tryd.func49.trans (congrArg some (by kernel_rfl))⟩
  f11 := ⟨Tryd.f79.name, by decide, Tryd.func79.trans (congrArg some (by kernel_rfl))⟩
  t0 := Tryd.underlying0
  a0 := Tryd.isAgg0
  z0 := Tryd.sizeOf0
  v0 := Tryd.zeroValue0
  t24 := Tryd.underlying29
  a24 := Tryd.isAgg29
  z24 := Tryd.sizeOf29
  v24 := Tryd.zeroValue29
  t26 := Tryd.underlying9
  a26 := Tryd.isAgg9
  z26 := Tryd.sizeOf9
  v26 := Tryd.zeroValue9
  t28 := Tryd.underlying66
  a28 := Tryd.isAgg66
  z28 := Tryd.sizeOf66
  v28 := Tryd.zeroValue66
  i26 := by kernel_rfl }
def Tryd.sort50_ren : Go.Shelf.Ren := ⟨fun | 6 => 50 | 8 => 81 | 9 => 80 | 19 => 107 | 20 => 108 | 21 => 98 | 22 => 99 | 23 => 100 | 24 => 101 | 25 => 102 | 26 => 103 | 27 => 104 | 28 => 105 | 29 => 106 | 36 => 122 | 31 => 123 | 32 => 124 | 37 => 125 | 38 => 126 | 39 => 127 | 41 => 133 | n => n, fun | 27 => 29 | 29 => 9 | 3 => 3 | 32 => 116 | 26 => 29 | 0 => 0 | 44 => 135 | 46 => 137 | 4 => 4 | 36 => 129 | 35 => 128 | 41 => 120 | 5 => 5 | 9 => 9 | 53 => 155 | 57 => 159 | 63 => 163 | 64 => 164 | n => n, fun | n => n⟩
theorem Tryd.sort50 : Go.Proofs.SlLaysM.n6 Tryd.prog Tryd.sort50_ren := {
  mixed := by kernel_rfl
  f6 := ⟨Tryd.f50.name, by decide, Tryd.func50.trans (congrArg some (by kernel_rfl))⟩
  f8 := Tryd.func81.trans (congrArg some (by kernel_rfl))
  f9 := ⟨Tryd.f80.name, by decide, Tryd.func80.trans (congrArg some (by kernel_rfl))⟩
  f19 := Tryd.func107.trans (congrArg some (by kernel_rfl))
  f20 := Tryd.func108.trans (congrArg some (by kernel_rfl))
  f21 := ⟨Tryd.f98.name, by decide, Tryd.func98.trans (congrArg some (by kernel_rfl))⟩
  f22 := ⟨Tryd.f99.name, by decide, Tryd.func99.trans (congrArg some (by kernel_rfl))⟩
  f23 := ⟨Tryd.f100.name, by decide, Tryd.func100.trans (congrArg some (by kernel_rfl))⟩
  f24 := ⟨Tryd.f101.name, by decide, Tryd.func101.trans (congrArg some (by kernel_rfl))⟩
  f25 := ⟨Tryd.f102.name, by decide, Tryd.func102.trans (congrArg some (by kernel_rfl))⟩
  f26 := ⟨Tryd.f103.name, by decide, Tryd.func103.trans (congrArg some (by kernel_rfl))⟩
  f27 := ⟨Tryd.f104.name, by decide, Tryd.func104.trans (congrArg some (by kernel_rfl))⟩
  f28 := ⟨Tryd.f105.name, by decide, Tryd.func105.trans (congrArg some (by kernel_rfl))⟩
  f29 := ⟨Tryd.f106.name, by decide, Tryd.func106.trans (congrArg some (by kernel_rfl))⟩
  f31 := Tryd.func123.trans (congrArg some (by kernel_rfl))
  f32 := Tryd.func124.trans (congrArg some (by kernel_rfl))
  f36 := ⟨Tryd.f122.name, by decide, Tryd.func122.trans (congrArg some (by kernel_rfl))⟩
  f37 := ⟨Tryd.f125.name, by decide, Tryd.func125.trans (congrArg some (by kernel_rfl))⟩
  f38 := ⟨Tryd.f126.name, by decide, Tryd.func126.trans (congrArg some (by kernel_rfl))⟩
  f39 := ⟨Tryd.f127.name, by decide, Tryd.func127.trans (congrArg some (by kernel_rfl))⟩
  f41 := ⟨Tryd.f133.name, by decide, Tryd.func133.trans (congrArg some (by kernel_rfl))⟩
  t0 := Tryd.underlying0
  a0 := Tryd.isAgg0
  z0 := Tryd.sizeOf0
  v0 := Tryd.zeroValue0
  t3 := Tryd.underlying3
  a3 := Tryd.isAgg3
  z3 := Tryd.sizeOf3
  v3 := Tryd.zeroValue3
  t4 := Tryd.underlying4
  a4 := Tryd.isAgg4
  z4 := Tryd.sizeOf4
  v4 := Tryd.zeroValue4
  t5 := Tryd.underlying5
  a5 := Tryd.isAgg5
  z5 := Tryd.sizeOf5
  v5 := Tryd.zeroValue5
  t9 := Tryd.underlying9
  a9 := Tryd.isAgg9
  z9 := Tryd.sizeOf9
  v9 := Tryd.zeroValue9
  t26 := Tryd.underlying29
  a26 := Tryd.isAgg29
  z26 := Tryd.sizeOf29
  v26 := Tryd.zeroValue29
  t27 := Tryd.underlying29
  a27 := Tryd.isAgg29
  z27 := Tryd.sizeOf29
  v27 := Tryd.zeroValue29
  t29 := Tryd.underlying9
  a29 := Tryd.isAgg9
  z29 := Tryd.sizeOf9
  v29 := Tryd.zeroValue9
  t32 := Tryd.underlying116
  a32 := Tryd.isAgg116
  z32 := Tryd.sizeOf116
  v32 := Tryd.zeroValue116
  t35 := Tryd.underlying128
  a35 := Tryd.isAgg128
  z35 := Tryd.sizeOf128
  v35 := Tryd.zeroValue128
  t36 := Tryd.underlying129
  a36 := Tryd.isAgg129
  z36 := Tryd.sizeOf129
  v36 := Tryd.zeroValue129
  t41 := Tryd.underlying120
  a41 := Tryd.isAgg120
  z41 := Tryd.sizeOf120
  v41 := Tryd.zeroValue120
  t44 := Tryd.underlying135
  a44 := Tryd.isAgg135
  z44 := Tryd.sizeOf135
  v44 := Tryd.zeroValue135
  t46 := Tryd.underlying137
  a46 := Tryd.isAgg137
  z46 := Tryd.sizeOf137
  v46 := Tryd.zeroValue137
  t53 := Tryd.underlying155
  a53 := Tryd.isAgg155
  z53 := Tryd.sizeOf155
  v53 := Tryd.zeroValue155
  t57 := Tryd.underlying159
  a57 := Tryd.isAgg159
  z57 := Tryd.sizeOf159
  v57 := Tryd.zeroValue159
  t63 := Tryd.underlying163
  a63 := Tryd.isAgg163
  z63 := Tryd.sizeOf163
  v63 := Tryd.zeroValue163
  t64 := Tryd.underlying164
  a64 := Tryd.isAgg164
  z64 := Tryd.sizeOf164
  v64 := Tryd.zeroValue164 }
theorem Tryd.sorts32 (m : Nat) : AnyZ.SortsIn Tryd.prog Tryd.sorted32_ren Fence.wide m :=
  ⟨fun blk off cap ss W hH hblk hsz => callsIn_wide.2 (AnyM.slices_Sort_string Tryd.sort50 blk off cap ss W hH hblk hsz),
   fun p cap W => callsIn_wide.2 (AnyM.slices_Sort_string_none Tryd.sort50 p cap W)⟩
theorem Tryd.maps_Keys_33 (mb : Option Nat) (W : World) : CallsIn Fence.wide 5 Tryd.prog 33 #[.map mb] W fun e w' => e = .returned (.func (.func 51) #[] #[.pointer (some ⟨W.heap.size, 0, none⟩)]) ∧ w' = W.alloc (.cells #[.map mb] 54) :=
  AnyZ.keys_in Tryd.keys33 Fence.wide 5 trivial rfl mb W
theorem Tryd.slices_Sorted_keys_32_33 {H : Type} (b nn : Nat) (D0 : DataW H) (R : Value → Option (DataW H × List MemPlace)) (w : World) (hown : w.ownsMap Tryd.prog 9 R b nn D0) (hmax : Maps.size D0 ≤ maxLen) (hbytes : Maps.size D0 * 16 ≤ 140737488355328) :
    CallsIn Fence.wide 5 Tryd.prog 32 #[.func (.func 51) #[] #[.pointer (some ⟨w.heap.size, 0, none⟩)]] (w.alloc (.cells #[.map (some b)] 54)) fun e w' => ∃ (v : Value) (ss : List (List UInt8)), e = .returned v ∧ ss.Perm (strKeys D0) ∧
      w'.ownsRow (w.alloc (.cells #[.map (some b)] 54)).heap.size 9 1 v ss.length ((ss.mergeSort (fun x y => decide (x ≤ y))).map encStr) ∧ (v = .slice none 0 0 ↔ ss = []) ∧ Below (w.alloc (.cells #[.map (some b)] 54)).heap.size (w.alloc (.cells #[.map (some b)] 54)) w' := by
  have hbl := hown.lt
  have hseq : SeqGives Fence.wide 2 Tryd.prog 51 #[.pointer (some ⟨w.heap.size, 0, none⟩)] encStr (fun ss => ss.Perm (strKeys D0)) (Maps.size D0) (w.alloc (.cells #[.map (some b)] 54)) :=
    AnyZ.keys_gives (ρ := Tryd.keys33_ren) { Tryd.keys33 with } Fence.wide _ trivial rfl (by omega) w.heap.size b nn D0 _ (by simp) (by simp) (by
      obtain ⟨es, clock, hb, Ft, hs, hD⟩ := hown
      exact ⟨es, clock, (Below.heap_alloc _ _ b hbl).trans hb, Ft, hs, hD⟩)
  exact AnyZ.sorted_in Tryd.sorted32 Fence.wide 5 trivial trivial trivial trivial rfl (by omega) (Tryd.sorts32 _) (enters_of Tryd.func50 (by kernel_rfl) rfl) 51 #[.pointer (some ⟨w.heap.size, 0, none⟩)] trivial (enters_of Tryd.func51 (by kernel_rfl) rfl) _ _ hmax hbytes _ hseq
theorem Tryd.slices_Sorted_keys_nil_32_33 (w : World) :
    CallsIn Fence.wide 5 Tryd.prog 32 #[.func (.func 51) #[] #[.pointer (some ⟨w.heap.size, 0, none⟩)]] (w.alloc (.cells #[.map none] 54)) fun e w' => ∃ (v : Value) (ss : List (List UInt8)), e = .returned v ∧ ss = [] ∧
      w'.ownsRow (w.alloc (.cells #[.map none] 54)).heap.size 9 1 v ss.length ((ss.mergeSort (fun x y => decide (x ≤ y))).map encStr) ∧ (v = .slice none 0 0 ↔ ss = []) ∧ Below (w.alloc (.cells #[.map none] 54)).heap.size (w.alloc (.cells #[.map none] 54)) w' := by
  have hseq : SeqGives Fence.wide 2 Tryd.prog 51 #[.pointer (some ⟨w.heap.size, 0, none⟩)] encStr (fun ss : List (List UInt8) => ss = []) 0 (w.alloc (.cells #[.map none] 54)) :=
    AnyZ.keys_gives_nil (ρ := Tryd.keys33_ren) { Tryd.keys33 with } Fence.wide _ trivial rfl w.heap.size _ (by simp) (by simp)
  exact AnyZ.sorted_in Tryd.sorted32 Fence.wide 5 trivial trivial trivial trivial rfl (by omega) (Tryd.sorts32 _) (enters_of Tryd.func50 (by kernel_rfl) rfl) 51 #[.pointer (some ⟨w.heap.size, 0, none⟩)] trivial (enters_of Tryd.func51 (by kernel_rfl) rfl) _ 0 (Nat.zero_le _) (by omega) _ hseq
def Tryd.keys45_ren : Go.Shelf.Ren := ⟨fun | 7 => 45 | 10 => 76 | n => n, fun | 23 => 76 | 26 => 9 | 3 => 74 | 28 => 66 | 0 => 0 | 27 => 65 | 33 => 51 | 4 => 4 | n => n, fun | n => n⟩
theorem Tryd.keys45 : Go.Proofs.SlLaysZ.n7 Tryd.prog Tryd.keys45_ren := {
  mixed := by kernel_rfl
  f7 := ⟨Tryd.f45.name, by decide, Tryd.func45.trans (congrArg some (by kernel_rfl))⟩
  f10 := ⟨Tryd.f76.name, by decide, Tryd.func76.trans (congrArg some (by kernel_rfl))⟩
  t0 := Tryd.underlying0
  a0 := Tryd.isAgg0
  z0 := Tryd.sizeOf0
  v0 := Tryd.zeroValue0
  t4 := Tryd.underlying4
  a4 := Tryd.isAgg4
  z4 := Tryd.sizeOf4
  v4 := Tryd.zeroValue4
  t23 := Tryd.underlying76
  a23 := Tryd.isAgg76
  z23 := Tryd.sizeOf76
  v23 := Tryd.zeroValue76
  t26 := Tryd.underlying9
  a26 := Tryd.isAgg9
  z26 := Tryd.sizeOf9
  v26 := Tryd.zeroValue9
  t27 := Tryd.underlying65
  a27 := Tryd.isAgg65
  z27 := Tryd.sizeOf65
  v27 := Tryd.zeroValue65
  t28 := Tryd.underlying66
  a28 := Tryd.isAgg66
  z28 := Tryd.sizeOf66
  v28 := Tryd.zeroValue66
  t33 := Tryd.underlying51
  a33 := Tryd.isAgg51
  z33 := Tryd.sizeOf51
  v33 := Tryd.zeroValue51 }
theorem Tryd.maps_Keys_45 (mb : Option Nat) (W : World) : CallsIn Fence.wide 5 Tryd.prog 45 #[.map mb] W fun e w' => e = .returned (.func (.func 76) #[] #[.pointer (some ⟨W.heap.size, 0, none⟩)]) ∧ w' = W.alloc (.cells #[.map mb] 76) :=
  AnyZ.keys_in Tryd.keys45 Fence.wide 5 trivial rfl mb W
theorem Tryd.slices_Sorted_keys_32_45 {H : Type} (b nn : Nat) (D0 : DataW H) (R : Value → Option (DataW H × List MemPlace)) (w : World) (hown : w.ownsMap Tryd.prog 9 R b nn D0) (hmax : Maps.size D0 ≤ maxLen) (hbytes : Maps.size D0 * 16 ≤ 140737488355328) :
    CallsIn Fence.wide 5 Tryd.prog 32 #[.func (.func 76) #[] #[.pointer (some ⟨w.heap.size, 0, none⟩)]] (w.alloc (.cells #[.map (some b)] 76)) fun e w' => ∃ (v : Value) (ss : List (List UInt8)), e = .returned v ∧ ss.Perm (strKeys D0) ∧
      w'.ownsRow (w.alloc (.cells #[.map (some b)] 76)).heap.size 9 1 v ss.length ((ss.mergeSort (fun x y => decide (x ≤ y))).map encStr) ∧ (v = .slice none 0 0 ↔ ss = []) ∧ Below (w.alloc (.cells #[.map (some b)] 76)).heap.size (w.alloc (.cells #[.map (some b)] 76)) w' := by
  have hbl := hown.lt
  have hseq : SeqGives Fence.wide 2 Tryd.prog 76 #[.pointer (some ⟨w.heap.size, 0, none⟩)] encStr (fun ss => ss.Perm (strKeys D0)) (Maps.size D0) (w.alloc (.cells #[.map (some b)] 76)) :=
    AnyZ.keys_gives (ρ := Tryd.keys45_ren) { Tryd.keys45 with } Fence.wide _ trivial rfl (by omega) w.heap.size b nn D0 _ (by simp) (by simp) (by
      obtain ⟨es, clock, hb, Ft, hs, hD⟩ := hown
      exact ⟨es, clock, (Below.heap_alloc _ _ b hbl).trans hb, Ft, hs, hD⟩)
  exact AnyZ.sorted_in Tryd.sorted32 Fence.wide 5 trivial trivial trivial trivial rfl (by omega) (Tryd.sorts32 _) (enters_of Tryd.func50 (by kernel_rfl) rfl) 76 #[.pointer (some ⟨w.heap.size, 0, none⟩)] trivial (enters_of Tryd.func76 (by kernel_rfl) rfl) _ _ hmax hbytes _ hseq
theorem Tryd.slices_Sorted_keys_nil_32_45 (w : World) :
    CallsIn Fence.wide 5 Tryd.prog 32 #[.func (.func 76) #[] #[.pointer (some ⟨w.heap.size, 0, none⟩)]] (w.alloc (.cells #[.map none] 76)) fun e w' => ∃ (v : Value) (ss : List (List UInt8)), e = .returned v ∧ ss = [] ∧
      w'.ownsRow (w.alloc (.cells #[.map none] 76)).heap.size 9 1 v ss.length ((ss.mergeSort (fun x y => decide (x ≤ y))).map encStr) ∧ (v = .slice none 0 0 ↔ ss = []) ∧ Below (w.alloc (.cells #[.map none] 76)).heap.size (w.alloc (.cells #[.map none] 76)) w' := by
  have hseq : SeqGives Fence.wide 2 Tryd.prog 76 #[.pointer (some ⟨w.heap.size, 0, none⟩)] encStr (fun ss : List (List UInt8) => ss = []) 0 (w.alloc (.cells #[.map none] 76)) :=
    AnyZ.keys_gives_nil (ρ := Tryd.keys45_ren) { Tryd.keys45 with } Fence.wide _ trivial rfl w.heap.size _ (by simp) (by simp)
  exact AnyZ.sorted_in Tryd.sorted32 Fence.wide 5 trivial trivial trivial trivial rfl (by omega) (Tryd.sorts32 _) (enters_of Tryd.func50 (by kernel_rfl) rfl) 76 #[.pointer (some ⟨w.heap.size, 0, none⟩)] trivial (enters_of Tryd.func76 (by kernel_rfl) rfl) _ 0 (Nat.zero_le _) (by omega) _ hseq
end Go.Proofs
