/- The walk over code.Op: the instruction of a name. No condition. -/
import Derived.Test.YtpogngdddendiaaDoorGC
import Derived.Test.YtpogngdddendiaaDoorShelf
set_option linter.unusedVariables false
set_option linter.unusedSimpArgs false
namespace Go.Proofs.YtpogngdddendiaaDoor
open Go.RowKit

def namesB : List ByteArray := (List.range 42).map nameS
theorem namesB_len : namesB.length = 42 := rfl
theorem namesA_at : ∀ j : Fin 42, namesA[j.val]? = some (.string (namesB.getD j.val ByteArray.empty)) := by
  intro ⟨j, hj⟩
  have h : j = 0 ∨ j = 1 ∨ j = 2 ∨ j = 3 ∨ j = 4 ∨ j = 5 ∨ j = 6 ∨ j = 7 ∨ j = 8 ∨ j = 9 ∨ j = 10 ∨ j = 11 ∨ j = 12 ∨ j = 13 ∨ j = 14 ∨ j = 15 ∨ j = 16 ∨ j = 17 ∨ j = 18 ∨ j = 19 ∨ j = 20 ∨ j = 21 ∨ j = 22 ∨ j = 23 ∨ j = 24 ∨ j = 25 ∨ j = 26 ∨ j = 27 ∨ j = 28 ∨ j = 29 ∨ j = 30 ∨ j = 31 ∨ j = 32 ∨ j = 33 ∨ j = 34 ∨ j = 35 ∨ j = 36 ∨ j = 37 ∨ j = 38 ∨ j = 39 ∨ j = 40 ∨ j = 41 := by omega
  rcases h with rfl | rfl | rfl | rfl | rfl | rfl | rfl | rfl | rfl | rfl | rfl | rfl | rfl | rfl | rfl | rfl | rfl | rfl | rfl | rfl | rfl | rfl | rfl | rfl | rfl | rfl | rfl | rfl | rfl | rfl | rfl | rfl | rfl | rfl | rfl | rfl | rfl | rfl | rfl | rfl | rfl | rfl <;> rfl
/-- The instruction of a name; none: 0. -/
def opL (s : ByteArray) : Int := max 0 (Lib.idxOfS namesB s)
set_option maxRecDepth 100000 in
set_option maxHeartbeats 8000000 in
theorem op_anyC (s : ByteArray) (w : World) : Calls Tryd.prog 30 #[.string s] w (Ret w (.int .i64 (opL s))) := by
  have hi : (Tryd.prog.info? 104).map (·.size) = some 42 := by kernel_rfl
  have hu : Tryd.prog.underlying 104 = some (.array 42 9) := by kernel_rfl
  have HN := Lib.hid (names_any w)
  have HIX := Lib.hid (fun (b : Nat) (W : World) hc => Tryd.slices_Index_string b 0 42 42 namesB s W (by decide) (by decide) hc)
  have HT := Lib.hid (show namesB.take 42 = namesB from rfl)
  have HO := Lib.hid (show opL s = max 0 (Lib.idxOfS namesB s) from rfl)
  have HI := Lib.hid hi
  have HU := Lib.hid hu
  clear hi hu
  go_enter Tryd.func30, Tryd.ntmps30
  go_wp2_with fail
  refine HN.out.mono ?_
  rintro e w1 ⟨rfl, hb1⟩
  have HB1 := Lib.hid hb1
  clear hb1
  dsimp only
  have HST := Lib.hid (run_storeAt_new (P := Tryd.prog) w1 104 zeros42 namesA HI.out rfl (by kernel_rfl))
  have HBK := Lib.hid (Blk.new w1 104 namesA)
  rename_i K0 hK0 K1 hK1
  refine hK1 _ _ ?_
  clear hK1 K1
  refine wpList_plain rfl fun K hK => ?_
  refine wp_val (v := .pointer (some ⟨w1.heap.size, 0, none⟩)) (w' := w1.alloc (.cells zeros42 104)) (by kernel_rfl) ?_
  refine hK _ _ ?_
  clear hK K
  refine wpList_plain rfl fun K hK => ?_
  refine wp_skip (w' := w1.alloc (.cells namesA 104)) ?_ ?_
  · show (do Instr.storeAt 104 (.pointer (some ⟨w1.heap.size, 0, none⟩)) (.agg namesA); pure Next.skip : Sem Next).run Tryd.prog (w1.alloc (.cells zeros42 104)) = _
    rw [Sem.run_bind, HST.out]
    rfl
  refine hK _ _ (wpList_nil ?_)
  clear hK K
  refine hK0 _ _ ?_
  clear hK0 K0
  have HB2 := Lib.hid (HB1.out.trans ((Below.refl _ _).alloc HB1.out.size (.cells namesA 104)))
  have HC := Lib.hid (show ∀ j, j < namesB.length → (w1.alloc (.cells namesA 104)).cell? ⟨w1.heap.size, 0 + j, none⟩ = some (.string (namesB.getD j ByteArray.empty)) from fun j hj => by
    have h := HBK.out.cell j
    rw [Nat.zero_add, h]
    exact namesA_at ⟨j, hj⟩)
  clear HST HBK
  generalize w1.alloc (.cells namesA 104) = w2 at *
  generalize w1.heap.size = g at *
  have HX := Lib.hid (HIX.out g w2 HC.out)
  rw [HT.out] at HX
  dsimp only [Act.put]
  go_wp2_with fail
  refine HX.out.mono ?_
  rintro e w3 ⟨rfl, rfl⟩
  have HM := Lib.hid HO.out
  generalize Lib.idxOfS namesB s = ix at *
  go_wp2_with fail
  go_ret
  exact ⟨by rw [HM.out]; rfl, HB2.out⟩
end Go.Proofs.YtpogngdddendiaaDoor
