/- The walk over code.names and code.Name: the instructions' names. No condition. (namesA: printed by gen/codenames.py.) -/
import Derived.Test.YtpogngdddendiaaDoorGL
import Derived.Outline
import Derived.Deep.WholeRow
set_option linter.unusedVariables false
set_option linter.unusedSimpArgs false
namespace Go.Proofs.YtpogngdddendiaaDoor
open Go.RowKit

def namesA : Array Value := #[.string ⟨#[]⟩, .string ⟨#[108, 105, 116]⟩, .string ⟨#[118, 97, 114]⟩, .string ⟨#[99, 97, 116]⟩, .string ⟨#[106, 111, 105, 110]⟩, .string ⟨#[115, 112, 108, 105, 116]⟩, .string ⟨#[103, 108, 111, 98]⟩, .string ⟨#[112, 108, 97, 105, 110]⟩, .string ⟨#[101, 115, 99]⟩, .string ⟨#[102, 108, 97, 116]⟩, .string ⟨#[99, 111, 117, 110, 116]⟩, .string ⟨#[112, 105, 99, 107]⟩, .string ⟨#[115, 117, 98, 105, 110]⟩, .string ⟨#[115, 117, 98, 111, 117, 116]⟩, .string ⟨#[116, 105, 99, 107]⟩, .string ⟨#[99, 97, 108, 108]⟩, .string ⟨#[115, 101, 116]⟩, .string ⟨#[115, 116, 97, 116, 117, 115]⟩, .string ⟨#[106, 117, 109, 112]⟩, .string ⟨#[102, 97, 105, 108]⟩, .string ⟨#[103, 111, 111, 100]⟩, .string ⟨#[102, 111, 114, 105, 110]⟩, .string ⟨#[102, 111, 114, 110, 101, 120, 116]⟩, .string ⟨#[99, 97, 115, 101, 105, 110]⟩, .string ⟨#[99, 97, 115, 101, 116, 101, 115, 116]⟩, .string ⟨#[99, 97, 115, 101, 111, 117, 116]⟩, .string ⟨#[102, 117, 110]⟩, .string ⟨#[112, 105, 112, 101, 105, 110]⟩, .string ⟨#[112, 105, 112, 101, 110, 101, 120, 116]⟩, .string ⟨#[112, 105, 112, 101, 111, 117, 116]⟩, .string ⟨#[114, 101, 100, 105, 114, 105, 110]⟩, .string ⟨#[114, 101, 100, 105, 114, 111, 117, 116]⟩, .string ⟨#[104, 101, 114, 101, 105, 110]⟩, .string ⟨#[104, 101, 114, 101, 111, 117, 116]⟩, .string ⟨#[108, 111, 99, 97, 108, 105, 110]⟩, .string ⟨#[108, 111, 99, 97, 108, 111, 117, 116]⟩, .string ⟨#[110, 111, 116]⟩, .string ⟨#[101, 118, 97, 108]⟩, .string ⟨#[102, 114, 97, 109, 101, 105, 110]⟩, .string ⟨#[102, 114, 97, 109, 101, 111, 117, 116]⟩, .string ⟨#[114, 101, 116]⟩, .string ⟨#[104, 97, 108, 116]⟩]
theorem wp_val {P : Program} {o : Oper} {a : Act} {w w' : World} {K : Act → World → Prop} {Q : Exit → Act → World → Prop} {v : Value} (h : (execOp a.eval o).run P w = .ok (.value v) w') (hK : K (a.put o.dst v) w') : o.wp P a w K Q := by
  unfold Oper.wp
  rw [h]
  exact hK
theorem wp_skip {P : Program} {o : Oper} {a : Act} {w w' : World} {K : Act → World → Prop} {Q : Exit → Act → World → Prop} (h : (execOp a.eval o).run P w = .ok .skip w') (hK : K (a.put o.dst undef) w') : o.wp P a w K Q := by
  unfold Oper.wp
  rw [h]
  exact hK
def zeros42 : Array Value := Array.replicate 42 (.string ⟨#[]⟩)
theorem names_size : namesA.size = 42 := rfl
set_option maxRecDepth 100000 in
set_option maxHeartbeats 8000000 in
theorem names_any (w : World) : Calls Tryd.prog 56 #[] w (Ret w (.agg namesA)) := by
  have hi : (Tryd.prog.info? 104).map (·.size) = some 42 := by kernel_rfl
  have hu : Tryd.prog.underlying 104 = some (.array 42 9) := by kernel_rfl
  have hst := run_storeAt_new (P := Tryd.prog) w 104 zeros42 namesA hi rfl (by kernel_rfl)
  have hld := run_loadVar_new (P := Tryd.prog) w 104 namesA 42 _ hu hi
  have HST := Lib.hid hst
  have HLD := Lib.hid hld
  have HI := Lib.hid hi
  have HU := Lib.hid hu
  clear hst hld hi hu
  go_enter Tryd.func56, Tryd.ntmps56
  go_upto_region 1 with (fail)
  change Code.wp _ _ _ _ (w.alloc (.cells zeros42 104))
  refine wp_region_lit ?_
  refine wpList_plain rfl fun K hK => ?_
  refine wp_val (v := .agg namesA) (w' := w.alloc (.cells zeros42 104)) (by kernel_rfl) ?_
  refine hK _ _ ?_
  refine wpList_plain rfl fun K2 hK2 => ?_
  refine wp_skip (w' := w.alloc (.cells namesA 104)) ?_ ?_
  · show (do Instr.storeAt 104 (.pointer (some ⟨w.heap.size, 0, none⟩)) (.agg namesA); pure Next.skip : Sem Next).run Tryd.prog (w.alloc (.cells zeros42 104)) = _
    rw [Sem.run_bind, HST.out]
    rfl
  · refine hK2 _ _ (wpList_nil ?_)
    clear hK hK2
    rename_i K0 hK0
    refine hK0 _ _ ?_
    clear hK0 K0
    change Code.wp _ _ _ { tmps := #[.pointer (some ⟨w.heap.size, 0, none⟩), .agg namesA], defers := [] } _
    refine wp_ret ?_
    refine bodyPost_ret (v := .agg namesA) ?_ rfl ⟨rfl, (Below.refl _ _).alloc (Nat.le_refl _) _⟩
    exact results_cell_row rfl _ _ w.heap.size 104 namesA (0, 0) _ rfl (heap_alloc_last w _) HU.out rfl HI.out
end Go.Proofs.YtpogngdddendiaaDoor
