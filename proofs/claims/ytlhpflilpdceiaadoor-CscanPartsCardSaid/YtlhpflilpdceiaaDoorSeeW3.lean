/- The walks over package patoissee's fault, Fault, Same. What the package-level errors hold is a hypothesis. -/
import Derived.Test.YtlhpflilpdceiaaDoorSeeW2
set_option linter.unusedVariables false
set_option linter.unusedSimpArgs false
namespace Go.Proofs.YtlhpflilpdceiaaDoor
open Go.RowKit

theorem zeroPA : (Tryd.prog.info? 127).map (·.zero) = some (some (.pointer none)) := by kernel_rfl
theorem assert_at (v : Value) (xT : TypeId) (w : World) : (Instr.typeAssert (.iface 127 v) xT 127 true).run Tryd.prog w = .ok (.tuple #[v, .bool true]) w := by
  simp [Instr.typeAssert, run_underlying Tryd.underlying127]
theorem assert_es (v : Value) (xT : TypeId) (w : World) : (Instr.typeAssert (.iface 171 v) xT 127 true).run Tryd.prog w = .ok (.tuple #[.pointer none, .bool false]) w := by
  obtain ⟨j, hj, hz⟩ := map_some zeroPA
  simp [Instr.typeAssert, run_underlying Tryd.underlying127, zeroValue, typeInfo, hj, hz]

/-- An error that is no other around: fault tells its number. -/
theorem fault_sent (L : List Addr) (w : World) (j : Nat) (a : Addr) (left : Nat) (h : SenW w L) (hj : L[j]? = some a) (hl : 0 < left) (hl9 : left ≤ 9) :
    Calls Tryd.prog 52 #[sentV a, .int .i64 left] w (Ret w (bareV (101 + j))) := by
  have HS := Lib.hid fun W hb => sentinel_any L W j a (h.below hb) hj
  have hq : ((left : Int) == 0) = false := by rw [beq_eq_false_iff_ne]; omega
  have hA := assert_es
  clear h hj hl hl9
  unfold sentV at *
  go_enter Tryd.func52, Tryd.ntmps52
  go_wp2_with fail
  have hBn := Blk.new w 52 #[.int .i64 0, .slice none 0 0]
  have hb0 : Below w.heap.size w (w.alloc (.cells #[.int .i64 0, .slice none 0 0] 52)) := (Below.refl _ _).alloc (Nat.le_refl _) _
  refine (HS.out _ hb0).mono ?_
  rintro e w1 ⟨rfl, hb1⟩
  have HBn := Lib.hid hBn
  clear hBn HS
  go_wp2_with fail
  refine (bare_any _ w1).mono ?_
  rintro e w2 ⟨rfl, hb2⟩
  have hB := (HBn.out.below hb1).below hb2
  have z0 := hB.cell 0
  have z1 := hB.cell 1
  have q0 := hB.frozen 0
  have q1 := hB.frozen 1
  have hB2 := (hB.set 0 (.int .i64 (101 + j))).set 1 (.slice none 0 0)
  have e0 := hB2.cell 0
  have e1 := hB2.cell 1
  have hbF : Below w.heap.size w ((w2.setCell ⟨w.heap.size, 0, none⟩ (.int .i64 (101 + j))).setCell ⟨w.heap.size, 1, none⟩ (.slice none 0 0)) :=
    ((hb0.trans ((hb1.trans (hb2.mono hb1.size)).mono hb0.size)).setCell (Nat.le_refl _) _).setCell (Nat.le_refl _) _
  simp only [List.getElem?_toArray, List.getElem?_cons_zero, List.getElem?_cons_succ, List.setIfInBounds_toArray, List.set_cons_succ, List.set_cons_zero] at e0 e1 z0 z1
  have E0 := Lib.hid e0
  have E1 := Lib.hid e1
  have EF := Lib.hid hbF
  clear hbF e0 e1 hB2 hB
  unfold bareV
  go_wp2_with fail
  refine bodyPost_ret (v := .agg #[.int .i64 (101 + j), .slice none 0 0]) ?_ rfl ⟨rfl, EF.out⟩
  have e0 := E0.out
  have e1 := E1.out
  generalize ((w2.setCell ⟨w.heap.size, 0, none⟩ (.int .i64 (101 + j))).setCell ⟨w.heap.size, 1, none⟩ (.slice none 0 0)) = WF at *
  simp [results, Tryd.results52, go_sem, e0, e1]
end Go.Proofs.YtlhpflilpdceiaaDoor
