/- The walk over chapter 5's examples: they hold; Check seen as plain data. What the package-level errors hold is a hypothesis. -/
import Derived.Test.YthmeonimianoeaaDoorGX
import Derived.Test.YthmeonimianoeaaDoorCoreL
import Derived.Outline
set_option linter.unusedVariables false
set_option linter.unusedSimpArgs false
namespace Go.Proofs.YthmeonimianoeaaDoor
open Go.RowKit

theorem many_false {t : Tr} (h : (flat t).length ≤ 3000) : manyB (flat t) = false := by
  have := flat_pos t
  simp only [manyB, Bool.or_eq_false_iff, beq_eq_false_iff_ne, decide_eq_false_iff_not]
  omega
theorem check_ok (v : Value) (t : Tr) (L : List Addr) (w : World) (hok : okT 30 false t = true) (hn : (flat t).length ≤ 3000) (hnd : ∀ x ∈ flat t, NdOk x) (hv : SlRd w v (flat t)) (hS : SenW w L) :
    Calls Tryd.prog 15 #[v] w (Ret w .nilIface) := by
  obtain ⟨aN, aT, aM, hE, _⟩ := hS.errw
  refine (check_v v (flat t) aN aT aM w (by omega) hnd hv hE).mono ?_
  rintro e w' ⟨u, rfl, hu, hb⟩
  rw [many_false hn, if_neg Bool.noConfusion, (check_flat t).2 hok] at hu
  obtain rfl : u = Value.nilIface := hu
  exact ⟨rfl, hb⟩
/-- An error with its place. -/
def SeeAt (L : List Addr) (code : Int) (ats : List Int) (w : World) (e : Ending) (w' : World) : Prop := ∃ g, e = .returned (.iface 76 (.pointer (some ⟨g, 0, none⟩))) ∧ ErrV w' L (.iface 76 (.pointer (some ⟨g, 0, none⟩))) code ats ∧ Below w.heap.size w w'
theorem check_at (v : Value) (N : List Nd) (L : List Addr) (w : World) (i : Nat) (nest : Bool) (hm : manyB N = false) (hc : checkP N = some (i, nest)) (hnd : ∀ x ∈ N, NdOk x) (hv : SlRd w v N) (hS : SenW w L) :
    Calls Tryd.prog 15 #[v] w (SeeAt L (if nest then 102 else 110) [(i : Int)] w) := by
  obtain ⟨aN, aT, aM, hE, h9, h1, _⟩ := hS.errw
  have hn : N.length ≤ 3000 := by
    simp only [manyB, Bool.or_eq_false_iff, decide_eq_false_iff_not] at hm
    omega
  refine (check_v v N aN aT aM w (by omega) hnd hv hE).mono ?_
  rintro e w' ⟨u, rfl, hu, hb⟩
  rw [hm, if_neg Bool.noConfusion, hc] at hu
  obtain ⟨g, rfl, _, c0, c1⟩ := hu
  refine ⟨g, rfl, .inr (.inr ?_), hb⟩
  cases nest
  · exact ⟨9, aN, g, i, h9, rfl, c0, c1, rfl, rfl⟩
  · exact ⟨1, aT, g, i, h1, rfl, c0, c1, rfl, rfl⟩
theorem check_many (v : Value) (N : List Nd) (L : List Addr) (aM : Addr) (w : World) (hN : N.length ≤ 4000000) (hm : manyB N = true) (hM : L[10]? = some aM) (hnd : ∀ x ∈ N, NdOk x) (hv : SlRd w v N) (hS : SenW w L) :
    Calls Tryd.prog 15 #[v] w (Ret w (sentV aM)) := by
  obtain ⟨aN, aT, aM', hE, _, _, h10⟩ := hS.errw
  rw [hM] at h10
  injection h10 with h10
  subst h10
  refine (check_v v N aN aT aM w hN hnd hv hE).mono ?_
  rintro e w' ⟨u, rfl, hu, hb⟩
  rw [hm, if_pos rfl] at hu
  subst hu
  exact ⟨rfl, hb⟩
theorem ok_nodes' {L : List Nd} (h : L.all (fun x => decide (x.s.length ≤ 4000000) && decide (x.k ≤ 9223372036854775807)) = true) : ∀ x ∈ L, NdOk x := by
  intro x hx
  have := List.all_eq_true.1 h x hx
  simpa [NdOk] using this
def echoT : Tr := .mk 21 0 [] [.mk 1 0 [101, 99, 104, 111] [], .mk 1 0 [97] []]
def badT : Tr := .mk 23 0 [] [nopT]

end Go.Proofs.YthmeonimianoeaaDoor
