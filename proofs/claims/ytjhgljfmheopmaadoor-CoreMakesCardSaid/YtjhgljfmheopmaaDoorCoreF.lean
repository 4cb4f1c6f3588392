/- The walk over chapter 5's examples: they hold; Check seen as plain data. What the package-level errors hold is a hypothesis. -/
import Derived.Test.YtjhgljfmheopmaaDoorErrs17
import Derived.Test.YtjhgljfmheopmaaDoorCoreL
import Derived.Outline
set_option linter.unusedVariables false
set_option linter.unusedSimpArgs false
namespace Go.Proofs.YtjhgljfmheopmaaDoor
open Go.RowKit

theorem many_false {t : Tr} (h : (flat t).length ≤ 3000) : manyB (flat t) = false := by
  have := flat_pos t
  simp only [manyB, Bool.or_eq_false_iff, beq_eq_false_iff_ne, decide_eq_false_iff_not]
  omega
theorem check_ok (v : Value) (t : Tr) (L : List Addr) (w : World) (hok : okT 30 false t = true) (hn : (flat t).length ≤ 3000) (hnd : ∀ x ∈ flat t, NdOk x) (hv : SlRd w v (flat t)) (hS : SenW w L) :
    Calls Tryd.prog 18 #[v] w (Ret w .nilIface) := by
  obtain ⟨aN, aT, aM, hE, _⟩ := hS.errw
  refine (check_v v (flat t) aN aT aM w (by omega) hnd hv hE).mono ?_
  rintro e w' ⟨u, rfl, hu, hb⟩
  rw [many_false hn, if_neg Bool.noConfusion, (check_flat t).2 hok] at hu
  obtain rfl : u = Value.nilIface := hu
  exact ⟨rfl, hb⟩
/-- An error with its place. -/
def SeeAt (L : List Addr) (code : Int) (ats : List Int) (w : World) (e : Ending) (w' : World) : Prop := ∃ g, e = .returned (.iface 84 (.pointer (some ⟨g, 0, none⟩))) ∧ ErrV w' L (.iface 84 (.pointer (some ⟨g, 0, none⟩))) code ats ∧ Below w.heap.size w w'
theorem check_at (v : Value) (N : List Nd) (L : List Addr) (w : World) (i : Nat) (nest : Bool) (hm : manyB N = false) (hc : checkP N = some (i, nest)) (hnd : ∀ x ∈ N, NdOk x) (hv : SlRd w v N) (hS : SenW w L) :
    Calls Tryd.prog 18 #[v] w (SeeAt L (if nest then 102 else 110) [(i : Int)] w) := by
  obtain ⟨aN, aT, aM, hE, h9, h1, _⟩ := hS.errw
  have hn : N.length ≤ 3000 := by
    simp only [manyB, Bool.or_eq_false_iff, decide_eq_false_iff_not] at hm
    omega
  refine (check_v v N aN aT aM w (by omega) hnd hv hE).mono ?_
  rintro e w' ⟨u, rfl, hu, hb⟩
  rw [hm, if_neg Bool.noConfusion, hc] at hu
  obtain ⟨g, rfl, _, c0, c1⟩ := hu
  refine ⟨g, rfl, .inr (.inr ?_), hb⟩
  cases nest
  · exact ⟨9, aN, g, i, h9, rfl, c0, c1, rfl, rfl⟩
  · exact ⟨1, aT, g, i, h1, rfl, c0, c1, rfl, rfl⟩
theorem check_many (v : Value) (N : List Nd) (L : List Addr) (aM : Addr) (w : World) (hN : N.length ≤ 4000000) (hm : manyB N = true) (hM : L[10]? = some aM) (hnd : ∀ x ∈ N, NdOk x) (hv : SlRd w v N) (hS : SenW w L) :
    Calls Tryd.prog 18 #[v] w (Ret w (sentV aM)) := by
  obtain ⟨aN, aT, aM', hE, _, _, h10⟩ := hS.errw
  rw [hM] at h10
  injection h10 with h10
  subst h10
  refine (check_v v N aN aT aM w hN hnd hv hE).mono ?_
  rintro e w' ⟨u, rfl, hu, hb⟩
  rw [hm, if_pos rfl] at hu
  subst hu
  exact ⟨rfl, hb⟩
theorem ok_nodes' {L : List Nd} (h : L.all (fun x => decide (x.s.length ≤ 4000000) && decide (x.k ≤ 9223372036854775807)) = true) : ∀ x ∈ L, NdOk x := by
  intro x hx
  have := List.all_eq_true.1 h x hx
  simpa [NdOk] using this
theorem size_v (A : Option Addr) (c n : Nat) (w : World) : Calls Tryd.prog 39 #[.slice A n c] w (Ret w (.int .i64 n)) := by
  go_enter Tryd.func39, Tryd.ntmps39
  go_wp2_with fail
  go_ret
  exact ⟨rfl, Below.refl _ _⟩

def echoT : Tr := .mk 21 0 [] [.mk 1 0 [101, 99, 104, 111] [], .mk 1 0 [97] []]
def badT : Tr := .mk 23 0 [] [nopT]

set_option maxRecDepth 100000 in
set_option maxHeartbeats 4000000 in
theorem first5_any (L : List Addr) (w : World) (hS : SenW w L) : Calls Tryd.prog 15 #[] w (Ret w (.bool true)) := by
  have C1 := Lib.hid (fun v W h1 h2 => check_at v (flat badT) L W 0 false (by kernel_rfl) (by kernel_rfl) (ok_nodes' (by kernel_rfl)) h1 h2)
  have C2 := Lib.hid (fun v W h1 h2 => check_ok v echoT L W (by kernel_rfl) (of_decide_eq_true (by kernel_rfl)) (ok_nodes' (by kernel_rfl)) h1 h2)
  have HS := Lib.hid hS
  clear hS
  go_enter Tryd.func15, Tryd.ntmps15
  go_wp2_with fail
  refine (litT_any [101, 99, 104, 111] _).mono ?_
  rintro e w1 ⟨A1, n1, c1, rfl, o1, hb1⟩
  have s1 := o1.rd
  clear o1
  have hb := hb1
  go_wp2_with fail
  refine (litT_any [97] _).mono ?_
  rintro e w2 ⟨A2, n2, c2, rfl, o2, hb2⟩
  have s2 := o2.rd
  clear o2
  replace s1 := s1.below hb2
  replace hb := hb.trans (hb2.mono hb.size)
  clear hb1 hb2
  go_wp2_with fail
  refine (newL_any 21 0 [] _ 2 2 [.mk 1 0 [101, 99, 104, 111] [], .mk 1 0 [97] []] _ (AllRd.two s1 s2) rfl (of_decide_eq_true (by kernel_rfl))).mono ?_
  rintro e w3 ⟨A3, n3, c3, rfl, o3, hb3⟩
  have s3 := o3.rd
  clear o3
  replace hb := hb.trans (hb3.mono hb.size)
  clear s1 s2 hb3
  go_wp2_with fail
  refine (newT_any 20 0 [] none 0 0 [] _ (KdRd.nil _ _) rfl (of_decide_eq_true (by kernel_rfl))).mono ?_
  rintro e w4 ⟨A4, n4, c4, rfl, o4, hb4⟩
  have s4 := o4.rd
  clear o4
  replace s3 := s3.below hb4
  replace hb := hb.trans (hb4.mono hb.size)
  clear hb4
  go_wp2_with fail
  refine (newL_any 23 0 [] _ 1 1 [nopT] _ (AllRd.one s4) rfl (of_decide_eq_true (by kernel_rfl))).mono ?_
  rintro e w5 ⟨A5, n5, c5, rfl, o5, hb5⟩
  have s5 := o5.rd
  clear o5
  replace s3 := s3.below hb5
  replace hb := hb.trans (hb5.mono hb.size)
  clear s4 hb5
  go_wp2_with fail
  refine (C1.out _ _ s5 (HS.out.below hb)).mono ?_
  rintro e w6 ⟨g, rfl, hv, hb6⟩
  replace s3 := s3.below hb6
  replace hb := hb.trans (hb6.mono hb.size)
  clear s5 hb6
  have HV := Lib.hid hv
  clear hv
  go_wp2_with fail
  refine (C2.out _ _ s3 (HS.out.below hb)).mono ?_
  rintro e w7 ⟨rfl, hb7⟩
  replace s3 := s3.below hb7
  replace hb := hb.trans (hb7.mono hb.size)
  have hv := HV.out.below hb7
  clear hb7 HV
  obtain ⟨rfl, b3, o3, rfl, hb3, k2, k3⟩ : n3 = 3 ∧ ∃ b o, A3 = some ⟨b, o, none⟩ ∧ b < w7.heap.size ∧ w7.cell? ⟨b, o + 2, none⟩ = some (.int .i64 2) ∧ w7.cell? ⟨b, o + 3, none⟩ = some (.int .i64 3) := by
    obtain ⟨A', c', he, hr, _⟩ := s3
    injection he with h1 h2 h3
    subst h1
    obtain ⟨b, o, rfl, hlt⟩ := hr.addr (by decide +kernel)
    have hx := hr.at_ (k := 0) (by decide +kernel)
    have e2 := hx.2 2 _ rfl
    have e3 := hx.2 3 _ rfl
    simp only [Nat.zero_mul, Nat.add_zero] at e2 e3
    exact ⟨h2, b, o, rfl, hlt, e2, e3⟩
  clear s3
  have hv0 : ErrV w7 L (.iface 84 (.pointer (some ⟨g, 0, none⟩))) 110 [0] := hv
  have HV := Lib.hid hv0
  clear hv hv0 C1 C2
  go_wp2_with fail
  refine (placed_any 110 0 w7 (by decide)).mono ?_
  rintro e w8 ⟨v8, rfl, hf8, hb8⟩
  have hS8 := (HS.out.below hb).below hb8
  have hV8 := HV.out.below hb8
  have HF := Lib.hid (seesame_any L w8 _ v8 110 110 [0] [0] hS8 hV8 hf8 (by decide))
  replace hb := hb.trans (hb8.mono hb.size)
  clear hS8 hV8 hf8 hb8
  go_wp2_with fail
  refine HF.out.mono ?_
  rintro e w9 ⟨rfl, hb9⟩
  replace hb := hb.trans (hb9.mono hb.size)
  rw [show (((110 : Int) == 110) && SameI [0] [0]) = true from rfl]
  clear HF hb9
  go_wp2_with fail
  refine (size_v _ _ _ w9).mono ?_
  rintro e w10 ⟨rfl, hb10⟩
  replace hb := hb.trans (hb10.mono hb.size)
  go_wp2_with fail
  go_ret
  exact ⟨rfl, hb⟩
end Go.Proofs.YtjhgljfmheopmaaDoor
