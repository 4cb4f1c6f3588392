/- The walk over the document's sorting: texts put in their places one by one, each once. Bounds on the lengths. -/
import Derived.Test.YtlhpflilpdceiaaGreatDoorRef2W6
import Derived.Test.YtlhpflilpdceiaaGreatDoorRef2S
import Derived.Test.YtlhpflilpdceiaaGreatDoorLater
import Derived.Test.YtlhpflilpdceiaaGreatDoorJD
import Derived.Deep.CutRange
import Derived.OwnWalk
import Derived.Sort.Walk0
import Derived.Outline
set_option linter.unusedVariables false
set_option linter.unusedSimpArgs false
namespace Go.Proofs.YtlhpflilpdceiaaGreatDoor
open Go.RowKit Go.Sort

theorem RdL.str2 {w : World} {b o : Nat} {l : List (List UInt8)} (h : RdL w 1 strq (some ⟨b, o, none⟩) l) {k : Nat} (hk : k < l.length) : w.cell? ⟨b, o + k, none⟩ = some (.string ⟨l[k].toArray⟩) := by
  obtain ⟨b', o', he, _, hc⟩ := h k hk
  injection he with he
  injection he with h1 h2
  subst h1 h2
  have := hc 0 _ rfl
  rwa [Nat.mul_one, Nat.add_zero] at this
theorem RdL.at0 {w : World} {A : Option Addr} {l : List (List UInt8)} (h : RdL w 1 strq A l) {k : Nat} (hk : k < l.length) : ∃ b o, A = some ⟨b, o, none⟩ :=
  let ⟨b, o, h1, _⟩ := h k hk
  ⟨b, o, h1⟩
theorem strq_one (s : List UInt8) : ∀ u ∈ strq s, u.oneCell' = true := by intro u hu; simp [strq] at hu; subst hu; rfl
theorem own_len {w : World} {B : Nat} {e : TypeId} {sz n n' : Nat} {v : Value} {xs : List Value} (h : w.ownsRow B e sz v n xs) (hn : n = n') : w.ownsRow B e sz v n' xs := hn ▸ h
theorem rl1 {acc : List (List UInt8)} {m0 m : Nat} (h : m0 = acc.length) : m0 - m = (acc.drop m).length := by rw [List.length_drop, ← h]
theorem rl2 {acc : List (List UInt8)} {m0 : Nat} (h : m0 = acc.length) : 0 = (acc.drop m0).length := by rw [List.length_drop, ← h, Nat.sub_self]
theorem rd1 {W : World} {acc : List (List UInt8)} {m0 m g q : Nat} (hn : m0 = acc.length) (h : RdL W 1 strq (some ⟨g, q, none⟩) acc) : RdL W 1 strq (some ⟨g, q + m, none⟩) (acc.drop m) := by
  refine h.drop m fun b' o' he _ => ?_
  injection he with he
  injection he with h1 h2
  subst h1 h2
  rw [Nat.mul_one]
theorem rd2 {W : World} {acc : List (List UInt8)} {m0 : Nat} {A A' : Option Addr} (hn : m0 = acc.length) (h : RdL W 1 strq A acc) : RdL W 1 strq A' (acc.drop m0) := by
  rw [List.drop_of_length_le (by rw [← hn]; exact Nat.le_refl _)]
  exact RdL.nil _ _ _ _
theorem ra1 {a d : Addr} {c m : Nat} (h : some a = none → c = 0) : (some d : Option Addr) = none → c - m = 0 := fun h => by cases h
theorem ra2 {A : Option Addr} {c m : Nat} (hAz : A = none → c = 0) : (if c = m then A else Option.map (fun x => x.add m) A) = none → c - m = 0 := fun h => by
  by_cases hc : c = m
  · omega
  · rw [if_neg hc, Option.map_eq_none_iff] at h
    rw [hAz h]
    omega
theorem insU_app (x : List UInt8) : ∀ (T D : List (List UInt8)), (∀ y ∈ T, y < x) → insU x (T ++ D) = T ++ insU x D
  | [], D, _ => rfl
  | y :: T, D, h => by
    rw [List.cons_append, insU, if_pos (h y (List.mem_cons_self ..)), insU_app x T D fun z hz => h z (List.mem_cons_of_mem _ hz)]
    rfl
theorem sortedS_snoc {L : List (List UInt8)} {k : Nat} (h : k < L.length) : sortedS (L.take (k + 1)) = insU L[k] (sortedS (L.take k)) := by
  rw [List.take_succ_eq_append_getElem h, sortedS, List.foldl_append]
  rfl
/-- The text stands at its place already. -/
theorem ins_same {x : List UInt8} {acc : List (List UInt8)} {m : Nat} (h : m < acc.length) (hT : ∀ y ∈ acc.take m, y < x) (he : acc[m] = x) : insU x acc = acc := by
  conv => lhs; rw [← List.take_append_drop m acc]
  rw [insU_app x _ _ hT, List.drop_eq_getElem_cons h, insU, he, if_neg (List.lt_irrefl _), if_pos rfl, ← he, ← List.drop_eq_getElem_cons h, List.take_append_drop]
/-- It does not. -/
theorem ins_new {x : List UInt8} {acc : List (List UInt8)} {m : Nat} (hT : ∀ y ∈ acc.take m, y < x) (hn : ∀ h : m < acc.length, ¬ acc[m] < x ∧ acc[m] ≠ x) : insU x acc = acc.take m ++ x :: acc.drop m := by
  conv => lhs; rw [← List.take_append_drop m acc]
  rw [insU_app x _ _ hT]
  by_cases h : m < acc.length
  · rw [List.drop_eq_getElem_cons h, insU, if_neg (hn h).1, if_neg (hn h).2]
  · rw [List.drop_of_length_le (by omega), insU]
theorem insU_len (x : List UInt8) : ∀ l, (insU x l).length ≤ l.length + 1
  | [] => Nat.le_refl _
  | y :: t => by
    have := insU_len x t
    rw [insU]
    split
    · simp only [List.length_cons]; omega
    · split <;> simp only [List.length_cons] <;> omega
def mkT (B n : Nat) : TT := ⟨fun v => ∃ g, v = .slice (some ⟨g, 0, none⟩) 0 n, ⟨_, 0, rfl⟩, fun v x => x.ownsRow B 9 1 v 0 [], fun _ _ _ h hb => own_below h hb⟩
def SortRet (l : List (List UInt8)) (w : World) (e : Ending) (w' : World) : Prop := ∃ v, e = .returned v ∧ w'.ownsRow w.heap.size 9 1 v l.length (l.flatMap strq) ∧ Below w.heap.size w w'

set_option maxRecDepth 100000 in
set_option maxHeartbeats 4000000 in
theorem sorted_any (A0 : Option Addr) (c0 : Nat) (L : List (List UInt8)) (w : World) (hrd : RdL w 1 strq A0 L) (hL : L.length ≤ 1000000) :
    Calls Tryz.prog 78 #[.slice A0 L.length c0] w (SortRet (sortedS L) w) := by
  obtain ⟨i0, hi, hz0, hz1, hz2⟩ := info_parts infoStr2
  obtain ⟨n, hn⟩ : ∃ n, n = L.length := ⟨_, rfl⟩
  rw [← hn] at hL ⊢
  have HN := Lib.hid hn
  clear hn
  go_enter Tryz.func78, Tryz.ntmps78
  go_wp2_with fail
  go_loopw [3, 4] (fun v i wr => ∃ (k : Nat) (acc : List (List UInt8)), k ≤ n ∧ i = .int .i64 k ∧ acc.length ≤ k ∧ wr.ownsRow w.heap.size 9 1 v acc.length (acc.flatMap strq) ∧ Below w.heap.size w wr ∧ Hid (acc = sortedS (L.take k)))
    (fun _ i _ => n - (intOf i).toNat)
  case atStart => exact ⟨0, [], Nat.zero_le _, rfl, Nat.zero_le _, World.ownsRow_nil _ _ _ _, Below.refl _ _, Lib.hid rfl⟩
  case round =>
    obtain ⟨k, acc, hk, rfl, hak, hown, hbw, H⟩ := hrel
    obtain ⟨A, c, rfl, hmc, hcm, hra, hAz⟩ := RdL.of_own strq_len hown rfl
    by_cases hlt : k < n
    · have hkL : k < L.length := by rw [← HN.out]; exact hlt
      obtain ⟨b, o, rfl⟩ := hrd.at0 hkL
      have cx := (hrd.below hbw).str2 hkL
      have HS := Lib.hid (sortedS_snoc hkL)
      obtain ⟨tx, hx⟩ : ∃ tx, tx = L[k] := ⟨_, rfl⟩
      rw [← hx] at cx HS
      clear hx hkL
      obtain ⟨m0, hm0⟩ : ∃ m, m = acc.length := ⟨_, rfl⟩
      rw [← hm0] at hown hak hmc ⊢
      have HM := Lib.hid hm0
      clear hm0
      go_upto_region 6 with (fail)
      go_loopw [5] (fun j wq => ∃ m : Nat, m ≤ m0 ∧ j = .int .i64 m ∧ Below wr.heap.size wr wq ∧ Hid (∀ y ∈ acc.take m, y < tx)) (fun j _ => m0 - (intOf j).toNat)
      case atStart => exact ⟨0, Nat.zero_le _, rfl, Below.refl _ _, Lib.hid (by intro y hy; simp at hy)⟩
      case round =>
        obtain ⟨m, hm, rfl, hbq, HT⟩ := hrel
        generalize wr = wr0 at *
        have l0 := Later.cell (cell_keep hbq cx)
        by_cases hml : m < m0
        · have hmL : m < acc.length := by rw [← HM.out]; exact hml
          have hraq := hra.below hbq
          obtain ⟨g, q, rfl⟩ := hraq.at0 hmL
          have cz := hraq.str2 hmL
          obtain ⟨z, hz⟩ : ∃ z, z = acc[m] := ⟨_, rfl⟩
          rw [← hz] at cz
          have HZ := Lib.hid hz
          have l1 := Later.cell cz
          clear hraq hz cz
          obtain ⟨bb, hbb⟩ : ∃ bb, decide (z < tx) = bb := ⟨_, rfl⟩
          go_upto_region 6 with (fail)
          refine wp_region_eq (by kernel_rfl) (by kernel_rfl) ?_
          apply EqGo.run
          focus
            kernel_rfl
          focus
            intro x K hK
            go_wp2_with fail
            first | exact hK x (Below.refl _ _) | exact Below.refl _ _
          simp only [Act.put, List.setIfInBounds_toArray, List.set_cons_succ, List.set_cons_zero]
          apply EqGo.run
          focus
            kernel_rfl
          focus
            intro x K hK
            go_wp2_with fail
            first | exact hK x (Below.refl _ _) | exact Below.refl _ _
          simp only [Act.put, List.setIfInBounds_toArray, List.set_cons_succ, List.set_cons_zero]
          apply EqGo.run
          focus
            kernel_rfl
          focus
            intro x K hK
            go_wp2_with fail
            first | exact hK x (Below.refl _ _) | exact Below.refl _ _
          simp only [Act.put, List.setIfInBounds_toArray, List.set_cons_succ, List.set_cons_zero]
          apply EqGo.run
          focus
            kernel_rfl
          focus
            intro x K hK
            go_wp2_with fail
            first | exact hK x (Below.refl _ _) | exact Below.refl _ _
          simp only [Act.put, List.setIfInBounds_toArray, List.set_cons_succ, List.set_cons_zero]
          apply EqGo.run
          focus
            kernel_rfl
          focus
            intro x K hK
            go_wp2_with fail
            first | exact hK x (Below.refl _ _) | exact Below.refl _ _
          simp only [Act.put, List.setIfInBounds_toArray, List.set_cons_succ, List.set_cons_zero]
          apply EqGo.run
          focus
            kernel_rfl
          focus
            intro x K hK
            go_wp2_with fail
            first | exact hK x (Below.refl _ _) | exact Below.refl _ _
          simp only [Act.put, List.setIfInBounds_toArray, List.set_cons_succ, List.set_cons_zero]
          apply EqGo.run
          focus
            kernel_rfl
          focus
            intro x K hK
            go_wp2_with fail
            first | exact hK x (Below.refl _ _) | exact Below.refl _ _
          simp only [Act.put, List.setIfInBounds_toArray, List.set_cons_succ, List.set_cons_zero]
          apply EqGo.run
          focus
            kernel_rfl
          focus
            intro x K hK
            go_wp2_with fail
            first | exact hK x (Below.refl _ _) | exact Below.refl _ _
          simp only [Act.put, List.setIfInBounds_toArray, List.set_cons_succ, List.set_cons_zero]
          apply EqGo.run
          focus
            kernel_rfl
          focus
            intro x K hK
            go_wp2_with fail
            first | exact hK x (Below.refl _ _) | exact Below.refl _ _
          simp only [Act.put, List.setIfInBounds_toArray, List.set_cons_succ, List.set_cons_zero]
          apply EqGo.run
          focus
            kernel_rfl
          focus
            intro x K hK
            go_wp2_with fail
            first | exact hK x (Below.refl _ _) | exact Below.refl _ _
          simp only [Act.put, List.setIfInBounds_toArray, List.set_cons_succ, List.set_cons_zero]
          apply EqGo.run
          focus
            kernel_rfl
          focus
            intro x K hK
            go_wp2_with fail
            first | exact hK x (Below.refl _ _) | exact Below.refl _ _
          simp only [Act.put, List.setIfInBounds_toArray, List.set_cons_succ, List.set_cons_zero]
          apply EqGo.run
          focus
            kernel_rfl
          focus
            intro x K hK
            go_wp2_with fail
            first | exact hK x (Below.refl _ _) | exact Below.refl _ _
          simp only [Act.put, List.setIfInBounds_toArray, List.set_cons_succ, List.set_cons_zero]
          apply EqGo.run
          focus
            kernel_rfl
          focus
            intro x K hK
            go_wp2_with fail
            first | exact hK x (Below.refl _ _) | exact Below.refl _ _
          simp only [Act.put, List.setIfInBounds_toArray, List.set_cons_succ, List.set_cons_zero]
          apply EqGo.run
          focus
            kernel_rfl
          focus
            intro x K hK
            go_wp2_with fail
            first | exact hK x (Below.refl _ _) | exact Below.refl _ _
          simp only [Act.put, List.setIfInBounds_toArray, List.set_cons_succ, List.set_cons_zero]
          apply EqGo.run
          focus
            kernel_rfl
          focus
            intro x K hK
            go_wp2_with fail
            first | exact hK x (Below.refl _ _) | exact Below.refl _ _
          simp only [Act.put, List.setIfInBounds_toArray, List.set_cons_succ, List.set_cons_zero]
          intro xq
          rw [bytesLess_eq, hbb]
          have hbx := hbq.trans (xq.below.mono hbq.size)
          have q0 := l0 xq
          have q1 := l1 xq
          have HB := Lib.hid hbb
          clear hbb l0 l1
          generalize xq.val = ws at *
          clear xq hbq
          cases bb with
          | true =>
            have HT2 := Lib.hid (show ∀ y ∈ acc.take (m + 1), y < tx from fun y hy => by
              rw [List.take_succ_eq_append_getElem hmL, ← HZ.out, List.mem_append, List.mem_singleton] at hy
              rcases hy with hy | rfl
              · exact HT.out y hy
              · exact of_decide_eq_true HB.out)
            clear HT q0 q1
            go_wp2_with fail
            go_roundw
            case rel => exact ⟨m + 1, by omega, by go_num, hbx, HT2⟩
            case measure => simp [intOf]; omega
          | false =>
            have l0 := Later.cell q0
            have l1 := Later.cell q1
            obtain ⟨bb, hbb⟩ : ∃ bb, (z == tx) = bb := ⟨_, rfl⟩
            go_upto_region 8 with (fail)
            refine wp_region_eq (by kernel_rfl) (by kernel_rfl) ?_
            apply EqGo.run
            focus
              kernel_rfl
            focus
              intro x K hK
              go_wp2_with fail
              first | exact hK x (Below.refl _ _) | exact Below.refl _ _
            simp only [Act.put, List.setIfInBounds_toArray, List.set_cons_succ, List.set_cons_zero]
            apply EqGo.run
            focus
              kernel_rfl
            focus
              intro x K hK
              go_wp2_with fail
              first | exact hK x (Below.refl _ _) | exact Below.refl _ _
            simp only [Act.put, List.setIfInBounds_toArray, List.set_cons_succ, List.set_cons_zero]
            apply EqGo.run
            focus
              kernel_rfl
            focus
              intro x K hK
              go_wp2_with fail
              first | exact hK x (Below.refl _ _) | exact Below.refl _ _
            simp only [Act.put, List.setIfInBounds_toArray, List.set_cons_succ, List.set_cons_zero]
            apply EqGo.run
            focus
              kernel_rfl
            focus
              intro x K hK
              go_wp2_with fail
              first | exact hK x (Below.refl _ _) | exact Below.refl _ _
            simp only [Act.put, List.setIfInBounds_toArray, List.set_cons_succ, List.set_cons_zero]
            apply EqGo.run
            focus
              kernel_rfl
            focus
              intro x K hK
              go_wp2_with fail
              first | exact hK x (Below.refl _ _) | exact Below.refl _ _
            simp only [Act.put, List.setIfInBounds_toArray, List.set_cons_succ, List.set_cons_zero]
            apply EqGo.run
            focus
              kernel_rfl
            focus
              intro x K hK
              go_wp2_with fail
              first | exact hK x (Below.refl _ _) | exact Below.refl _ _
            simp only [Act.put, List.setIfInBounds_toArray, List.set_cons_succ, List.set_cons_zero]
            apply EqGo.run
            focus
              kernel_rfl
            focus
              intro x K hK
              go_wp2_with fail
              first | exact hK x (Below.refl _ _) | exact Below.refl _ _
            simp only [Act.put, List.setIfInBounds_toArray, List.set_cons_succ, List.set_cons_zero]
            apply EqGo.run
            focus
              kernel_rfl
            focus
              intro x K hK
              go_wp2_with fail
              first | exact hK x (Below.refl _ _) | exact Below.refl _ _
            simp only [Act.put, List.setIfInBounds_toArray, List.set_cons_succ, List.set_cons_zero]
            apply EqGo.run
            focus
              kernel_rfl
            focus
              intro x K hK
              go_wp2_with fail
              first | exact hK x (Below.refl _ _) | exact Below.refl _ _
            simp only [Act.put, List.setIfInBounds_toArray, List.set_cons_succ, List.set_cons_zero]
            apply EqGo.run
            focus
              kernel_rfl
            focus
              intro x K hK
              go_wp2_with fail
              first | exact hK x (Below.refl _ _) | exact Below.refl _ _
            simp only [Act.put, List.setIfInBounds_toArray, List.set_cons_succ, List.set_cons_zero]
            apply EqGo.run
            focus
              kernel_rfl
            focus
              intro x K hK
              go_wp2_with fail
              first | exact hK x (Below.refl _ _) | exact Below.refl _ _
            simp only [Act.put, List.setIfInBounds_toArray, List.set_cons_succ, List.set_cons_zero]
            apply EqGo.run
            focus
              kernel_rfl
            focus
              intro x K hK
              go_wp2_with fail
              first | exact hK x (Below.refl _ _) | exact Below.refl _ _
            simp only [Act.put, List.setIfInBounds_toArray, List.set_cons_succ, List.set_cons_zero]
            apply EqGo.run
            focus
              kernel_rfl
            focus
              intro x K hK
              go_wp2_with fail
              first | exact hK x (Below.refl _ _) | exact Below.refl _ _
            simp only [Act.put, List.setIfInBounds_toArray, List.set_cons_succ, List.set_cons_zero]
            apply EqGo.run
            focus
              kernel_rfl
            focus
              intro x K hK
              go_wp2_with fail
              first | exact hK x (Below.refl _ _) | exact Below.refl _ _
            simp only [Act.put, List.setIfInBounds_toArray, List.set_cons_succ, List.set_cons_zero]
            apply EqGo.run
            focus
              kernel_rfl
            focus
              intro x K hK
              go_wp2_with fail
              first | exact hK x (Below.refl _ _) | exact Below.refl _ _
            simp only [Act.put, List.setIfInBounds_toArray, List.set_cons_succ, List.set_cons_zero]
            intro xq
            have hby := hbx.trans (xq.below.mono hbx.size)
            have q0 := l0 xq
            have HBB := Lib.hid hbb
            clear hbb l0 l1
            generalize xq.val = wy at *
            clear xq hbx
            cases bb with
            | true =>
              have HE := Lib.hid (show acc = sortedS (L.take (k + 1)) by rw [HS.out, ← H.out]; exact (ins_same hmL HT.out (by rw [← HZ.out]; exact eq_of_beq HBB.out)).symm)
              go_wp2_with fail
              go_roundw
              case rel => exact ⟨k + 1, acc, by omega, by go_num, by rw [← HM.out]; omega, by rw [← HM.out]; exact own_below hown hby, hbw.trans (hby.mono hbw.size), HE⟩
              case measure => simp [intOf]; omega
            | false =>
              have HI := Lib.hid (show sortedS (L.take (k + 1)) = acc.take m ++ tx :: acc.drop m by rw [HS.out, ← H.out]; exact ins_new HT.out fun h => by rw [← HZ.out]; exact ⟨of_decide_eq_false HB.out, ne_of_beq_false HBB.out⟩)
              have hownY := own_below hown hby
              have hraY := hra.below hby
              go_upto_region 9 with (fail)
              apply wp_region_relA 7 [eqT _, eqT _, eqT _, mkT wy.heap.size (m0 + 1), eqT _, eqT _, eqT _] (by kernel_rfl) (by kernel_rfl) (by kernel_rfl) rfl
              focus
                refine ⟨?_, ?_⟩
                focus
                  unfold opGoal
                  rw [if_pos (by kernel_rfl)]
                  intro x hb hd K hk
                  clear hd
                  go_wp2_with fail
                  exact hk _ _ rfl trivial (Below.refl _ _)
                rintro _ rfl
                simp only [Act.put, List.setIfInBounds_toArray, List.set_cons_succ, List.set_cons_zero]
                refine ⟨?_, ?_⟩
                focus
                  unfold opGoal
                  rw [if_pos (by kernel_rfl)]
                  intro x hb hd K hk
                  clear hd
                  go_wp2_with fail
                  exact hk _ _ rfl trivial (Below.refl _ _)
                rintro _ rfl
                simp only [Act.put, List.setIfInBounds_toArray, List.set_cons_succ, List.set_cons_zero]
                refine ⟨?_, ?_⟩
                focus
                  unfold opGoal
                  rw [if_pos (by kernel_rfl)]
                  intro x hb hd K hk
                  clear hd
                  go_wp2_with fail
                  exact hk _ _ rfl trivial (Below.refl _ _)
                rintro _ rfl
                simp only [Act.put, List.setIfInBounds_toArray, List.set_cons_succ, List.set_cons_zero]
                refine ⟨?_, ?_⟩
                focus
                  unfold opGoal
                  rw [if_pos (by kernel_rfl)]
                  intro x hb hd K hk
                  clear hd
                  go_wp2_with fail
                  obtain ⟨w', hrun, r1, r2⟩ := run_make_own (P := Tryz.prog) (w := x) wy.heap.size 23 9 i0 _ 1 Tryz.underlying23 hi hz0 hz1 .i64 .i64 (m0 + 1) (by rw [hz2]; omega) (by simp only [maxLen]; omega) hb.size
                  rw [show ((m0 : Int) + 1) = ((m0 + 1 : Nat) : Int) from by omega, hrun]
                  exact hk _ _ ⟨_, rfl⟩ r1 ((Below.refl _ _).grown r2 (Nat.le_refl _) (fun k h => by cases h))
                rintro _ ⟨g48, rfl⟩
                simp only [Act.put, List.setIfInBounds_toArray, List.set_cons_succ, List.set_cons_zero]
                refine ⟨?_, ?_⟩
                focus
                  unfold opGoal
                  rw [if_pos (by kernel_rfl)]
                  intro x hb hd K hk
                  clear hd
                  go_wp2_with fail
                  exact hk _ _ rfl trivial (Below.refl _ _)
                rintro _ rfl
                simp only [Act.put, List.setIfInBounds_toArray, List.set_cons_succ, List.set_cons_zero]
                refine ⟨?_, ?_⟩
                focus
                  unfold opGoal
                  rw [if_pos (by kernel_rfl)]
                  intro x hb hd K hk
                  clear hd
                  go_wp2_with fail
                  exact hk _ _ rfl trivial (Below.refl _ _)
                rintro _ rfl
                simp only [Act.put, List.setIfInBounds_toArray, List.set_cons_succ, List.set_cons_zero]
                refine ⟨?_, ?_⟩
                focus
                  unfold opGoal
                  rw [if_pos (by kernel_rfl)]
                  intro x hb hd K hk
                  clear hd
                  go_wp2_with fail
                  exact hk _ _ rfl trivial (Below.refl _ _)
                rintro _ rfl
                simp only [Act.put, List.setIfInBounds_toArray, List.set_cons_succ, List.set_cons_zero]
                intro x hbx hf
                simp only [List.drop_succ_cons, List.drop_zero]
                have hown48 : x.ownsRow wy.heap.size 9 1 (.slice (some ⟨g48, 0, none⟩) 0 (m0 + 1)) 0 [] := hf 3 _ _ rfl rfl
                clear hf
                have hrx := (hraY.below hbx).take m
                have hlx := Lib.hid (show m = (acc.take m).length by rw [List.length_take, ← HM.out]; omega)
                have c0 := cell_keep hbx q0
                go_upto_region 10 with (at_builtin; refine wpList_pushAll (enc := strq) rfl _ _ _ rfl Tryz.underlying23 hi hz0 hz1 hz2 rfl (by decide) hown48 rfl rfl hlx.out hrx hAz trivial strq_len strq_one (by omega) (by decide) hbx.size ?_; intro A8 c8 w8 ho8 hb8 hoo8)
                simp only [Nat.zero_add, List.nil_append] at ho8
                have hb48 := (hbx.trans hb8)
                have d0 := cell_keep hb48 q0
                clear hown48 hrx hoo8 hlx c0
                go_upto_region 11 with (at_builtin; refine wpList_push rfl _ _ _ rfl Tryz.underlying23 hi hz0 hz1 hz2 rfl (by decide) ho8 rfl rfl rfl (by simp [Value.oneCell']) (by omega) (by decide) hb48.size ?_; intro A9 c9 w9 ho9 hb9 hoo9)
                have hb49 := hb48.trans hb9
                have hrz := (hraY.below (hb49.mono (Nat.le_refl _)))
                clear ho8 d0 hoo9 hb8 hb9 hb48 hbx q0
                go_upto_region 4 with (at_builtin; refine wpList_pushAll (enc := strq) rfl _ _ _ rfl Tryz.underlying23 hi hz0 hz1 hz2 rfl (by decide) ho9 rfl rfl (rl1 HM.out) (rd1 HM.out hrz) (ra1 hAz) trivial strq_len strq_one (by omega) (by decide) hb49.size ?_; intro A10 c10 w10 ho10 hb10 hoo10)
                have HL2 := Lib.hid (show (acc.take m ++ tx :: acc.drop m).length = (m+1+(m0-m)) by rw [List.length_append, List.length_cons, List.length_drop, List.length_take, ← HM.out]; omega)
                have HF2 := Lib.hid (show (acc.take m ++ tx :: acc.drop m).flatMap strq = (acc.take m).flatMap strq ++ #[Value.string { data := tx.toArray }].toList ++ (acc.drop m).flatMap strq by rw [List.flatMap_append, List.flatMap_cons, List.append_assoc]; rfl)
                have hbz := hbw.trans ((hby.trans ((hb49.trans hb10).mono hby.size)).mono hbw.size)
                have hoz := own_mono ho10 (Nat.le_trans hbw.size hby.size)
                rw [← HF2.out] at hoz
                clear ho9 ho10 hb10 hoo10 hb49 hrz HF2
                go_wp2_with fail
                go_roundw
                case rel => exact ⟨k + 1, acc.take m ++ tx :: acc.drop m, by omega, by go_num, by rw [HL2.out]; omega, own_len hoz HL2.out.symm, hbz, Lib.hid HI.out.symm⟩
                case measure => simp [intOf]; omega
        · obtain rfl : m0 = m := by omega
          clear hml
          go_upto_region 6 with (fail)
          refine wp_region_eq (by kernel_rfl) (by kernel_rfl) ?_
          apply EqGo.run
          focus
            kernel_rfl
          focus
            intro x K hK
            go_wp2_with fail
            first | exact hK x (Below.refl _ _) | exact Below.refl _ _
          simp only [Act.put, List.setIfInBounds_toArray, List.set_cons_succ, List.set_cons_zero]
          apply EqGo.run
          focus
            kernel_rfl
          focus
            intro x K hK
            go_wp2_with fail
            first | exact hK x (Below.refl _ _) | exact Below.refl _ _
          simp only [Act.put, List.setIfInBounds_toArray, List.set_cons_succ, List.set_cons_zero]
          apply EqGo.run
          focus
            kernel_rfl
          focus
            intro x K hK
            go_wp2_with fail
            first | exact hK x (Below.refl _ _) | exact Below.refl _ _
          simp only [Act.put, List.setIfInBounds_toArray, List.set_cons_succ, List.set_cons_zero]
          apply EqGo.run
          focus
            kernel_rfl
          focus
            intro x K hK
            go_wp2_with fail
            first | exact hK x (Below.refl _ _) | exact Below.refl _ _
          simp only [Act.put, List.setIfInBounds_toArray, List.set_cons_succ, List.set_cons_zero]
          apply EqGo.run
          focus
            kernel_rfl
          focus
            intro x K hK
            go_wp2_with fail
            first | exact hK x (Below.refl _ _) | exact Below.refl _ _
          simp only [Act.put, List.setIfInBounds_toArray, List.set_cons_succ, List.set_cons_zero]
          apply EqGo.skip
          focus
            kernel_rfl
          simp only [Act.put, List.setIfInBounds_toArray, List.set_cons_succ, List.set_cons_zero]
          apply EqGo.skip
          focus
            kernel_rfl
          simp only [Act.put, List.setIfInBounds_toArray, List.set_cons_succ, List.set_cons_zero]
          apply EqGo.skip
          focus
            kernel_rfl
          simp only [Act.put, List.setIfInBounds_toArray, List.set_cons_succ, List.set_cons_zero]
          apply EqGo.skip
          focus
            kernel_rfl
          simp only [Act.put, List.setIfInBounds_toArray, List.set_cons_succ, List.set_cons_zero]
          apply EqGo.skip
          focus
            kernel_rfl
          simp only [Act.put, List.setIfInBounds_toArray, List.set_cons_succ, List.set_cons_zero]
          apply EqGo.skip
          focus
            kernel_rfl
          simp only [Act.put, List.setIfInBounds_toArray, List.set_cons_succ, List.set_cons_zero]
          apply EqGo.skip
          focus
            kernel_rfl
          simp only [Act.put, List.setIfInBounds_toArray, List.set_cons_succ, List.set_cons_zero]
          apply EqGo.skip
          focus
            kernel_rfl
          simp only [Act.put, List.setIfInBounds_toArray, List.set_cons_succ, List.set_cons_zero]
          apply EqGo.skip
          focus
            kernel_rfl
          simp only [Act.put, List.setIfInBounds_toArray, List.set_cons_succ, List.set_cons_zero]
          apply EqGo.run
          focus
            kernel_rfl
          focus
            intro x K hK
            go_wp2_with fail
            first | exact hK x (Below.refl _ _) | exact Below.refl _ _
          simp only [Act.put, List.setIfInBounds_toArray, List.set_cons_succ, List.set_cons_zero]
          intro xq
          have hbx := hbq.trans (xq.below.mono hbq.size)
          have q0 := l0 xq
          clear l0
          generalize xq.val = ws at *
          clear xq hbq
          have l0 := Later.cell q0
          go_upto_region 8 with (fail)
          refine wp_region_eq (by kernel_rfl) (by kernel_rfl) ?_
          apply EqGo.run
          focus
            kernel_rfl
          focus
            intro x K hK
            go_wp2_with fail
            first | exact hK x (Below.refl _ _) | exact Below.refl _ _
          simp only [Act.put, List.setIfInBounds_toArray, List.set_cons_succ, List.set_cons_zero]
          apply EqGo.run
          focus
            kernel_rfl
          focus
            intro x K hK
            go_wp2_with fail
            first | exact hK x (Below.refl _ _) | exact Below.refl _ _
          simp only [Act.put, List.setIfInBounds_toArray, List.set_cons_succ, List.set_cons_zero]
          apply EqGo.run
          focus
            kernel_rfl
          focus
            intro x K hK
            go_wp2_with fail
            first | exact hK x (Below.refl _ _) | exact Below.refl _ _
          simp only [Act.put, List.setIfInBounds_toArray, List.set_cons_succ, List.set_cons_zero]
          apply EqGo.run
          focus
            kernel_rfl
          focus
            intro x K hK
            go_wp2_with fail
            first | exact hK x (Below.refl _ _) | exact Below.refl _ _
          simp only [Act.put, List.setIfInBounds_toArray, List.set_cons_succ, List.set_cons_zero]
          apply EqGo.run
          focus
            kernel_rfl
          focus
            intro x K hK
            go_wp2_with fail
            first | exact hK x (Below.refl _ _) | exact Below.refl _ _
          simp only [Act.put, List.setIfInBounds_toArray, List.set_cons_succ, List.set_cons_zero]
          apply EqGo.skip
          focus
            kernel_rfl
          simp only [Act.put, List.setIfInBounds_toArray, List.set_cons_succ, List.set_cons_zero]
          apply EqGo.skip
          focus
            kernel_rfl
          simp only [Act.put, List.setIfInBounds_toArray, List.set_cons_succ, List.set_cons_zero]
          apply EqGo.skip
          focus
            kernel_rfl
          simp only [Act.put, List.setIfInBounds_toArray, List.set_cons_succ, List.set_cons_zero]
          apply EqGo.skip
          focus
            kernel_rfl
          simp only [Act.put, List.setIfInBounds_toArray, List.set_cons_succ, List.set_cons_zero]
          apply EqGo.skip
          focus
            kernel_rfl
          simp only [Act.put, List.setIfInBounds_toArray, List.set_cons_succ, List.set_cons_zero]
          apply EqGo.skip
          focus
            kernel_rfl
          simp only [Act.put, List.setIfInBounds_toArray, List.set_cons_succ, List.set_cons_zero]
          apply EqGo.skip
          focus
            kernel_rfl
          simp only [Act.put, List.setIfInBounds_toArray, List.set_cons_succ, List.set_cons_zero]
          apply EqGo.skip
          focus
            kernel_rfl
          simp only [Act.put, List.setIfInBounds_toArray, List.set_cons_succ, List.set_cons_zero]
          apply EqGo.skip
          focus
            kernel_rfl
          simp only [Act.put, List.setIfInBounds_toArray, List.set_cons_succ, List.set_cons_zero]
          apply EqGo.run
          focus
            kernel_rfl
          focus
            intro x K hK
            go_wp2_with fail
            first | exact hK x (Below.refl _ _) | exact Below.refl _ _
          simp only [Act.put, List.setIfInBounds_toArray, List.set_cons_succ, List.set_cons_zero]
          intro xq
          have hby := hbx.trans (xq.below.mono hbx.size)
          have q0 := l0 xq
          clear l0
          generalize xq.val = wy at *
          clear xq hbx
          have HI := Lib.hid (show sortedS (L.take (k + 1)) = acc.take m0 ++ tx :: acc.drop m0 by rw [HS.out, ← H.out]; exact ins_new HT.out fun h => absurd h (by rw [← HM.out]; exact Nat.lt_irrefl _))
          have hownY := own_below hown hby
          have hraY := hra.below hby
          go_upto_region 9 with (fail)
          apply wp_region_relA 7 [eqT _, eqT _, eqT _, mkT wy.heap.size (m0 + 1), eqT _, eqT _, eqT _] (by kernel_rfl) (by kernel_rfl) (by kernel_rfl) rfl
          focus
            refine ⟨?_, ?_⟩
            focus
              unfold opGoal
              rw [if_pos (by kernel_rfl)]
              intro x hb hd K hk
              clear hd
              go_wp2_with fail
              exact hk _ _ rfl trivial (Below.refl _ _)
            rintro _ rfl
            simp only [Act.put, List.setIfInBounds_toArray, List.set_cons_succ, List.set_cons_zero]
            refine ⟨?_, ?_⟩
            focus
              unfold opGoal
              rw [if_pos (by kernel_rfl)]
              intro x hb hd K hk
              clear hd
              go_wp2_with fail
              exact hk _ _ rfl trivial (Below.refl _ _)
            rintro _ rfl
            simp only [Act.put, List.setIfInBounds_toArray, List.set_cons_succ, List.set_cons_zero]
            refine ⟨?_, ?_⟩
            focus
              unfold opGoal
              rw [if_pos (by kernel_rfl)]
              intro x hb hd K hk
              clear hd
              go_wp2_with fail
              exact hk _ _ rfl trivial (Below.refl _ _)
            rintro _ rfl
            simp only [Act.put, List.setIfInBounds_toArray, List.set_cons_succ, List.set_cons_zero]
            refine ⟨?_, ?_⟩
            focus
              unfold opGoal
              rw [if_pos (by kernel_rfl)]
              intro x hb hd K hk
              clear hd
              go_wp2_with fail
              obtain ⟨w', hrun, r1, r2⟩ := run_make_own (P := Tryz.prog) (w := x) wy.heap.size 23 9 i0 _ 1 Tryz.underlying23 hi hz0 hz1 .i64 .i64 (m0 + 1) (by rw [hz2]; omega) (by simp only [maxLen]; omega) hb.size
              rw [show ((m0 : Int) + 1) = ((m0 + 1 : Nat) : Int) from by omega, hrun]
              exact hk _ _ ⟨_, rfl⟩ r1 ((Below.refl _ _).grown r2 (Nat.le_refl _) (fun k h => by cases h))
            rintro _ ⟨g48, rfl⟩
            simp only [Act.put, List.setIfInBounds_toArray, List.set_cons_succ, List.set_cons_zero]
            refine ⟨?_, ?_⟩
            focus
              unfold opGoal
              rw [if_pos (by kernel_rfl)]
              intro x hb hd K hk
              clear hd
              go_wp2_with fail
              exact hk _ _ rfl trivial (Below.refl _ _)
            rintro _ rfl
            simp only [Act.put, List.setIfInBounds_toArray, List.set_cons_succ, List.set_cons_zero]
            refine ⟨?_, ?_⟩
            focus
              unfold opGoal
              rw [if_pos (by kernel_rfl)]
              intro x hb hd K hk
              clear hd
              go_wp2_with fail
              exact hk _ _ rfl trivial (Below.refl _ _)
            rintro _ rfl
            simp only [Act.put, List.setIfInBounds_toArray, List.set_cons_succ, List.set_cons_zero]
            refine ⟨?_, ?_⟩
            focus
              unfold opGoal
              rw [if_pos (by kernel_rfl)]
              intro x hb hd K hk
              clear hd
              go_wp2_with fail
              exact hk _ _ rfl trivial (Below.refl _ _)
            rintro _ rfl
            simp only [Act.put, List.setIfInBounds_toArray, List.set_cons_succ, List.set_cons_zero]
            intro x hbx hf
            simp only [List.drop_succ_cons, List.drop_zero]
            have hown48 : x.ownsRow wy.heap.size 9 1 (.slice (some ⟨g48, 0, none⟩) 0 (m0 + 1)) 0 [] := hf 3 _ _ rfl rfl
            clear hf
            have hrx := (hraY.below hbx).take m0
            have hlx := Lib.hid (show m0 = (acc.take m0).length by rw [List.length_take, ← HM.out]; omega)
            have c0 := cell_keep hbx q0
            go_upto_region 10 with (at_builtin; refine wpList_pushAll (enc := strq) rfl _ _ _ rfl Tryz.underlying23 hi hz0 hz1 hz2 rfl (by decide) hown48 rfl rfl hlx.out hrx hAz trivial strq_len strq_one (by omega) (by decide) hbx.size ?_; intro A8 c8 w8 ho8 hb8 hoo8)
            simp only [Nat.zero_add, List.nil_append] at ho8
            have hb48 := (hbx.trans hb8)
            have d0 := cell_keep hb48 q0
            clear hown48 hrx hoo8 hlx c0
            go_upto_region 11 with (at_builtin; refine wpList_push rfl _ _ _ rfl Tryz.underlying23 hi hz0 hz1 hz2 rfl (by decide) ho8 rfl rfl rfl (by simp [Value.oneCell']) (by omega) (by decide) hb48.size ?_; intro A9 c9 w9 ho9 hb9 hoo9)
            have hb49 := hb48.trans hb9
            have hrz := (hraY.below (hb49.mono (Nat.le_refl _)))
            clear ho8 d0 hoo9 hb8 hb9 hb48 hbx q0
            go_upto_region 4 with (at_builtin; refine wpList_pushAll (enc := strq) rfl _ _ _ rfl Tryz.underlying23 hi hz0 hz1 hz2 rfl (by decide) ho9 rfl rfl (rl2 HM.out) (rd2 HM.out hrz) (ra2 hAz) trivial strq_len strq_one (by omega) (by decide) hb49.size ?_; intro A10 c10 w10 ho10 hb10 hoo10)
            have HL2 := Lib.hid (show (acc.take m0 ++ tx :: acc.drop m0).length = (m0+1+0) by rw [List.length_append, List.length_cons, List.length_drop, List.length_take, ← HM.out]; omega)
            have HF2 := Lib.hid (show (acc.take m0 ++ tx :: acc.drop m0).flatMap strq = (acc.take m0).flatMap strq ++ #[Value.string { data := tx.toArray }].toList ++ (acc.drop m0).flatMap strq by rw [List.flatMap_append, List.flatMap_cons, List.append_assoc]; rfl)
            have hbz := hbw.trans ((hby.trans ((hb49.trans hb10).mono hby.size)).mono hbw.size)
            have hoz := own_mono ho10 (Nat.le_trans hbw.size hby.size)
            rw [← HF2.out] at hoz
            clear ho9 ho10 hb10 hoo10 hb49 hrz HF2
            go_wp2_with fail
            go_roundw
            case rel => exact ⟨k + 1, acc.take m0 ++ tx :: acc.drop m0, by omega, by go_num, by rw [HL2.out]; omega, own_len hoz HL2.out.symm, hbz, Lib.hid HI.out.symm⟩
            case measure => simp [intOf]; omega
    · obtain rfl : k = n := by omega
      have HF := Lib.hid (show acc = sortedS L by rw [H.out, HN.out, List.take_length])
      clear H hlt
      go_wp2_with fail
      go_ret
      exact ⟨_, rfl, by rw [← HF.out]; exact hown, hbw⟩
end Go.Proofs.YtlhpflilpdceiaaGreatDoor
