/- The walks over slices.Clone and slices.Equal at instructions. Bounds on the lengths. -/
import Derived.Test.YtpogngdddendiaaDoorGB
import Derived.Test.YtpogngdddendiaaDoorSameW
set_option linter.unusedVariables false
set_option linter.unusedSimpArgs false
namespace Go.Proofs.YtpogngdddendiaaDoor
open Go.RowKit

def insEq (x y : Ins) : Bool := x.op == y.op && x.a == y.a && x.b == y.b && x.s == y.s
theorem insEq_iff (x y : Ins) : insEq x y = true ↔ x = y := by
  cases x; cases y
  simp [insEq, and_assoc]
def sameX : List Ins → List Ins → Bool
  | [], [] => true
  | x :: a, y :: b => insEq x y && sameX a b
  | _, _ => false
theorem sameX_iff : ∀ (a b : List Ins), sameX a b = true ↔ a = b
  | [], [] => by simp [sameX]
  | x :: a, y :: b => by simp [sameX, insEq_iff, sameX_iff a b]
  | [], y :: b => by simp [sameX]
  | x :: a, [] => by simp [sameX]
theorem sameX_len {a b : List Ins} (h : a.length ≠ b.length) : sameX a b = false := by
  cases hs : sameX a b with
  | false => rfl
  | true => exact absurd (by rw [(sameX_iff a b).1 hs]) h
theorem sameX_cons {a b : List Ins} {k : Nat} (ha : k < a.length) (hb : k < b.length) : sameX (a.drop k) (b.drop k) = (insEq a[k] b[k] && sameX (a.drop (k + 1)) (b.drop (k + 1))) := by
  rw [List.drop_eq_getElem_cons ha, List.drop_eq_getElem_cons hb, sameX]
theorem run_neq_ins (W : World) (x y : Ins) : (binOp .neq 36 (.agg #[.int .i64 x.op, .int .i64 x.a, .int .i64 x.b, .string ⟨x.s.toArray⟩]) (.agg #[.int .i64 y.op, .int .i64 y.a, .int .i64 y.b, .string ⟨y.s.toArray⟩])).run Tryd.prog W = .ok (.bool (!insEq x y)) W := by
  obtain ⟨a, b, c, s⟩ := x
  obtain ⟨a', b', c', s'⟩ := y
  rw [run_neq_struct, run_equalIn_agg _ _ _ _ _ (by kernel_rfl) (by kernel_rfl)]
  simp only [Program.fieldsOf, Tryd.underlying36]
  go_simp
  simp only [bytes_list, insEq]
  by_cases h1 : a = a'
  all_goals by_cases h2 : b = b'
  all_goals by_cases h3 : c = c'
  all_goals by_cases h5 : s = s'
  all_goals simp [*]
theorem guard_ins : Tryd.prog.eqGuardType Tryd.prog.depth 36 = false := by kernel_rfl
set_option maxRecDepth 100000 in
set_option maxHeartbeats 2000000 in
theorem iequal_any (A B : Option Addr) (ca cb : Nat) (a b : List Ins) (w : World) (ha : RdL w 4 insc A a) (hb : RdL w 4 insc B b) (hla : a.length ≤ 4000000) (hlb : b.length ≤ 4000000) :
    Calls Tryd.prog 75 #[.slice A a.length ca, .slice B b.length cb] w (Ret w (.bool (sameX a b))) := by
  obtain ⟨ma, hma⟩ : ∃ m, m = a.length := ⟨_, rfl⟩
  obtain ⟨mb, hmb⟩ : ∃ m, m = b.length := ⟨_, rfl⟩
  by_cases hl : a.length = b.length
  · rw [← hma] at hla ⊢
    rw [← hl, ← hma]
    have hl2 : b.length = ma := by omega
    have HL := Lib.hid hl2
    have HA := Lib.hid hma
    have hq : ((ma : Int) != (ma : Int)) = false := by simp
    clear hl hl2 hma hmb hlb
    go_enter Tryd.func75, Tryd.ntmps75
    go_wp2_with fail
    go_loopw [13] (fun i wr => ∃ k : Nat, k ≤ ma ∧ i = .int .i64 k ∧ Below w.heap.size w wr ∧ Hid (sameX a b = sameX (a.drop k) (b.drop k))) (fun i _ => ma - (intOf i).toNat)
    case atStart => exact ⟨0, Nat.zero_le _, rfl, Below.refl _ _, rfl⟩
    case round =>
      obtain ⟨k, hk, rfl, hbr, HS⟩ := hrel
      by_cases hlt : k < ma
      · have hka : k < a.length := by rw [← HA.out]; exact hlt
        have hkb : k < b.length := by rw [HL.out]; exact hlt
        have HN := Lib.hid (show sameX a b = (insEq a[k] b[k] && sameX (a.drop (k + 1)) (b.drop (k + 1))) by rw [HS.out, sameX_cons hka hkb])
        obtain ⟨ba, oa, rfl, _, hca⟩ := (ha.below hbr) k hka
        obtain ⟨bb, ob, rfl, _, hcb⟩ := (hb.below hbr) k hkb
        generalize a[k] = x at *
        generalize b[k] = y at *
        have a0 := Later.cell (hca 0 _ rfl)
        have a1 := Later.cell (hca 1 _ rfl)
        have a2 := Later.cell (hca 2 _ rfl)
        have a3 := Later.cell (hca 3 _ rfl)
        have b0 := Later.cell (hcb 0 _ rfl)
        have b1 := Later.cell (hcb 1 _ rfl)
        have b2 := Later.cell (hcb 2 _ rfl)
        have b3 := Later.cell (hcb 3 _ rfl)
        clear hca hcb hka hkb HS
        simp only [Nat.add_zero] at a0 b0
        have hne := run_neq_ins
        have hgd := guard_ins
        go_upto_region 6 with (fail)
        refine wp_region_eq (by kernel_rfl) (by kernel_rfl) ?_
        apply EqGo.run
        focus
          kernel_rfl
        focus
          intro x K hK
          go_wp2_with fail
          first | exact hK x (Below.refl _ _) | exact Below.refl _ _
        simp only [Act.put, List.setIfInBounds_toArray, List.set_cons_succ, List.set_cons_zero]
        apply EqGo.run
        focus
          kernel_rfl
        focus
          intro x K hK
          go_wp2_with fail
          first | exact hK x (Below.refl _ _) | exact Below.refl _ _
        simp only [Act.put, List.setIfInBounds_toArray, List.set_cons_succ, List.set_cons_zero]
        apply EqGo.run
        focus
          kernel_rfl
        focus
          intro x K hK
          go_wp2_with fail
          first | exact hK x (Below.refl _ _) | exact Below.refl _ _
        simp only [Act.put, List.setIfInBounds_toArray, List.set_cons_succ, List.set_cons_zero]
        apply EqGo.run
        focus
          kernel_rfl
        focus
          intro x K hK
          go_wp2_with fail
          first | exact hK x (Below.refl _ _) | exact Below.refl _ _
        simp only [Act.put, List.setIfInBounds_toArray, List.set_cons_succ, List.set_cons_zero]
        apply EqGo.run
        focus
          kernel_rfl
        focus
          intro x K hK
          go_wp2_with fail
          first | exact hK x (Below.refl _ _) | exact Below.refl _ _
        simp only [Act.put, List.setIfInBounds_toArray, List.set_cons_succ, List.set_cons_zero]
        apply EqGo.run
        focus
          kernel_rfl
        focus
          intro x K hK
          go_wp2_with fail
          first | exact hK x (Below.refl _ _) | exact Below.refl _ _
        simp only [Act.put, List.setIfInBounds_toArray, List.set_cons_succ, List.set_cons_zero]
        apply EqGo.run
        focus
          kernel_rfl
        focus
          intro x K hK
          go_wp2_with fail
          first | exact hK x (Below.refl _ _) | exact Below.refl _ _
        simp only [Act.put, List.setIfInBounds_toArray, List.set_cons_succ, List.set_cons_zero]
        apply EqGo.run
        focus
          kernel_rfl
        focus
          intro x K hK
          go_wp2_with fail
          first | exact hK x (Below.refl _ _) | exact Below.refl _ _
        simp only [Act.put, List.setIfInBounds_toArray, List.set_cons_succ, List.set_cons_zero]
        apply EqGo.run
        focus
          kernel_rfl
        focus
          intro x K hK
          go_wp2_with fail
          first | exact hK x (Below.refl _ _) | exact Below.refl _ _
        simp only [Act.put, List.setIfInBounds_toArray, List.set_cons_succ, List.set_cons_zero]
        intro wx
        obtain ⟨nb, hnb⟩ : ∃ nb, nb = insEq x y := ⟨_, rfl⟩
        rw [← hnb] at HN ⊢
        have hbx := hbr.trans (wx.below.mono hbr.size)
        clear a0 a1 a2 a3 b0 b1 b2 b3 hnb hne hgd
        cases nb
        · go_wp2_with fail
          go_ret
          exact ⟨by rw [HN.out]; rfl, hbx⟩
        · go_wp2_with fail
          go_roundw
          case rel => exact ⟨k + 1, by omega, by go_num, hbx, Lib.hid (by rw [HN.out]; rfl)⟩
          case measure => simp [intOf]; omega
      · obtain rfl : k = ma := by omega
        have HN := Lib.hid (show sameX a b = true by rw [HS.out, List.drop_of_length_le (by rw [← HA.out]; exact Nat.le_refl _), List.drop_of_length_le (by rw [HL.out]; exact Nat.le_refl _)]; rfl)
        clear HS
        go_wp2_with fail
        go_ret
        exact ⟨by rw [HN.out]; rfl, hbr⟩
  · have HN := Lib.hid (sameX_len hl)
    rw [← hma, ← hmb]
    have hq : ((ma : Int) != (mb : Int)) = true := by rw [bne_iff_ne]; omega
    clear hl hma hmb
    go_enter Tryd.func75, Tryd.ntmps75
    go_wp2_with fail
    go_ret
    exact ⟨by rw [HN.out]; rfl, Below.refl _ _⟩
/-- A new row of the same instructions. -/
def ClonedI (X : List Ins) (w : World) (e : Ending) (w' : World) : Prop :=
  ∃ gl c, e = .returned (.slice (some ⟨gl, 0, none⟩) X.length c) ∧ w'.ownsRow w.heap.size 36 4 (.slice (some ⟨gl, 0, none⟩) X.length c) X.length (X.flatMap insc) ∧ Below w.heap.size w w'
set_option maxRecDepth 100000 in
set_option maxHeartbeats 2000000 in
theorem iclone_any (b o c : Nat) (X : List Ins) (w : World) (hrd : RdL w 4 insc (some ⟨b, o, none⟩) X) (hl : X.length ≤ 4000000) (hp : 0 < X.length) : Calls Tryd.prog 35 #[.slice (some ⟨b, o, none⟩) X.length c] w (ClonedI X w) := by
  obtain ⟨i0, hi, hz0, hz1, hz2⟩ := info_parts infoIns
  have hE := fun (W : World) (a : Option Addr) (n c : Nat) => Lib.run_eql_slice_nil (P := Tryd.prog) W 27 36 a n c 0 0 Tryd.underlying27
  have hown0 : (w.alloc (.cells #[] 36)).ownsRow w.heap.size 36 4 (.slice (some ⟨w.heap.size, 0, none⟩) 0 0) 0 [] := World.ownsRow_lit w #[] 0 (Nat.le_refl _) (by decide) rfl
  have hrd0 := hrd.alloc (.cells #[] 36)
  have hb0 : Below w.heap.size w (w.alloc (.cells #[] 36)) := (Below.refl _ _).alloc (Nat.le_refl _) _
  obtain ⟨m, hm⟩ : ∃ m, m = X.length := ⟨_, rfl⟩
  have HM := Lib.hid hm
  rw [← hm] at hl hp ⊢
  clear hm
  go_enter Tryd.func35, Tryd.ntmps35
  go_wp2_with (at_builtin; refine wpList_pushAll (enc := insc) rfl _ _ _ rfl Tryd.underlying27 hi hz0 hz1 hz2 rfl (by decide) hown0 rfl rfl HM.out hrd0 (fun h => by cases h) trivial insc_len insc_one (by omega) (by decide) hb0.size ?_; intro A2 c2 w2 ho2 hb2 hoo2)
  go_ret
  rw [Nat.zero_add, List.nil_append] at ho2
  obtain ⟨A3, c3, he, _, _, hA3, hn3⟩ := own_form ho2
  injection he with he1 _ he3
  subst he1 he3
  obtain ⟨gl, rfl⟩ : ∃ gl, A2 = some ⟨gl, 0, none⟩ := by
    cases A2 with
    | none => have := (hn3 rfl).1; omega
    | some q =>
      obtain ⟨q1, q2, q3⟩ := q
      obtain ⟨_, _, h1, h2⟩ := hA3 _ rfl
      simp only at h1 h2
      subst h1 h2
      exact ⟨q1, rfl⟩
  refine ⟨gl, c2, by rw [← HM.out]; rfl, by rw [← HM.out]; exact ho2, hb0.trans hb2⟩
end Go.Proofs.YtpogngdddendiaaDoor
