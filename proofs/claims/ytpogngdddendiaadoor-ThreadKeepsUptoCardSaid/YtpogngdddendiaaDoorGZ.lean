/- The walks over slices.Clone and slices.Equal at instructions. Bounds on the lengths. -/
import Derived.Test.YtpogngdddendiaaDoorGB
import Derived.Test.YtpogngdddendiaaDoorSameW
import Derived.Handy
import Derived.Deep.CutRange
set_option linter.unusedVariables false
set_option linter.unusedSimpArgs false
namespace Go.Proofs.YtpogngdddendiaaDoor
open Go.RowKit

def insEq (x y : Ins) : Bool := x.op == y.op && x.a == y.a && x.b == y.b && x.s == y.s
theorem insEq_iff (x y : Ins) : insEq x y = true ↔ x = y := by
  cases x; cases y
  simp [insEq, and_assoc]
def sameX : List Ins → List Ins → Bool
  | [], [] => true
  | x :: a, y :: b => insEq x y && sameX a b
  | _, _ => false
theorem sameX_iff : ∀ (a b : List Ins), sameX a b = true ↔ a = b
  | [], [] => by simp [sameX]
  | x :: a, y :: b => by simp [sameX, insEq_iff, sameX_iff a b]
  | [], y :: b => by simp [sameX]
  | x :: a, [] => by simp [sameX]
theorem sameX_len {a b : List Ins} (h : a.length ≠ b.length) : sameX a b = false := by
  cases hs : sameX a b with
  | false => rfl
  | true => exact absurd (by rw [(sameX_iff a b).1 hs]) h
theorem sameX_cons {a b : List Ins} {k : Nat} (ha : k < a.length) (hb : k < b.length) : sameX (a.drop k) (b.drop k) = (insEq a[k] b[k] && sameX (a.drop (k + 1)) (b.drop (k + 1))) := by
  rw [List.drop_eq_getElem_cons ha, List.drop_eq_getElem_cons hb, sameX]
theorem run_neq_ins (W : World) (x y : Ins) : (binOp .neq 36 (.agg #[.int .i64 x.op, .int .i64 x.a, .int .i64 x.b, .string ⟨x.s.toArray⟩]) (.agg #[.int .i64 y.op, .int .i64 y.a, .int .i64 y.b, .string ⟨y.s.toArray⟩])).run Tryd.prog W = .ok (.bool (!insEq x y)) W := by
  obtain ⟨a, b, c, s⟩ := x
  obtain ⟨a', b', c', s'⟩ := y
  rw [run_neq_struct, run_equalIn_agg _ _ _ _ _ (by kernel_rfl) (by kernel_rfl)]
  simp only [Program.fieldsOf, Tryd.underlying36]
  go_simp
  simp only [bytes_list, insEq]
  by_cases h1 : a = a'
  all_goals by_cases h2 : b = b'
  all_goals by_cases h3 : c = c'
  all_goals by_cases h5 : s = s'
  all_goals simp [*]
theorem guard_ins : Tryd.prog.eqGuardType Tryd.prog.depth 36 = false := by kernel_rfl
set_option maxRecDepth 100000 in
set_option maxHeartbeats 2000000 in
theorem iequal_any (A B : Option Addr) (ca cb : Nat) (a b : List Ins) (w : World) (ha : RdL w 4 insc A a) (hb : RdL w 4 insc B b) (hla : a.length ≤ 4000000) (hlb : b.length ≤ 4000000) :
    Calls Tryd.prog 75 #[.slice A a.length ca, .slice B b.length cb] w (Ret w (.bool (sameX a b))) := by
  obtain ⟨ma, hma⟩ : ∃ m, m = a.length := ⟨_, rfl⟩
  obtain ⟨mb, hmb⟩ : ∃ m, m = b.length := ⟨_, rfl⟩
  by_cases hl : a.length = b.length
  · rw [← hma] at hla ⊢
    rw [← hl, ← hma]
    have hl2 : b.length = ma := by omega
    have HL := Lib.hid hl2
    have HA := Lib.hid hma
    have hq : ((ma : Int) != (ma : Int)) = false := by simp
    clear hl hl2 hma hmb hlb
    go_enter Tryd.func75, Tryd.ntmps75
    go_wp2_with fail
    go_loopw [13] (fun i wr => ∃ k : Nat, k ≤ ma ∧ i = .int .i64 k ∧ Below w.heap.size w wr ∧ Hid (sameX a b = sameX (a.drop k) (b.drop k))) (fun i _ => ma - (intOf i).toNat)
    case atStart => exact ⟨0, Nat.zero_le _, rfl, Below.refl _ _, rfl⟩
    case round =>
      obtain ⟨k, hk, rfl, hbr, HS⟩ := hrel
      by_cases hlt : k < ma
      · have hka : k < a.length := by rw [← HA.out]; exact hlt
        have hkb : k < b.length := by rw [HL.out]; exact hlt
        have HN := Lib.hid (show sameX a b = (insEq a[k] b[k] && sameX (a.drop (k + 1)) (b.drop (k + 1))) by rw [HS.out, sameX_cons hka hkb])
        obtain ⟨ba, oa, rfl, _, hca⟩ := (ha.below hbr) k hka
        obtain ⟨bb, ob, rfl, _, hcb⟩ := (hb.below hbr) k hkb
        generalize a[k] = x at *
        generalize b[k] = y at *
        have a0 := Later.cell (hca 0 _ rfl)
        have a1 := Later.cell (hca 1 _ rfl)
        have a2 := Later.cell (hca 2 _ rfl)
        have a3 := Later.cell (hca 3 _ rfl)
        have b0 := Later.cell (hcb 0 _ rfl)
        have b1 := Later.cell (hcb 1 _ rfl)
        have b2 := Later.cell (hcb 2 _ rfl)
        have b3 := Later.cell (hcb 3 _ rfl)
        clear hca hcb hka hkb HS
        simp only [Nat.add_zero] at a0 b0
        have hne := run_neq_ins
        have hgd := guard_ins
        go_upto_region 6 with (fail)
        refine wp_region_eq (by kernel_rfl) (by kernel_rfl) ?_
        apply EqGo.run
        focus
          kernel_rfl
        focus
          intro x K hK
          go_wp2_with fail
          first | exact hK x (Below.refl _ _) | exact Below.refl _ _
        simp only [Act.put, List.setIfInBounds_toArray, List.set_cons_succ, List.set_cons_zero]
        apply EqGo.run
        focus
          kernel_rfl
        focus
          intro x K hK
          go_wp2_with fail
          first | exact hK x (Below.refl _ _) | exact Below.refl _ _
        simp only [Act.put, List.setIfInBounds_toArray, List.set_cons_succ, List.set_cons_zero]
        apply EqGo.run
        focus
          kernel_rfl
        focus
          intro x K hK
          go_wp2_with fail
          first | exact hK x (Below.refl _ _) | exact Below.refl _ _
        simp only [Act.put, List.setIfInBounds_toArray, List.set_cons_succ, List.set_cons_zero]
        apply EqGo.run
        focus
          kernel_rfl
        focus
          intro x K hK
          go_wp2_with fail
          first | exact hK x (Below.refl _ _) | exact Below.refl _ _
        simp only [Act.put, List.setIfInBounds_toArray, List.set_cons_succ, List.set_cons_zero]
        apply EqGo.run
        focus
          kernel_rfl
        focus
          intro x K hK
          go_wp2_with fail
          first | exact hK x (Below.refl _ _) | exact Below.refl _ _
        simp only [Act.put, List.setIfInBounds_toArray, List.set_cons_succ, List.set_cons_zero]
        apply EqGo.run
        focus
          kernel_rfl
        focus
          intro x K hK
          go_wp2_with fail
          first | exact hK x (Below.refl _ _) | exact Below.refl _ _
        simp only [Act.put, List.setIfInBounds_toArray, List.set_cons_succ, List.set_cons_zero]
        apply EqGo.run
        focus
          kernel_rfl
        focus
          intro x K hK
          go_wp2_with fail
          first | exact hK x (Below.refl _ _) | exact Below.refl _ _
        simp only [Act.put, List.setIfInBounds_toArray, List.set_cons_succ, List.set_cons_zero]
        apply EqGo.run
        focus
          kernel_rfl
        focus
          intro x K hK
          go_wp2_with fail
          first | exact hK x (Below.refl _ _) | exact Below.refl _ _
        simp only [Act.put, List.setIfInBounds_toArray, List.set_cons_succ, List.set_cons_zero]
        apply EqGo.run
        focus
          kernel_rfl
        focus
          intro x K hK
          go_wp2_with fail
          first | exact hK x (Below.refl _ _) | exact Below.refl _ _
        simp only [Act.put, List.setIfInBounds_toArray, List.set_cons_succ, List.set_cons_zero]
        intro wx
        obtain ⟨nb, hnb⟩ : ∃ nb, nb = insEq x y := ⟨_, rfl⟩
        rw [← hnb] at HN ⊢
        have hbx := hbr.trans (wx.below.mono hbr.size)
        clear a0 a1 a2 a3 b0 b1 b2 b3 hnb hne hgd
        cases nb
        · go_wp2_with fail
          go_ret
          exact ⟨by rw [HN.out]; rfl, hbx⟩
        · go_wp2_with fail
          go_roundw
          case rel => exact ⟨k + 1, by omega, by go_num, hbx, Lib.hid (by rw [HN.out]; rfl)⟩
          case measure => simp [intOf]; omega
      · obtain rfl : k = ma := by omega
        have HN := Lib.hid (show sameX a b = true by rw [HS.out, List.drop_of_length_le (by rw [← HA.out]; exact Nat.le_refl _), List.drop_of_length_le (by rw [HL.out]; exact Nat.le_refl _)]; rfl)
        clear HS
        go_wp2_with fail
        go_ret
        exact ⟨by rw [HN.out]; rfl, hbr⟩
  · have HN := Lib.hid (sameX_len hl)
    rw [← hma, ← hmb]
    have hq : ((ma : Int) != (mb : Int)) = true := by rw [bne_iff_ne]; omega
    clear hl hma hmb
    go_enter Tryd.func75, Tryd.ntmps75
    go_wp2_with fail
    go_ret
    exact ⟨by rw [HN.out]; rfl, Below.refl _ _⟩
/-- A new row of the same instructions. -/
def ClonedI (X : List Ins) (w : World) (e : Ending) (w' : World) : Prop :=
  ∃ gl c, e = .returned (.slice (some ⟨gl, 0, none⟩) X.length c) ∧ w'.ownsRow w.heap.size 36 4 (.slice (some ⟨gl, 0, none⟩) X.length c) X.length (X.flatMap insc) ∧ Below w.heap.size w w'
set_option maxRecDepth 100000 in
set_option maxHeartbeats 2000000 in
theorem iclone_any (b o c : Nat) (X : List Ins) (w : World) (hrd : RdL w 4 insc (some ⟨b, o, none⟩) X) (hl : X.length ≤ 4000000) (hp : 0 < X.length) : Calls Tryd.prog 35 #[.slice (some ⟨b, o, none⟩) X.length c] w (ClonedI X w) := by
  obtain ⟨i0, hi, hz0, hz1, hz2⟩ := info_parts infoIns
  have hE := fun (W : World) (a : Option Addr) (n c : Nat) => Lib.run_eql_slice_nil (P := Tryd.prog) W 27 36 a n c 0 0 Tryd.underlying27
  have hown0 : (w.alloc (.cells #[] 36)).ownsRow w.heap.size 36 4 (.slice (some ⟨w.heap.size, 0, none⟩) 0 0) 0 [] := World.ownsRow_lit w #[] 0 (Nat.le_refl _) (by decide) rfl
  have hrd0 := hrd.alloc (.cells #[] 36)
  have hb0 : Below w.heap.size w (w.alloc (.cells #[] 36)) := (Below.refl _ _).alloc (Nat.le_refl _) _
  obtain ⟨m, hm⟩ : ∃ m, m = X.length := ⟨_, rfl⟩
  have HM := Lib.hid hm
  rw [← hm] at hl hp ⊢
  clear hm
  go_enter Tryd.func35, Tryd.ntmps35
  go_wp2_with (at_builtin; refine wpList_pushAll (enc := insc) rfl _ _ _ rfl Tryd.underlying27 hi hz0 hz1 hz2 rfl (by decide) hown0 rfl rfl HM.out hrd0 (fun h => by cases h) trivial insc_len insc_one (by omega) (by decide) hb0.size ?_; intro A2 c2 w2 ho2 hb2 hoo2)
  go_ret
  rw [Nat.zero_add, List.nil_append] at ho2
  obtain ⟨A3, c3, he, _, _, hA3, hn3⟩ := own_form ho2
  injection he with he1 _ he3
  subst he1 he3
  obtain ⟨gl, rfl⟩ : ∃ gl, A2 = some ⟨gl, 0, none⟩ := by
    cases A2 with
    | none => have := (hn3 rfl).1; omega
    | some q =>
      obtain ⟨q1, q2, q3⟩ := q
      obtain ⟨_, _, h1, h2⟩ := hA3 _ rfl
      simp only at h1 h2
      subst h1 h2
      exact ⟨q1, rfl⟩
  refine ⟨gl, c2, by rw [← HM.out]; rfl, by rw [← HM.out]; exact ho2, hb0.trans hb2⟩
end Go.Proofs.YtpogngdddendiaaDoor

/- The walk over (*thread.pass).mark: the jumps that are on cycles. A bound on the length. -/
set_option linter.unusedVariables false
set_option linter.unusedSimpArgs false
namespace Go.Proofs.YtpogngdddendiaaDoor
open Go.RowKit

/-- It has found them; all else stands. -/
def Marked (w0 : World) (base g gl : Nat) (X : List Ins) (cl : Nat) (st : Int) (e : Ending) (w' : World) : Prop :=
  e = .returned (.tuple #[]) ∧ ∃ gc, PassW w' base g gl X cl st (.slice (some ⟨gc, 0, none⟩) X.length X.length) ∧ rowB w' base gc X.length (cycL X) ∧ But g w0 w'
/-- A pass, its rows, within mark. -/
structure MkW (w0 w : World) (base g gl gs gc : Nat) (X : List Ins) (cl : Nat) (st : Int) (S : List Nat) (C : List Bool) : Prop where
  p : PassW w base g gl X cl st (.slice (some ⟨gc, 0, none⟩) X.length X.length)
  s : rowN w base gs X.length S
  c : rowB w base gc X.length C
  but : But g w0 w
  gs : w0.heap.size ≤ gs
  gc : w0.heap.size ≤ gc
section
variable {w0 w : World} {base g gl gs gc : Nat} {X : List Ins} {cl : Nat} {st : Int} {S : List Nat} {C : List Bool}
theorem MkW.setS (h : MkW w0 w base g gl gs gc X cl st S C) (j v : Nat) {z : Int} (hz : z = (v : Int)) : MkW w0 (w.setCell ⟨gs, j, none⟩ (.int .i64 z)) base g gl gs gc X cl st (S.set j v) C := by
  obtain ⟨_, cur, hB⟩ := own_blk h.s
  have hb := But.set (B := gs) w j (.int .i64 z)
  exact ⟨h.p.but hb hB (by decide) (by decide), h.s.set j v hz, h.c.but hb hB (by decide), h.but.of2 (hb.below h.gs h.but.size), h.gs, h.gc⟩
theorem MkW.setC (h : MkW w0 w base g gl gs gc X cl st S C) (j : Nat) (b : Bool) : MkW w0 (w.setCell ⟨gc, j, none⟩ (.bool b)) base g gl gs gc X cl st S (C.set j b) := by
  obtain ⟨_, cur, hB⟩ := own_blk h.c
  have hb := But.set (B := gc) w j (.bool b)
  exact ⟨h.p.but hb hB (by decide) (by decide), h.s.but hb hB (by decide), h.c.set j b, h.but.of2 (hb.below h.gc h.but.size), h.gs, h.gc⟩
end
set_option maxRecDepth 100000 in
set_option maxHeartbeats 4000000 in
theorem tmark_any (base g gl cl : Nat) (X : List Ins) (st : Int) (vc : Value) (w : World) (hw : PassW w base g gl X cl st vc) (hbs : base ≤ w.heap.size) (hp : PR X) (hn : X.length ≤ 9000) :
    Calls Tryd.prog 70 #[.pointer (some ⟨g, 0, none⟩)] w (Marked w base g gl X cl st) := by
  obtain ⟨m, hm⟩ : ∃ m, X.length = m := ⟨_, rfl⟩
  have HM := Lib.hid hm
  have HP := Lib.hid hp
  have HW0 := Lib.hid hw
  have HR := Lib.hid hp.jr
  have z0 := hw.blk.cell 0
  have z2 := hw.blk.cell 2
  simp only [List.getElem?_toArray, List.getElem?_cons_zero, List.getElem?_cons_succ] at z0 z2
  rw [hm] at z0 hn
  clear hm hp hw
  obtain ⟨gc, hgc⟩ : ∃ gc, gc = w.heap.size := ⟨_, rfl⟩
  go_enter Tryd.func70, Tryd.ntmps70
  go_upto_region 1 with (at_make; refine wpList_mkB rfl _ _ rfl base m _ _ rfl rfl rfl rfl (by omega) hbs ?_; intro w1 ho1 hb1; have y2 := cell_keep hb1 z2; have f2 := (HW0.out.below hb1).blk.frozen 2)
  have hW1 := (HW0.out.below hb1).cyc (.slice (some ⟨w.heap.size, 0, none⟩) m m)
  have HC1 := Lib.hid (ho1.but hW1.2 (HW0.out.below hb1).blk (by decide))
  have HB1 := Lib.hid ((But.of hb1 (B := g)).trans hW1.2)
  have HW1 := Lib.hid hW1.1
  have hs1 : base ≤ (w1.setCell ⟨g, 2, none⟩ (.slice (some ⟨w.heap.size, 0, none⟩) m m)).heap.size := Nat.le_trans hbs HB1.out.size
  rw [← hgc] at HC1 HW1 HB1 hs1 ⊢
  have HGC := Lib.hid hgc
  clear y2 f2 hW1 ho1 hb1 z0 z2 hgc
  generalize w1.setCell ⟨g, 2, none⟩ (.slice (some ⟨gc, 0, none⟩) m m) = w2 at *
  clear w1
  have z0 := HW1.out.blk.cell 0
  simp only [List.getElem?_toArray, List.getElem?_cons_zero, List.getElem?_cons_succ] at z0
  rw [HM.out] at z0
  go_upto_region 2 with (at_make; refine wpList_mkN rfl _ _ rfl base m _ _ rfl rfl rfl rfl (by omega) hs1 ?_; intro w3 ho3 hb3; have y0 := cell_keep hb3 z0)
  obtain ⟨gs, hgs⟩ : ∃ gs, gs = w2.heap.size := ⟨_, rfl⟩
  rw [← hgs] at ho3 ⊢
  have HW := Lib.hid (show MkW w w3 base g gl gs gc X cl st (List.replicate X.length 0) (List.replicate X.length false) from
    ⟨by rw [HM.out]; exact HW1.out.below hb3, by rw [HM.out]; exact ho3, by rw [HM.out]; exact HC1.out.below hb3, HB1.out.trans (But.of hb3), by rw [hgs]; exact HB1.out.size, by rw [HGC.out]; exact Nat.le_refl _⟩)
  clear ho3 hb3 HW1 HC1 HB1 hgs hs1 HGC HW0 z0
  go_wp2_with fail
  go_loopw [28] (fun v wr => ∃ (i : Nat) (S : List Nat) (C : List Bool), i ≤ m ∧ v = .int .i64 i ∧ Hid (MarkI X i S C) ∧ Hid (MkW w wr base g gl gs gc X cl st S C)) (fun v _ => m - (intOf v).toNat)
  case atStart => exact ⟨0, _, _, Nat.zero_le _, rfl, Lib.hid (MarkI.begin X), HW⟩
  case round =>
    clear HW y0
    obtain ⟨i, S0, C, him, rfl, HMK, HW⟩ := hrel
    by_cases hlt : i < m
    · have HIX := Lib.hid (show i < X.length by rw [HM.out]; exact hlt)
      go_wp2_with fail
      generalize wr = wo at *
      go_loopw [4] (fun v wr => ∃ (at_ : Nat) (S : List Nat), v = .int .i64 at_ ∧ Hid (WayI X i S0 S at_) ∧ Hid (MkW w wr base g gl gs gc X cl st S C)) (fun _ wr => zerosOf wr base gs m)
      case atStart => exact ⟨i, S0, rfl, Lib.hid (HMK.out.way HIX.out), HW⟩
      case round =>
        clear HW
        obtain ⟨at_, S, rfl, HWY, HW⟩ := hrel
        have HAX := Lib.hid HWY.out.lt
        have ham : at_ < m := by rw [← HM.out]; exact HAX.out
        obtain ⟨x, hxi⟩ := at_some (HAX).out
        have hcell := ((HW).out.p.rd.at_ (HAX).out).2
        rw [getElem_of? (HAX).out hxi] at hcell
        have c0 := hcell 0 _ rfl
        have c1 := hcell 1 _ rfl
        simp only [Nat.add_zero, Nat.zero_add] at c0 c1
        have HPA := Lib.hid (HP.out x (List.mem_of_getElem? hxi)).1
        have HXI := Lib.hid hxi
        have z0 := (HW).out.p.blk.cell 0
        have z2 := (HW).out.p.blk.cell 2
        simp only [List.getElem?_toArray, List.getElem?_cons_zero, List.getElem?_cons_succ] at z0 z2
        rw [HM.out] at z0 z2
        clear hcell hxi
        obtain ⟨v, hsv⟩ : ∃ v, S[at_]? = some v := ⟨_, List.getElem?_eq_getElem (by rw [HWY.out.len]; exact HAX.out)⟩
        have s0 := HW.out.s.cell hsv
        have HSV := Lib.hid hsv
        clear hsv
        have hvb : v ≤ i + 1 := by
          by_cases h0 : v = 0
          · omega
          · rcases HWY.out.new at_ v HSV.out h0 with h | h
            · have h1 := HWY.out.old at_ h
              rw [HSV.out] at h1
              have := HMK.out.le at_ v h1.symm
              omega
            · omega
        by_cases h18 : x.op = 18
        · have HA := Lib.hid (HPA.out (place18 h18))
          obtain ⟨a, ha⟩ : ∃ a : Nat, x.a = a := ⟨x.a.toNat, by have := HA.out; omega⟩
          have HJ := Lib.hid (show jmp X at_ = some a by rw [jmp_of HXI.out, if_pos h18, ha]; rfl)
          rw [h18] at c0
          rw [ha] at c1
          clear h18 ha HA HPA
          by_cases h0 : v = 0
          · have HZ := Lib.hid (show S[at_]? = some 0 by rw [HSV.out, h0])
            rw [h0] at s0
            have fs := HW.out.s.frozenAt at_
            have HZ1 := Lib.hid (show zerosOf wr base gs m = S.count 0 from zerosOf_eq (by have := HW.out.s; rwa [HM.out] at this))
            have HW2 := Lib.hid (HW.out.setS at_ (i + 1) (z := (i : Int) + 1) rfl)
            have HZ2 := Lib.hid (show zerosOf (wr.setCell ⟨gs, at_, none⟩ (.int .i64 ((i : Int) + 1))) base gs m + 1 = S.count 0 by
              rw [zerosOf_eq (by have := HW2.out.s; rwa [HM.out] at this)]
              exact countZ_set HZ.out (Nat.succ_ne_zero _))
            have HY2 := Lib.hid (HWY.out.step HR.out HJ.out HZ.out)
            have hc1 : (wr.setCell ⟨gs, at_, none⟩ (.int .i64 ((i : Int) + 1))).cell? ⟨gl, at_ * 4 + 1, none⟩ = some (.int .i64 (a : Int)) := by
              have hcell := (HW2.out.p.rd.at_ HAX.out).2 1 _ (show (insc X[at_])[1]? = some (.int .i64 X[at_].a) from rfl)
              have hcell0 := (HW.out.p.rd.at_ HAX.out).2 1 _ (show (insc X[at_])[1]? = some (.int .i64 X[at_].a) from rfl)
              simp only [Nat.zero_add] at hcell hcell0
              rw [hcell, ← hcell0, c1]
            have hz0 := HW2.out.p.blk.cell 0
            simp only [List.getElem?_toArray, List.getElem?_cons_zero] at hz0
            rw [HM.out] at hz0
            clear h0 HSV hvb HWY
            go_upto_region 8 with (fail)
            generalize wr.setCell ⟨gs, at_, none⟩ (.int .i64 ((i : Int) + 1)) = wz at *
            clear z0 z2 c0 c1 s0 fs
            go_wp2_with fail
            go_roundw
            case rel => exact ⟨a, _, rfl, HY2, HW2⟩
            case measure => show zerosOf wz base gs m < zerosOf wr base gs m; rw [HZ1.out]; have := HZ2.out; omega
          · have v0 : ((v : Int) == 0) = false := by simp [h0]
            by_cases h1 : v = i + 1
            · have HSI := Lib.hid (show S[at_]? = some (i + 1) by rw [HSV.out, h1])
              have hev : ((v : Int) == (i : Int) + 1) = true := by rw [h1]; simp
              have HCY := Lib.hid (show Cyc X at_ from by
                obtain ⟨k, hk⟩ := HWY.out.lead at_ HSI.out
                exact ⟨k, hk⟩)
              clear h0 h1 HSV hvb
              go_upto_region 10 with (fail)
              generalize wr = wi at *
              go_loopw [4] (fun v wr => ∃ (b : Nat) (C' : List Bool), v = .int .i64 b ∧ Hid (RingI X C C' at_ b) ∧ Hid (MkW w wr base g gl gs gc X cl st S C')) (fun _ wr => falsesOf wr base gc m)
              case atStart => exact ⟨at_, C, rfl, Lib.hid (RingI.begin HMK.out.lenC at_), HW⟩
              case round =>
                clear HW c0 c1 z0 z2 s0 v0 hev HXI HJ
                obtain ⟨b, C', rfl, HRG, HW⟩ := hrel
                have HCB := Lib.hid (HCY.out.on HRG.out.on).1
                have HJ := Lib.hid HCB.out.jmp
                obtain ⟨b', hjb, _, _⟩ := HJ.out
                have HBX := Lib.hid (show b < X.length by
                  apply Classical.byContradiction
                  intro hb
                  rw [jmp_out (List.getElem?_eq_none (by omega))] at hjb
                  cases hjb)
                have hbm : b < m := by rw [← HM.out]; exact HBX.out
                obtain ⟨x, hxi⟩ := at_some (HBX).out
                have hcell := ((HW).out.p.rd.at_ (HBX).out).2
                rw [getElem_of? (HBX).out hxi] at hcell
                have c0 := hcell 0 _ rfl
                have c1 := hcell 1 _ rfl
                simp only [Nat.add_zero, Nat.zero_add] at c0 c1
                have HPA := Lib.hid (HP.out x (List.mem_of_getElem? hxi)).1
                have HXI := Lib.hid hxi
                have z0 := (HW).out.p.blk.cell 0
                have z2 := (HW).out.p.blk.cell 2
                simp only [List.getElem?_toArray, List.getElem?_cons_zero, List.getElem?_cons_succ] at z0 z2
                rw [HM.out] at z0 z2
                clear hcell hxi
                have h18 : x.op = 18 := by
                  apply Classical.byContradiction
                  intro h18
                  rw [jmp_of HXI.out, if_neg h18] at hjb
                  cases hjb
                have HA := Lib.hid (HPA.out (place18 h18))
                have ha : x.a = b' := by
                  rw [jmp_of HXI.out, if_pos h18] at hjb
                  injection hjb with hjb
                  have := HA.out
                  omega
                have HJ2 := Lib.hid hjb
                rw [ha] at c1
                clear HA HPA hjb HJ ha h18 c0
                obtain ⟨cb, hcb⟩ : ∃ cb, C'[b]? = some cb := ⟨_, List.getElem?_eq_getElem (by rw [HRG.out.len]; exact HBX.out)⟩
                have d0 := HW.out.c.cell hcb
                cases cb with
                | true =>
                  have HMN := Lib.hid (WayI.ring HMK.out HWY.out HSI.out HRG.out hcb)
                  clear hcb HRG
                  go_wp2_with fail
                  go_roundw
                  case rel => exact ⟨i + 1, _, _, by omega, rfl, HMN, HW⟩
                  case measure => simp [intOf]; omega
                | false =>
                  have fd := HW.out.c.frozenAt b
                  have HZ1 := Lib.hid (show falsesOf wr base gc m = C'.count false from falsesOf_eq (by have := HW.out.c; rwa [HM.out] at this))
                  have HW2 := Lib.hid (HW.out.setC b true)
                  have HZ2 := Lib.hid (show falsesOf (wr.setCell ⟨gc, b, none⟩ (.bool true)) base gc m + 1 = C'.count false by
                    rw [falsesOf_eq (by have := HW2.out.c; rwa [HM.out] at this)]
                    exact @count_set 0 _ _ hcb)
                  have HR2 := Lib.hid (HRG.out.step HBX.out HJ2.out)
                  have hc1 : (wr.setCell ⟨gc, b, none⟩ (.bool true)).cell? ⟨gl, b * 4 + 1, none⟩ = some (.int .i64 (b' : Int)) := by
                    have hcell := (HW2.out.p.rd.at_ HBX.out).2 1 _ (show (insc X[b])[1]? = some (.int .i64 X[b].a) from rfl)
                    have hcell0 := (HW.out.p.rd.at_ HBX.out).2 1 _ (show (insc X[b])[1]? = some (.int .i64 X[b].a) from rfl)
                    simp only [Nat.zero_add] at hcell hcell0
                    rw [hcell, ← hcell0, c1]
                  have hz0 := HW2.out.p.blk.cell 0
                  simp only [List.getElem?_toArray, List.getElem?_cons_zero] at hz0
                  rw [HM.out] at hz0
                  clear hcb HRG
                  go_upto_region 12 with (fail)
                  generalize wr.setCell ⟨gc, b, none⟩ (.bool true) = wz at *
                  clear z0 z2 c1 d0 fd
                  go_wp2_with fail
                  go_roundw
                  case rel => exact ⟨b', _, rfl, HR2, HW2⟩
                  case measure => show falsesOf wz base gc m < falsesOf wr base gc m; rw [HZ1.out]; have := HZ2.out; omega
            · have hev : ((v : Int) == (i : Int) + 1) = false := by rw [beq_eq_false_iff_ne]; omega
              have HMN := Lib.hid (WayI.plain HMK.out HWY.out (.inr ⟨⟨v, HSV.out, h0⟩, by rw [HSV.out]; intro e; injection e with e; exact h1 e⟩))
              clear h0 h1 HSV hvb HWY
              go_wp2_with fail
              go_roundw
              case rel => exact ⟨i + 1, _, _, by omega, rfl, HMN, HW⟩
              case measure => simp [intOf]; omega
        · have e18 : (x.op == 18) = false := by simp [h18]
          have HMN := Lib.hid (WayI.plain HMK.out HWY.out (.inl (by rw [jmp_of HXI.out, if_neg h18])))
          clear h18 HSV hvb HWY HPA
          go_wp2_with fail
          go_roundw
          case rel => exact ⟨i + 1, _, _, by omega, rfl, HMN, HW⟩
          case measure => simp [intOf]; omega
    · obtain rfl : i = m := by omega
      have HCE := Lib.hid (show C = cycL X by have := HMK.out; rw [← HM.out] at this; exact this.all)
      clear hlt him HMK
      go_wp2_with fail
      go_returns
      exact ⟨rfl, gc, HW.out.p, by rw [← HCE.out]; exact HW.out.c, HW.out.but⟩
end Go.Proofs.YtpogngdddendiaaDoor
