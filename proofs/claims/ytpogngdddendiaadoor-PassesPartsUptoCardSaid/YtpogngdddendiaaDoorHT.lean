/- The walks over package patoissee: an error as plain data. What the package-level errors hold is a hypothesis. -/
import Derived.Test.YtpogngdddendiaaDoorHC
import Derived.Test.YtpogngdddendiaaDoorHB
import Derived.Test.YtpogngdddendiaaDoorHE
import Derived.Test.YtpogngdddendiaaDoorHL
import Derived.Lib.IfaceEq
import Derived.Deep.DeepCutAuto
import Derived.Outline
import Derived.Handy
import Derived.LaidEql
set_option linter.unusedVariables false
set_option linter.unusedSimpArgs false
namespace Go.Proofs.YtpogngdddendiaaDoor
open Go.RowKit

def SameI : List Int → List Int → Bool
  | [], [] => true
  | x :: a, y :: b => x == y && SameI a b
  | _, _ => false
theorem SameI_iff : ∀ (a b : List Int), SameI a b = true ↔ a = b
  | [], [] => by simp [SameI]
  | x :: a, y :: b => by simp [SameI, SameI_iff a b]
  | [], y :: b => by simp [SameI]
  | x :: a, [] => by simp [SameI]
theorem SameI_len {a b : List Int} (h : a.length ≠ b.length) : SameI a b = false := by
  cases hs : SameI a b with
  | false => rfl
  | true => exact absurd (by rw [(SameI_iff a b).1 hs]) h
theorem SameI_cons {a b : List Int} {k : Nat} (ha : k < a.length) (hb : k < b.length) : SameI (a.drop k) (b.drop k) = (a[k] == b[k] && SameI (a.drop (k + 1)) (b.drop (k + 1))) := by
  rw [List.drop_eq_getElem_cons ha, List.drop_eq_getElem_cons hb, SameI]

set_option maxRecDepth 100000 in
set_option maxHeartbeats 2000000 in
theorem sameints_any (A B : Option Addr) (ca cb : Nat) (a b : List Int) (w : World) (ha : RdL w 1 intc A a) (hb : RdL w 1 intc B b) (hla : a.length ≤ 4000000) (hlb : b.length ≤ 4000000) :
    Calls Tryd.prog 31 #[.slice A a.length ca, .slice B b.length cb] w (Ret w (.bool (SameI a b))) := by
  obtain ⟨ma, hma⟩ : ∃ m, m = a.length := ⟨_, rfl⟩
  obtain ⟨mb, hmb⟩ : ∃ m, m = b.length := ⟨_, rfl⟩
  by_cases hl : a.length = b.length
  · rw [← hma] at hla ⊢
    rw [← hl, ← hma]
    have hl2 : b.length = ma := by omega
    have HL := Lib.hid hl2
    have HA := Lib.hid hma
    have hq : ((ma : Int) != (ma : Int)) = false := by simp
    clear hl hl2 hma hmb hlb
    go_enter Tryd.func31, Tryd.ntmps31
    go_wp2_with fail
    go_loopw [5] (fun i wr => ∃ k : Nat, k ≤ ma ∧ i = .int .i64 k ∧ Below w.heap.size w wr ∧ Hid (SameI a b = SameI (a.drop k) (b.drop k))) (fun i _ => ma - (intOf i).toNat)
    case atStart => exact ⟨0, Nat.zero_le _, rfl, Below.refl _ _, rfl⟩
    case round =>
      obtain ⟨k, hk, rfl, hbr, HS⟩ := hrel
      by_cases hlt : k < ma
      · have hka : k < a.length := by rw [← HA.out]; exact hlt
        have hkb : k < b.length := by rw [HL.out]; exact hlt
        have HN := Lib.hid (show SameI a b = (a[k] == b[k] && SameI (a.drop (k + 1)) (b.drop (k + 1))) by rw [HS.out, SameI_cons hka hkb])
        obtain ⟨ba, oa, rfl, _, hca⟩ := (ha.below hbr) k hka
        obtain ⟨bb, ob, rfl, _, hcb⟩ := (hb.below hbr) k hkb
        generalize a[k] = x at *
        generalize b[k] = y at *
        have a0 := Later.cell (hca 0 _ rfl)
        have b0 := Later.cell (hcb 0 _ rfl)
        clear hca hcb hka hkb HS
        simp only [Nat.add_zero, Nat.mul_one] at a0 b0
        obtain ⟨nb, hnb⟩ : ∃ nb, nb = (x == y) := ⟨_, rfl⟩
        rw [← hnb] at HN
        have hxy : (x == y) = nb := hnb.symm
        clear hnb
        go_upto_region 6 with (fail)
        refine wp_region_eq (by kernel_rfl) (by kernel_rfl) ?_
        apply EqGo.run
        focus
          kernel_rfl
        focus
          intro x K hK
          go_wp2_with fail
          first | exact hK x (Below.refl _ _) | exact Below.refl _ _
        simp only [Act.put, List.setIfInBounds_toArray, List.set_cons_succ, List.set_cons_zero]
        apply EqGo.run
        focus
          kernel_rfl
        focus
          intro x K hK
          go_wp2_with fail
          first | exact hK x (Below.refl _ _) | exact Below.refl _ _
        simp only [Act.put, List.setIfInBounds_toArray, List.set_cons_succ, List.set_cons_zero]
        apply EqGo.run
        focus
          kernel_rfl
        focus
          intro x K hK
          go_wp2_with fail
          first | exact hK x (Below.refl _ _) | exact Below.refl _ _
        simp only [Act.put, List.setIfInBounds_toArray, List.set_cons_succ, List.set_cons_zero]
        apply EqGo.run
        focus
          kernel_rfl
        focus
          intro x K hK
          go_wp2_with fail
          first | exact hK x (Below.refl _ _) | exact Below.refl _ _
        simp only [Act.put, List.setIfInBounds_toArray, List.set_cons_succ, List.set_cons_zero]
        apply EqGo.run
        focus
          kernel_rfl
        focus
          intro x K hK
          go_wp2_with fail
          first | exact hK x (Below.refl _ _) | exact Below.refl _ _
        simp only [Act.put, List.setIfInBounds_toArray, List.set_cons_succ, List.set_cons_zero]
        apply EqGo.run
        focus
          kernel_rfl
        focus
          intro x K hK
          go_wp2_with fail
          first | exact hK x (Below.refl _ _) | exact Below.refl _ _
        simp only [Act.put, List.setIfInBounds_toArray, List.set_cons_succ, List.set_cons_zero]
        apply EqGo.run
        focus
          kernel_rfl
        focus
          intro x K hK
          go_wp2_with fail
          first | exact hK x (Below.refl _ _) | exact Below.refl _ _
        simp only [Act.put, List.setIfInBounds_toArray, List.set_cons_succ, List.set_cons_zero]
        apply EqGo.run
        focus
          kernel_rfl
        focus
          intro x K hK
          go_wp2_with fail
          first | exact hK x (Below.refl _ _) | exact Below.refl _ _
        simp only [Act.put, List.setIfInBounds_toArray, List.set_cons_succ, List.set_cons_zero]
        apply EqGo.run
        focus
          kernel_rfl
        focus
          intro x K hK
          go_wp2_with fail
          first | exact hK x (Below.refl _ _) | exact Below.refl _ _
        simp only [Act.put, List.setIfInBounds_toArray, List.set_cons_succ, List.set_cons_zero]
        apply EqGo.run
        focus
          kernel_rfl
        focus
          intro x K hK
          go_wp2_with fail
          first | exact hK x (Below.refl _ _) | exact Below.refl _ _
        simp only [Act.put, List.setIfInBounds_toArray, List.set_cons_succ, List.set_cons_zero]
        intro wx
        have hbx := hbr.trans (wx.below.mono hbr.size)
        clear a0 b0 hxy
        cases nb
        · go_wp2_with fail
          go_ret
          exact ⟨by rw [HN.out]; rfl, hbx⟩
        · go_wp2_with fail
          go_roundw
          case rel => exact ⟨k + 1, by omega, by go_num, hbx, Lib.hid (by rw [HN.out]; rfl)⟩
          case measure => simp [intOf]; omega
      · obtain rfl : k = ma := by omega
        have HN := Lib.hid (show SameI a b = true by rw [HS.out, List.drop_of_length_le (by rw [← HA.out]; exact Nat.le_refl _), List.drop_of_length_le (by rw [HL.out]; exact Nat.le_refl _)]; rfl)
        clear HS
        go_wp2_with fail
        go_ret
        exact ⟨by rw [HN.out]; rfl, hbr⟩
  · have HN := Lib.hid (SameI_len hl)
    rw [← hma, ← hmb]
    have hq : ((ma : Int) != (mb : Int)) = true := by rw [bne_iff_ne]; omega
    clear hl hma hmb
    go_enter Tryd.func31, Tryd.ntmps31
    go_wp2_with fail
    go_ret
    exact ⟨by rw [HN.out]; rfl, Below.refl _ _⟩

/-- A value that is a fault. -/
def FltV (w : World) (v : Value) (code : Int) (ats : List Int) : Prop := ∃ A c, v = .agg #[.int .i64 code, .slice A ats.length c] ∧ RdL w 1 intc A ats ∧ (A = none → c = 0)
theorem FltV.below {w w' : World} {v : Value} {code : Int} {ats : List Int} (h : FltV w v code ats) (hb : Below w.heap.size w w') : FltV w' v code ats :=
  let ⟨A, c, h1, h2, h3⟩ := h
  ⟨A, c, h1, h2.below hb, h3⟩
def FltRet (code : Int) (ats : List Int) (w : World) (e : Ending) (w' : World) : Prop := ∃ v, e = .returned v ∧ FltV w' v code ats ∧ Below w.heap.size w w'

theorem none_any (w : World) : Calls Tryd.prog 53 #[] w (FltRet 0 [] w) := by
  go_enter Tryd.func53, Tryd.ntmps53
  go_wp2_with fail
  go_returns
  exact ⟨_, rfl, ⟨none, 0, rfl, RdL.nil _ _ _ _, fun _ => rfl⟩, (Below.refl _ _).alloc (Nat.le_refl _) _⟩

def bareV (code : Int) : Value := .agg #[.int .i64 code, .slice none 0 0]
theorem bare_any (code : Int) (w : World) : Calls Tryd.prog 52 #[.int .i64 code] w (Ret w (bareV code)) := by
  go_enter Tryd.func52, Tryd.ntmps52
  go_wp2_with fail
  go_returns
  exact ⟨rfl, (Below.refl _ _).alloc (Nat.le_refl _) _⟩
theorem bare_flt (w : World) (code : Int) : FltV w (bareV code) code [] := ⟨none, 0, rfl, RdL.nil _ _ _ _, fun _ => rfl⟩

theorem rdl_one {w : World} {g : Nat} {n : Int} (h : w.cell? ⟨g, 0, none⟩ = some (.int .i64 n)) : RdL w 1 intc (some ⟨g, 0, none⟩) [n] := by
  intro k hk
  have hk0 : k = 0 := by simpa using hk
  subst hk0
  refine ⟨g, 0, rfl, World.block_lt_of_cell? _ _ h, fun j u hu => ?_⟩
  cases j with
  | zero => simp only [intc, List.getElem_cons_zero, List.getElem?_cons_zero, Option.some.injEq] at hu; subst hu; simpa using h
  | succ j => simp [intc] at hu

theorem alloc_size (w : World) (o : Obj) : (w.alloc o).heap.size = w.heap.size + 1 := Array.size_push ..
/-- .. whose places lie in a block that is not below B. -/
def FltN (w : World) (B : Nat) (v : Value) (code : Int) (ats : List Int) : Prop := ∃ A c, v = .agg #[.int .i64 code, .slice A ats.length c] ∧ RdL w 1 intc A ats ∧ (A = none → c = 0) ∧ ∀ b o t, A = some ⟨b, o, t⟩ → B ≤ b ∧ ∃ cs, Blk w b 3 cs
theorem FltN.below {w w' : World} {B : Nat} {v : Value} {code : Int} {ats : List Int} (h : FltN w B v code ats) (hb : Below w.heap.size w w') : FltN w' B v code ats :=
  let ⟨A, c, h1, h2, h3, h4⟩ := h
  ⟨A, c, h1, h2.below hb, h3, fun b o t h => let ⟨h5, cs, h6⟩ := h4 b o t h; ⟨h5, cs, h6.below hb⟩⟩
theorem FltN.v {w : World} {B : Nat} {v : Value} {code : Int} {ats : List Int} (h : FltN w B v code ats) : FltV w v code ats :=
  let ⟨A, c, h1, h2, h3, _⟩ := h
  ⟨A, c, h1, h2, h3⟩
theorem Blk.other {w : World} {g : Nat} {t : TypeId} {cs : Array Value} (h : Blk w g t cs) {a : Addr} (hne : g ≠ a.block) (u : Value) : Blk (w.setCell a u) g t cs := by
  unfold Blk at h ⊢
  rw [heap_setCell_other w a g u hne]
  exact h
def FltNRet (code : Int) (ats : List Int) (w : World) (e : Ending) (w' : World) : Prop := ∃ v, e = .returned v ∧ FltN w' w.heap.size v code ats ∧ Below w.heap.size w w'
theorem cell_new1 (w : World) (o : Obj) (cs : Array Value) (t : TypeId) (i : Nat) : ((w.alloc o).alloc (.cells cs t)).cell? ⟨w.heap.size + 1, i, none⟩ = cs[i]? := by
  have h := (Blk.new (w.alloc o) t cs).cell i
  rw [alloc_size] at h
  exact h
theorem below2 (w : World) (o p : Obj) : Below w.heap.size w ((w.alloc o).alloc p) := ((Below.refl _ _).alloc (Nat.le_refl _) _).alloc (by rw [alloc_size]; omega) _

theorem placed_any (code pos : Int) (w : World) (hc : code ≠ 0) : Calls Tryd.prog 47 #[.int .i64 code, .int .i64 pos] w (FltRet code [pos] w) := by
  have hq : (code == (0 : Int)) = false := by simp [hc]
  clear hc
  go_enter Tryd.func47, Tryd.ntmps47
  go_wp2_with fail
  go_returns
  exact ⟨_, rfl, ⟨some ⟨w.heap.size + 1, 0, none⟩, 1, rfl, rdl_one (cell_new1 w _ _ _ _), fun h => by cases h⟩, below2 _ _ _⟩

def ownI (B : Nat) (n : Int) : TT := ⟨fun v => ∃ g, v = .slice (some ⟨g, 0, none⟩) 1 1, ⟨_, 0, rfl⟩, fun v x => x.ownsRow B 3 1 v 1 [.int .i64 n], fun _ _ _ h hb => own_below h hb⟩
theorem infoInt : (Tryd.prog.info? 3).map (fun i => (i.zero, i.size, i.bytes)) = some (some (.int .i64 0), 1, 8) := by kernel_rfl
theorem intc_len (n : Int) : (intc n).length = 1 := rfl
theorem intc_one (n : Int) : ∀ u ∈ intc n, u.oneCell' = true := fun u h => by simp [intc] at h; subst h; rfl

set_option maxHeartbeats 2000000 in
theorem searound_any (code : Int) (pos : Int) (w : World) (hc : code ≠ 0) :
    Calls Tryd.prog 119 #[bareV code, .int .i64 pos] w (FltNRet code [pos] w) := by
  have hq : (code == (0 : Int)) = false := by simp [hc]
  clear hc
  unfold bareV
  obtain ⟨i0, hi, hz0, hz1, hz2⟩ := info_parts infoInt
  obtain ⟨W0, hW0⟩ : ∃ W0, W0 = (w.alloc (.cells #[.int .i64 code, .slice none 0 0] 57)).alloc (.cells #[.int .i64 0, .slice none 0 0] 57) := ⟨_, rfl⟩
  have hB1 : Blk W0 w.heap.size 57 #[.int .i64 code, .slice none 0 0] := by rw [hW0]; exact (Blk.new w _ _).below ((Below.refl _ _).alloc (Nat.le_refl _) _)
  have hB2 : Blk W0 (w.heap.size + 1) 57 #[.int .i64 0, .slice none 0 0] := by
    have h := Blk.new (w.alloc (.cells #[.int .i64 code, .slice none 0 0] 57)) 57 #[.int .i64 0, .slice none 0 0]
    rw [← hW0, alloc_size] at h
    exact h
  have hbW : Below w.heap.size w W0 := by rw [hW0]; exact below2 _ _ _
  have f0 := hB1.cell 0
  have f1 := hB1.cell 1
  have HB1 := Lib.hid hB1
  have HB2 := Lib.hid hB2
  clear hB1 hB2
  simp only [List.getElem?_toArray, List.getElem?_cons_zero, List.getElem?_cons_succ] at f0 f1
  go_enter Tryd.func119, Tryd.ntmps119
  go_upto_region 3 with (fail)
  rw [← hW0]
  have HW0 := Lib.hid hW0
  clear hW0
  apply wp_region_relA 7 [eqT _, eqT _, eqT _, ownI W0.heap.size pos, eqT _, eqT _, ownI W0.heap.size pos] (by kernel_rfl) (by kernel_rfl) (by kernel_rfl) rfl
  focus
    refine ⟨?_, ?_⟩
    focus
      unfold opGoal
      rw [if_pos (by kernel_rfl)]
      intro x hb hd K hk
      clear hd
      go_wp2_with fail
      exact hk _ _ rfl trivial (Below.refl _ _)
    rintro _ rfl
    simp only [Act.put, List.setIfInBounds_toArray, List.set_cons_succ, List.set_cons_zero]
    refine ⟨?_, ?_⟩
    focus
      unfold opGoal
      rw [if_pos (by kernel_rfl)]
      intro x hb hd K hk
      clear hd
      have l0 := cell_keep hb f0
      go_wp2_with fail
      exact hk _ _ rfl trivial (Below.refl _ _)
    rintro _ rfl
    simp only [Act.put, List.setIfInBounds_toArray, List.set_cons_succ, List.set_cons_zero]
    refine ⟨?_, ?_⟩
    focus
      unfold opGoal
      rw [if_pos (by kernel_rfl)]
      intro x hb hd K hk
      clear hd
      go_wp2_with fail
      exact hk _ _ rfl trivial (Below.refl _ _)
    rintro _ rfl
    simp only [Act.put, List.setIfInBounds_toArray, List.set_cons_succ, List.set_cons_zero]
    refine ⟨?_, ?_⟩
    focus
      unfold opGoal
      rw [if_pos (by kernel_rfl)]
      intro x hb hd K hk
      clear hd
      go_wp2_with fail
      refine hk _ _ ⟨_, rfl⟩ (World.ownsRow_lit x #[.int .i64 pos] 1 hb.size (by decide) rfl) ((Below.refl _ _).alloc (Nat.le_refl _) _)
    rintro _ ⟨g12, rfl⟩
    simp only [Act.put, List.setIfInBounds_toArray, List.set_cons_succ, List.set_cons_zero]
    refine ⟨?_, ?_⟩
    focus
      unfold opGoal
      rw [if_pos (by kernel_rfl)]
      intro x hb hd K hk
      clear hd
      go_wp2_with fail
      exact hk _ _ rfl trivial (Below.refl _ _)
    rintro _ rfl
    simp only [Act.put, List.setIfInBounds_toArray, List.set_cons_succ, List.set_cons_zero]
    refine ⟨?_, ?_⟩
    focus
      unfold opGoal
      rw [if_pos (by kernel_rfl)]
      intro x hb hd K hk
      clear hd
      have l0 := cell_keep hb f1
      go_wp2_with fail
      exact hk _ _ rfl trivial (Below.refl _ _)
    rintro _ rfl
    simp only [Act.put, List.setIfInBounds_toArray, List.set_cons_succ, List.set_cons_zero]
    refine ⟨?_, ?_⟩
    focus
      unfold opGoal
      rw [if_pos (by kernel_rfl)]
      intro x hb hd K hk
      have hown : x.ownsRow W0.heap.size 3 1 (.slice (some ⟨g12, 0, none⟩) 1 1) 1 [.int .i64 pos] := hd _ (List.mem_cons_self ..) rfl _ _ rfl rfl
      clear hd
      go_wp2_with fail
      exact hk _ _ ⟨_, rfl⟩ hown (Below.refl _ _)
    rintro _ ⟨g15, rfl⟩
    simp only [Act.put, List.setIfInBounds_toArray, List.set_cons_succ, List.set_cons_zero]
    intro x hbx hf
    simp only [List.drop_succ_cons, List.drop_zero]
    have hown : x.ownsRow W0.heap.size 3 1 (.slice (some ⟨g15, 0, none⟩) 1 1) 1 [.int .i64 pos] := hf 6 _ _ rfl rfl
    clear hf
    have hB := HB2.out.below hbx
    have z0 := hB.cell 0
    have z1 := hB.cell 1
    have q0 := hB.frozen 0
    have q1 := hB.frozen 1
    simp only [List.getElem?_toArray, List.getElem?_cons_zero, List.getElem?_cons_succ] at z0 z1
    have hB2 := (hB.set 0 (.int .i64 code)).set 1 (.slice (some ⟨g15, 0, none⟩) 1 1)
    have e0 := hB2.cell 0
    have e1 := hB2.cell 1
    have hc15 := hown.cellAt 0 (by decide)
    obtain ⟨cu15, hg, hu15⟩ : ∃ cs, W0.heap.size ≤ g15 ∧ Blk x g15 3 cs := by
      rcases hown.2 with ⟨h1, _⟩ | ⟨g, cap, cur, he, hbg, hgg, _⟩
      · cases h1
      · injection he with h1; injection h1 with h1; injection h1 with h1; subst h1; exact ⟨cur, hbg, hgg⟩
    have hW := HW0.out
    have hsz : W0.heap.size = w.heap.size + 2 := by rw [hW, alloc_size, alloc_size]
    have hbF : Below w.heap.size w ((x.setCell ⟨w.heap.size + 1, 0, none⟩ (.int .i64 code)).setCell ⟨w.heap.size + 1, 1, none⟩ (.slice (some ⟨g15, 0, none⟩) 1 1)) :=
      ((hbW.trans (hbx.mono (by omega))).setCell (by show w.heap.size ≤ w.heap.size + 1; omega) _).setCell (by show w.heap.size ≤ w.heap.size + 1; omega) _
    have e2 : ((x.setCell ⟨w.heap.size + 1, 0, none⟩ (.int .i64 code)).setCell ⟨w.heap.size + 1, 1, none⟩ (.slice (some ⟨g15, 0, none⟩) 1 1)).cell? ⟨g15, 0, none⟩ = some (.int .i64 pos) := by
      rw [World.cell?_setCell_other _ _ _ _ (by intro h; injection h with h; omega), World.cell?_setCell_other _ _ _ _ (by intro h; injection h with h; omega)]
      simpa using hc15
    simp only [List.getElem?_toArray, List.getElem?_cons_zero, List.getElem?_cons_succ, List.setIfInBounds_toArray, List.set_cons_succ, List.set_cons_zero] at e0 e1
    have E0 := Lib.hid e0
    have E1 := Lib.hid e1
    have E2 := Lib.hid e2
    have EF := Lib.hid hbF
    have HG := Lib.hid (show w.heap.size ≤ g15 ∧ ∃ cs, Blk ((x.setCell ⟨w.heap.size + 1, 0, none⟩ (.int .i64 code)).setCell ⟨w.heap.size + 1, 1, none⟩ (.slice (some ⟨g15, 0, none⟩) 1 1)) g15 3 cs from ⟨by omega, _, (hu15.other (by show g15 ≠ w.heap.size + 1; omega) _).other (by show g15 ≠ w.heap.size + 1; omega) _⟩)
    clear hbF e0 e1 e2 hc15 hB2 hg hu15 hW hsz
    go_wp2_with fail
    refine bodyPost_ret (v := .agg #[.int .i64 code, .slice (some ⟨g15, 0, none⟩) 1 1]) ?_ rfl ⟨_, rfl, ⟨some ⟨g15, 0, none⟩, 1, rfl, rdl_one E2.out, (fun h => by cases h), fun b o t h => by injection h with h; injection h with h; subst h; exact HG.out⟩, EF.out⟩
    have e0 := E0.out
    have e1 := E1.out
    generalize ((x.setCell ⟨w.heap.size + 1, 0, none⟩ (.int .i64 code)).setCell ⟨w.heap.size + 1, 1, none⟩ (.slice (some ⟨g15, 0, none⟩) 1 1)) = WF at *
    simp [results, Tryd.results119, go_sem, e0, e1]

theorem samefault_any (v u : Value) (c1 c2 : Int) (a b : List Int) (w : World) (hv : FltV w v c1 a) (hu : FltV w u c2 b) (ha : a.length ≤ 1000) (hb : b.length ≤ 1000) :
    Calls Tryd.prog 55 #[v, u] w (Ret w (.bool (c1 == c2 && SameI a b))) := by
  obtain ⟨A, ca, rfl, hra, _⟩ := hv
  obtain ⟨B, cb, rfl, hrb, _⟩ := hu
  obtain ⟨W0, hW0⟩ : ∃ W0, W0 = (w.alloc (.cells #[.int .i64 c1, .slice A a.length ca] 57)).alloc (.cells #[.int .i64 c2, .slice B b.length cb] 57) := ⟨_, rfl⟩
  have hbW : Below w.heap.size w W0 := by rw [hW0]; exact below2 _ _ _
  have HC := Lib.hid (sameints_any A B ca cb a b W0 (hra.below hbW) (hrb.below hbW) (by omega) (by omega))
  have hB1 : Blk W0 w.heap.size 57 #[.int .i64 c1, .slice A a.length ca] := by rw [hW0]; exact (Blk.new w _ _).below ((Below.refl _ _).alloc (Nat.le_refl _) _)
  have hB2 : Blk W0 (w.heap.size + 1) 57 #[.int .i64 c2, .slice B b.length cb] := by
    have h := Blk.new (w.alloc (.cells #[.int .i64 c1, .slice A a.length ca] 57)) 57 #[.int .i64 c2, .slice B b.length cb]
    rw [← hW0, alloc_size] at h
    exact h
  have f0 := hB1.cell 0
  have g0 := hB2.cell 0
  clear hB1 hB2
  simp only [List.getElem?_toArray, List.getElem?_cons_zero, List.getElem?_cons_succ] at f0 g0
  go_enter Tryd.func55, Tryd.ntmps55
  go_wp2_with fail
  rw [← hW0]
  clear hW0
  refine HC.out.mono ?_
  rintro e w1 ⟨rfl, hb1⟩
  have f0' := cell_keep hb1 f0
  have g0' := cell_keep hb1 g0
  have hbb := hbW.trans (hb1.mono hbW.size)
  clear HC f0 g0
  obtain ⟨q, hq⟩ : ∃ q, (c1 == c2) = q := ⟨_, rfl⟩
  have HQ := Lib.hid hq
  cases q
  all_goals
    go_wp2_with fail
    go_ret
    refine ⟨?_, hbb⟩
    rw [HQ.out]
    rfl
end Go.Proofs.YtpogngdddendiaaDoor

/- The walks over package patoissee's look-up of an error's number. What the package-level errors hold is a hypothesis. -/
set_option linter.unusedVariables false
set_option linter.unusedSimpArgs false
namespace Go.Proofs.YtpogngdddendiaaDoor
open Go.RowKit

/-- package api's errors, in the order of package patoissee -/
def gsE : List Nat := [5, 4, 6, 7, 8, 9, 10, 11, 12, 3, 0, 13, 14, 15, 16, 1, 2]
structure SenW (w : World) (L : List Addr) : Prop where
  len : L.length = 17
  var : ∀ (i g : Nat) (a : Addr), gsE[i]? = some g → L[i]? = some a → w.cell? ⟨g, 0, none⟩ = some (sentV a)
  blk : ∀ a ∈ L, ∃ t cs, Blk w a.block t cs
  inj : ∀ (i j : Nat) (a : Addr), L[i]? = some a → L[j]? = some a → i = j
theorem SenW.below {w w' : World} {L : List Addr} (h : SenW w L) (hb : Below w.heap.size w w') : SenW w' L :=
  ⟨h.len, fun i g a h1 h2 => cell_keep hb (h.var i g a h1 h2), fun a ha => (h.blk a ha).imp fun _ h2 => h2.imp fun _ h3 => h3.below hb, h.inj⟩

theorem infoPE : (Tryd.prog.info? 226).map (·.comparable) = some true := by kernel_rfl
theorem infoE : (Tryd.prog.info? 240).map (·.size) = some 1 := by kernel_rfl
theorem map_some {α β : Type} {o : Option α} {f : α → β} {b : β} (h : o.map f = some b) : ∃ a, o = some a ∧ f a = b := by
  cases o with
  | none => cases h
  | some a => exact ⟨a, rfl, by simpa using h⟩

theorem eql_sent (w : World) (a b : Addr) (ta tb : TypeId) (ca cb : Array Value) (ha : Blk w a.block ta ca) (hb : Blk w b.block tb cb) :
    (binOp .eql 25 (sentV a) (sentV b)).run Tryd.prog w = .ok (.bool (decide (a = b))) w := by
  obtain ⟨i, hi, hc⟩ := map_some infoPE
  obtain ⟨j, hj, hs⟩ := map_some infoE
  by_cases h : a = b
  · subst h
    rw [decide_eq_true rfl]
    exact run_eql_iface_ptr_same w a Tryd.underlying25 Tryd.underlying226 hi hc hj
  · rw [decide_eq_false h]
    exact run_eql_iface_ptr_other w Tryd.underlying25 Tryd.underlying226 hi hc hj (by rw [hs]; decide) h ha hb

theorem alike_any (a b : Addr) (w : World) (ta tb : TypeId) (ca cb : Array Value) (ha : Blk w a.block ta ca) (hb : Blk w b.block tb cb) :
    Calls Tryd.prog 143 #[sentV a, sentV b] w fun e w' => e = .returned (.bool (decide (a = b))) ∧ w' = w := by
  have hq := eql_sent w a b ta tb ca cb ha hb
  clear ha hb
  unfold sentV at *
  go_enter Tryd.func143, Tryd.ntmps143
  go_wp2_with fail
  go_ret
  exact ⟨rfl, rfl⟩

def senc (a : Addr) : List Value := [sentV a]
def SensRet (L : List Addr) (w : World) (e : Ending) (w' : World) : Prop := ∃ A c, e = .returned (.slice A 17 c) ∧ RdL w' 1 senc A L ∧ Below w.heap.size w w'
theorem senc_len (a : Addr) : (senc a).length = 1 := rfl

set_option maxHeartbeats 2000000 in
theorem sentinels_any (L : List Addr) (w : World) (h : SenW w L) : Calls Tryd.prog 142 #[] w (SensRet L w) := by
  obtain ⟨hlen, hvar, _, _⟩ := h
  match L, hlen with
  | [a0, a1, a2, a3, a4, a5, a6, a7, a8, a9, a10, a11, a12, a13, a14, a15, a16], _ =>
    have h0 := hvar 0 _ _ rfl rfl
    have h1 := hvar 1 _ _ rfl rfl
    have h2 := hvar 2 _ _ rfl rfl
    have h3 := hvar 3 _ _ rfl rfl
    have h4 := hvar 4 _ _ rfl rfl
    have h5 := hvar 5 _ _ rfl rfl
    have h6 := hvar 6 _ _ rfl rfl
    have h7 := hvar 7 _ _ rfl rfl
    have h8 := hvar 8 _ _ rfl rfl
    have h9 := hvar 9 _ _ rfl rfl
    have h10 := hvar 10 _ _ rfl rfl
    have h11 := hvar 11 _ _ rfl rfl
    have h12 := hvar 12 _ _ rfl rfl
    have h13 := hvar 13 _ _ rfl rfl
    have h14 := hvar 14 _ _ rfl rfl
    have h15 := hvar 15 _ _ rfl rfl
    have h16 := hvar 16 _ _ rfl rfl
    clear hvar
    have hrd := RdL.of_own (l := [a0, a1, a2, a3, a4, a5, a6, a7, a8, a9, a10, a11, a12, a13, a14, a15, a16]) senc_len (World.ownsRow_lit (base := w.heap.size) (e := 25) w #[sentV a0, sentV a1, sentV a2, sentV a3, sentV a4, sentV a5, sentV a6, sentV a7, sentV a8, sentV a9, sentV a10, sentV a11, sentV a12, sentV a13, sentV a14, sentV a15, sentV a16] 17 (Nat.le_refl _) (by decide) rfl) rfl
    obtain ⟨A, c, he, _, _, hr, _⟩ := hrd
    injection he with h1' _ h3'
    subst h1' h3'
    have HR := Lib.hid hr
    clear hr
    unfold sentV at *
    go_enter Tryd.func142, Tryd.ntmps142
    go_wp2_with fail
    go_ret
    exact ⟨_, _, rfl, HR.out, (Below.refl _ _).alloc (Nat.le_refl _) _⟩

set_option maxRecDepth 100000 in
set_option maxHeartbeats 2000000 in
theorem sentinel_any (L : List Addr) (w : World) (j : Nat) (a : Addr) (h : SenW w L) (hj : L[j]? = some a) : Calls Tryd.prog 120 #[sentV a] w (Ret w (.int .i64 (101 + j))) := by
  have HS := Lib.hid (sentinels_any L w h)
  have hlen := h.len
  have hj17 : j < 17 := by have := (List.getElem?_eq_some_iff.1 hj).1; omega
  have HJ := Lib.hid hj
  have HH := Lib.hid h
  clear hj h
  go_enter Tryd.func120, Tryd.ntmps120
  go_wp2_with fail
  refine HS.out.mono ?_
  rintro e w1 ⟨A, c, rfl, hrd, hb1⟩
  clear HS
  have HR := Lib.hid hrd
  have HL := Lib.hid hlen
  clear hrd hlen
  go_wp2_with fail
  go_loopw [4] (fun i wr => ∃ k : Nat, k ≤ j ∧ i = .int .i64 k ∧ w1 = wr) (fun i _ => 17 - (intOf i).toNat)
  case atStart => exact ⟨0, Nat.zero_le _, rfl, rfl⟩
  case round =>
    obtain ⟨k, hk, rfl, rfl⟩ := hrel
    have hkL : k < L.length := by rw [HL.out]; omega
    obtain ⟨b, o, rfl, _, hcell⟩ := HR.out k hkL
    have c0 := hcell 0 _ rfl
    have hS1 := HH.out.below hb1
    obtain ⟨tb, cb, hBb⟩ := hS1.blk L[k] (List.getElem_mem _)
    obtain ⟨ta, ca, hBa⟩ := hS1.blk a (List.mem_of_getElem? HJ.out)
    have HC := Lib.hid (alike_any a L[k] w1 ta tb ca cb hBa hBb)
    have hkj : (a = L[k]) ↔ k = j := by
      constructor
      · intro h
        exact hS1.inj k j a (by rw [List.getElem?_eq_getElem hkL, h]) HJ.out
      · rintro rfl
        exact (List.getElem?_eq_some_iff.1 HJ.out).2.symm
    have HK := Lib.hid hkj
    obtain ⟨y, hy⟩ : ∃ y, y = L[k] := ⟨_, rfl⟩
    rw [← hy] at HC HK c0
    clear hcell hS1 hBa hBb hkj hy hkL
    simp only [Nat.add_zero, Nat.mul_one] at c0
    unfold sentV at *
    by_cases hd : k = j
    · have hay := HK.out.2 hd
      subst hd
      rw [decide_eq_true hay] at HC
      clear hay HK
      go_wp2_with fail
      refine HC.out.mono ?_
      rintro e w2 ⟨rfl, rfl⟩
      go_wp2_with fail
      go_ret
      exact ⟨rfl, hb1⟩
    · have hay : a ≠ y := fun h => hd (HK.out.1 h)
      rw [decide_eq_false hay] at HC
      clear hay HK
      go_wp2_with fail
      refine HC.out.mono ?_
      rintro e w2 ⟨rfl, rfl⟩
      go_wp2_with fail
      go_roundw
      case rel => exact ⟨k + 1, by omega, by go_num, trivial⟩
      case measure => simp [intOf]; omega

end Go.Proofs.YtpogngdddendiaaDoor

/- The walks over package patoissee's fault, Fault, Same. What the package-level errors hold is a hypothesis. -/
set_option linter.unusedVariables false
set_option linter.unusedSimpArgs false
namespace Go.Proofs.YtpogngdddendiaaDoor
open Go.RowKit

theorem zeroPA : (Tryd.prog.info? 81).map (·.zero) = some (some (.pointer none)) := by kernel_rfl
theorem assert_at (v : Value) (xT : TypeId) (w : World) : (Instr.typeAssert (.iface 81 v) xT 81 true).run Tryd.prog w = .ok (.tuple #[v, .bool true]) w := by
  simp [Instr.typeAssert, run_underlying Tryd.underlying81]
theorem assert_es (v : Value) (xT : TypeId) (w : World) : (Instr.typeAssert (.iface 226 v) xT 81 true).run Tryd.prog w = .ok (.tuple #[.pointer none, .bool false]) w := by
  obtain ⟨j, hj, hz⟩ := map_some zeroPA
  simp [Instr.typeAssert, run_underlying Tryd.underlying81, zeroValue, typeInfo, hj, hz]

/-- An error that is no other around: fault tells its number. -/
theorem fault_sent (L : List Addr) (w : World) (j : Nat) (a : Addr) (left : Nat) (h : SenW w L) (hj : L[j]? = some a) (hl : 0 < left) (hl9 : left ≤ 9) :
    Calls Tryd.prog 88 #[sentV a, .int .i64 left] w (Ret w (bareV (101 + j))) := by
  have HS := Lib.hid fun W hb => sentinel_any L W j a (h.below hb) hj
  have hq : ((left : Int) == 0) = false := by rw [beq_eq_false_iff_ne]; omega
  have hA := assert_es
  clear h hj hl hl9
  unfold sentV at *
  go_enter Tryd.func88, Tryd.ntmps88
  go_wp2_with fail
  have hBn := Blk.new w 57 #[.int .i64 0, .slice none 0 0]
  have hb0 : Below w.heap.size w (w.alloc (.cells #[.int .i64 0, .slice none 0 0] 57)) := (Below.refl _ _).alloc (Nat.le_refl _) _
  refine (HS.out _ hb0).mono ?_
  rintro e w1 ⟨rfl, hb1⟩
  have HBn := Lib.hid hBn
  clear hBn HS
  go_wp2_with fail
  refine (bare_any _ w1).mono ?_
  rintro e w2 ⟨rfl, hb2⟩
  have hB := (HBn.out.below hb1).below hb2
  have z0 := hB.cell 0
  have z1 := hB.cell 1
  have q0 := hB.frozen 0
  have q1 := hB.frozen 1
  have hB2 := (hB.set 0 (.int .i64 (101 + j))).set 1 (.slice none 0 0)
  have e0 := hB2.cell 0
  have e1 := hB2.cell 1
  have hbF : Below w.heap.size w ((w2.setCell ⟨w.heap.size, 0, none⟩ (.int .i64 (101 + j))).setCell ⟨w.heap.size, 1, none⟩ (.slice none 0 0)) :=
    ((hb0.trans ((hb1.trans (hb2.mono hb1.size)).mono hb0.size)).setCell (Nat.le_refl _) _).setCell (Nat.le_refl _) _
  simp only [List.getElem?_toArray, List.getElem?_cons_zero, List.getElem?_cons_succ, List.setIfInBounds_toArray, List.set_cons_succ, List.set_cons_zero] at e0 e1 z0 z1
  have E0 := Lib.hid e0
  have E1 := Lib.hid e1
  have EF := Lib.hid hbF
  clear hbF e0 e1 hB2 hB
  unfold bareV
  go_wp2_with fail
  refine bodyPost_ret (v := .agg #[.int .i64 (101 + j), .slice none 0 0]) ?_ rfl ⟨rfl, EF.out⟩
  have e0 := E0.out
  have e1 := E1.out
  generalize ((w2.setCell ⟨w.heap.size, 0, none⟩ (.int .i64 (101 + j))).setCell ⟨w.heap.size, 1, none⟩ (.slice none 0 0)) = WF at *
  simp [results, Tryd.results88, go_sem, e0, e1]
end Go.Proofs.YtpogngdddendiaaDoor
