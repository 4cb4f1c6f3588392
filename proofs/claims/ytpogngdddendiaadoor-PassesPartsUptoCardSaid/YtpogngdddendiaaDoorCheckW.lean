/- The walk over core.look and core.Check: what they answer is nil just where the plain function finds nothing amiss, else an error with the place. Bounds on the lengths. -/
import Derived.Test.YtpogngdddendiaaDoorHE
import Derived.Test.YtpogngdddendiaaDoorHC
import Derived.Deep.DeepCutAuto
import Derived.Deep.CutBlock
import Derived.Outline
set_option linter.unusedVariables false
set_option linter.unusedSimpArgs false
namespace Go.Proofs.YtpogngdddendiaaDoor
open Go.RowKit

/-- What the variables of package api that core names hold. -/
structure ErrW (w : World) (aN aT aM : Addr) : Prop where
  node : w.cell? ⟨3, 0, none⟩ = some (.iface 226 (.pointer (some aN)))
  nest : w.cell? ⟨4, 0, none⟩ = some (.iface 226 (.pointer (some aT)))
  many : w.cell? ⟨0, 0, none⟩ = some (.iface 226 (.pointer (some aM)))
theorem ErrW.below {w w' : World} {aN aT aM : Addr} (h : ErrW w aN aT aM) (hb : Below w.heap.size w w') : ErrW w' aN aT aM :=
  ⟨cell_keep hb h.node, cell_keep hb h.nest, cell_keep hb h.many⟩

theorem at_any (i : Nat) (a : Addr) (w : World) : Calls Tryd.prog 62 #[.int .i64 i, .iface 226 (.pointer (some a))] w (AtRet i a w) := by
  go_enter Tryd.func62, Tryd.ntmps62
  go_wp2_with fail
  go_ret
  exact ⟨_, rfl, ⟨w.heap.size, rfl, Nat.le_refl _, by rw [cell_of_row _ _ _ _ _ _ (heap_alloc_new w _)]; rfl, by rw [cell_of_row _ _ _ _ _ _ (heap_alloc_new w _)]; rfl⟩, (Below.refl _ _).alloc (Nat.le_refl _) _⟩

/-- nil, or an error with its place. -/
def LookV (w : World) (B : Nat) (aN aT : Addr) : Option (Nat × Bool) → Value → Prop
  | none, v => v = .nilIface
  | some (i, nest), v => AtV w B i (if nest then aT else aN) v
def LookRet (r : Option (Nat × Bool)) (aN aT : Addr) (w : World) (e : Ending) (w' : World) : Prop := ∃ v, e = .returned v ∧ LookV w' w.heap.size aN aT r v ∧ Below w.heap.size w w'

theorem LookV.below {w w' : World} {B : Nat} {aN aT : Addr} {r : Option (Nat × Bool)} {v : Value} (h : LookV w B aN aT r v) (hb : Below w.heap.size w w') : LookV w' B aN aT r v := by
  cases r with
  | none => exact h
  | some z => obtain ⟨i, n⟩ := z; exact AtV.below h hb
theorem LookV.mono {w : World} {B B' : Nat} {aN aT : Addr} {r : Option (Nat × Bool)} {v : Value} (h : LookV w B aN aT r v) (hb : B' ≤ B) : LookV w B' aN aT r v := by
  cases r with
  | none => exact h
  | some z => obtain ⟨i, n⟩ := z; exact AtV.mono h hb
/-- An operation's value is nil, or such an error. -/
def lookT (B : Nat) (aN aT : Addr) (r : Option (Nat × Bool)) : TT := ⟨fun _ => True, ⟨undef, trivial⟩, fun v x => LookV x B aN aT r v, fun _ _ _ h hb => h.below hb⟩
/-- What the walk asks of the nodes. -/
def NdOk (x : Nd) : Prop := x.s.length ≤ 4000000 ∧ x.k ≤ 9223372036854775807

/-- What is claimed of look where d levels more may be. -/
def LookSaid (A : Option Addr) (cp : Nat) (L : List Nd) (aN aT aM : Addr) (d : Nat) : Prop := ∀ (i e : Nat) (word last : Bool) (w : World), i < e → e ≤ L.length → RdL w 5 ndc A L → ErrW w aN aT aM →
    Calls Tryd.prog 32 #[.slice A L.length cp, .int .i64 i, .int .i64 e, .int .i64 ((31 : Int) - d), .bool word, .bool last] w (LookRet (lookP L d i e word last) aN aT w)

set_option maxRecDepth 100000 in
set_option maxHeartbeats 8000000 in
theorem look_step (A : Option Addr) (cp : Nat) (L : List Nd) (aN aT aM : Addr) (hL : L.length ≤ 4000000) (hok : ∀ x ∈ L, NdOk x) (d : Nat) (hd : d ≤ 30) (ih : ∀ d', d = d' + 1 → LookSaid A cp L aN aT aM d') : LookSaid A cp L aN aT aM d := by
  intro i e word last w hie heL hrd hE
  obtain ⟨m, hml⟩ : ∃ m, m = L.length := ⟨_, rfl⟩
  have hiL : i < L.length := by omega
  obtain ⟨x, hx⟩ : ∃ x, x = L[i] := ⟨_, rfl⟩
  obtain ⟨hxs, hxk⟩ := hok x (by rw [hx]; exact List.getElem_mem _)
  obtain ⟨b, o, rfl, hbl⟩ := hrd.addr (by omega)
  have hcs := (hrd.at_ hiL).2
  rw [← hx] at hcs
  have hc0 := hcs 0 _ rfl
  have hc1 := hcs 1 _ rfl
  have hc2 := hcs 2 _ rfl
  have hc3 := hcs 3 _ rfl
  have hc4 := hcs 4 _ rfl
  simp only [Nat.add_zero] at hc0
  rw [← hml] at hL heL ⊢
  have him : i < m := by omega
  have HM := Lib.hid hml
  have HX := Lib.hid (show L[i]? = some x by rw [hx]; exact List.getElem?_eq_getElem hiL)
  have HIH := Lib.hid ih
  have HOK := Lib.hid hok
  have HFX := Lib.hid (fun W => fields_any x W hxs)
  have HCX := Lib.hid (fun W => children_any x W)
  have HWX := Lib.hid (fun W => word_any x.kind W)
  have HDX := Lib.hid (fun W => command_any x.kind W)
  obtain ⟨xkind, xn, xk, xsize, xs⟩ := x
  have HB := Lib.hid (show headBad ⟨xkind, xn, xk, xsize, xs⟩ ((e : Int) - i) word last = (!kindB word xkind || !fieldsB ⟨xkind, xn, xk, xsize, xs⟩ || !childrenB xkind xk || decide (xsize < 1) || decide (xsize > (e : Int) - i) || (last && xsize != (e : Int) - i)) from rfl)
  obtain ⟨H, hH⟩ : ∃ H, H = headBad ⟨xkind, xn, xk, xsize, xs⟩ ((e : Int) - i) word last := ⟨_, rfl⟩
  rw [← hH] at HB
  have HH := Lib.hid hH
  clear hml hx hcs ih hok hH
  simp only at hxs hxk hc0 hc1 hc2 hc3 hc4
  go_enter Tryd.func32, Tryd.ntmps32
  go_upto_region 2 with (fail)
  obtain ⟨W0, hW0⟩ : ∃ W0, W0 = w.alloc (.cells #[.int .i64 xkind, .int .i64 xn, .int .i64 xk, .int .i64 xsize, .string ⟨xs.toArray⟩] 98) := ⟨_, rfl⟩
  rw [← hW0]
  have hb0 : Below w.heap.size w W0 := by rw [hW0]; exact (Below.refl _ _).alloc (Nat.le_refl _) _
  have hblk : Blk W0 w.heap.size 98 #[.int .i64 xkind, .int .i64 xn, .int .i64 xk, .int .i64 xsize, .string ⟨xs.toArray⟩] := by rw [hW0]; exact Blk.new _ _ _
  clear hW0 hc0 hc1 hc2 hc3 hc4
  have x0 : W0.cell? ⟨w.heap.size, 0, none⟩ = some (.int .i64 xkind) := hblk.cell 0
  have x1 : W0.cell? ⟨w.heap.size, 1, none⟩ = some (.int .i64 xn) := hblk.cell 1
  have x2 : W0.cell? ⟨w.heap.size, 2, none⟩ = some (.int .i64 xk) := hblk.cell 2
  have x3 : W0.cell? ⟨w.heap.size, 3, none⟩ = some (.int .i64 xsize) := hblk.cell 3
  have x4 : W0.cell? ⟨w.heap.size, 4, none⟩ = some (.string ⟨xs.toArray⟩) := hblk.cell 4
  have HBLK := Lib.hid hblk
  clear hblk
  generalize hg0 : w.heap.size = g0 at x0 x1 x2 x3 x4 HBLK ⊢
  have HG0 := Lib.hid hg0
  clear hg0
  obtain ⟨kb, hkb⟩ : ∃ kb, kb = kindB word xkind := ⟨_, rfl⟩
  rw [← hkb] at HB
  have HKB := Lib.hid hkb
  clear hkb
  go_cut [14] (fun v wx => v = .bool kb ∧ W0 = wx)
  case first =>
    cases word
    · go_wp2_with fail
      refine (HDX.out _).mono ?_
      cases hq : commandB xkind
      all_goals
        have HQ := Lib.hid hq
        clear hq
        rintro e w1 ⟨rfl, rfl⟩
        go_wp2_with fail
        go_meet
        exact ⟨congrArg Value.bool (by rw [HKB.out]; exact HQ.out.symm), rfl⟩
    · go_wp2_with fail
      refine (HWX.out _).mono ?_
      cases hq : wordB xkind
      all_goals
        have HQ := Lib.hid hq
        clear hq
        rintro e w1 ⟨rfl, rfl⟩
        go_wp2_with fail
        go_meet
        exact ⟨congrArg Value.bool (by rw [HKB.out]; exact HQ.out.symm), rfl⟩
  case rest =>
  obtain ⟨rfl, rfl⟩ := hcut
  clear HWX HDX HKB
  go_upto_region 3 with (fail)
  go_cut [73] (fun v wx => v = .bool H ∧ Below W0.heap.size W0 wx)
  case first =>
    generalize fieldsB ⟨xkind, xn, xk, xsize, xs⟩ = fb at *
    generalize childrenB xkind xk = cb at *
    cases kb
    · go_wp2_with fail
      go_meet
      exact ⟨congrArg Value.bool (by rw [HB.out]; rfl), Below.refl _ _⟩
    go_wp2_with fail
    refine (HFX.out _).mono ?_
    cases fb
    · rintro e w1 ⟨rfl, hb1⟩
      go_wp2_with fail
      go_meet
      exact ⟨congrArg Value.bool (by rw [HB.out]; rfl), hb1⟩
    rintro e1 w1 ⟨rfl, hb1⟩
    have y0 := cell_keep hb1 x0
    have y1 := cell_keep hb1 x1
    have y2 := cell_keep hb1 x2
    have y3 := cell_keep hb1 x3
    have y4 := cell_keep hb1 x4
    go_wp2_with fail
    refine (HCX.out _).mono ?_
    cases cb
    · rintro e w2 ⟨rfl, hb2⟩
      go_wp2_with fail
      go_meet
      exact ⟨congrArg Value.bool (by rw [HB.out]; rfl), hb1.trans (hb2.mono hb1.size)⟩
    rintro e2 w2 ⟨rfl, hb2⟩
    replace hb1 := hb1.trans (hb2.mono hb1.size)
    have z3 := cell_keep hb2 y3
    clear y0 y1 y2 y3 y4 hb2 x0 x1 x2 x3 x4
    by_cases hs1 : xsize < 1
    · go_wp2_with fail
      go_meet
      exact ⟨congrArg Value.bool (by rw [HB.out]; simp [hs1]), hb1⟩
    by_cases hs2 : xsize > (e : Int) - i
    · go_wp2_with fail
      go_meet
      exact ⟨congrArg Value.bool (by rw [HB.out]; simp [hs1, hs2]), hb1⟩
    cases last
    · go_wp2_with fail
      go_meet
      exact ⟨congrArg Value.bool (by rw [HB.out]; simp [hs1, hs2]), hb1⟩
    · cases hs3 : (xsize != (e : Int) - i)
      all_goals
        go_wp2_with fail
        go_meet
        exact ⟨congrArg Value.bool (by rw [HB.out]; simp [hs1, hs2, hs3]), hb1⟩
  case rest =>
  obtain ⟨rfl, hb1⟩ := hcut
  have hbw := hb0.trans (hb1.mono hb0.size)
  replace hrd := hrd.below hbw
  replace hE := hE.below hbw
  replace x0 := cell_keep hb1 x0
  replace x1 := cell_keep hb1 x1
  replace x2 := cell_keep hb1 x2
  replace x3 := cell_keep hb1 x3
  replace x4 := cell_keep hb1 x4
  obtain ⟨eN, eT, _⟩ := id hE
  clear hb0 hb1 HFX HCX
  cases H
  case true =>
    go_wp2_with fail
    refine (at_any i aN _).mono ?_
    rintro e1 w1 ⟨v, rfl, hv, hb2⟩
    go_wp2_with fail
    go_ret
    exact ⟨v, rfl, by rw [lookP_bad HX.out HH.out.symm]; exact hv.mono hbw.size, hbw.trans (hb2.mono hbw.size)⟩
  case false =>
  have HHD := Lib.hid (headBad_false HH.out.symm)
  obtain ⟨_, _, hck, hs1, hs2, _⟩ := HHD.out
  simp only at hck hs1 hs2
  have hk0 := children_k hck
  clear hck
  obtain ⟨q, rfl⟩ : ∃ q : Nat, xsize = q := ⟨xsize.toNat, by omega⟩
  obtain ⟨K, rfl⟩ : ∃ K : Nat, xk = K := ⟨xk.toNat, by omega⟩
  have hq1 : 1 ≤ q := by omega
  have hq2 : i + q ≤ e := by omega
  have hK : K ≤ 9223372036854775807 := by omega
  have HQ := Lib.hid (show (i : Nat) + ((q : Int)).toNat = i + q by omega)
  obtain ⟨leaf, hleaf⟩ : ∃ leaf, leaf = (decide (K = 0) && decide (q ≠ 1)) := ⟨_, rfl⟩
  have HLF := Lib.hid hleaf
  clear hleaf hs1 hs2 hk0 hxk
  go_upto_region 6 with (fail)
  go_cut [88] (fun v wx => v = .bool leaf ∧ wc = wx)
  case first =>
    by_cases hk0 : K = 0
    · have hk1 : ((K : Int) == 0) = true := by rw [beq_iff_eq]; omega
      by_cases hq0 : q = 1
      · have hq3 : ((q : Int) != 1) = false := by rw [bne_eq_false_iff_eq]; omega
        have HL2 := Lib.hid (show leaf = false by rw [HLF.out]; simp [hq0])
        clear hk0 hq0
        go_wp2_with fail
        go_meet
        exact ⟨congrArg Value.bool HL2.out.symm, rfl⟩
      · have hq3 : ((q : Int) != 1) = true := by rw [bne_iff_ne]; omega
        have HL2 := Lib.hid (show leaf = true by rw [HLF.out]; simp [hk0, hq0])
        clear hk0 hq0
        go_wp2_with fail
        go_meet
        exact ⟨congrArg Value.bool HL2.out.symm, rfl⟩
    · have hk1 : ((K : Int) == 0) = false := by rw [beq_eq_false_iff_ne]; omega
      have HL2 := Lib.hid (show leaf = false by rw [HLF.out]; simp [hk0])
      clear hk0
      go_wp2_with fail
      go_meet
      exact ⟨congrArg Value.bool HL2.out.symm, rfl⟩
  case rest =>
  obtain ⟨rfl, rfl⟩ := hcut
  have hLF : leaf = true → ((K : Int) = 0 ∧ (q : Int) ≠ 1) := fun h => by
    have h2 := HLF.out
    rw [h] at h2
    simp only [eq_comm (a := true), Bool.and_eq_true, decide_eq_true_eq] at h2
    omega
  have hLF2 : leaf = false → ¬ ((K : Int) = 0 ∧ (q : Int) ≠ 1) := fun h => by
    have h2 := HLF.out
    rw [h] at h2
    simp only [eq_comm (a := false), Bool.and_eq_false_iff, decide_eq_false_iff_not] at h2
    omega
  have HLT := Lib.hid hLF
  have HLN := Lib.hid hLF2
  clear hLF hLF2 HLF
  cases leaf
  case true =>
    go_wp2_with fail
    refine (at_any i aN _).mono ?_
    rintro e1 w1 ⟨v, rfl, hv, hb2⟩
    go_wp2_with fail
    go_ret
    exact ⟨v, rfl, by rw [lookP_leaf HX.out HH.out.symm (HLT.out trivial)]; exact hv.mono hbw.size, hbw.trans (hb2.mono hbw.size)⟩
  case false =>
  have HNL := Lib.hid (HLN.out rfl)
  clear HLT HLN
  go_upto_block 0 with (fail)
  go_cut [16] (fun v wx => wc = wx ∧ Hid (preP L (i + q) K (i + 1) = false))
  case first =>
    go_wp2_with fail
    go_loopw [15, 16] (fun c j wr => ∃ kk cc : Nat, c = .int .i64 cc ∧ j = .int .i64 kk ∧ i + 1 + kk ≤ cc ∧ cc ≤ i + q ∧ wc = wr ∧ Hid (preP L (i + q) K (i + 1) = preP L (i + q) (K - kk) cc)) (fun c _ _ => i + q + 1 - (intOf c).toNat)
    case atStart => exact ⟨0, i + 1, by go_num, rfl, by omega, by omega, rfl, rfl⟩
    case round =>
      obtain ⟨kk, cc, rfl, rfl, hc1, hc2, rfl, HP⟩ := hrel
      by_cases hk : kk < K
      · by_cases hce : cc < i + q
        · have hcl : cc < m := by omega
          have hcl' : cc < L.length := by rw [← HM.out]; exact hcl
          have hcs := (hrd.at_ hcl').2 3 _ rfl
          obtain ⟨y, hy⟩ : ∃ y, y = L[cc] := ⟨_, rfl⟩
          rw [← hy] at hcs
          have HP1 := Lib.hid (show (y.size < 1 ∨ y.size > ((i + q : Nat) : Int) - cc) → preP L (i + q) K (i + 1) = false from fun h => by
            rw [HP.out, show K - kk = (K - (kk + 1)) + 1 by omega]
            exact preP_bad hce hcl' (by rw [← hy]; exact h))
          have HP2 := Lib.hid (show ¬ (y.size < 1 ∨ y.size > ((i + q : Nat) : Int) - cc) → preP L (i + q) K (i + 1) = preP L (i + q) (K - (kk + 1)) (cc + y.size.toNat) from fun h => by
            rw [HP.out, show K - kk = (K - (kk + 1)) + 1 by omega, preP_next hce hcl' (by rw [← hy]; exact h), ← hy])
          generalize y.size = sz at *
          clear hy hcl' HP
          by_cases hs1 : sz < 1
          · have HF := Lib.hid (HP1.out (.inl hs1))
            go_wp2_with fail
            go_meet
            exact ⟨rfl, HF⟩
          · by_cases hs2 : sz > (i : Int) + q - cc
            · have HF := Lib.hid (HP1.out (.inr (by omega)))
              go_wp2_with fail
              go_meet
              exact ⟨rfl, HF⟩
            · have HF := Lib.hid (HP2.out (by omega))
              obtain ⟨z, rfl⟩ : ∃ z : Nat, sz = z := ⟨sz.toNat, by omega⟩
              simp only [Int.toNat_natCast] at HF
              clear HP1 HP2
              go_wp2_with fail
              go_roundw
              case rel => exact ⟨kk + 1, cc + z, by go_num, by go_num, by omega, by omega, trivial, HF⟩
              case measure => simp [intOf]; omega
        · have HF := Lib.hid (show preP L (i + q) K (i + 1) = true by rw [HP.out, show K - kk = (K - (kk + 1)) + 1 by omega]; exact preP_end (by omega))
          clear HP
          go_wp2_with fail
          refine (at_any i aN _).mono ?_
          rintro e1 w1 ⟨v, rfl, hv, hb2⟩
          go_wp2_with fail
          go_ret
          exact ⟨v, rfl, by rw [lookP_pre HX.out HH.out.symm HNL.out (by rw [HQ.out]; exact HF.out)]; exact hv.mono hbw.size, hbw.trans (hb2.mono hbw.size)⟩
      · have HF := Lib.hid (show preP L (i + q) K (i + 1) = false by rw [HP.out, show K - kk = 0 by omega]; rfl)
        clear HP
        go_wp2_with fail
        go_meet
        exact ⟨rfl, HF⟩
  case rest =>
  obtain ⟨rfl, HP⟩ := hcut
  have HPR := Lib.hid (show preP L (i + ((q : Int)).toNat) ((K : Int)).toNat (i + 1) = false by rw [HQ.out]; exact HP.out)
  cases d with
  | zero =>
    go_wp2_with fail
    refine (at_any i aT _).mono ?_
    rintro e1 w1 ⟨v, rfl, hv, hb2⟩
    go_wp2_with fail
    go_ret
    exact ⟨v, rfl, by rw [lookP_deep HX.out HH.out.symm HNL.out HPR.out]; exact hv.mono hbw.size, hbw.trans (hb2.mono hbw.size)⟩
  | succ d =>
    have HS := Lib.hid (HIH.out d rfl)
    have HLK := Lib.hid (lookP_kids (d := d) HX.out HH.out.symm HNL.out HPR.out)
    clear HIH HPR HNL
    simp only [Int.toNat_natCast, HQ.out] at HLK
    go_wp2_with fail
    go_loopw [15, 139] (fun c j wr => ∃ kk cc : Nat, c = .int .i64 cc ∧ j = .int .i64 kk ∧ kk ≤ K ∧ kk ≤ cc ∧ cc ≤ i + q ∧ Below wc.heap.size wc wr ∧ Hid (preP L (i + q) (K - kk) cc = false) ∧
        Hid (lookP L (d + 1) i e word last = kidsP (fun k c => lookP L d c (i + q) (takesB xkind K k) (decide ((k : Int) = K - 1))) L (K - kk) kk cc)) (fun c j _ => (K - (intOf j).toNat))
    case atStart => exact ⟨0, i + 1, by go_num, rfl, Nat.zero_le _, Nat.zero_le _, by omega, Below.refl _ _, HP, HLK⟩
    case round =>
      obtain ⟨kk, cc, rfl, rfl, hk1, hk2, hc2, hbr, HPC, HLC⟩ := hrel
      by_cases hk : kk < K
      · have HKS := Lib.hid (show K - kk = (K - (kk + 1)) + 1 by omega)
        have hce : cc < i + q := by
          rcases Nat.lt_or_ge cc (i + q) with h | h
          · exact h
          · have h2 := HPC.out
            rw [HKS.out, preP_end h] at h2
            cases h2
        have hcl : cc < m := by omega
        have hcl' : cc < L.length := by rw [← HM.out]; exact hcl
        have hiqL : i + q ≤ L.length := by rw [← HM.out]; omega
        have hrd2 := hrd.below hbr
        have hE2 := hE.below hbr
        have TK := Lib.hid (fun W => takes_any ⟨xkind, xn, K, q, xs⟩ kk W (by simp only; omega) (by simp only; omega) (by omega))
        simp only at TK
        have y0 := cell_keep hbr x0
        have y1 := cell_keep hbr x1
        have y2 := cell_keep hbr x2
        have y3 := cell_keep hbr x3
        have y4 := cell_keep hbr x4
        obtain ⟨tk, htk⟩ : ∃ tk, tk = takesB xkind K kk := ⟨_, rfl⟩
        obtain ⟨lb, hlb⟩ : ∃ lb, lb = decide ((kk : Int) = K - 1) := ⟨_, rfl⟩
        obtain ⟨r, hr⟩ : ∃ r, r = lookP L d cc (i + q) tk lb := ⟨_, rfl⟩
        have SK := Lib.hid (show ∀ W, RdL W 5 ndc (some ⟨b, o, none⟩) L → ErrW W aN aT aM → Calls Tryd.prog 32 #[.slice (some ⟨b, o, none⟩) m cp, .int .i64 cc, .int .i64 ((i : Int) + q), .int .i64 ((31 : Int) - ((d : Int) + 1) + 1), .bool tk, .bool lb] W (LookRet r aN aT W) from fun W h1 h2 => by
          have h3 := HS.out cc (i + q) tk lb W hce hiqL h1 h2
          rw [← hr, ← HM.out, Int.natCast_add] at h3
          rw [show (31 : Int) - ((d : Int) + 1) + 1 = 31 - (d : Int) by omega]
          exact h3)
        rw [← htk] at TK
        have hlb2 : ((kk : Int) == (K : Int) - 1) = lb := by rw [hlb]; rfl
        have HR1 := Lib.hid (show ∀ z, r = some z → lookP L (d + 1) i e word last = some z from fun z hz => by
          rw [HLC.out, HKS.out]
          exact kidsP_some (by rw [← htk, ← hlb, ← hr, hz]))
        have HR0 := Lib.hid (show r = none → (lookP L (d + 1) i e word last = kidsP (fun k c => lookP L d c (i + q) (takesB xkind K k) (decide ((k : Int) = K - 1))) L (K - (kk + 1)) (kk + 1) (cc + L[cc].size.toNat) ∧ 1 ≤ L[cc].size ∧ L[cc].size ≤ ((i + q : Nat) : Int) - cc ∧ preP L (i + q) (K - (kk + 1)) (cc + L[cc].size.toNat) = false) from fun hz => by
          have hf := lookP_fits (d := d) (e := i + q) (word := tk) (last := lb) hcl' (by rw [← hr, hz])
          refine ⟨?_, hf.1, hf.2.1, ?_⟩
          · rw [HLC.out, HKS.out]
            exact kidsP_none (by rw [← htk, ← hlb, ← hr, hz]) hcl'
          · have h2 := HPC.out
            rw [HKS.out, preP_next hce hcl' (by omega)] at h2
            exact h2)
        clear htk hlb hr
        go_upto_region 21 with (fail)
        go_cut [18] (fun v wx => LookV wx wr.heap.size aN aT r v ∧ Below wr.heap.size wr wx)
        case first =>
          apply wp_region_rel [eqT _, eqT _, eqT _, eqT _, eqT _, eqT _, eqT _, eqT _, eqT _, eqT _, eqT _, eqT _, eqT _, lookT wr.heap.size aN aT r, lookT wr.heap.size aN aT r] (by kernel_rfl) (by kernel_rfl) rfl
          focus
            refine ⟨?_, ?_⟩
            focus
              unfold opGoal
              rw [if_pos (by kernel_rfl)]
              intro x hb hd K hk
              clear hd
              go_wp2_with fail
              exact hk _ _ rfl trivial (Below.refl _ _)
            rintro _ rfl
            simp only [Act.put, List.setIfInBounds_toArray, List.set_cons_succ, List.set_cons_zero]
            refine ⟨?_, ?_⟩
            focus
              unfold opGoal
              rw [if_pos (by kernel_rfl)]
              intro x hb hd K hk
              clear hd
              go_wp2_with fail
              exact hk _ _ rfl trivial (Below.refl _ _)
            rintro _ rfl
            simp only [Act.put, List.setIfInBounds_toArray, List.set_cons_succ, List.set_cons_zero]
            refine ⟨?_, ?_⟩
            focus
              unfold opGoal
              rw [if_pos (by kernel_rfl)]
              intro x hb hd K hk
              clear hd
              go_wp2_with fail
              exact hk _ _ rfl trivial (Below.refl _ _)
            rintro _ rfl
            simp only [Act.put, List.setIfInBounds_toArray, List.set_cons_succ, List.set_cons_zero]
            refine ⟨?_, ?_⟩
            focus
              unfold opGoal
              rw [if_pos (by kernel_rfl)]
              intro x hb hd K hk
              clear hd
              go_wp2_with fail
              exact hk _ _ rfl trivial (Below.refl _ _)
            rintro _ rfl
            simp only [Act.put, List.setIfInBounds_toArray, List.set_cons_succ, List.set_cons_zero]
            refine ⟨?_, ?_⟩
            focus
              unfold opGoal
              rw [if_pos (by kernel_rfl)]
              intro x hb hd K hk
              clear hd
              go_wp2_with fail
              exact hk _ _ rfl trivial (Below.refl _ _)
            rintro _ rfl
            simp only [Act.put, List.setIfInBounds_toArray, List.set_cons_succ, List.set_cons_zero]
            refine ⟨?_, ?_⟩
            focus
              unfold opGoal
              rw [if_pos (by kernel_rfl)]
              intro x hb hd K hk
              clear hd
              have l0 := cell_keep hb y0
              have l1 := cell_keep hb y1
              have l2 := cell_keep hb y2
              have l3 := cell_keep hb y3
              have l4 := cell_keep hb y4
              go_wp2_with fail
              exact hk _ _ rfl trivial (Below.refl _ _)
            rintro _ rfl
            simp only [Act.put, List.setIfInBounds_toArray, List.set_cons_succ, List.set_cons_zero]
            refine ⟨?_, ?_⟩
            focus
              unfold opGoal
              rw [if_pos (by kernel_rfl)]
              intro x hb hd K hk
              clear hd
              go_wp2_with fail
              exact hk _ _ rfl trivial (Below.refl _ _)
            rintro _ rfl
            simp only [Act.put, List.setIfInBounds_toArray, List.set_cons_succ, List.set_cons_zero]
            refine ⟨?_, ?_⟩
            focus
              unfold opGoal
              rw [if_pos (by kernel_rfl)]
              intro x hb hd K hk
              clear hd
              go_wp2_with fail
              refine (Hid.out TK x).mono ?_
              rintro e x' ⟨rfl, hb'⟩
              exact hk _ _ rfl trivial hb'
            rintro _ rfl
            simp only [Act.put, List.setIfInBounds_toArray, List.set_cons_succ, List.set_cons_zero]
            refine ⟨?_, ?_⟩
            focus
              unfold opGoal
              rw [if_pos (by kernel_rfl)]
              intro x hb hd K hk
              clear hd
              go_wp2_with fail
              exact hk _ _ rfl trivial (Below.refl _ _)
            rintro _ rfl
            simp only [Act.put, List.setIfInBounds_toArray, List.set_cons_succ, List.set_cons_zero]
            refine ⟨?_, ?_⟩
            focus
              unfold opGoal
              rw [if_pos (by kernel_rfl)]
              intro x hb hd K hk
              clear hd
              go_wp2_with fail
              exact hk _ _ rfl trivial (Below.refl _ _)
            rintro _ rfl
            simp only [Act.put, List.setIfInBounds_toArray, List.set_cons_succ, List.set_cons_zero]
            refine ⟨?_, ?_⟩
            focus
              unfold opGoal
              rw [if_pos (by kernel_rfl)]
              intro x hb hd K hk
              clear hd
              have l0 := cell_keep hb y2
              go_wp2_with fail
              exact hk _ _ rfl trivial (Below.refl _ _)
            rintro _ rfl
            simp only [Act.put, List.setIfInBounds_toArray, List.set_cons_succ, List.set_cons_zero]
            refine ⟨?_, ?_⟩
            focus
              unfold opGoal
              rw [if_pos (by kernel_rfl)]
              intro x hb hd K hk
              clear hd
              go_wp2_with fail
              exact hk _ _ rfl trivial (Below.refl _ _)
            rintro _ rfl
            simp only [Act.put, List.setIfInBounds_toArray, List.set_cons_succ, List.set_cons_zero]
            refine ⟨?_, ?_⟩
            focus
              unfold opGoal
              rw [if_pos (by kernel_rfl)]
              intro x hb hd K hk
              clear hd
              go_wp2_with fail
              exact hk _ _ rfl trivial (Below.refl _ _)
            rintro _ rfl
            simp only [Act.put, List.setIfInBounds_toArray, List.set_cons_succ, List.set_cons_zero]
            refine ⟨?_, ?_⟩
            focus
              unfold opGoal
              rw [if_pos (by kernel_rfl)]
              intro x hb hd K hk
              clear hd
              go_wp2_with fail
              refine (SK.out x (hrd2.below hb) (hE2.below hb)).mono ?_
              rintro e9 w9 ⟨v, rfl, hv, hb9⟩
              exact hk _ _ trivial (hv.mono hb.size) hb9
            rintro v9 _
            simp only [Act.put, List.setIfInBounds_toArray, List.set_cons_succ, List.set_cons_zero]
            refine ⟨?_, ?_⟩
            focus
              unfold opGoal
              rw [if_pos (by kernel_rfl)]
              intro x hb hd K hk
              have hv := hd _ (List.mem_cons_self ..) rfl _ _ rfl rfl
              clear hd
              go_wp2_with fail
              exact hk _ _ trivial hv (Below.refl _ _)
            rintro v10 _
            simp only [Act.put, List.setIfInBounds_toArray, List.set_cons_succ, List.set_cons_zero]
            intro x hb hall
            have hv : LookV x wr.heap.size aN aT r v10 := hall 14 _ _ rfl rfl
            clear hall
            go_wp2_with fail
            go_meet
            exact ⟨hv, hb⟩
        case rest =>
        obtain ⟨hv, hb2⟩ := hcut
        have hsz := (hbw.trans (hbr.mono hbw.size)).size
        replace hbr := hbr.trans (hb2.mono hbr.size)
        cases r with
        | none =>
          obtain ⟨hl1, hl2, hl3, hl4⟩ := HR0.out rfl
          have hcs := cell_keep hbr ((hrd.at_ hcl').2 3 _ rfl)
          have HL1 := Lib.hid hl1
          have HL4 := Lib.hid hl4
          clear hl1 hl4 HR0 HR1
          generalize L[cc].size = sz at *
          obtain ⟨z, rfl⟩ : ∃ z : Nat, sz = z := ⟨sz.toNat, by omega⟩
          simp only [Int.toNat_natCast] at HL1 HL4
          have hz1 : cc + z ≤ i + q := by omega
          have hz2 : 1 ≤ z := by omega
          clear hl2 hl3 HPC HLC
          obtain rfl : _ = Value.nilIface := hv
          go_wp2_with fail
          go_roundw
          case rel => exact ⟨kk + 1, cc + z, by go_num, by go_num, by omega, by omega, by omega, hbr, HL4, HL1⟩
          case measure => simp [intOf]; omega
        | some z =>
          have HZ := Lib.hid (HR1.out z rfl)
          obtain ⟨zi, zn⟩ := z
          obtain ⟨g, rfl, hg1, hg2, hg3⟩ := hv
          go_wp2_with fail
          go_ret
          exact ⟨_, rfl, by rw [HZ.out]; exact ⟨g, rfl, Nat.le_trans hsz hg1, hg2, hg3⟩, hbw.trans (hbr.mono hbw.size)⟩
      · obtain rfl : kk = K := by omega
        have HZ := Lib.hid (show lookP L (d + 1) i e word last = none by rw [HLC.out, Nat.sub_self]; rfl)
        clear HLC HPC
        go_wp2_with fail
        go_ret
        exact ⟨_, rfl, by rw [HZ.out]; exact rfl, hbw.trans (hbr.mono hbw.size)⟩

theorem look_any (A : Option Addr) (cp : Nat) (L : List Nd) (aN aT aM : Addr) (hL : L.length ≤ 4000000) (hok : ∀ x ∈ L, NdOk x) : ∀ (d : Nat), d ≤ 30 → LookSaid A cp L aN aT aM d := by
  intro d
  induction d with
  | zero => exact fun hd => look_step A cp L aN aT aM hL hok 0 hd fun d' h => by omega
  | succ d ih =>
    intro hd
    refine look_step A cp L aN aT aM hL hok (d + 1) hd fun d' h => ?_
    have hdd : d' = d := by omega
    rw [hdd]
    exact ih (by omega)

def CheckRet (L : List Nd) (aN aT aM : Addr) (w : World) (e : Ending) (w' : World) : Prop :=
  ∃ v, e = .returned v ∧ (if manyB L = true then v = .iface 226 (.pointer (some aM)) else LookV w' w.heap.size aN aT (checkP L) v) ∧ Below w.heap.size w w'

set_option maxHeartbeats 1000000 in
theorem check_any (A : Option Addr) (cp : Nat) (L : List Nd) (aN aT aM : Addr) (w : World) (hL : L.length ≤ 4000000) (hok : ∀ x ∈ L, NdOk x) (hrd : RdL w 5 ndc A L) (hE : ErrW w aN aT aM) :
    Calls Tryd.prog 9 #[.slice A L.length cp] w (CheckRet L aN aT aM w) := by
  have eM := hE.many
  obtain ⟨m, hm⟩ : ∃ m, m = L.length := ⟨_, rfl⟩
  by_cases hm0 : L.length = 0
  · have HB := Lib.hid (show manyB L = true by simp [manyB, hm0])
    have hz : ((m : Int) == 0) = true := by rw [beq_iff_eq]; omega
    rw [← hm]
    clear hm0 hm
    go_enter Tryd.func9, Tryd.ntmps9
    go_wp2_with fail
    go_ret
    exact ⟨_, rfl, by rw [if_pos HB.out]; rfl, Below.refl _ _⟩
  · have hz : ((m : Int) == 0) = false := by rw [beq_eq_false_iff_ne]; omega
    by_cases hm3 : 3000 < L.length
    · have HB := Lib.hid (show manyB L = true by simp [manyB, hm3])
      rw [← hm] at hm3 ⊢
      clear hm0 hm
      go_enter Tryd.func9, Tryd.ntmps9
      go_wp2_with fail
      go_ret
      exact ⟨_, rfl, by rw [if_pos HB.out]; rfl, Below.refl _ _⟩
    · have HB := Lib.hid (show ¬ manyB L = true by simp [manyB, hm3]; exact fun h => hm0 (by simp [h]))
      have HC := Lib.hid (look_any A cp L aN aT aM hL hok 30 (Nat.le_refl _) 0 L.length false true w (by omega) (Nat.le_refl _) hrd hE)
      rw [← hm] at hm3 ⊢
      have hm4 : decide ((3000 : Int) < m) = false := decide_eq_false (by omega)
      clear hm0
      have HMM := Lib.hid hm
      clear hm
      go_enter Tryd.func9, Tryd.ntmps9
      go_wp2_with fail
      have hC := HC.out
      rw [← HMM.out] at hC
      refine hC.mono ?_
      rintro e w1 ⟨v, rfl, hv, hb⟩
      go_wp2_with fail
      go_ret
      exact ⟨v, rfl, by rw [if_neg HB.out]; show LookV _ _ _ _ (lookP L 30 0 L.length false true) v; rw [← HMM.out]; exact hv, hb⟩
end Go.Proofs.YtpogngdddendiaaDoor
