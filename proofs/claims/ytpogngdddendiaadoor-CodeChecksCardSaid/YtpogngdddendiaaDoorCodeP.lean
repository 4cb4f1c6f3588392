/- The walks over code.together and code.Print, quote's contract given. -/
import Derived.Test.YtpogngdddendiaaDoorCodeI
set_option linter.unusedVariables false
set_option linter.unusedSimpArgs false
namespace Go.Proofs.YtpogngdddendiaaDoor
open Go.RowKit

theorem lineL_len (x : Ins) (q : List UInt8) (ha : InI x.a) (hb : InI x.b) (hq : q.length ≤ 20000) : (lineL q x).length ≤ 20200 := by
  have h1 := name_len x.op
  have h2 := Lib.itoa_length_le x.a ha.1 ha.2
  have h3 := Lib.itoa_length_le x.b hb.1 hb.2
  unfold lineL
  split
  · simp only [List.length_append, List.length_cons, List.length_nil]; omega
  · simp only [List.length_append, List.length_cons, List.length_nil]; omega
def linesL (qf : List UInt8 → List UInt8) (X : List Ins) : List UInt8 := X.flatMap (fun x => lineL (qf x.s) x)
theorem linesL_snoc (qf : List UInt8 → List UInt8) (X : List Ins) (k : Nat) (h : k < X.length) : linesL qf (X.take (k + 1)) = linesL qf (X.take k) ++ lineL (qf X[k].s) X[k] := by
  unfold linesL
  rw [List.take_succ_eq_append_getElem h, List.flatMap_append]
  simp
def QuoteIn (qf : List UInt8 → List UInt8) (X : List Ins) (w : World) : Prop :=
  ∀ x ∈ X, InI x.a ∧ InI x.b ∧ (qf x.s).length ≤ 20000 ∧ (x.s ≠ [] → ∀ W, Below w.heap.size w W → Calls Tryd.prog 140 #[.string ⟨x.s.toArray⟩] W (Ret W (.string ⟨(qf x.s).toArray⟩)))
theorem QuoteIn.below {qf : List UInt8 → List UInt8} {X : List Ins} {w w' : World} (h : QuoteIn qf X w) (hb : Below w.heap.size w w') : QuoteIn qf X w' := by
  intro x hx
  obtain ⟨h1, h2, h3, h4⟩ := h x hx
  exact ⟨h1, h2, h3, fun hs W hW => h4 hs W (hb.trans (hW.mono hb.size))⟩
theorem linesL_len (qf : List UInt8 → List UInt8) (X : List Ins) (w : World) (h : QuoteIn qf X w) : (linesL qf X).length ≤ 20200 * X.length := by
  induction X with
  | nil => simp [linesL]
  | cons x X ih =>
    have hx := h x (by simp)
    have h1 := lineL_len x (qf x.s) hx.1 hx.2.1 hx.2.2.1
    have h2 := ih (fun y hy => h y (by simp [hy]))
    have e : linesL qf (x :: X) = lineL (qf x.s) x ++ linesL qf X := rfl
    rw [e, List.length_append, List.length_cons]
    omega
set_option maxRecDepth 100000 in
set_option maxHeartbeats 4000000 in
theorem ctogether_any (head : List UInt8) (X : List Ins) (A : Option Addr) (c : Nat) (qf : List UInt8 → List UInt8) (w : World) (hh : head.length ≤ 1000) (hlen : X.length ≤ 9000) (hrd : RdL w 4 insc A X) (hp : PowI w) (hQ : QuoteIn qf X w) :
    Calls Tryd.prog 86 #[.string ⟨head.toArray⟩, .slice A X.length c] w (Ret w (.string ⟨(head ++ linesL qf X).toArray⟩)) := by
  have HRD := Lib.hid hrd
  have HP := Lib.hid hp
  have HQ := Lib.hid hQ
  obtain ⟨m, hm⟩ : ∃ m, X.length = m := ⟨_, rfl⟩
  have HM := Lib.hid hm
  have HTOT := Lib.hid (linesL_len qf X w hQ)
  rw [hm] at hlen ⊢
  clear hrd hp hQ hm
  go_enter Tryd.func86, Tryd.ntmps86
  go_wp2_with fail
  have hB0 := Bld.fresh w
  have hb0 : Below w.heap.size w (w.alloc (.cells #[.pointer none, .slice none 0 0] 158)) := (Below.refl _ _).alloc (Nat.le_refl _) _
  refine (writeString_any _ _ [] head _ hB0 (by simp; omega) hb0.size).mono ?_
  rintro e w1 ⟨rfl, hB1, hb1⟩
  have HB1 := Lib.hid (show Bld w.heap.size w.heap.size (head ++ linesL qf (X.take 0)) w1 by simpa [linesL] using hB1)
  have HR1 := Lib.hid (hb0.trans hb1)
  clear hB0 hb0 hB1 hb1
  go_wp2_with fail
  go_loopw [12] (fun i wr => ∃ k : Nat, k ≤ m ∧ i = .int .i64 k ∧ Hid (Bld w.heap.size w.heap.size (head ++ linesL qf (X.take k)) wr) ∧ Hid (Below w.heap.size w wr)) (fun i _ => m - (intOf i).toNat)
  case atStart => exact ⟨0, Nat.zero_le _, rfl, HB1, HR1⟩
  case round =>
    obtain ⟨k, hk, rfl, HB, HR⟩ := hrel
    by_cases hlt : k < m
    · have hkL : k < X.length := by rw [HM.out]; exact hlt
      obtain ⟨b, o, rfl, _, hcell⟩ := (HRD.out.below HR.out) k hkL
      have HSN := Lib.hid (linesL_snoc qf X k hkL)
      have hxx := HQ.out.below HR.out X[k] (List.getElem_mem _)
      obtain ⟨x, hx⟩ : ∃ x, x = X[k] := ⟨_, rfl⟩
      rw [← hx] at hcell hxx HSN
      have c0 := hcell 0 _ rfl
      have c1 := hcell 1 _ rfl
      have c2 := hcell 2 _ rfl
      have c3 := hcell 3 _ rfl
      simp only [Nat.add_zero] at c0
      have hl1 := lineL_len x (qf x.s) hxx.1 hxx.2.1 hxx.2.2.1
      have HL1 := Lib.hid hl1
      have HXX := Lib.hid hxx
      have HTK := Lib.hid (show (head ++ linesL qf (X.take k)).length ≤ 1000 + 20200 * 9000 by
        have := linesL_len qf (X.take k) w (fun y hy => HQ.out y (List.mem_of_mem_take hy))
        rw [List.length_take] at this
        rw [List.length_append]
        omega)
      clear hcell hkL hx hxx hl1
      go_upto_region 6 with (fail)
      obtain ⟨W3, hW3⟩ : ∃ W3, W3 = wr.alloc (.cells #[.int .i64 x.op, .int .i64 x.a, .int .i64 x.b, .string ⟨x.s.toArray⟩] 36) := ⟨_, rfl⟩
      have hb3 : Below wr.heap.size wr W3 := by rw [hW3]; exact (Below.refl _ _).alloc (Nat.le_refl _) _
      have hB3 : Blk W3 wr.heap.size 36 #[.int .i64 x.op, .int .i64 x.a, .int .i64 x.b, .string ⟨x.s.toArray⟩] := by rw [hW3]; exact Blk.new wr _ _
      have p0 := hB3.cell 0
      have p1 := hB3.cell 1
      have p2 := hB3.cell 2
      have p3 := hB3.cell 3
      simp only [List.getElem?_toArray, List.getElem?_cons_zero, List.getElem?_cons_succ] at p0 p1 p2 p3
      have hlc := line_any x (qf x.s) W3 HXX.out.1 HXX.out.2.1 HXX.out.2.2.1 (HP.out.below (HR.out.trans (hb3.mono HR.out.size))) (fun hs W hW => HXX.out.2.2.2 hs W (hb3.trans (hW.mono hb3.size)))
      have HLC := Lib.hid hlc
      have HB3 := Lib.hid (HB.out.below hb3)
      have HR3 := Lib.hid (HR.out.trans (hb3.mono HR.out.size))
      rw [← hW3]
      clear hb3 hB3 hW3 c0 c1 c2 c3 hlc
      generalize wr.heap.size = gi at *
      obtain ⟨ll, hll⟩ : ∃ ll, lineL (qf x.s) x = ll := ⟨_, rfl⟩
      rw [hll] at HSN HL1 HLC
      clear hll HXX
      obtain ⟨tk, htk⟩ : ∃ tk, head ++ linesL qf (X.take k) = tk := ⟨_, rfl⟩
      have HNX := Lib.hid (show head ++ linesL qf (X.take (k + 1)) = tk ++ ll by rw [HSN.out, ← htk]; simp)
      rw [htk] at HB3 HTK
      clear htk HSN
      go_wp2_with fail
      refine HLC.out.mono ?_
      rintro e w4 ⟨rfl, hb4⟩
      have hB4 := HB3.out.below hb4
      have HR4 := Lib.hid (HR3.out.trans (hb4.mono HR3.out.size))
      go_wp2_with fail
      refine (writeString_any _ _ tk ll _ hB4 (by have := HTK.out; have := HL1.out; omega) HR4.out.size).mono ?_
      rintro e w5 ⟨rfl, hB5, hb5⟩
      have HB5 := Lib.hid hB5
      have HR5 := Lib.hid (HR4.out.trans hb5)
      clear hB4 hb4 hB5 hb5
      go_wp2_with fail
      go_roundw
      case rel => exact ⟨k + 1, by omega, by go_num, Lib.hid (by rw [HNX.out]; exact HB5.out), HR5⟩
      case measure => simp [intOf]; omega
    · obtain rfl : k = m := by omega
      have HF := Lib.hid (show X.take k = X from List.take_of_length_le (by rw [HM.out]; exact Nat.le_refl _))
      go_wp2_with fail
      refine (Tryd.Builder_String_any _ _ _ _ HB.out HR.out.size).mono ?_
      rintro e w1 ⟨rfl, hb1⟩
      have HR1 := Lib.hid (HR.out.trans hb1)
      go_wp2_with fail
      go_ret
      exact ⟨by show Ending.returned (.string ⟨(head ++ linesL qf (X.take k)).toArray⟩) = _; rw [HF.out], HR1.out⟩
theorem new2P (w : World) (a b : Value) : Blk (w.alloc (.cells #[a, b] 29)) w.heap.size 29 #[a, b] := Blk.new w _ _
def printL (qf : List UInt8 → List UInt8) (X : List Ins) (st : Int) : List UInt8 := [115, 116, 97, 99, 107, 32] ++ Lib.itoa st ++ [10] ++ linesL qf X
set_option maxRecDepth 100000 in
set_option maxHeartbeats 4000000 in
theorem print_any (A : Option Addr) (c : Nat) (st : Int) (X : List Ins) (L : List Addr) (qf : List UInt8 → List UInt8) (w : World) (hlen : X.length ≤ 9000) (hs : ∀ x ∈ X, x.s.length ≤ 4000000) (hst : InI st) (hrd : RdL w 4 insc A X) (hS : SenW w L) (hp : PowI w) (hQ : (faultC X st).1 = 0 → QuoteIn qf X w) :
    Calls Tryd.prog 51 #[.agg #[.slice A X.length c, .int .i64 st]] w (Ret w (.string ⟨(if (faultC X st).1 = 0 then printL qf X st else []).toArray⟩)) := by
  obtain ⟨W0, hW0⟩ : ∃ W0, W0 = w.alloc (.cells #[.slice A X.length c, .int .i64 st] 29) := ⟨_, rfl⟩
  have hb0 : Below w.heap.size w W0 := by rw [hW0]; exact (Below.refl _ _).alloc (Nat.le_refl _) _
  have hB0 : Blk W0 w.heap.size 29 #[.slice A X.length c, .int .i64 st] := by rw [hW0]; exact Blk.new w _ _
  have z0 := hB0.cell 0
  have z1 := hB0.cell 1
  simp only [List.getElem?_toArray, List.getElem?_cons_zero, List.getElem?_cons_succ] at z0 z1
  have HCK := Lib.hid (ccheck_all A c st X L W0 hlen hs (hrd.below hb0) (hS.below hb0))
  have HB := Lib.hid hb0
  have HRD := Lib.hid (hrd.below hb0)
  have HP := Lib.hid (hp.below hb0)
  have HQ := Lib.hid (fun h => (hQ h).below hb0)
  have HLN := Lib.hid hlen
  have HITO := Lib.hid (Lib.itoa_length_le st hst.1 hst.2)
  have HST := Lib.hid hst
  obtain ⟨m, hm⟩ : ∃ m, X.length = m := ⟨_, rfl⟩
  have HM := Lib.hid hm
  have HPL := Lib.hid (show printL qf X st = [115, 116, 97, 99, 107, 32] ++ Lib.itoa st ++ [10] ++ linesL qf X from rfl)
  rw [hm] at z0 HCK hW0 hlen ⊢
  clear hrd hS hp hQ hlen hst hb0 hB0 hs hm
  obtain ⟨out, hout⟩ : ∃ out, (if (faultC X st).1 = 0 then printL qf X st else []) = out := ⟨_, rfl⟩
  have HOUT := Lib.hid hout
  rw [hout]
  clear hout
  go_enter Tryd.func51, Tryd.ntmps51
  go_upto_region 1 with (fail)
  rw [← hW0]
  clear hW0
  obtain ⟨fc, hfc⟩ : ∃ fc, faultC X st = fc := ⟨_, rfl⟩
  rw [hfc] at HCK HQ HOUT
  clear hfc
  obtain ⟨fc1, fc2⟩ := fc
  dsimp only at HCK HQ HOUT
  have HGI := Lib.hid HB.out.size
  generalize hgi : w.heap.size = gi at *
  have HG := Lib.hid hgi
  clear hgi
  go_wp2_with fail
  refine HCK.out.mono ?_
  rintro e w1 ⟨v, rfl, hv, hz, hnz, hb1⟩
  have HB1 := Lib.hid (HB.out.trans (hb1.mono HGI.out))
  have x0 := cell_keep hb1 z0
  have x1 := cell_keep hb1 z1
  by_cases h0 : fc1 = 0
  · obtain rfl := hz h0
    have HTC := Lib.hid (fun W (hW : Below w1.heap.size w1 W) => ctogether_any ([115, 116, 97, 99, 107, 32] ++ Lib.itoa st ++ [10]) X A c qf W (by have := HITO.out; simp only [List.length_append, List.length_cons, List.length_nil]; omega) HLN.out (HRD.out.below (hb1.trans (hW.mono hb1.size))) (HP.out.below (hb1.trans (hW.mono hb1.size))) ((HQ.out h0).below (hb1.trans (hW.mono hb1.size))))
    have HNC := Lib.hid (fun W (hW : Below w1.heap.size w1 W) => numberI_any st HST.out W (HP.out.below (hb1.trans (hW.mono hb1.size))))
    have HV := Lib.hid (show out = [115, 116, 97, 99, 107, 32] ++ Lib.itoa st ++ [10] ++ linesL qf X by rw [← HOUT.out, if_pos h0, HPL.out])
    rw [HM.out] at HTC
    have A1 := Lib.hid (show (⟨#[115, 116, 97, 99, 107, 32]⟩ ++ ⟨(Lib.itoa st).toArray⟩ ++ ⟨#[10]⟩ : ByteArray) = ⟨([115, 116, 97, 99, 107, 32] ++ Lib.itoa st ++ [10]).toArray⟩ by apply ByteArray.ext; simp)
    obtain ⟨hd, hhd⟩ : ∃ hd, [115, 116, 97, 99, 107, 32] ++ Lib.itoa st ++ [10] = hd := ⟨_, rfl⟩
    rw [hhd] at A1 HTC HV
    generalize Lib.itoa st = it at *
    have hit := HITO.out
    obtain ⟨li, hli⟩ : ∃ l, it.length = l := ⟨_, rfl⟩
    rw [hli] at hit
    have HLI := Lib.hid hli
    have HTC2 := Lib.hid (fun W (hW : Below w1.heap.size w1 W) => by have := HTC.out W hW; rw [← A1.out] at this; exact this)
    clear HCK hv hz hnz hhd HTC
    go_upto_region 3 with (fail)
    have y0 := Later.cell x0
    have y1 := Later.cell x1
    clear x0 x1
    refine wp_region_eq (by kernel_rfl) (by kernel_rfl) ?_
    apply EqGo.run
    focus
      kernel_rfl
    focus
      intro x K hK
      go_wp2_with fail
      first | exact hK x (Below.refl _ _) | exact Below.refl _ _
    simp only [Act.put, List.setIfInBounds_toArray, List.set_cons_succ, List.set_cons_zero]
    apply EqGo.run
    focus
      kernel_rfl
    focus
      intro x K hK
      go_wp2_with fail
      first | exact hK x (Below.refl _ _) | exact Below.refl _ _
    simp only [Act.put, List.setIfInBounds_toArray, List.set_cons_succ, List.set_cons_zero]
    apply EqGo.run
    focus
      kernel_rfl
    focus
      intro x K hK
      go_wp2_with fail
      refine (Hid.out HNC x.val x.below).mono ?_
      rintro e x' ⟨rfl, hb'⟩
      exact hK ⟨x', x.below.trans (hb'.mono x.below.size)⟩ hb'
    simp only [Act.put, List.setIfInBounds_toArray, List.set_cons_succ, List.set_cons_zero]
    apply EqGo.run
    focus
      kernel_rfl
    focus
      intro x K hK
      go_wp2_with fail
      first | exact hK x (Below.refl _ _) | exact Below.refl _ _
    simp only [Act.put, List.setIfInBounds_toArray, List.set_cons_succ, List.set_cons_zero]
    apply EqGo.run
    focus
      kernel_rfl
    focus
      intro x K hK
      go_wp2_with fail
      first | exact hK x (Below.refl _ _) | exact Below.refl _ _
    simp only [Act.put, List.setIfInBounds_toArray, List.set_cons_succ, List.set_cons_zero]
    apply EqGo.run
    focus
      kernel_rfl
    focus
      intro x K hK
      go_wp2_with fail
      first | exact hK x (Below.refl _ _) | exact Below.refl _ _
    simp only [Act.put, List.setIfInBounds_toArray, List.set_cons_succ, List.set_cons_zero]
    apply EqGo.run
    focus
      kernel_rfl
    focus
      intro x K hK
      go_wp2_with fail
      first | exact hK x (Below.refl _ _) | exact Below.refl _ _
    simp only [Act.put, List.setIfInBounds_toArray, List.set_cons_succ, List.set_cons_zero]
    apply EqGo.run
    focus
      kernel_rfl
    focus
      intro x K hK
      go_wp2_with fail
      refine (Hid.out HTC2 x.val x.below).mono ?_
      rintro e x' ⟨rfl, hb'⟩
      exact hK ⟨x', x.below.trans (hb'.mono x.below.size)⟩ hb'
    simp only [Act.put, List.setIfInBounds_toArray, List.set_cons_succ, List.set_cons_zero]
    apply EqGo.run
    focus
      kernel_rfl
    focus
      intro x K hK
      go_wp2_with fail
      first | exact hK x (Below.refl _ _) | exact Below.refl _ _
    simp only [Act.put, List.setIfInBounds_toArray, List.set_cons_succ, List.set_cons_zero]
    intro y
    have HY := Lib.hid (HB1.out.trans (y.below.mono (Nat.le_trans HGI.out hb1.size)))
    clear HTC2 HNC y0 y1
    generalize y.val = wy at *
    go_wp2_with fail
    go_ret
    exact ⟨by rw [HV.out]; rfl, by rw [HG.out]; exact HY.out⟩
  · obtain ⟨a, ha⟩ := hnz h0
    have HV := Lib.hid (show out = [] by rw [← HOUT.out, if_neg h0])
    clear HCK hv hz hnz
    rcases ha with rfl | rfl
    · go_wp2_with fail
      go_ret
      exact ⟨by rw [HV.out]; rfl, by rw [HG.out]; exact HB1.out⟩
    · go_wp2_with fail
      go_ret
      exact ⟨by rw [HV.out]; rfl, by rw [HG.out]; exact HB1.out⟩
end Go.Proofs.YtpogngdddendiaaDoor
