/- The walk over passes.Run at a good program and a short order. Bounds on the lengths. -/
import Derived.Test.YtpogngdddendiaaDoorPasW
import Derived.Test.YtpogngdddendiaaDoorHU
import Derived.Outline
set_option linter.unusedVariables false
set_option linter.unusedSimpArgs false
namespace Go.Proofs.YtpogngdddendiaaDoor
open Go.RowKit

def RunOk (L : List Nd) (w : World) (e : Ending) (w' : World) : Prop :=
  ∃ A n c, e = .returned (.tuple #[.slice A n c, .nilIface]) ∧ OwnNd w' w.heap.size (.slice A n c) L ∧ Below w.heap.size w w'
def RunBad (Ls : List Addr) (i : Nat) (w : World) (e : Ending) (w' : World) : Prop :=
  ∃ g, e = .returned (.tuple #[.slice none 0 0, .iface 81 (.pointer (some ⟨g, 0, none⟩))]) ∧ ErrV w' Ls (.iface 81 (.pointer (some ⟨g, 0, none⟩))) 117 [(i : Int)] ∧ Below w.heap.size w w'
theorem eql_fn (W : World) (f : Nat) : (binOp .eql 95 (.func (.func f) #[] #[]) .nilFunc).run Tryd.prog W = .ok (.bool false) W := by kernel_rfl
theorem eql_fn0 (W : World) : (binOp .eql 95 .nilFunc .nilFunc).run Tryd.prog W = .ok (.bool true) W := by kernel_rfl
theorem byV_ok {p : Int} (h : okP p = true) : byV p = .func (.func (fnP p)) #[] #[] := if_pos h
theorem byV_bad {p : Int} (h : okP p = false) : byV p = .nilFunc := by unfold byV; rw [h]; rfl
theorem int_at {w : World} {A : Option Addr} {ps : List Int} (h : RdL w 1 intc A ps) {k : Nat} (hk : k < ps.length) : ∃ b o, A = some ⟨b, o, none⟩ ∧ w.cell? ⟨b, o + k, none⟩ = some (.int .i64 ps[k]) := by
  obtain ⟨b, o, h1, _, h2⟩ := h k hk
  have := h2 0 _ rfl
  simp only [Nat.mul_one, Nat.add_zero] at this
  exact ⟨b, o, h1, this⟩
theorem foldP_take {ps : List Int} {k : Nat} (h : k < ps.length) (t : Tr) : foldP (ps.take (k + 1)) t = passT ps[k] (foldP (ps.take k) t) := by
  rw [List.take_succ_eq_append_getElem h, foldP_snoc]
set_option maxRecDepth 100000 in
set_option maxHeartbeats 4000000 in
theorem run_ok (B0 : Option Addr) (cv : Nat) (t : Tr) (A : Option Addr) (c : Nat) (ps : List Int) (aN aT aM : Addr) (w : World) (h : GoodT t) (hv : SlRd w (.slice B0 (flat t).length cv) (flat t)) (hE : ErrW w aN aT aM)
    (ho : RdL w 1 intc A ps) (hl : ps.length ≤ 20) (hok : ∀ p ∈ ps, okP p = true) :
    Calls Tryd.prog 20 #[.slice B0 (flat t).length cv, .slice A ps.length c] w (RunOk (flat (foldP ps t)) w) := by
  obtain ⟨A9, c9, he9, hrd, hcap, hm9, hA0, hsp⟩ := hv
  injection he9 with e1 _ e3
  subst e1 e3
  have CK := Lib.hid (check_okC (.slice B0 (flat t).length cv) t aN aT aM w h.1 (by have := h.2; omega) (ok_nd ⟨30, false, h.1⟩ (by have := h.2; omega)) ⟨B0, cv, rfl, hrd, hcap, hm9, hA0, hsp⟩ hE)
  have HE := Lib.hid hE
  have HG := Lib.hid h
  have HO := Lib.hid ho
  have HOK := Lib.hid hok
  have HRD := Lib.hid hrd
  have HA0 := Lib.hid hA0
  obtain ⟨n, hn⟩ : ∃ n, n = (flat t).length := ⟨_, rfl⟩
  have hn9 : n ≤ 1000 := by rw [hn]; exact h.2
  rw [← hn] at hcap CK ⊢
  have HN := Lib.hid hn
  obtain ⟨m, hm⟩ : ∃ m, m = ps.length := ⟨_, rfl⟩
  rw [← hm] at hl ⊢
  have HM := Lib.hid hm
  unfold maxLen at hm9
  obtain ⟨i0, hi, hz0, hz1, hz2⟩ := info_parts infoNode
  clear h hrd hA0 hE ho hok hn hm
  go_enter Tryd.func20, Tryd.ntmps20
  go_wp2_with fail
  refine CK.out.mono ?_
  rintro e w1 ⟨rfl, hb1⟩
  have HB1 := Lib.hid hb1
  have hcmp : decide ((20 : Int) < (m : Int)) = false := decide_eq_false (by omega)
  clear CK hb1
  go_wp2_with fail
  go_loopw [23] (fun i wr => ∃ k : Nat, k ≤ m ∧ i = .int .i64 k ∧ Hid (Below w1.heap.size w1 wr)) (fun i _ => m - (intOf i).toNat)
  case atStart => exact ⟨0, Nat.zero_le _, rfl, Lib.hid (Below.refl _ _)⟩
  case round =>
    obtain ⟨k, hk, rfl, HR⟩ := hrel
    by_cases hlt : k < m
    · have hkL : k < ps.length := by rw [← HM.out]; exact hlt
      obtain ⟨ba, oa, hAe, hc0⟩ := int_at ((HO.out.below HB1.out).below HR.out) hkL
      have HQ := Lib.hid (byV_ok (HOK.out _ (List.getElem_mem hkL)))
      subst hAe
      generalize ps[k] = p at *
      have hef := eql_fn
      go_wp2_with fail
      refine (by_any p _).mono ?_
      rintro e w2 ⟨rfl, rfl⟩
      rw [HQ.out]
      generalize fnP p = f
      go_wp2_with fail
      go_roundw
      case rel => exact ⟨k + 1, by omega, by go_num, HR⟩
      case measure => simp [intOf]; omega
    · have hkm : m = k := by omega
      subst hkm
      have HB2 := Lib.hid (HB1.out.trans (HR.out.mono HB1.out.size))
      have hown0 : wr.ownsRow w.heap.size 98 5 (.slice none 0 0) 0 [] := ⟨by simp, .inl ⟨rfl, rfl⟩⟩
      clear hlt HR
      have hrd2 := HRD.out.below HB2.out
      have hA02 := HA0.out
      go_wp2_with (at_builtin; refine wpList_pushAll (enc := ndc) rfl _ _ _ rfl Tryd.underlying22 hi hz0 hz1 hz2 rfl (by decide) hown0 rfl rfl HN.out hrd2 hA02 trivial ndc_len ndc_one (by omega) (by decide) HB2.out.size ?_; intro A2 c2 w2 ho2 hb2 hoo2)
      rw [Nat.zero_add, List.nil_append] at ho2
      have HP2 := Lib.hid (show OwnNd w2 w.heap.size (.slice A2 n c2) (flat (foldP (ps.take 0) t)) from ⟨A2, c2, by rw [HN.out]; rfl, by have := ho2; rw [HN.out] at this; exact this⟩)
      have HB3 := Lib.hid (HB2.out.trans hb2)
      clear hrd2 hA02 hown0 ho2 hb2 hoo2 HB2 HB1
      go_loopw [9, 41] (fun v i wq => ∃ k : Nat, ∃ A3 n3 c3, k ≤ m ∧ i = .int .i64 k ∧ v = .slice A3 n3 c3 ∧ Hid (OwnNd wq w.heap.size (.slice A3 n3 c3) (flat (foldP (ps.take k) t))) ∧ Hid (Below w.heap.size w wq)) (fun _ i _ => m - (intOf i).toNat)
      case atStart => exact ⟨0, A2, n, c2, Nat.zero_le _, rfl, rfl, HP2, HB3⟩
      case round =>
        obtain ⟨k, A3, n3, c3, hk, rfl, rfl, HP, HR⟩ := hrel
        by_cases hlt : k < m
        · have hkL : k < ps.length := by rw [← HM.out]; exact hlt
          obtain ⟨ba, oa, hAe, hc0⟩ := int_at (HO.out.below HR.out) hkL
          have HOP := Lib.hid (HOK.out _ (List.getElem_mem hkL))
          have HF := Lib.hid (foldP_take hkL t)
          subst hAe
          generalize ps[k] = p at *
          have HQ := Lib.hid (byV_ok HOP.out)
          have HPT := Lib.hid (passT_any p HOP.out (.slice A3 n3 c3) (foldP (ps.take k) t) aN aT aM wr (foldP_good _ _ HG.out) HP.out.rd (HE.out.below HR.out))
          have HEN := Lib.hid (fnP_enter p)
          go_wp2_with fail
          refine (by_any p _).mono ?_
          rintro e w4 ⟨rfl, rfl⟩
          rw [HQ.out]
          generalize fnP p = f at *
          have hen := HEN.out
          go_wp2_with fail
          refine HPT.out.mono ?_
          rintro e w5 ⟨A5, n5, c5, rfl, ho5, hb5⟩
          have HP5 := Lib.hid (show OwnNd w5 w.heap.size (.slice A5 n5 c5) (flat (foldP (ps.take (k + 1)) t)) by rw [HF.out]; exact ho5.mono HR.out.size)
          have HB5 := Lib.hid (HR.out.trans (hb5.mono HR.out.size))
          clear ho5 hb5 hen hc0
          go_wp2_with fail
          go_roundw
          case rel => exact ⟨k + 1, A5, n5, c5, by omega, by go_num, rfl, HP5, HB5⟩
          case measure => simp [intOf]; omega
        · have hkm : m = k := by omega
          subst hkm
          have HP6 := Lib.hid (show OwnNd wr w.heap.size (.slice A3 n3 c3) (flat (foldP ps t)) by have := HP.out; rw [HM.out, List.take_length] at this; exact this)
          go_wp2_with fail
          refine bodyPost_ret (v := .tuple #[.slice A3 n3 c3, .nilIface]) (by simp [results, Tryd.results20, go_sem, *]) rfl ⟨A3, n3, c3, rfl, HP6.out, HR.out⟩
/-- ahead of i all are ok, i is not -/
def BadAt (ps : List Int) (i : Nat) : Prop := i < ps.length ∧ (∀ p ∈ ps.take i, okP p = true) ∧ ∃ p, ps[i]? = some p ∧ okP p = false
theorem newAt (w : World) (a b : Value) : (w.alloc (.cells #[a, b] 83)).cell? ⟨w.heap.size, 0, none⟩ = some a ∧ (w.alloc (.cells #[a, b] 83)).cell? ⟨w.heap.size, 1, none⟩ = some b := by
  have h0 := Blk.new w 83 #[a, b]
  have q0 := h0.cell 0
  have q1 := h0.cell 1
  simp only [List.getElem?_toArray, List.getElem?_cons_zero, List.getElem?_cons_succ] at q0 q1
  exact ⟨q0, q1⟩
set_option maxRecDepth 100000 in
set_option maxHeartbeats 4000000 in
theorem run_bad (B0 : Option Addr) (cv : Nat) (t : Tr) (A : Option Addr) (c : Nat) (ps : List Int) (L : List Addr) (aN aT aM : Addr) (i : Nat) (w : World) (h : GoodT t) (hv : SlRd w (.slice B0 (flat t).length cv) (flat t)) (hE : ErrW w aN aT aM) (hS : SenW w L)
    (ho : RdL w 1 intc A ps) (hl : ps.length ≤ 20) (hbad : BadAt ps i) :
    Calls Tryd.prog 20 #[.slice B0 (flat t).length cv, .slice A ps.length c] w (RunBad L i w) := by
  have CK := Lib.hid (check_okC (.slice B0 (flat t).length cv) t aN aT aM w h.1 (by have := h.2; omega) (ok_nd ⟨30, false, h.1⟩ (by have := h.2; omega)) hv hE)
  have HO := Lib.hid ho
  have HS := Lib.hid hS
  have HBD := Lib.hid hbad
  have hsl := hS.len
  have hM := List.getElem?_eq_getElem (show 16 < L.length by omega)
  obtain ⟨aP, haP⟩ : ∃ aP, L[16] = aP := ⟨_, rfl⟩
  rw [haP] at hM
  have HAP := Lib.hid hM
  have hi9 : i < ps.length := hbad.1
  obtain ⟨n, hn⟩ : ∃ n, n = (flat t).length := ⟨_, rfl⟩
  rw [← hn] at CK ⊢
  obtain ⟨m, hm⟩ : ∃ m, m = ps.length := ⟨_, rfl⟩
  rw [← hm] at hl hi9 ⊢
  have HM := Lib.hid hm
  clear h hv hE hS ho hn hm hbad hsl hM haP
  go_enter Tryd.func20, Tryd.ntmps20
  go_wp2_with fail
  refine CK.out.mono ?_
  rintro e w1 ⟨rfl, hb1⟩
  have HB1 := Lib.hid hb1
  have hcmp : decide ((20 : Int) < (m : Int)) = false := decide_eq_false (by omega)
  clear CK hb1
  go_wp2_with fail
  go_loopw [23] (fun z wr => ∃ k : Nat, k ≤ i ∧ z = .int .i64 k ∧ Hid (Below w1.heap.size w1 wr)) (fun z _ => m - (intOf z).toNat)
  case atStart => exact ⟨0, Nat.zero_le _, rfl, Lib.hid (Below.refl _ _)⟩
  case round =>
    obtain ⟨k, hk, rfl, HR⟩ := hrel
    have hlt : k < m := by omega
    have hkL : k < ps.length := by rw [← HM.out]; exact hlt
    have HB2 := Lib.hid (HB1.out.trans (HR.out.mono HB1.out.size))
    obtain ⟨ba, oa, hAe, hc0⟩ := int_at (HO.out.below HB2.out) hkL
    by_cases hki : k < i
    · have HQ := Lib.hid (byV_ok (HBD.out.2.1 ps[k] (List.mem_take_iff_getElem.2 ⟨k, by omega, rfl⟩)))
      subst hAe
      generalize ps[k] = p at *
      have hef := eql_fn
      go_wp2_with fail
      refine (by_any p _).mono ?_
      rintro e w2 ⟨rfl, rfl⟩
      rw [HQ.out]
      generalize fnP p = f
      go_wp2_with fail
      go_roundw
      case rel => exact ⟨k + 1, by omega, by go_num, HR⟩
      case measure => simp [intOf]; omega
    · have hkm : i = k := by omega
      subst hkm
      have HQ := Lib.hid (show byV ps[i] = .nilFunc from byV_bad (by
        obtain ⟨_, _, p, h1, h2⟩ := HBD.out
        rw [List.getElem?_eq_getElem hkL] at h1
        injection h1 with h1
        rw [h1]
        exact h2))
      subst hAe
      generalize ps[i] = p at *
      have gv := (HS.out.below HB2.out).var 16 _ aP rfl HAP.out
      unfold sentV at gv
      have hef := eql_fn0
      go_wp2_with fail
      refine (by_any p _).mono ?_
      rintro e w2 ⟨rfl, rfl⟩
      rw [HQ.out]
      go_wp2_with fail
      go_region
      have hcc := newAt w2 (.int .i64 i) (.iface 226 (.pointer (some aP)))
      have hbz := HB2.out.alloc HB2.out.size (.cells #[.int .i64 i, .iface 226 (.pointer (some aP))] 83)
      go_wp2_with fail
      refine bodyPost_ret (v := .tuple #[.slice none 0 0, .iface 81 (.pointer (some ⟨w2.heap.size, 0, none⟩))]) (by simp [results, Tryd.results20, go_sem, *]) rfl ⟨_, rfl, .inr (.inr ⟨16, aP, _, i, HAP.out, rfl, hcc.1, hcc.2, rfl, rfl⟩), hbz.drew⟩
end Go.Proofs.YtpogngdddendiaaDoor

/- The walk over chapter 21's examples: they hold. What the package-level errors hold is a hypothesis. -/
set_option linter.unusedVariables false
set_option linter.unusedSimpArgs false
namespace Go.Proofs.YtpogngdddendiaaDoor
open Go.RowKit

theorem rdl_ints (w : World) (t : TypeId) (L : List Int) (cs : Array Value) (h : cs.toList = L.flatMap intc) : RdL (w.alloc (.cells cs t)) 1 intc (some ⟨w.heap.size, 0, none⟩) L := by
  intro k hk
  refine ⟨w.heap.size, 0, rfl, by rw [World.alloc]; simp, fun j u hu => ?_⟩
  rw [Nat.mul_one, Nat.zero_add, cell_of_row _ _ _ cs t (0, 0) (heap_alloc_new w _)]
  have hj : j = 0 := by
    have h1 := (List.getElem?_eq_some_iff.1 hu).1
    rw [intc_len] at h1
    omega
  subst hj
  have hf := flat_at intc_len L k hk 0 u hu
  rw [Nat.mul_one] at hf
  rw [← Array.getElem?_toList, h]
  exact hf
theorem runL_ok (v : Value) (t : Tr) (c m : Nat) (ps : List Int) (cs : Array Value) (ty : TypeId) (aN aT aM : Addr) (w : World) (h : GoodT t) (hcs : cs.toList = ps.flatMap intc) (hm : m = ps.length) (hl : ps.length ≤ 20) (hok : ps.all okP = true) (hv : SlRd w v (flat t)) (hE : ErrW w aN aT aM) :
    Calls Tryd.prog 20 #[v, .slice (some ⟨w.heap.size, 0, none⟩) m c] (w.alloc (.cells cs ty)) (RunOk (flat (foldP ps t)) w) := by
  have hb : Below w.heap.size w (w.alloc (.cells cs ty)) := (Below.refl _ _).alloc (Nat.le_refl _) _
  obtain ⟨A, cv, rfl, hr⟩ := hv
  subst hm
  refine (run_ok A cv t _ c ps aN aT aM _ h (SlRd.below ⟨A, cv, rfl, hr⟩ hb) (hE.below hb) (rdl_ints w ty ps cs hcs) hl (List.all_eq_true.1 hok)).mono ?_
  rintro e w' ⟨A', n', c', rfl, ho, hb'⟩
  exact ⟨A', n', c', rfl, ho.mono hb.size, hb.trans (hb'.mono hb.size)⟩
theorem runL_bad (v : Value) (t : Tr) (c m : Nat) (ps : List Int) (cs : Array Value) (ty : TypeId) (L : List Addr) (aN aT aM : Addr) (i : Nat) (w : World) (h : GoodT t) (hcs : cs.toList = ps.flatMap intc) (hm : m = ps.length) (hl : ps.length ≤ 20) (hbd : BadAt ps i) (hv : SlRd w v (flat t)) (hE : ErrW w aN aT aM) (hS : SenW w L) :
    Calls Tryd.prog 20 #[v, .slice (some ⟨w.heap.size, 0, none⟩) m c] (w.alloc (.cells cs ty)) (RunBad L i w) := by
  have hb : Below w.heap.size w (w.alloc (.cells cs ty)) := (Below.refl _ _).alloc (Nat.le_refl _) _
  obtain ⟨A, cv, rfl, hr⟩ := hv
  subst hm
  refine (run_bad A cv t _ c ps L aN aT aM i _ h (SlRd.below ⟨A, cv, rfl, hr⟩ hb) (hE.below hb) (hS.below hb) (rdl_ints w ty ps cs hcs) hl hbd).mono ?_
  rintro e w' ⟨g, rfl, ho, hb'⟩
  exact ⟨g, rfl, ho, hb.trans (hb'.mono hb.size)⟩
def AllRet (w : World) (e : Ending) (w' : World) : Prop := ∃ A c, e = .returned (.slice A 6 c) ∧ RdL w' 1 intc A [1, 2, 4, 3, 1, 2] ∧ Below w.heap.size w w'
theorem all_any (w : World) : Calls Tryd.prog 48 #[] w (AllRet w) := by
  have hr := rdl_ints w 3 [1, 2, 4, 3, 1, 2] #[.int .i64 1, .int .i64 2, .int .i64 4, .int .i64 3, .int .i64 1, .int .i64 2] rfl
  have hb : Below w.heap.size w (w.alloc (.cells #[.int .i64 1, .int .i64 2, .int .i64 4, .int .i64 3, .int .i64 1, .int .i64 2] 3)) := (Below.refl _ _).alloc (Nat.le_refl _) _
  go_enter Tryd.func48, Tryd.ntmps48
  go_wp2_with fail
  go_ret
  exact ⟨_, _, rfl, hr, hb⟩
theorem samei_refl (l : List Int) : SameI l l = true := by
  induction l with
  | nil => rfl
  | cons a r ih => simp [SameI, ih]
def t21I : Tr := .mk 23 0 [] [nopT, .mk 21 0 [] [.mk 4 0 [] [.mk 1 0 [101] [], .mk 1 0 [120] []]]]
def t21O : Tr := .mk 21 0 [] [.mk 1 0 [101, 120] []]
theorem t21I_good : GoodT t21I := ⟨by kernel_rfl, of_decide_eq_true (by kernel_rfl)⟩
theorem nop_good : GoodT nopT := ⟨by kernel_rfl, of_decide_eq_true (by kernel_rfl)⟩
theorem bad9 : BadAt [9] 0 := ⟨by decide, by simp, 9, rfl, rfl⟩
set_option maxRecDepth 100000 in
set_option maxHeartbeats 4000000 in
theorem first21_any (L : List Addr) (aN aT' aM : Addr) (w : World) (hS : SenW w L) (hE : ErrW w aN aT' aM) : Calls Tryd.prog 19 #[] w (Ret w (.bool true)) := by
  have R1 := Lib.hid (fun v W h1 h2 => runL_ok v t21I 2 2 [1, 2] #[.int .i64 1, .int .i64 2] 3 aN aT' aM W t21I_good rfl rfl (by decide) rfl h1 h2)
  have R2 := Lib.hid (fun v W h1 h2 h3 => runL_bad v nopT 1 1 [9] #[.int .i64 9] 3 L aN aT' aM 0 W nop_good rfl rfl (by decide) bad9 h1 h2 h3)
  rw [show foldP [1, 2] t21I = t21O by kernel_rfl] at R1
  have SP := Lib.hid (fun va vb W h1 h2 => same_v va vb (flat t21O) (flat t21O) W h1 h2 (of_decide_eq_true (by kernel_rfl)) (of_decide_eq_true (by kernel_rfl)))
  rw [(sameL_iff (flat t21O) (flat t21O)).2 rfl] at SP
  have HS := Lib.hid hS
  have HE := Lib.hid hE
  clear hS hE
  go_enter Tryd.func19, Tryd.ntmps19
  go_wp2_with fail
  refine (newT_any 20 0 [] none 0 0 [] _ (KdRd.nil _ _) rfl (of_decide_eq_true (by kernel_rfl))).mono ?_
  rintro e w1 ⟨A1, n1, c1, rfl, o1, hb⟩
  have s1 : SlRd w1 (.slice A1 n1 c1) (flat nopT) := o1.rd
  clear o1
  go_wp2_with fail
  refine (litT_any [101] _).mono ?_
  rintro e w2 ⟨A2, n2, c2, rfl, o2, hb2⟩
  have s2 := o2.rd
  clear o2
  replace s1 := s1.below hb2
  replace hb := hb.trans (hb2.mono hb.size)
  clear hb2
  go_wp2_with fail
  refine (litT_any [120] _).mono ?_
  rintro e w3 ⟨A3, n3, c3, rfl, o3, hb3⟩
  have s3 := o3.rd
  clear o3
  replace s1 := s1.below hb3
  replace s2 := s2.below hb3
  replace hb := hb.trans (hb3.mono hb.size)
  clear hb3
  go_wp2_with fail
  refine (newL_any 4 0 [] _ 2 2 [.mk 1 0 [101] [], .mk 1 0 [120] []] _ (AllRd.two s2 s3) rfl (of_decide_eq_true (by kernel_rfl))).mono ?_
  rintro e w4 ⟨A4, n4, c4, rfl, o4, hb4⟩
  have s4 := o4.rd
  clear o4
  replace s1 := s1.below hb4
  replace hb := hb.trans (hb4.mono hb.size)
  clear s2 s3 hb4
  go_wp2_with fail
  refine (newL_any 21 0 [] _ 1 1 [.mk 4 0 [] [.mk 1 0 [101] [], .mk 1 0 [120] []]] _ (AllRd.one s4) rfl (of_decide_eq_true (by kernel_rfl))).mono ?_
  rintro e w5 ⟨A5, n5, c5, rfl, o5, hb5⟩
  have s5 := o5.rd
  clear o5
  replace s1 := s1.below hb5
  replace hb := hb.trans (hb5.mono hb.size)
  clear s4 hb5
  go_wp2_with fail
  refine (newL_any 23 0 [] _ 2 2 [nopT, .mk 21 0 [] [.mk 4 0 [] [.mk 1 0 [101] [], .mk 1 0 [120] []]]] _ (AllRd.two s1 s5) rfl (of_decide_eq_true (by kernel_rfl))).mono ?_
  rintro e w6 ⟨A6, n6, c6, rfl, o6, hb6⟩
  have s6 := o6.rd
  clear o6
  replace hb := hb.trans (hb6.mono hb.size)
  clear s1 s5 hb6
  go_wp2_with fail
  refine (R1.out _ _ s6 (HE.out.below hb)).mono ?_
  rintro e w7 ⟨A7, n7, c7, rfl, o7, hb7⟩
  have s7 := o7.rd
  replace hb := hb.trans (hb7.mono hb.size)
  clear s6 hb7 o7 R1
  go_wp2_with fail
  refine (newT_any 20 0 [] none 0 0 [] _ (KdRd.nil _ _) rfl (of_decide_eq_true (by kernel_rfl))).mono ?_
  rintro e w8 ⟨A8, n8, c8, rfl, o8, hb8⟩
  have s8 : SlRd w8 (.slice A8 n8 c8) (flat nopT) := o8.rd
  replace s7 := s7.below hb8
  replace hb := hb.trans (hb8.mono hb.size)
  clear o8 hb8
  go_wp2_with fail
  refine (R2.out _ _ s8 (HE.out.below hb) (HS.out.below hb)).mono ?_
  rintro e w9 ⟨g, rfl, hv9, hb9⟩
  have HV := Lib.hid hv9
  replace s7 := s7.below hb9
  replace hb := hb.trans (hb9.mono hb.size)
  clear s8 hb9 hv9 R2
  go_wp2_with fail
  refine (litT_any [101, 120] _).mono ?_
  rintro e w10 ⟨A10, n10, c10, rfl, o10, hb10⟩
  have s10 := o10.rd
  clear o10
  have HV := Lib.hid (HV.out.below hb10)
  replace s7 := s7.below hb10
  replace hb := hb.trans (hb10.mono hb.size)
  clear hb10
  go_wp2_with fail
  refine (newL_any 21 0 [] _ 1 1 [.mk 1 0 [101, 120] []] _ (AllRd.one s10) rfl (of_decide_eq_true (by kernel_rfl))).mono ?_
  rintro e w11 ⟨A11, n11, c11, rfl, o11, hb11⟩
  have s11 := o11.rd
  clear o11
  have HV := Lib.hid (HV.out.below hb11)
  replace s7 := s7.below hb11
  replace hb := hb.trans (hb11.mono hb.size)
  clear s10 hb11
  go_wp2_with fail
  refine (SP.out _ _ _ s7 s11).mono ?_
  rintro e w12 ⟨rfl, hb12⟩
  have HV := Lib.hid (HV.out.below hb12)
  replace hb := hb.trans (hb12.mono hb.size)
  clear s7 s11 hb12
  go_wp2_with fail
  refine (placed_any 117 0 w12 (by decide)).mono ?_
  rintro e w13 ⟨v13, rfl, hf13, hb13⟩
  have hV13 := HV.out.below hb13
  replace hb := hb.trans (hb13.mono hb.size)
  have HF := Lib.hid (seesame_any L w13 _ v13 117 117 [0] [0] (HS.out.below hb) hV13 hf13 (by decide))
  rw [show (((117 : Int) == 117) && SameI [0] [0]) = true from rfl] at HF
  clear hV13 hf13 hb13
  go_wp2_with fail
  refine HF.out.mono ?_
  rintro e w14 ⟨rfl, hb14⟩
  replace hb := hb.trans (hb14.mono hb.size)
  clear hb14 HF
  go_wp2_with fail
  refine (all_any w14).mono ?_
  rintro e w15 ⟨A15, c15, rfl, hr15, hb15⟩
  replace hb := hb.trans (hb15.mono hb.size)
  clear hb15
  have SI := Lib.hid (fun (W : World) (B : Option Addr) (cb : Nat) h1 h2 => sameints_any A15 B c15 cb [1, 2, 4, 3, 1, 2] [1, 2, 4, 3, 1, 2] W h1 h2 (by decide) (by decide))
  rw [samei_refl] at SI
  have hr16 := rdl_ints w15 3 [1, 2, 4, 3, 1, 2] #[.int .i64 1, .int .i64 2, .int .i64 4, .int .i64 3, .int .i64 1, .int .i64 2] rfl
  have hb16 : Below w15.heap.size w15 (w15.alloc (.cells #[.int .i64 1, .int .i64 2, .int .i64 4, .int .i64 3, .int .i64 1, .int .i64 2] 3)) := (Below.refl _ _).alloc (Nat.le_refl _) _
  have HR15 := Lib.hid (hr15.below hb16)
  have HR16 := Lib.hid hr16
  replace hb := hb.trans (hb16.mono hb.size)
  have HB := Lib.hid hb
  clear hr15 hr16 hb16 hb
  go_wp2_with fail
  refine (SI.out _ _ _ HR15.out HR16.out).mono ?_
  rintro e w17 ⟨rfl, hb17⟩
  have HB2 := Lib.hid (HB.out.trans (hb17.mono HB.out.size))
  clear HB hb17
  go_wp2_with fail
  go_ret
  exact ⟨rfl, HB2.out⟩
end Go.Proofs.YtpogngdddendiaaDoor
