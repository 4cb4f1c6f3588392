/- The walk over ThreadReach. A bound on the length that any slice keeps. -/
import Derived.Test.YtpogngdddendiaaDoorThrU
import Derived.Test.YtpogngdddendiaaDoorThrX
import Derived.Test.YtpogngdddendiaaDoorGW
import Derived.Deep.CutRange
set_option linter.unusedVariables false
set_option linter.unusedSimpArgs false
namespace Go.Proofs.YtpogngdddendiaaDoor
open Go.RowKit

/-- The law's own search: what is seen, its queue, the code. -/
structure ThR (w0 w : World) (g6 gl cl gb g q c : Nat) (X : List Ins) (seen : List Bool) (W : List Nat) : Prop where
  s : rowB w w0.heap.size gb X.length seen
  qr : QR w w0.heap.size g q c W
  k : Blk w g6 29 #[.slice (some ⟨gl, 0, none⟩) X.length cl, .int .i64 0]
  x : w.ownsRow w0.heap.size 36 4 (.slice (some ⟨gl, 0, none⟩) X.length cl) X.length (X.flatMap insc)
  b : Below w0.heap.size w0 w
section
variable {w0 w w' : World} {g6 gl cl gb g q c : Nat} {X : List Ins} {seen : List Bool} {W : List Nat}
theorem ThR.below (h : ThR w0 w g6 gl cl gb g q c X seen W) (hb : Below w.heap.size w w') : ThR w0 w' g6 gl cl gb g q c X seen W :=
  ⟨h.s.below hb, h.qr.below hb, h.k.below hb, own_below h.x hb, h.b.trans (hb.mono h.b.size)⟩
theorem ThR.see (h : ThR w0 w g6 gl cl gb g q c X seen W) (j : Nat) : ThR w0 (w.setCell ⟨gb, j, none⟩ (.bool true)) g6 gl cl gb g q c X (seen.set j true) W := by
  obtain ⟨hge, cur, hB⟩ := own_blk h.s
  have hb := But.set (B := gb) w j (.bool true)
  exact ⟨h.s.set j true, h.qr.but hb hB (by decide), hb.blk h.k (h.k.apart hB (by decide)), own_but h.x hb hB (by decide), h.b.trans (hb.below hge h.b.size)⟩
theorem ThR.push {g' q' c' : Nat} {W' : List Nat} (h : ThR w0 w g6 gl cl gb g q c X seen W) (hq : QR w' w0.heap.size g' q' c' W') (hb : Below w0.heap.size w w') (ho : Others [3] w w') : ThR w0 w' g6 gl cl gb g' q' c' X seen W' :=
  ⟨own_others h.s ho (by decide), hq, h.k.others ho (by decide), own_others h.x ho (by decide), h.b.trans hb⟩
end
theorem falses_of {w : World} {base gb n : Nat} {seen : List Bool} (h : rowB w base gb n seen) : falsesOf w base gb n = seen.count false := falsesOf_eq h
theorem meas_lt {k m : Nat} (h : k < m) : m - (intOf (.int .i64 ((k : Int) + 1))).toNat < m - (intOf (.int .i64 (k : Int))).toNat := by
  show m - ((k : Int) + 1).toNat < m - ((k : Int)).toNat
  omega
def lenOf : Value → Nat
  | .slice _ n _ => n
  | _ => 0
set_option maxRecDepth 100000 in
set_option maxHeartbeats 8000000 in
theorem threach_walk (A : Option Addr) (c : Nat) (L : List Ins) (at_ : Int) (w : World) (hrd : RdL w 4 insc A L) (hX : L.length ≤ 9223372036854775807) (hin : ∀ y ∈ L, InI y.op ∧ InI y.a ∧ InI y.b) (hat : InI at_) :
    Calls Tryd.prog 5 #[.slice A L.length c, .int .i64 at_] w (Ret w (.bool true)) := by
  have HF := Lib.hid (first24_any w)
  have HRD := Lib.hid hrd
  have HIN := Lib.hid hin
  obtain ⟨l, hl⟩ : ∃ l, L.length = l := ⟨_, rfl⟩
  have HL := Lib.hid hl
  rw [hl] at hX ⊢
  obtain ⟨hat1, hat2⟩ := hat
  clear hl hrd hin
  go_enter Tryd.func5, Tryd.ntmps5
  go_wp2_with fail
  refine HF.out.mono ?_
  rintro e w1 ⟨rfl, hb1⟩
  have HB1 := Lib.hid hb1
  clear hb1 HF
  by_cases h60 : (60 : Int) < (l : Int)
  · go_wp2_with fail
    go_ret
    exact ⟨rfl, HB1.out⟩
  have hl60 : l ≤ 60 := by omega
  have hd60 : decide ((60 : Int) < (l : Int)) = false := decide_eq_false h60
  have HOK := Lib.hid (madeX_ok (L := L) (by rw [HL.out]; exact hl60))
  have HM := Lib.hid (made24_any L A c w1 (by rw [HL.out]; exact hl60) (HRD.out.below HB1.out) HIN.out)
  rw [HL.out] at HM
  obtain ⟨X, hXd⟩ : ∃ X, madeX L = X := ⟨_, rfl⟩
  rw [hXd] at HM HOK
  clear hXd HRD HIN
  obtain ⟨n, hn⟩ : ∃ n, X.length = n := ⟨_, rfl⟩
  have HN := Lib.hid hn
  have hnp : 0 < n := by rw [← hn]; exact HOK.out.pos
  have hn9 : n ≤ 9000 := by rw [← hn]; exact HOK.out.most
  clear hn
  go_upto_region 4 with (fail)
  go_wp2_with fail
  refine HM.out.mono ?_
  rintro e w2 ⟨gl, cl, rfl, ho2, hb2⟩
  rw [HN.out]
  have HO2 := Lib.hid (own_mono ho2 HB1.out.size)
  have HB2 := Lib.hid (HB1.out.trans (hb2.mono HB1.out.size))
  clear ho2 hb2 HM HB1
  go_upto_region 5 with (fail)
  obtain ⟨W3, hW3⟩ : ∃ W3, W3 = w2.alloc (.cells #[.slice (some ⟨gl, 0, none⟩) n cl, .int .i64 0] 29) := ⟨_, rfl⟩
  have hb3 : Below w2.heap.size w2 W3 := by rw [hW3]; exact (Below.refl _ _).alloc (Nat.le_refl _) _
  have HK3 := Lib.hid (show Blk W3 w2.heap.size 29 #[.slice (some ⟨gl, 0, none⟩) n cl, .int .i64 0] by rw [hW3]; exact Blk.new w2 _ _)
  have HO3 := Lib.hid (own_below HO2.out hb3)
  have HB3 := Lib.hid (HB2.out.trans (hb3.mono HB2.out.size))
  rw [← hW3]
  clear hW3 hb3 HO2 HB2
  generalize w2.heap.size = g6 at *
  have z0 := HK3.out.cell 0
  simp only [List.getElem?_toArray, List.getElem?_cons_zero] at z0
  have hs3 := HB3.out.size
  go_upto_region 6 with (at_make; refine wpList_mkB rfl _ _ rfl w.heap.size n _ _ rfl rfl rfl rfl (by omega) hs3 ?_; intro w4 ho4 hb4)
  obtain ⟨gb, hgb⟩ : ∃ gb, gb = W3.heap.size := ⟨_, rfl⟩
  rw [← hgb] at ho4 ⊢
  have HC4 := Lib.hid ho4
  have HK4 := Lib.hid (HK3.out.below hb4)
  have HO4 := Lib.hid (own_below HO3.out hb4)
  have HB4 := Lib.hid (HB3.out.trans (hb4.mono HB3.out.size))
  clear ho4 hb4 hgb HK3 HO3 HB3 z0 hs3
  go_upto_region 7 with (fail)
  obtain ⟨W5, hW5⟩ : ∃ W5, W5 = w4.alloc (.cells #[.int .i64 0] 3) := ⟨_, rfl⟩
  have hb5 : Below w4.heap.size w4 W5 := by rw [hW5]; exact (Below.refl _ _).alloc (Nat.le_refl _) _
  have HS := Lib.hid (show ThR w W5 g6 gl cl gb w4.heap.size 0 1 X (List.replicate n false) [0] from
    ⟨by rw [HN.out]; exact HC4.out.below hb5, by rw [hW5]; exact (QR.lit w4 0).mono HB4.out.size, by rw [HN.out]; exact HK4.out.below hb5, by rw [HN.out]; have := own_below HO4.out hb5; rwa [HN.out] at this, HB4.out.trans (hb5.mono HB4.out.size)⟩)
  rw [← hW5]
  clear hW5 hb5 HC4 HK4 HO4 HB4
  generalize w4.heap.size = gq at *
  have s0 := HS.out.s.cell (j := 0) (b := false) (by rw [List.getElem?_replicate, if_pos hnp])
  have fs := HS.out.s.frozenAt 0
  replace HS := Lib.hid (HS.out.see 0)
  go_upto_region 8 with (fail)
  generalize W5.setCell ⟨gb, 0, none⟩ (.bool true) = w6 at *
  clear s0 fs W5 w4
  have HWI := Lib.hid (WInv.start (tg := tgN X) hnp)
  have HCT := Lib.hid (show ([0] : List Nat).length + ((List.replicate n false).set 0 true).count false ≤ 20000 by
    have h1 := @count_set 0 (List.replicate n false) 0 (by rw [List.getElem?_replicate, if_pos hnp])
    rw [List.count_replicate_self] at h1
    simp only [List.length_singleton]
    omega)
  go_loopw [8] (fun v8 wr => ∃ (seen : List Bool) (W : List Nat) (g q c' lw : Nat), Hid (W.length = lw) ∧ v8 = .slice (some ⟨g, q, none⟩) lw c' ∧ Hid (WInv (tgN X) n seen W none []) ∧ Hid (ThR w wr g6 gl cl gb g q c' X seen W) ∧ Hid (W.length + seen.count false ≤ 20000)) (fun v8 wr => 2 * falsesOf wr w.heap.size gb n + lenOf v8)
  case atStart => exact ⟨_, _, gq, 0, 1, 1, Lib.hid rfl, rfl, HWI, HS, HCT⟩
  case round =>
    clear HS HWI HCT
    obtain ⟨seen, W, gq, q, c', lw, HLW, rfl, HWI, HS, HCT⟩ := hrel
    cases W with
    | nil =>
      have hlw := HLW.out
      simp only [List.length_nil] at hlw
      subst hlw
      have HE := Lib.hid HWI.out.all
      clear HLW HWI HCT
      have z0 := HS.out.k.cell 0
      have z1 := HS.out.k.cell 1
      simp only [List.getElem?_toArray, List.getElem?_cons_zero, List.getElem?_cons_succ] at z0 z1
      rw [HN.out] at z0
      have HR := Lib.hid (reached_any (some ⟨gl, 0, none⟩) cl X 0 wr (rdI_of HS.out.x rfl) HOK.out.pos HOK.out.most)
      rw [HN.out] at HR
      go_wp2_with fail
      refine HR.out.mono ?_
      rintro e w7 ⟨gr, rfl, hr7, hb7⟩
      rw [HN.out] at hr7 ⊢
      have HRR := Lib.hid hr7
      replace HS := Lib.hid (HS.out.below hb7)
      rw [HE.out] at HS
      clear hb7 hr7 HR z0 z1 HE
      go_wp2_with fail
      go_loopw [12] (fun v wr => ∃ k : Nat, k ≤ n ∧ v = .int .i64 k ∧ Hid (ThR w wr g6 gl cl gb gq q c' X (reachL (tgN X) n) []) ∧ Hid (∃ b0, rowB wr b0 gr n (reachL (tgN X) n))) (fun v _ => n - (intOf v).toNat)
      case atStart => exact ⟨0, Nat.zero_le _, rfl, HS, Lib.hid ⟨_, HRR.out⟩⟩
      case round =>
        clear HS HRR
        obtain ⟨k, hk, rfl, HS, HRR⟩ := hrel
        by_cases hlt : k < n
        · obtain ⟨b0, hr0⟩ := HRR.out
          obtain ⟨rb, hrb⟩ : ∃ rb, reachB X k = rb := ⟨_, rfl⟩
          have hget := reachL_get (X := X) hlt
          rw [hrb] at hget
          have r0 := Later.cell (hr0.cell hget)
          have s0 := Later.cell (HS.out.s.cell hget)
          have hq : (rb != rb) = false := by cases rb <;> rfl
          have HR0 := Lib.hid hr0
          clear hr0 hget hrb
          go_upto_region 25 with (fail)
          refine wp_region_eq (by kernel_rfl) (by kernel_rfl) ?_
          apply EqGo.run
          focus
            kernel_rfl
          focus
            intro x K hK
            go_wp2_with fail
            first | exact hK x (Below.refl _ _) | exact Below.refl _ _
          simp only [Act.put, List.setIfInBounds_toArray, List.set_cons_succ, List.set_cons_zero]
          apply EqGo.run
          focus
            kernel_rfl
          focus
            intro x K hK
            go_wp2_with fail
            first | exact hK x (Below.refl _ _) | exact Below.refl _ _
          simp only [Act.put, List.setIfInBounds_toArray, List.set_cons_succ, List.set_cons_zero]
          apply EqGo.run
          focus
            kernel_rfl
          focus
            intro x K hK
            go_wp2_with fail
            first | exact hK x (Below.refl _ _) | exact Below.refl _ _
          simp only [Act.put, List.setIfInBounds_toArray, List.set_cons_succ, List.set_cons_zero]
          apply EqGo.run
          focus
            kernel_rfl
          focus
            intro x K hK
            go_wp2_with fail
            first | exact hK x (Below.refl _ _) | exact Below.refl _ _
          simp only [Act.put, List.setIfInBounds_toArray, List.set_cons_succ, List.set_cons_zero]
          apply EqGo.run
          focus
            kernel_rfl
          focus
            intro x K hK
            go_wp2_with fail
            first | exact hK x (Below.refl _ _) | exact Below.refl _ _
          simp only [Act.put, List.setIfInBounds_toArray, List.set_cons_succ, List.set_cons_zero]
          apply EqGo.run
          focus
            kernel_rfl
          focus
            intro x K hK
            go_wp2_with fail
            first | exact hK x (Below.refl _ _) | exact Below.refl _ _
          simp only [Act.put, List.setIfInBounds_toArray, List.set_cons_succ, List.set_cons_zero]
          apply EqGo.run
          focus
            kernel_rfl
          focus
            intro x K hK
            go_wp2_with fail
            first | exact hK x (Below.refl _ _) | exact Below.refl _ _
          simp only [Act.put, List.setIfInBounds_toArray, List.set_cons_succ, List.set_cons_zero]
          apply EqGo.run
          focus
            kernel_rfl
          focus
            intro x K hK
            go_wp2_with fail
            first | exact hK x (Below.refl _ _) | exact Below.refl _ _
          simp only [Act.put, List.setIfInBounds_toArray, List.set_cons_succ, List.set_cons_zero]
          apply EqGo.run
          focus
            kernel_rfl
          focus
            intro x K hK
            go_wp2_with fail
            first | exact hK x (Below.refl _ _) | exact Below.refl _ _
          simp only [Act.put, List.setIfInBounds_toArray, List.set_cons_succ, List.set_cons_zero]
          intro x
          have HS3 := Lib.hid (HS.out.below x.below)
          have HR3 := Lib.hid (show ∃ b0, rowB x.val b0 gr n (reachL (tgN X) n) from ⟨_, HR0.out.below x.below⟩)
          clear r0 s0 HS HRR HR0
          go_wp2_with fail
          go_roundw
          case rel => exact ⟨k + 1, by omega, by go_num, HS3, HR3⟩
          case measure => simp [intOf]; omega
        · have hkn : n = k := by omega
          subst hkn
          clear hlt hk HRR
          have h0 := HS.out.k.cell 0
          simp only [List.getElem?_toArray, List.getElem?_cons_zero] at h0
          rw [HN.out] at h0
          have z0 := Later.cell h0
          clear h0
          obtain ⟨t1, ht1⟩ : ∃ t1, at_.tmod (n : Int) = t1 := ⟨_, rfl⟩
          have e1 : -(n : Int) < t1 := by rw [← ht1]; exact Int.lt_tmod_of_pos _ (by omega)
          have e2 : t1 < (n : Int) := by rw [← ht1]; exact Int.tmod_lt_of_pos _ (by omega)
          obtain ⟨t2, ht2⟩ : ∃ t2, (t1 + n).tmod (n : Int) = t2 := ⟨_, rfl⟩
          have e3 : 0 ≤ t2 := by rw [← ht2]; exact Int.tmod_nonneg _ (by omega)
          have e4 : t2 < (n : Int) := by rw [← ht2]; exact Int.tmod_lt_of_pos _ (by omega)
          have e5 : ((n : Int) == 0) = false := by simp; omega
          go_upto_region 27 with (fail)
          refine wp_region_eq (by kernel_rfl) (by kernel_rfl) ?_
          apply EqGo.run
          focus
            kernel_rfl
          focus
            intro x K hK
            go_wp2_with fail
            first | exact hK x (Below.refl _ _) | exact Below.refl _ _
          simp only [Act.put, List.setIfInBounds_toArray, List.set_cons_succ, List.set_cons_zero]
          apply EqGo.run
          focus
            kernel_rfl
          focus
            intro x K hK
            go_wp2_with fail
            first | exact hK x (Below.refl _ _) | exact Below.refl _ _
          simp only [Act.put, List.setIfInBounds_toArray, List.set_cons_succ, List.set_cons_zero]
          apply EqGo.run
          focus
            kernel_rfl
          focus
            intro x K hK
            go_wp2_with fail
            first | exact hK x (Below.refl _ _) | exact Below.refl _ _
          simp only [Act.put, List.setIfInBounds_toArray, List.set_cons_succ, List.set_cons_zero]
          apply EqGo.run
          focus
            kernel_rfl
          focus
            intro x K hK
            go_wp2_with fail
            first | exact hK x (Below.refl _ _) | exact Below.refl _ _
          simp only [Act.put, List.setIfInBounds_toArray, List.set_cons_succ, List.set_cons_zero]
          apply EqGo.run
          focus
            kernel_rfl
          focus
            intro x K hK
            go_wp2_with fail
            first | exact hK x (Below.refl _ _) | exact Below.refl _ _
          simp only [Act.put, List.setIfInBounds_toArray, List.set_cons_succ, List.set_cons_zero]
          apply EqGo.run
          focus
            kernel_rfl
          focus
            intro x K hK
            go_wp2_with fail
            first | exact hK x (Below.refl _ _) | exact Below.refl _ _
          simp only [Act.put, List.setIfInBounds_toArray, List.set_cons_succ, List.set_cons_zero]
          apply EqGo.run
          focus
            kernel_rfl
          focus
            intro x K hK
            go_wp2_with fail
            first | exact hK x (Below.refl _ _) | exact Below.refl _ _
          simp only [Act.put, List.setIfInBounds_toArray, List.set_cons_succ, List.set_cons_zero]
          apply EqGo.run
          focus
            kernel_rfl
          focus
            intro x K hK
            go_wp2_with fail
            first | exact hK x (Below.refl _ _) | exact Below.refl _ _
          simp only [Act.put, List.setIfInBounds_toArray, List.set_cons_succ, List.set_cons_zero]
          apply EqGo.run
          focus
            kernel_rfl
          focus
            intro x K hK
            go_wp2_with fail
            first | exact hK x (Below.refl _ _) | exact Below.refl _ _
          simp only [Act.put, List.setIfInBounds_toArray, List.set_cons_succ, List.set_cons_zero]
          apply EqGo.run
          focus
            kernel_rfl
          focus
            intro x K hK
            go_wp2_with fail
            first | exact hK x (Below.refl _ _) | exact Below.refl _ _
          simp only [Act.put, List.setIfInBounds_toArray, List.set_cons_succ, List.set_cons_zero]
          apply EqGo.run
          focus
            kernel_rfl
          focus
            intro x K hK
            go_wp2_with fail
            first | exact hK x (Below.refl _ _) | exact Below.refl _ _
          simp only [Act.put, List.setIfInBounds_toArray, List.set_cons_succ, List.set_cons_zero]
          apply EqGo.run
          focus
            kernel_rfl
          focus
            intro x K hK
            go_wp2_with fail
            first | exact hK x (Below.refl _ _) | exact Below.refl _ _
          simp only [Act.put, List.setIfInBounds_toArray, List.set_cons_succ, List.set_cons_zero]
          apply EqGo.run
          focus
            kernel_rfl
          focus
            intro x K hK
            go_wp2_with fail
            first | exact hK x (Below.refl _ _) | exact Below.refl _ _
          simp only [Act.put, List.setIfInBounds_toArray, List.set_cons_succ, List.set_cons_zero]
          apply EqGo.run
          focus
            kernel_rfl
          focus
            intro x K hK
            go_wp2_with fail
            first | exact hK x (Below.refl _ _) | exact Below.refl _ _
          simp only [Act.put, List.setIfInBounds_toArray, List.set_cons_succ, List.set_cons_zero]
          intro x
          replace HS := Lib.hid (HS.out.below x.below)
          obtain ⟨a, rfl⟩ : ∃ a : Nat, t2 = a := ⟨t2.toNat, by omega⟩
          have han : a < n := by omega
          clear ht1 ht2 e1 e2 e3 e4 e5 z0
          obtain ⟨w7, hw7⟩ : ∃ w7, w7 = x.val := ⟨_, rfl⟩
          rw [← hw7] at HS ⊢
          clear hw7 x
          obtain ⟨R, hR⟩ : ∃ R, cycG X (a : Int) n (a : Int) = R := ⟨_, rfl⟩
          have HER := Lib.hid hR
          have HE := Lib.hid (show (if false = true then true else cycG X (a : Int) (n - 0) (a : Int)) = R from hR)
          have HRI := Lib.hid (rdI_of HS.out.x rfl)
          have z0 := HS.out.k.cell 0
          have z1 := HS.out.k.cell 1
          simp only [List.getElem?_toArray, List.getElem?_cons_zero, List.getElem?_cons_succ] at z0 z1
          rw [HN.out] at z0
          clear hR
          go_wp2_with fail
          go_loopw [13, 14, 15] (fun v13 v14 v15 wr => ∃ (k cur : Nat) (on : Bool), k ≤ n ∧ cur < n ∧ v13 = .bool on ∧ v14 = .int .i64 cur ∧ v15 = .int .i64 k ∧ Hid ((if on = true then true else cycG X (a : Int) (n - k) (cur : Int)) = R) ∧ w7 = wr) (fun _ _ v15 _ => n - (intOf v15).toNat)
          case atStart => exact ⟨0, a, false, Nat.zero_le _, han, rfl, rfl, rfl, HE, rfl⟩
          case round =>
            clear HE
            obtain ⟨k, cur, on, hk, hcur, rfl, rfl, rfl, HE, rfl⟩ := hrel
            by_cases hlt : k < n
            · have hcL : cur < X.length := by rw [HN.out]; exact hcur
              obtain ⟨xc, hxc⟩ := at_some hcL
              have hcell := (HRI.out.at_ hcL).2
              rw [getElem_of? hcL hxc] at hcell
              have c0 := hcell 0 _ rfl
              have c1 := hcell 1 _ rfl
              simp only [Nat.add_zero, Nat.zero_add] at c0 c1
              have HPX := Lib.hid (HOK.out.pr xc (List.mem_of_getElem? hxc)).1
              have HXC := Lib.hid hxc
              clear hcell hxc hcL
              obtain ⟨b1, hb1⟩ : ∃ b, (xc.op == 18) = b := ⟨_, rfl⟩
              cases on with
              | true =>
                obtain rfl : true = R := HE.out
                cases b1
                · have HC1 := Lib.hid (cycle_any (some ⟨gl, 0, none⟩) cl 0 (a : Int) X w7 HRI.out HOK.out.most)
                  rw [HN.out, HER.out] at HC1
                  go_wp2_with fail
                  refine HC1.out.mono ?_
                  rintro e w8 ⟨rfl, hb8⟩
                  have HS8 := Lib.hid (HS.out.below hb8)
                  have HRI8 := Lib.hid (HRI.out.below hb8)
                  clear hb8 HC1 z0 z1
                  have z0 := HS8.out.k.cell 0
                  have z1 := HS8.out.k.cell 1
                  simp only [List.getElem?_toArray, List.getElem?_cons_zero, List.getElem?_cons_succ] at z0 z1
                  rw [HN.out] at z0
                  have HC2 := Lib.hid (cycle_any (some ⟨gl, 0, none⟩) cl 0 (-1) X w8 HRI8.out HOK.out.most)
                  rw [cycG_out (.inl (by decide)), HN.out] at HC2
                  go_wp2_with fail
                  refine HC2.out.mono ?_
                  rintro e w9 ⟨rfl, hb9⟩
                  have HS9 := Lib.hid (HS8.out.below hb9)
                  have HRI9 := Lib.hid (HRI8.out.below hb9)
                  clear hb9 HC2 z0 z1 HS8 HRI8
                  have z0 := HS9.out.k.cell 0
                  have z1 := HS9.out.k.cell 1
                  simp only [List.getElem?_toArray, List.getElem?_cons_zero, List.getElem?_cons_succ] at z0 z1
                  rw [HN.out] at z0
                  have HC3 := Lib.hid (cycle_any (some ⟨gl, 0, none⟩) cl 0 (n : Int) X w9 HRI9.out HOK.out.most)
                  rw [cycG_out (.inr (by rw [HN.out]; exact Int.le_refl _)), HN.out] at HC3
                  go_wp2_with fail
                  refine HC3.out.mono ?_
                  rintro e w10 ⟨rfl, hb10⟩
                  have HS10 := Lib.hid (HS9.out.below hb10)
                  clear hb10 HC3 z0 z1 HS9 HRI9
                  go_wp2_with fail
                  go_ret
                  exact ⟨rfl, HS10.out.b⟩
                · have HC1 := Lib.hid (cycle_any (some ⟨gl, 0, none⟩) cl 0 (a : Int) X w7 HRI.out HOK.out.most)
                  rw [HN.out, HER.out] at HC1
                  go_wp2_with fail
                  refine HC1.out.mono ?_
                  rintro e w8 ⟨rfl, hb8⟩
                  have HS8 := Lib.hid (HS.out.below hb8)
                  have HRI8 := Lib.hid (HRI.out.below hb8)
                  clear hb8 HC1 z0 z1
                  have z0 := HS8.out.k.cell 0
                  have z1 := HS8.out.k.cell 1
                  simp only [List.getElem?_toArray, List.getElem?_cons_zero, List.getElem?_cons_succ] at z0 z1
                  rw [HN.out] at z0
                  have HC2 := Lib.hid (cycle_any (some ⟨gl, 0, none⟩) cl 0 (-1) X w8 HRI8.out HOK.out.most)
                  rw [cycG_out (.inl (by decide)), HN.out] at HC2
                  go_wp2_with fail
                  refine HC2.out.mono ?_
                  rintro e w9 ⟨rfl, hb9⟩
                  have HS9 := Lib.hid (HS8.out.below hb9)
                  have HRI9 := Lib.hid (HRI8.out.below hb9)
                  clear hb9 HC2 z0 z1 HS8 HRI8
                  have z0 := HS9.out.k.cell 0
                  have z1 := HS9.out.k.cell 1
                  simp only [List.getElem?_toArray, List.getElem?_cons_zero, List.getElem?_cons_succ] at z0 z1
                  rw [HN.out] at z0
                  have HC3 := Lib.hid (cycle_any (some ⟨gl, 0, none⟩) cl 0 (n : Int) X w9 HRI9.out HOK.out.most)
                  rw [cycG_out (.inr (by rw [HN.out]; exact Int.le_refl _)), HN.out] at HC3
                  go_wp2_with fail
                  refine HC3.out.mono ?_
                  rintro e w10 ⟨rfl, hb10⟩
                  have HS10 := Lib.hid (HS9.out.below hb10)
                  clear hb10 HC3 z0 z1 HS9 HRI9
                  go_wp2_with fail
                  go_ret
                  exact ⟨rfl, HS10.out.b⟩
              | false =>
                have HSF := Lib.hid (show n - k = (n - (k + 1)) + 1 by omega)
                have HE2 := Lib.hid (show (if xc.op = 18 then (if xc.a = (a : Int) then true else cycG X (a : Int) (n - (k + 1)) xc.a) else false) = R by
                  have h := HE.out
                  rw [if_neg Bool.false_ne_true, HSF.out, cycG_at HXC.out] at h
                  exact h)
                clear HE HSF
                cases b1 with
                | false =>
                  obtain rfl : false = R := by rw [← HE2.out, if_neg (fun e => by rw [e] at hb1; cases hb1)]
                  have HC1 := Lib.hid (cycle_any (some ⟨gl, 0, none⟩) cl 0 (a : Int) X w7 HRI.out HOK.out.most)
                  rw [HN.out, HER.out] at HC1
                  go_wp2_with fail
                  refine HC1.out.mono ?_
                  rintro e w8 ⟨rfl, hb8⟩
                  have HS8 := Lib.hid (HS.out.below hb8)
                  have HRI8 := Lib.hid (HRI.out.below hb8)
                  clear hb8 HC1 z0 z1
                  have z0 := HS8.out.k.cell 0
                  have z1 := HS8.out.k.cell 1
                  simp only [List.getElem?_toArray, List.getElem?_cons_zero, List.getElem?_cons_succ] at z0 z1
                  rw [HN.out] at z0
                  have HC2 := Lib.hid (cycle_any (some ⟨gl, 0, none⟩) cl 0 (-1) X w8 HRI8.out HOK.out.most)
                  rw [cycG_out (.inl (by decide)), HN.out] at HC2
                  go_wp2_with fail
                  refine HC2.out.mono ?_
                  rintro e w9 ⟨rfl, hb9⟩
                  have HS9 := Lib.hid (HS8.out.below hb9)
                  have HRI9 := Lib.hid (HRI8.out.below hb9)
                  clear hb9 HC2 z0 z1 HS8 HRI8
                  have z0 := HS9.out.k.cell 0
                  have z1 := HS9.out.k.cell 1
                  simp only [List.getElem?_toArray, List.getElem?_cons_zero, List.getElem?_cons_succ] at z0 z1
                  rw [HN.out] at z0
                  have HC3 := Lib.hid (cycle_any (some ⟨gl, 0, none⟩) cl 0 (n : Int) X w9 HRI9.out HOK.out.most)
                  rw [cycG_out (.inr (by rw [HN.out]; exact Int.le_refl _)), HN.out] at HC3
                  go_wp2_with fail
                  refine HC3.out.mono ?_
                  rintro e w10 ⟨rfl, hb10⟩
                  have HS10 := Lib.hid (HS9.out.below hb10)
                  clear hb10 HC3 z0 z1 HS9 HRI9
                  go_wp2_with fail
                  go_ret
                  exact ⟨rfl, HS10.out.b⟩
                | true =>
                  have h18 : xc.op = 18 := by simpa using hb1
                  obtain ⟨a2, ha2⟩ : ∃ a2 : Nat, xc.a = a2 := ⟨xc.a.toNat, by have := HPX.out (place18 h18); omega⟩
                  have ha2n : a2 < n := by have := HPX.out (place18 h18); rw [HN.out] at this; omega
                  rw [ha2] at c1
                  obtain ⟨on2, hon2⟩ : ∃ b, ((a2 : Int) == (a : Int)) = b := ⟨_, rfl⟩
                  have HE3 := Lib.hid (show (if on2 = true then true else cycG X (a : Int) (n - (k + 1)) (a2 : Int)) = R by
                    rw [← HE2.out, if_pos h18, ha2]
                    by_cases he : (a2 : Int) = (a : Int)
                    · rw [if_pos he, if_pos (by rw [← hon2]; simp [he])]
                    · rw [if_neg he, if_neg (by rw [← hon2]; simp [he])])
                  clear HE2 h18 ha2 HPX HXC
                  go_wp2_with fail
                  go_roundw
                  case rel => exact ⟨k + 1, a2, on2, Nat.succ_le_of_lt hlt, ha2n, rfl, rfl, by go_num, HE3, by first | rfl | trivial⟩
                  case measure => exact meas_lt hlt
            · have hkn2 : n = k := by omega
              subst hkn2
              have hr2 : on = R := by rw [← HE.out, Nat.sub_self]; cases on <;> rfl
              subst hr2
              clear HE hlt hk
              cases on
              · have HC1 := Lib.hid (cycle_any (some ⟨gl, 0, none⟩) cl 0 (a : Int) X w7 HRI.out HOK.out.most)
                rw [HN.out, HER.out] at HC1
                go_wp2_with fail
                refine HC1.out.mono ?_
                rintro e w8 ⟨rfl, hb8⟩
                have HS8 := Lib.hid (HS.out.below hb8)
                have HRI8 := Lib.hid (HRI.out.below hb8)
                clear hb8 HC1 z0 z1
                have z0 := HS8.out.k.cell 0
                have z1 := HS8.out.k.cell 1
                simp only [List.getElem?_toArray, List.getElem?_cons_zero, List.getElem?_cons_succ] at z0 z1
                rw [HN.out] at z0
                have HC2 := Lib.hid (cycle_any (some ⟨gl, 0, none⟩) cl 0 (-1) X w8 HRI8.out HOK.out.most)
                rw [cycG_out (.inl (by decide)), HN.out] at HC2
                go_wp2_with fail
                refine HC2.out.mono ?_
                rintro e w9 ⟨rfl, hb9⟩
                have HS9 := Lib.hid (HS8.out.below hb9)
                have HRI9 := Lib.hid (HRI8.out.below hb9)
                clear hb9 HC2 z0 z1 HS8 HRI8
                have z0 := HS9.out.k.cell 0
                have z1 := HS9.out.k.cell 1
                simp only [List.getElem?_toArray, List.getElem?_cons_zero, List.getElem?_cons_succ] at z0 z1
                rw [HN.out] at z0
                have HC3 := Lib.hid (cycle_any (some ⟨gl, 0, none⟩) cl 0 (n : Int) X w9 HRI9.out HOK.out.most)
                rw [cycG_out (.inr (by rw [HN.out]; exact Int.le_refl _)), HN.out] at HC3
                go_wp2_with fail
                refine HC3.out.mono ?_
                rintro e w10 ⟨rfl, hb10⟩
                have HS10 := Lib.hid (HS9.out.below hb10)
                clear hb10 HC3 z0 z1 HS9 HRI9
                go_wp2_with fail
                go_ret
                exact ⟨rfl, HS10.out.b⟩
              · have HC1 := Lib.hid (cycle_any (some ⟨gl, 0, none⟩) cl 0 (a : Int) X w7 HRI.out HOK.out.most)
                rw [HN.out, HER.out] at HC1
                go_wp2_with fail
                refine HC1.out.mono ?_
                rintro e w8 ⟨rfl, hb8⟩
                have HS8 := Lib.hid (HS.out.below hb8)
                have HRI8 := Lib.hid (HRI.out.below hb8)
                clear hb8 HC1 z0 z1
                have z0 := HS8.out.k.cell 0
                have z1 := HS8.out.k.cell 1
                simp only [List.getElem?_toArray, List.getElem?_cons_zero, List.getElem?_cons_succ] at z0 z1
                rw [HN.out] at z0
                have HC2 := Lib.hid (cycle_any (some ⟨gl, 0, none⟩) cl 0 (-1) X w8 HRI8.out HOK.out.most)
                rw [cycG_out (.inl (by decide)), HN.out] at HC2
                go_wp2_with fail
                refine HC2.out.mono ?_
                rintro e w9 ⟨rfl, hb9⟩
                have HS9 := Lib.hid (HS8.out.below hb9)
                have HRI9 := Lib.hid (HRI8.out.below hb9)
                clear hb9 HC2 z0 z1 HS8 HRI8
                have z0 := HS9.out.k.cell 0
                have z1 := HS9.out.k.cell 1
                simp only [List.getElem?_toArray, List.getElem?_cons_zero, List.getElem?_cons_succ] at z0 z1
                rw [HN.out] at z0
                have HC3 := Lib.hid (cycle_any (some ⟨gl, 0, none⟩) cl 0 (n : Int) X w9 HRI9.out HOK.out.most)
                rw [cycG_out (.inr (by rw [HN.out]; exact Int.le_refl _)), HN.out] at HC3
                go_wp2_with fail
                refine HC3.out.mono ?_
                rintro e w10 ⟨rfl, hb10⟩
                have HS10 := Lib.hid (HS9.out.below hb10)
                clear hb10 HC3 z0 z1 HS9 HRI9
                go_wp2_with fail
                go_ret
                exact ⟨rfl, HS10.out.b⟩
    | cons i W1 =>
      obtain ⟨l1, hl1⟩ : ∃ l1, W1.length = l1 := ⟨_, rfl⟩
      have HL1 := Lib.hid hl1
      have hlw := HLW.out
      rw [List.length_cons, hl1] at hlw
      subst hlw
      have hcap : l1 + 1 ≤ c' := by have := HS.out.qr.cap; rw [List.length_cons, hl1] at this; exact this
      have hl1b : l1 ≤ 20000 := by have := HCT.out; rw [List.length_cons, hl1] at this; omega
      have HCT2 := Lib.hid (show W1.length + seen.count false ≤ 19999 by have := HCT.out; rw [List.length_cons] at this; omega)
      clear hl1 HLW
      have HI := Lib.hid (show i < n by
        have := isS_lt (HWI.out.work i (List.mem_cons_self ..))
        rwa [HWI.out.len] at this)
      have HWI2 := Lib.hid (HWI.out.pop (i := i) (W' := W1) (by simp))
      have HFC := Lib.hid (falsesOf_eq (by have := HS.out.s; rwa [HN.out] at this))
      have q0 := HS.out.qr.cell (j := 0) (x := i) rfl
      have z0 := HS.out.k.cell 0
      have z1 := HS.out.k.cell 1
      simp only [List.getElem?_toArray, List.getElem?_cons_zero, List.getElem?_cons_succ, Nat.add_zero] at z0 z1 q0
      rw [HN.out] at z0
      clear HWI HCT
      have HT := Lib.hid (fun W (hb : Below wr.heap.size wr W) => targets_any (some ⟨gl, 0, none⟩) cl 0 (i : Int) X W HOK.out.most (by have := HI.out; constructor <;> omega) (rdI_of (HS.out.below hb).x rfl))
      rw [HN.out] at HT
      go_upto_region 9 with (fail)
      apply wp_region_relA 4 [eqT _, eqT _, eqT _, eqT _] (by kernel_rfl) (by kernel_rfl) (by kernel_rfl) rfl
      focus
        refine ⟨?_, ?_⟩
        focus
          unfold opGoal
          rw [if_pos (by kernel_rfl)]
          intro x hb hd K hk
          clear hd
          have y0 := cell_keep hb z0
          have y1 := cell_keep hb z1
          go_wp2_with fail
          exact hk _ _ rfl trivial (Below.refl _ _)
        rintro _ rfl
        simp only [Act.put, List.setIfInBounds_toArray, List.set_cons_succ, List.set_cons_zero]
        refine ⟨?_, ?_⟩
        focus
          unfold opGoal
          rw [if_pos (by kernel_rfl)]
          intro x hb hd K hk
          clear hd
          go_wp2_with fail
          exact hk _ _ rfl trivial (Below.refl _ _)
        rintro _ rfl
        simp only [Act.put, List.setIfInBounds_toArray, List.set_cons_succ, List.set_cons_zero]
        refine ⟨?_, ?_⟩
        focus
          unfold opGoal
          rw [if_pos (by kernel_rfl)]
          intro x hb hd K hk
          clear hd
          go_wp2_with fail
          exact hk _ _ rfl trivial (Below.refl _ _)
        rintro _ rfl
        simp only [Act.put, List.setIfInBounds_toArray, List.set_cons_succ, List.set_cons_zero]
        refine ⟨?_, ?_⟩
        focus
          unfold opGoal
          rw [if_pos (by kernel_rfl)]
          intro x hb hd K hk
          clear hd
          have l0 := cell_keep hb q0
          go_wp2_with fail
          exact hk _ _ rfl trivial (Below.refl _ _)
        rintro _ rfl
        simp only [Act.put, List.setIfInBounds_toArray, List.set_cons_succ, List.set_cons_zero]
        intro x hbx hf
        simp only [List.drop_succ_cons, List.drop_zero]
        replace HS := Lib.hid (HS.out.below hbx)
        have HTX := Lib.hid (HT.out x hbx)
        clear hf HT z0 z1 q0 hbx
        go_wp2_with fail
        refine HTX.out.mono ?_
        rintro e w10 ⟨AT, ct, mt, hmt, rfl, hot, hb10⟩
        have HLT := Lib.hid (show (tgN X i).length = mt by rw [hmt]; unfold tgN; rw [List.length_map])
        have HTO := Lib.hid (show w10.ownsRow x.heap.size 3 1 (.slice AT (tgN X i).length ct) (tgN X i).length ((tgN X i).flatMap intN) from by rw [HLT.out, ← tgN_enc]; exact hot)
        have HAP := Lib.hid (show gq < x.heap.size from by obtain ⟨cur, hb, _⟩ := HS.out.qr.blk; exact hb.lt)
        replace HS := Lib.hid (HS.out.below hb10)
        have HTL := Lib.hid (show mt ≤ 9000 by rw [hmt]; exact targL_len X (i : Int))
        clear hot hb10 hmt HTX
        by_cases hc1 : c' = 1
        · subst hc1
          have HS2 := Lib.hid (show ThR w w10 g6 gl cl gb gq q 0 X seen W1 from ⟨HS.out.s, by have := HS.out.qr.pop; rwa [if_pos rfl] at this, HS.out.k, HS.out.x, HS.out.b⟩)
          replace HS := HS2
          clear HS2
          obtain rfl : l1 = 0 := by omega
          go_upto_region 12 with (fail)
          have HPS := Lib.hid (rfl : pushS seen W1 ((tgN X i).drop 0) = pushS seen W1 (tgN X i))
          have HA2 := Lib.hid (show (Value.slice AT (tgN X i).length ct).ownBlock ≠ some gq from fun e => by
            have := (HTO.out.lt gq e).1
            have := HAP.out
            omega)
          have HC2 := Lib.hid (show W1.length + seen.count false ≤ 20000 by have := HCT2.out; omega)
          have HWO := Lib.hid (show falsesOf wr w.heap.size gb n = seen.count false from HFC.out)
          clear HAP HFC
          go_loopw [8, 10] (fun v8 v10 wr => ∃ (k : Nat) (seen' : List Bool) (W' : List Nat) (g' q' c' lw : Nat), k ≤ mt ∧ Hid (W'.length = lw) ∧ v8 = .slice (some ⟨g', q', none⟩) lw c' ∧ v10 = .int .i64 k ∧ Hid (ThR w wr g6 gl cl gb g' q' c' X seen' W') ∧ Hid (pushS seen' W' ((tgN X i).drop k) = pushS seen W1 (tgN X i)) ∧ Hid (wr.ownsRow x.heap.size 3 1 (.slice AT (tgN X i).length ct) (tgN X i).length ((tgN X i).flatMap intN)) ∧ Hid ((Value.slice AT (tgN X i).length ct).ownBlock ≠ some g') ∧ Hid (W'.length + seen'.count false ≤ 20000)) (fun _ v10 _ => mt - (intOf v10).toNat)
          case atStart => exact ⟨0, seen, W1, gq, q, 0, 0, Nat.zero_le _, HL1, rfl, rfl, HS, HPS, HTO, HA2, HC2⟩
          case round =>
            clear HS HPS HTO HA2 HC2
            obtain ⟨k, seen', W', g', q', c'', lw, hk, HLW, rfl, rfl, HS, HPS, HTO, HA2, HC2⟩ := hrel
            by_cases hlt : k < mt
            · have hk9 : k < 9000 := by have := HTL.out; omega
              have hkL : k < (tgN X i).length := by rw [HLT.out]; exact hlt
              obtain ⟨bt, ot, rfl, hbl, hcell⟩ := (rd_of_own HTO.out) k hkL
              obtain ⟨p, hp⟩ : ∃ p, p = (tgN X i)[k] := ⟨_, rfl⟩
              have hdr := List.drop_eq_getElem_cons hkL
              have hpn := tgN_lt (X := X) (i := i) (tgN X i)[k] (List.getElem_mem _)
              rw [← hp] at hcell hdr hpn
              rw [HN.out] at hpn
              have c0 := hcell 0 _ rfl
              simp only [Nat.add_zero, Nat.mul_one] at c0
              have HCF := Lib.hid (fun (W : World) (h : W.ownsRow x.heap.size 3 1 (.slice (some ⟨bt, ot, none⟩) (tgN X i).length ct) (tgN X i).length ((tgN X i).flatMap intN)) => show W.cell? ⟨bt, ot + k, none⟩ = some (.int .i64 (p : Int)) from by
                have h2 := ((rd_of_own h).at_ hkL).2 0 _ rfl
                rw [← hp] at h2
                simpa using h2)
              have HDR := Lib.hid hdr
              obtain ⟨sb, hsb⟩ : ∃ sb, seen'[p]? = some sb := ⟨_, List.getElem?_eq_getElem (by rw [HS.out.s.len, HN.out]; exact hpn)⟩
              have s0 := HS.out.s.cell hsb
              clear hcell hp hdr hkL hbl
              cases sb with
              | true =>
                have HE2 := Lib.hid (show pushS seen' W' ((tgN X i).drop (k + 1)) = pushS seen W1 (tgN X i) by rw [← HPS.out, HDR.out, pushS, if_pos hsb])
                clear HPS HDR hsb
                go_wp2_with fail
                go_roundw
                case rel => exact ⟨k + 1, seen', W', g', q', c'', lw, Nat.succ_le_of_lt hlt, HLW, rfl, by go_num, HS, HE2, HTO, HA2, HC2⟩
                case measure => exact meas_lt hlt
              | false =>
                have HE2 := Lib.hid (show pushS (seen'.set p true) (W' ++ [p]) ((tgN X i).drop (k + 1)) = pushS seen W1 (tgN X i) by rw [← HPS.out, HDR.out, pushS, if_neg (by rw [hsb]; simp)])
                have HM2 := Lib.hid (show (W' ++ [p]).length + (seen'.set p true).count false ≤ 20000 by
                  have h1 := @count_set 0 seen' p hsb
                  have h2 := HC2.out
                  rw [List.length_append]
                  simp
                  omega)
                have hwl : lw ≤ 20000 := by have := HC2.out; have := HLW.out; omega
                have fs := HS.out.s.frozenAt p
                obtain ⟨_, cur, hB⟩ := own_blk HS.out.s
                have HB5 := Lib.hid (But.set (B := gb) wr p (.bool true))
                have HT5 := Lib.hid (own_but HTO.out HB5.out hB (by decide))
                have HS5 := Lib.hid (HS.out.see p)
                have c5 := HCF.out _ HT5.out
                clear HPS HDR hsb HC2 HTO HB5 HS hB HCF
                go_upto_region 18 with (fail)
                generalize wr.setCell ⟨gb, p, none⟩ (.bool true) = w5 at *
                clear s0 fs c0
                have hwz := HS5.out.b.size
                have HQ5 := Lib.hid HS5.out.qr
                go_upto_region 13 with (at_builtin; refine wpList_qpush rfl _ _ rfl HQ5.out HLW.out rfl rfl (by omega) hwz ?_; intro g8 q8 c8 w8 hq8 hb8 hbl8 ho8 hg8)
                have HS8 := Lib.hid (HS5.out.push hq8 hbl8 ho8)
                have HLW8 := Lib.hid (show (W' ++ [p]).length = lw + 1 by rw [List.length_append, HLW.out]; rfl)
                have HT8 := Lib.hid (own_but_ne HT5.out hb8 HA2.out)
                have HA8 := Lib.hid (show (Value.slice (some ⟨bt, ot, none⟩) (tgN X i).length ct).ownBlock ≠ some g8 from fun e => by
                  rcases hg8 with h | h
                  · rw [h] at e; exact HA2.out e
                  · have := (HT5.out.lt g8 e).2
                    omega)
                clear hq8 hb8 hbl8 ho8 hg8 HS5 HQ5 HT5 HA2 hwz c5
                go_wp2_with fail
                go_roundw
                case rel => exact ⟨k + 1, seen'.set p true, W' ++ [p], g8, q8, c8, lw + 1, Nat.succ_le_of_lt hlt, HLW8, rfl, by go_num, HS8, HE2, HT8, HA8, HM2⟩
                case measure => exact meas_lt hlt
            · have hkm : mt = k := by omega
              subst hkm
              have HE := Lib.hid (show (seen', W') = pushS seen W1 (tgN X i) by rw [← HPS.out, List.drop_of_length_le (by rw [HLT.out]; exact Nat.le_refl _)]; rfl)
              have hsl : seen.length = n := HWI2.out.len
              have HPM := Lib.hid (pushS_meas (L := tgN X i) (seen := seen) (W := W1) (fun k hk => by rw [hsl, ← HN.out]; exact tgN_lt k hk))
              have HWI3 := Lib.hid (show WInv (tgN X) n seen' W' none [] from by
                have := (WInv.pushS HWI2.out (fun k hk => by rw [← HN.out]; exact tgN_lt k hk)).done
                rw [← HE.out] at this
                exact this)
              have HF3 := Lib.hid (show falsesOf wr w.heap.size gb n = seen'.count false from falsesOf_eq (by have := HS.out.s; rwa [HN.out] at this))
              have HLE := Lib.hid (show seen'.count false ≤ seen.count false by
                have := pushS_le (tgN X i) seen W1
                rw [← HE.out] at this
                exact this)
              have HPM2 := Lib.hid (show W'.length + seen'.count false = W1.length + seen.count false by
                have := HPM.out
                rw [← HE.out] at this
                exact this)
              clear HPS HTO HA2 hlt hk HE HPM hsl
              go_wp2_with fail
              go_roundw
              case rel => exact ⟨seen', W', g', q', c'', lw, HLW, rfl, HWI3, HS, HC2⟩
              case measure =>
                simp only [lenOf]
                rw [HF3.out, HWO.out]
                have h1 := HPM2.out
                have h2 := HLE.out
                have h3 := HL1.out
                have h4 := HLW.out
                omega
        · have HS2 := Lib.hid (show ThR w w10 g6 gl cl gb gq (q + 1) (c' - 1) X seen W1 from ⟨HS.out.s, by have := HS.out.qr.pop; rwa [if_neg hc1] at this, HS.out.k, HS.out.x, HS.out.b⟩)
          replace HS := HS2
          clear HS2
          go_upto_region 12 with (fail)
          have HPS := Lib.hid (rfl : pushS seen W1 ((tgN X i).drop 0) = pushS seen W1 (tgN X i))
          have HA2 := Lib.hid (show (Value.slice AT (tgN X i).length ct).ownBlock ≠ some gq from fun e => by
            have := (HTO.out.lt gq e).1
            have := HAP.out
            omega)
          have HC2 := Lib.hid (show W1.length + seen.count false ≤ 20000 by have := HCT2.out; omega)
          have HWO := Lib.hid (show falsesOf wr w.heap.size gb n = seen.count false from HFC.out)
          clear HAP HFC
          go_loopw [8, 10] (fun v8 v10 wr => ∃ (k : Nat) (seen' : List Bool) (W' : List Nat) (g' q' c' lw : Nat), k ≤ mt ∧ Hid (W'.length = lw) ∧ v8 = .slice (some ⟨g', q', none⟩) lw c' ∧ v10 = .int .i64 k ∧ Hid (ThR w wr g6 gl cl gb g' q' c' X seen' W') ∧ Hid (pushS seen' W' ((tgN X i).drop k) = pushS seen W1 (tgN X i)) ∧ Hid (wr.ownsRow x.heap.size 3 1 (.slice AT (tgN X i).length ct) (tgN X i).length ((tgN X i).flatMap intN)) ∧ Hid ((Value.slice AT (tgN X i).length ct).ownBlock ≠ some g') ∧ Hid (W'.length + seen'.count false ≤ 20000)) (fun _ v10 _ => mt - (intOf v10).toNat)
          case atStart => exact ⟨0, seen, W1, gq, (q + 1), (c' - 1), l1, Nat.zero_le _, HL1, rfl, rfl, HS, HPS, HTO, HA2, HC2⟩
          case round =>
            clear HS HPS HTO HA2 HC2
            obtain ⟨k, seen', W', g', q', c'', lw, hk, HLW, rfl, rfl, HS, HPS, HTO, HA2, HC2⟩ := hrel
            by_cases hlt : k < mt
            · have hk9 : k < 9000 := by have := HTL.out; omega
              have hkL : k < (tgN X i).length := by rw [HLT.out]; exact hlt
              obtain ⟨bt, ot, rfl, hbl, hcell⟩ := (rd_of_own HTO.out) k hkL
              obtain ⟨p, hp⟩ : ∃ p, p = (tgN X i)[k] := ⟨_, rfl⟩
              have hdr := List.drop_eq_getElem_cons hkL
              have hpn := tgN_lt (X := X) (i := i) (tgN X i)[k] (List.getElem_mem _)
              rw [← hp] at hcell hdr hpn
              rw [HN.out] at hpn
              have c0 := hcell 0 _ rfl
              simp only [Nat.add_zero, Nat.mul_one] at c0
              have HCF := Lib.hid (fun (W : World) (h : W.ownsRow x.heap.size 3 1 (.slice (some ⟨bt, ot, none⟩) (tgN X i).length ct) (tgN X i).length ((tgN X i).flatMap intN)) => show W.cell? ⟨bt, ot + k, none⟩ = some (.int .i64 (p : Int)) from by
                have h2 := ((rd_of_own h).at_ hkL).2 0 _ rfl
                rw [← hp] at h2
                simpa using h2)
              have HDR := Lib.hid hdr
              obtain ⟨sb, hsb⟩ : ∃ sb, seen'[p]? = some sb := ⟨_, List.getElem?_eq_getElem (by rw [HS.out.s.len, HN.out]; exact hpn)⟩
              have s0 := HS.out.s.cell hsb
              clear hcell hp hdr hkL hbl
              cases sb with
              | true =>
                have HE2 := Lib.hid (show pushS seen' W' ((tgN X i).drop (k + 1)) = pushS seen W1 (tgN X i) by rw [← HPS.out, HDR.out, pushS, if_pos hsb])
                clear HPS HDR hsb
                go_wp2_with fail
                go_roundw
                case rel => exact ⟨k + 1, seen', W', g', q', c'', lw, Nat.succ_le_of_lt hlt, HLW, rfl, by go_num, HS, HE2, HTO, HA2, HC2⟩
                case measure => exact meas_lt hlt
              | false =>
                have HE2 := Lib.hid (show pushS (seen'.set p true) (W' ++ [p]) ((tgN X i).drop (k + 1)) = pushS seen W1 (tgN X i) by rw [← HPS.out, HDR.out, pushS, if_neg (by rw [hsb]; simp)])
                have HM2 := Lib.hid (show (W' ++ [p]).length + (seen'.set p true).count false ≤ 20000 by
                  have h1 := @count_set 0 seen' p hsb
                  have h2 := HC2.out
                  rw [List.length_append]
                  simp
                  omega)
                have hwl : lw ≤ 20000 := by have := HC2.out; have := HLW.out; omega
                have fs := HS.out.s.frozenAt p
                obtain ⟨_, cur, hB⟩ := own_blk HS.out.s
                have HB5 := Lib.hid (But.set (B := gb) wr p (.bool true))
                have HT5 := Lib.hid (own_but HTO.out HB5.out hB (by decide))
                have HS5 := Lib.hid (HS.out.see p)
                have c5 := HCF.out _ HT5.out
                clear HPS HDR hsb HC2 HTO HB5 HS hB HCF
                go_upto_region 18 with (fail)
                generalize wr.setCell ⟨gb, p, none⟩ (.bool true) = w5 at *
                clear s0 fs c0
                have hwz := HS5.out.b.size
                have HQ5 := Lib.hid HS5.out.qr
                go_upto_region 13 with (at_builtin; refine wpList_qpush rfl _ _ rfl HQ5.out HLW.out rfl rfl (by omega) hwz ?_; intro g8 q8 c8 w8 hq8 hb8 hbl8 ho8 hg8)
                have HS8 := Lib.hid (HS5.out.push hq8 hbl8 ho8)
                have HLW8 := Lib.hid (show (W' ++ [p]).length = lw + 1 by rw [List.length_append, HLW.out]; rfl)
                have HT8 := Lib.hid (own_but_ne HT5.out hb8 HA2.out)
                have HA8 := Lib.hid (show (Value.slice (some ⟨bt, ot, none⟩) (tgN X i).length ct).ownBlock ≠ some g8 from fun e => by
                  rcases hg8 with h | h
                  · rw [h] at e; exact HA2.out e
                  · have := (HT5.out.lt g8 e).2
                    omega)
                clear hq8 hb8 hbl8 ho8 hg8 HS5 HQ5 HT5 HA2 hwz c5
                go_wp2_with fail
                go_roundw
                case rel => exact ⟨k + 1, seen'.set p true, W' ++ [p], g8, q8, c8, lw + 1, Nat.succ_le_of_lt hlt, HLW8, rfl, by go_num, HS8, HE2, HT8, HA8, HM2⟩
                case measure => exact meas_lt hlt
            · have hkm : mt = k := by omega
              subst hkm
              have HE := Lib.hid (show (seen', W') = pushS seen W1 (tgN X i) by rw [← HPS.out, List.drop_of_length_le (by rw [HLT.out]; exact Nat.le_refl _)]; rfl)
              have hsl : seen.length = n := HWI2.out.len
              have HPM := Lib.hid (pushS_meas (L := tgN X i) (seen := seen) (W := W1) (fun k hk => by rw [hsl, ← HN.out]; exact tgN_lt k hk))
              have HWI3 := Lib.hid (show WInv (tgN X) n seen' W' none [] from by
                have := (WInv.pushS HWI2.out (fun k hk => by rw [← HN.out]; exact tgN_lt k hk)).done
                rw [← HE.out] at this
                exact this)
              have HF3 := Lib.hid (show falsesOf wr w.heap.size gb n = seen'.count false from falsesOf_eq (by have := HS.out.s; rwa [HN.out] at this))
              have HLE := Lib.hid (show seen'.count false ≤ seen.count false by
                have := pushS_le (tgN X i) seen W1
                rw [← HE.out] at this
                exact this)
              have HPM2 := Lib.hid (show W'.length + seen'.count false = W1.length + seen.count false by
                have := HPM.out
                rw [← HE.out] at this
                exact this)
              clear HPS HTO HA2 hlt hk HE HPM hsl
              go_wp2_with fail
              go_roundw
              case rel => exact ⟨seen', W', g', q', c'', lw, HLW, rfl, HWI3, HS, HC2⟩
              case measure =>
                simp only [lenOf]
                rw [HF3.out, HWO.out]
                have h1 := HPM2.out
                have h2 := HLE.out
                have h3 := HL1.out
                have h4 := HLW.out
                omega
end Go.Proofs.YtpogngdddendiaaDoor
