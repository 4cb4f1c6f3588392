/- The walk over (*thread.pass).leave: instructions left out, places turned. A bound on the length. -/
import Derived.Test.YtpogngdddendiaaDoorGS
import Derived.Test.YtpogngdddendiaaDoorGC
import Derived.Handy
import Derived.Test.YtpogngdddendiaaDoorGF
set_option linter.unusedVariables false
set_option linter.unusedSimpArgs false
namespace Go.Proofs.YtpogngdddendiaaDoor
open Go.RowKit

/-- How many stand ahead of each of the first k. -/
def toK (g : Nat → Bool) (n k : Nat) : List Nat := (List.range n).map fun j => if j < k then cntK g j else 0
theorem toK_zero (g : Nat → Bool) (n : Nat) : toK g n 0 = List.replicate n 0 := by
  refine List.ext_getElem (by simp [toK]) fun j h1 h2 => by simp [toK]
theorem toK_succ (g : Nat → Bool) (n k : Nat) (h : k < n) : toK g n (k + 1) = (toK g n k).set k (cntK g k) := by
  refine List.ext_getElem (by simp [toK]) fun j h1 h2 => ?_
  rw [List.getElem_set]
  simp only [toK, List.getElem_map, List.getElem_range]
  by_cases e : k = j
  · subst e; simp
  · rw [if_neg e]
    have : (j < k + 1) = (j < k) := by simp only [eq_iff_iff]; omega
    simp only [this]
theorem toK_all (g : Nat → Bool) {n j : Nat} (h : j < n) : (toK g n n)[j]? = some (cntK g j) := by
  unfold toK
  rw [List.getElem?_map, List.getElem?_range h, Option.map_some, if_pos h]
/-- The first k are turned. -/
def remK (f : Nat → Nat) (L : List Ins) (k : Nat) : List Ins := L.mapIdx fun i x => if i < k then remap f x else x
theorem remK_length (f : Nat → Nat) (L : List Ins) (k : Nat) : (remK f L k).length = L.length := by simp [remK]
theorem remK_get? (f : Nat → Nat) (L : List Ins) (k i : Nat) : (remK f L k)[i]? = L[i]?.map fun x => if i < k then remap f x else x := by simp [remK]
theorem remK_zero (f : Nat → Nat) (L : List Ins) : remK f L 0 = L := by
  refine List.ext_getElem? fun i => ?_
  rw [remK_get?]
  cases L[i]? <;> simp
theorem remK_all (f : Nat → Nat) (L : List Ins) : remK f L L.length = L.map (remap f) := by
  refine List.ext_getElem? fun i => ?_
  rw [remK_get?, List.getElem?_map]
  cases hx : L[i]? with
  | none => rfl
  | some x => rw [Option.map_some, Option.map_some, if_pos (List.getElem?_eq_some_iff.1 hx).1]
theorem remK_at {f : Nat → Nat} {L : List Ins} {k : Nat} {x : Ins} (hx : L[k]? = some x) : (remK f L k)[k]? = some x := by
  rw [remK_get?, hx, Option.map_some, if_neg (Nat.lt_irrefl _)]
theorem remK_next {f : Nat → Nat} {L : List Ins} {k : Nat} {x : Ins} (hx : L[k]? = some x) : remK f L (k + 1) = (remK f L k).set k (remap f x) := by
  refine List.ext_getElem? fun i => ?_
  rw [List.getElem?_set, remK_length, remK_get?, remK_get?]
  by_cases e : k = i
  · subst e
    rw [if_pos rfl, if_pos (List.getElem?_eq_some_iff.1 hx).1, hx, Option.map_some, if_pos (Nat.lt_succ_self _)]
  · rw [if_neg e]
    cases L[i]? with
    | none => rfl
    | some x =>
      have : (i < k + 1) = (i < k) := by simp only [eq_iff_iff]; omega
      simp only [Option.map_some, this]
def remA (f : Nat → Nat) (x : Ins) : Ins := { x with a := if placeA x.op = true then (f x.a.toNat : Int) else x.a }
theorem remap_A (f : Nat → Nat) (x : Ins) : remap f x = { remA f x with b := if placeB x.op = true then (f x.b.toNat : Int) else x.b } := rfl
/-- Some are left out; the pass has a new row; all else stands. -/
def Left (w0 : World) (base g : Nat) (X : List Ins) (gf : Nat → Bool) (st : Int) (vc : Value) (e : Ending) (w' : World) : Prop :=
  ∃ b gl' cl', e = .returned (.bool b) ∧ PassW w' base g gl' (leaveX X gf) cl' st vc ∧ w0.heap.size ≤ gl' ∧ But g w0 w'
/-- Within leave. -/
structure LvW (w0 w : World) (gt : Nat) (X : List Ins) (gf : Nat → Bool) (k : Nat) (vo : Value) : Prop where
  t : rowN w w0.heap.size gt X.length (toK gf X.length k)
  o : OwnI w w0.heap.size vo (keptK X gf k)
  b : Below w0.heap.size w0 w
structure LvX (w0 w : World) (gt go_ co : Nat) (X : List Ins) (gf : Nat → Bool) (L Y : List Ins) : Prop where
  t : rowN w w0.heap.size gt X.length (toK gf X.length X.length)
  o : w.ownsRow w0.heap.size 36 4 (.slice (some ⟨go_, 0, none⟩) L.length co) L.length (Y.flatMap insc)
  b : Below w0.heap.size w0 w
  len : Y.length = L.length
section
variable {w0 w w' : World} {gt go_ co : Nat} {X : List Ins} {gf : Nat → Bool} {k : Nat} {vo : Value} {L Y : List Ins}
theorem LvW.below (h : LvW w0 w gt X gf k vo) (hb : Below w.heap.size w w') : LvW w0 w' gt X gf k vo := ⟨h.t.below hb, h.o.below hb, h.b.trans (hb.mono h.b.size)⟩
theorem LvX.below (h : LvX w0 w gt go_ co X gf L Y) (hb : Below w.heap.size w w') : LvX w0 w' gt go_ co X gf L Y := ⟨h.t.below hb, own_below h.o hb, h.b.trans (hb.mono h.b.size), h.len⟩
theorem LvX.rd (h : LvX w0 w gt go_ co X gf L Y) : RdL w 4 insc (some ⟨go_, 0, none⟩) Y := by
  obtain ⟨A, c, he, _, _, h2, _⟩ := RdL.of_own (enc := insc) (sz := 4) (fun _ => rfl) h.o h.len.symm
  injection he with he
  subst he
  exact h2
theorem LvX.store (h : LvX w0 w gt go_ co X gf L Y) {j : Nat} {x y : Ins} {u : Value} (hx : Y[k]? = some x) (hj : j < 4) (hy : insc y = (insc x).set j u) : LvX w0 (w.setCell ⟨go_, k * 4 + j, none⟩ u) gt go_ co X gf L (Y.set k y) := by
  obtain ⟨hge, cur, hB⟩ := own_blk h.o
  have hb := But.set (B := go_) w (k * 4 + j) u
  have h1 := (World.ownsRow.stored h.o (k * 4 + j) u).1
  rw [flat_set (enc := insc) (sz := 4) (fun _ => rfl) Y k j x y u hx hj hy] at h1
  exact ⟨h.t.but hb hB (by decide), h1, h.b.trans (hb.below hge h.b.size), by rw [List.length_set]; exact h.len⟩
theorem LvW.put (h : LvW w0 w gt X gf k vo) (hk : k < X.length) {z : Int} (hz : z = (cntK gf k : Int)) :
    rowN (w.setCell ⟨gt, k, none⟩ (.int .i64 z)) w0.heap.size gt X.length (toK gf X.length (k + 1)) ∧ OwnI (w.setCell ⟨gt, k, none⟩ (.int .i64 z)) w0.heap.size vo (keptK X gf k) ∧ Below w0.heap.size w0 (w.setCell ⟨gt, k, none⟩ (.int .i64 z)) ∧ But gt w (w.setCell ⟨gt, k, none⟩ (.int .i64 z)) := by
  obtain ⟨hge, cur, hB⟩ := own_blk h.t
  have hb := But.set (B := gt) w k (.int .i64 z)
  refine ⟨by rw [toK_succ _ _ _ hk]; exact h.t.set k _ hz, ?_, h.b.trans (hb.below hge h.b.size), hb⟩
  obtain ⟨A, c, hv, ho⟩ := h.o
  exact ⟨A, c, hv, own_but ho hb hB (by decide)⟩
end
set_option maxRecDepth 100000 in
set_option maxHeartbeats 4000000 in
theorem leave_any (base g gl cl fid : Nat) (c1 c2 : Value) (X : List Ins) (gf : Nat → Bool) (st : Int) (vc : Value) (w : World) (hw : PassW w base g gl X cl st vc) (hbs : base ≤ w.heap.size) (hok : okC X) (hlast : gf (X.length - 1) = false)
    (hf : ∀ i, i < X.length → ∀ W, Below w.heap.size w W → Calls Tryd.prog fid #[.int .i64 (i : Int), c1, c2] W (Ret W (.bool (gf i))))
    (hent : ∀ args W, (callFunc fid args).run Tryd.prog W = .ok (.enter fid args) W) :
    Calls Tryd.prog 72 #[.pointer (some ⟨g, 0, none⟩), .func (.func fid) #[] #[c1, c2]] w (Left w base g X gf st vc) := by
  obtain ⟨i0, hi, hz0, hz1, hz2⟩ := info_parts infoIns
  obtain ⟨m, hm⟩ : ∃ m, X.length = m := ⟨_, rfl⟩
  have HM := Lib.hid hm
  have HOK := Lib.hid hok
  have HW := Lib.hid hw
  have HF := Lib.hid hf
  have HBS := Lib.hid hbs
  have HLA := Lib.hid hlast
  have hn : m ≤ 9000 := by rw [← hm]; exact hok.most
  have JC := Lib.hid (fun (op : Int) (W : World) => jumps_any op W)
  have z0 := hw.blk.cell 0
  simp only [List.getElem?_toArray, List.getElem?_cons_zero] at z0
  rw [hm] at z0
  clear hm hok hw hf hbs hlast
  go_enter Tryd.func72, Tryd.ntmps72
  go_upto_region 2 with (at_make; refine wpList_mkN rfl _ _ rfl w.heap.size m _ _ rfl rfl rfl rfl (by omega) (Nat.le_refl _) ?_; intro w3 ho3 hb3; have y0 := cell_keep hb3 z0)
  obtain ⟨gt, hgt⟩ : ∃ gt, gt = w.heap.size := ⟨_, rfl⟩
  have HS := Lib.hid (show LvW w w3 gt X gf 0 (.slice none 0 0) from
    ⟨by rw [toK_zero, HM.out, hgt]; exact ho3, ⟨none, 0, rfl, World.ownsRow_nil _ _ _ _⟩, hb3⟩)
  rw [← hgt]
  clear ho3 hb3 hgt z0
  go_wp2_with fail
  clear y0
  go_loopw [6, 26] (fun vo v wr => ∃ (k : Nat) (A : Option Addr) (n c : Nat), k ≤ m ∧ vo = .slice A n c ∧ v = .int .i64 k ∧ Hid (LvW w wr gt X gf k (.slice A n c))) (fun _ v _ => m - (intOf v).toNat)
  case atStart => exact ⟨0, none, 0, 0, Nat.zero_le _, rfl, rfl, HS⟩
  case round =>
    clear HS
    obtain ⟨k, A, n, c, hk, rfl, rfl, HS⟩ := hrel
    obtain ⟨A', c', hv, ho⟩ := HS.out.o
    have hn' : n = cntK gf k := by
      have := keptK_length X gf k (by rw [HM.out]; exact hk)
      injection hv with _ hv _
      omega
    have HNK := Lib.hid hn'
    have hnk : n ≤ 9000 := by have := cntK_le gf k; omega
    clear hv ho hn' A' c'
    by_cases hlt : k < m
    · have HKX := Lib.hid (show k < X.length by rw [HM.out]; exact hlt)
      obtain ⟨x, hx⟩ := at_some HKX.out
      have HX := Lib.hid hx
      have hcell := ((HW.out.below HS.out.b).rd.at_ HKX.out).2
      rw [getElem_of? HKX.out hx] at hcell
      have c0 := hcell 0 _ rfl
      have c1' := hcell 1 _ rfl
      have c2' := hcell 2 _ rfl
      have c3' := hcell 3 _ rfl
      simp only [Nat.add_zero, Nat.zero_add] at c0 c1' c2' c3'
      clear hcell hx
      go_upto_region 6 with (fail)
      obtain ⟨W3, hW3⟩ : ∃ W3, W3 = wr.alloc (.cells #[.int .i64 x.op, .int .i64 x.a, .int .i64 x.b, .string ⟨x.s.toArray⟩] 36) := ⟨_, rfl⟩
      have hb3 : Below wr.heap.size wr W3 := by rw [hW3]; exact (Below.refl _ _).alloc (Nat.le_refl _) _
      have HBK := Lib.hid (show Blk W3 wr.heap.size 36 #[.int .i64 x.op, .int .i64 x.a, .int .i64 x.b, .string ⟨x.s.toArray⟩] by rw [hW3]; exact Blk.new wr _ _)
      have HGE := Lib.hid (show wr.heap.size ≠ gt from fun e => by
        obtain ⟨_, cur, hB⟩ := own_blk HS.out.t
        have := hB.lt
        omega)
      replace HS := Lib.hid (HS.out.below hb3)
      rw [← hW3]
      generalize wr.heap.size = gx at *
      clear hb3 hW3 c0 c1' c2' c3'
      have fs := HS.out.t.frozenAt k
      obtain ⟨vq, hcq⟩ : ∃ v, W3.cell? ⟨gt, k, none⟩ = some v := ⟨_, HS.out.t.cell (show (toK gf X.length k)[k]? = some 0 by
        unfold toK
        rw [List.getElem?_map, List.getElem?_range HKX.out, Option.map_some, if_neg (Nat.lt_irrefl _)])⟩
      obtain ⟨h1, h2, h3, h4⟩ := HS.out.put HKX.out (z := (n : Int)) (by rw [HNK.out])
      have HT := Lib.hid h1
      have HO := Lib.hid h2
      have HB := Lib.hid h3
      replace HBK := Lib.hid (h4.blk HBK.out HGE.out)
      clear h1 h2 h3 h4 HGE HS
      go_upto_region 7 with (fail)
      generalize W3.setCell ⟨gt, k, none⟩ (.int .i64 (n : Int)) = w4 at *
      clear fs hcq
      have HC := Lib.hid (HF.out k HKX.out w4 HB.out)
      go_wp2_with fail
      refine HC.out.mono ?_
      rintro e w5 ⟨rfl, hb5⟩
      replace HT := Lib.hid (HT.out.below hb5)
      replace HO := Lib.hid (HO.out.below hb5)
      replace HB := Lib.hid (HB.out.trans (hb5.mono HB.out.size))
      replace HBK := Lib.hid (HBK.out.below hb5)
      obtain ⟨gb, hgb⟩ : ∃ gb, gf k = gb := ⟨_, rfl⟩
      have HKP := Lib.hid (show keptK X gf (k + 1) = keptK X gf k ++ (if gb then [] else [x]) by rw [keptK, HX.out, hgb])
      rw [hgb]
      clear HC hb5 hgb
      cases gb with
      | true =>
        have HS3 := Lib.hid (show LvW w w5 gt X gf (k + 1) (.slice A n c) from ⟨HT.out, by rw [HKP.out, if_pos rfl, List.append_nil]; exact HO.out, HB.out⟩)
        clear HT HO HB HBK HKP
        go_wp2_with fail
        go_roundw
        case rel => exact ⟨k + 1, A, n, c, by omega, rfl, by go_num, HS3⟩
        case measure => simp [intOf]; omega
      | false =>
        have y0 := HBK.out.cell 0
        have y1 := HBK.out.cell 1
        have y2 := HBK.out.cell 2
        have y3 := HBK.out.cell 3
        simp only [List.getElem?_toArray, List.getElem?_cons_zero, List.getElem?_cons_succ] at y0 y1 y2 y3
        have hown : w5.ownsRow w.heap.size 36 4 (.slice A n c) n ((keptK X gf k).flatMap insc) := by
          obtain ⟨A', c', hv, ho⟩ := HO.out
          injection hv with h1 h2 h3
          rw [h1, h2, h3]
          exact ho
        have hwz : w.heap.size ≤ w5.heap.size := HB.out.size
        go_upto_region 9 with (at_builtin; refine wpList_push rfl _ _ _ rfl Tryd.underlying27 hi hz0 hz1 hz2 rfl (by decide) hown rfl rfl rfl (by simp [Value.oneCell']) (by omega) (by decide) hwz ?_; intro A8 c8 w8 ho8 hb8 hoo8)
        have HS3 := Lib.hid (show LvW w w8 gt X gf (k + 1) (.slice A8 (n + 1) c8) from by
          obtain ⟨_, cur, hB⟩ := own_blk HT.out
          refine ⟨own_others HT.out hoo8 (by decide), ⟨A8, c8, ?_, ?_⟩, HB.out.trans hb8⟩
          · rw [HKP.out, if_neg (by simp), List.length_append, keptK_length X gf k (Nat.le_of_lt HKX.out), ← HNK.out]; rfl
          · rw [HKP.out, if_neg (by simp), List.length_append, keptK_length X gf k (Nat.le_of_lt HKX.out), ← HNK.out, List.flatMap_append]
            exact ho8)
        clear HT HO HB HBK HKP hown y0 y1 y2 y3 ho8 hb8 hoo8
        go_wp2_with fail
        go_roundw
        case rel => exact ⟨k + 1, A8, n + 1, c8, by omega, rfl, by go_num, HS3⟩
        case measure => simp [intOf]; omega
    · have hkm : m = k := by omega
      subst hkm
      have hpos : 0 < n := by
        have h1 := cnt_last (g := gf) HOK.out.pos HLA.out
        rw [HM.out] at h1
        rw [HNK.out]; omega
      have hkl : (keptK X gf X.length).length = n := by rw [keptK_length X gf X.length (Nat.le_refl _), HM.out]; exact HNK.out.symm
      obtain ⟨go_, rfl⟩ : ∃ go_, A = some ⟨go_, 0, none⟩ := by
        obtain ⟨A', c', hv, ho⟩ := HS.out.o
        obtain ⟨A3, c3, he, _, _, hA3, hn3⟩ := own_form ho
        injection hv with hv1 hv2 hv3
        injection he with he1 he2 he3
        subst hv1 he1
        cases A with
        | none => have := (hn3 rfl).1; omega
        | some q =>
          obtain ⟨q1, q2, q3⟩ := q
          obtain ⟨_, _, h1, h2⟩ := hA3 _ rfl
          simp only at h1 h2
          subst h1 h2
          exact ⟨q1, rfl⟩
      have HN := Lib.hid hkl
      replace HS := Lib.hid (show LvX w wr gt go_ c X gf (keptK X gf X.length) (remK (cntK gf) (keptK X gf X.length) 0) from by
        rw [remK_zero]
        obtain ⟨A', c', hv, ho⟩ := HS.out.o
        rw [← HM.out] at hv ho
        injection hv with hv1 hv2 hv3
        subst hv1 hv3
        exact ⟨by have := HS.out.t; rwa [← HM.out] at this, ho, HS.out.b, rfl⟩)
      have z0 := (HW.out.below HS.out.b).blk.cell 0
      simp only [List.getElem?_toArray, List.getElem?_cons_zero] at z0
      rw [HM.out] at z0
      clear hkl hlt hk HNK
      go_upto_region 12 with (fail)
      clear z0
      skip
      go_loopw [56] (fun v wr => ∃ k : Nat, k ≤ n ∧ v = .int .i64 k ∧ Hid (LvX w wr gt go_ c X gf (keptK X gf X.length) (remK (cntK gf) (keptK X gf X.length) k))) (fun v _ => n - (intOf v).toNat)
      case atStart => exact ⟨0, Nat.zero_le _, rfl, HS⟩
      case round =>
        clear HS
        obtain ⟨k, hk, rfl, HS⟩ := hrel
        by_cases hlt : k < n
        · have HKX := Lib.hid (show k < (keptK X gf X.length).length by rw [HN.out]; exact hlt)
          obtain ⟨x, hx⟩ := at_some HKX.out
          have HX := Lib.hid hx
          have HY := Lib.hid (remK_at (f := cntK gf) hx)
          have HPX := Lib.hid (show (placeA x.op = true → 0 ≤ x.a ∧ x.a < X.length) ∧ (placeB x.op = true → 0 ≤ x.b ∧ x.b < X.length) from by
            obtain ⟨i, _, hxi, _⟩ := keptK_mem (List.mem_of_getElem? hx)
            exact HOK.out.pr x (List.mem_of_getElem? hxi))
          clear hx
          have hcell := (HS.out.rd.at_ (show k < _ by rw [HS.out.len]; exact HKX.out)).2
          rw [getElem_of? (by rw [HS.out.len]; exact HKX.out) HY.out] at hcell
          have c0 := hcell 0 _ rfl
          have c1 := hcell 1 _ rfl
          have c2 := hcell 2 _ rfl
          simp only [Nat.add_zero, Nat.zero_add] at c0 c1 c2
          clear hcell
          go_wp2_with fail
          refine (JC.out x.op wr).mono ?_
          rintro e w4 ⟨rfl, hb4⟩
          replace HS := Lib.hid (HS.out.below hb4)
          obtain ⟨pa, hpa⟩ : ∃ pa, placeA x.op = pa := ⟨_, rfl⟩
          obtain ⟨pb, hpb⟩ : ∃ pb, placeB x.op = pb := ⟨_, rfl⟩
          rw [hpa, hpb]
          have HPA := Lib.hid hpa
          have HPB := Lib.hid hpb
          clear hb4 c0 c1 c2 hpa hpb
          cases pa with
          | false =>
            have HYA := Lib.hid (show remK (cntK gf) (keptK X gf X.length) k = (remK (cntK gf) (keptK X gf X.length) k).set k (remA (cntK gf) x) by
              rw [show remA (cntK gf) x = x by unfold remA; rw [HPA.out]; rfl, set_self HY.out])
            have HYB := Lib.hid (show ((remK (cntK gf) (keptK X gf X.length) k).set k (remA (cntK gf) x))[k]? = some (remA (cntK gf) x) from List.getElem?_set_self (by rw [remK_length]; exact HKX.out))
            rw [HYA.out] at HS
            clear HY HYA
            have HY := HYB
            clear HYB
            go_upto_region 17 with (fail)
            cases pb with
            | false =>
              have HEI := Lib.hid (show (remK (cntK gf) (keptK X gf X.length) k).set k (remap (cntK gf) x) = (remK (cntK gf) (keptK X gf X.length) k).set k (remA (cntK gf) x) by
                rw [remap_A, HPB.out]; rfl)
              clear HY
              have HS3 := Lib.hid (show LvX w _ gt go_ c X gf _ (remK (cntK gf) (keptK X gf X.length) (k + 1)) by rw [remK_next HX.out, HEI.out]; exact HS.out)
              clear HS
              go_wp2_with fail
              go_roundw
              case rel => exact ⟨k + 1, by omega, by go_num, HS3⟩
              case measure => simp [intOf]; omega
            | true =>
              obtain ⟨ib, hib⟩ : ∃ ib : Nat, x.b = ib := ⟨x.b.toNat, by have := HPX.out.2 HPB.out; omega⟩
              have HEX := Lib.hid (show ib < X.length by have := HPX.out.2 HPB.out; omega)
              have HIB := Lib.hid hib
              have hcell := (HS.out.rd.at_ (show k < _ by rw [HS.out.len]; exact HKX.out)).2
              rw [getElem_of? (by rw [HS.out.len]; exact HKX.out) HY.out] at hcell
              have c0 := hcell 0 _ rfl
              have c1 := hcell 1 _ rfl
              have c2 := hcell 2 _ rfl
              simp only [Nat.add_zero, Nat.zero_add] at c0 c1 c2
              clear hcell
              rw [show (remA (cntK gf) x).b = (ib : Int) from hib] at c2
              have t0 := HS.out.t.cell (toK_all gf HEX.out)
              have hlb : ib < m := by rw [← HM.out]; exact HEX.out
              have f2 := HS.out.o.frozenAt (k * 4 + 2)
              clear hib c0 c1
              have HS2 := Lib.hid (HS.out.store (y := remap (cntK gf) x) HY.out (show 2 < 4 by decide) (u := .int .i64 (cntK gf ib : Int)) (by
                rw [remap_A, HPB.out, HIB.out, Int.toNat_natCast]; rfl))
              rw [List.set_set] at HS2
              have HEI := Lib.hid (rfl : (remK (cntK gf) (keptK X gf X.length) k).set k (remap (cntK gf) x) = (remK (cntK gf) (keptK X gf X.length) k).set k (remap (cntK gf) x))
              clear HY
              replace HS := HS2
              clear HS2
              go_upto_region 19 with (fail)
              clear c2 t0 f2
              have HS3 := Lib.hid (show LvX w _ gt go_ c X gf _ (remK (cntK gf) (keptK X gf X.length) (k + 1)) by rw [remK_next HX.out, HEI.out]; exact HS.out)
              clear HS
              go_wp2_with fail
              go_roundw
              case rel => exact ⟨k + 1, by omega, by go_num, HS3⟩
              case measure => simp [intOf]; omega
          | true =>
            obtain ⟨ia, hia⟩ : ∃ ia : Nat, x.a = ia := ⟨x.a.toNat, by have := HPX.out.1 HPA.out; omega⟩
            have HEX := Lib.hid (show ia < X.length by have := HPX.out.1 HPA.out; omega)
            have HIA := Lib.hid hia
            have hcell := (HS.out.rd.at_ (show k < _ by rw [HS.out.len]; exact HKX.out)).2
            rw [getElem_of? (by rw [HS.out.len]; exact HKX.out) HY.out] at hcell
            have c0 := hcell 0 _ rfl
            have c1 := hcell 1 _ rfl
            have c2 := hcell 2 _ rfl
            simp only [Nat.add_zero, Nat.zero_add] at c0 c1 c2
            clear hcell
            rw [hia] at c1
            have t0 := HS.out.t.cell (toK_all gf HEX.out)
            have hla : ia < m := by rw [← HM.out]; exact HEX.out
            have f1 := HS.out.o.frozenAt (k * 4 + 1)
            clear hia c0 c2
            have HS2 := Lib.hid (HS.out.store (y := remA (cntK gf) x) HY.out (show 1 < 4 by decide) (u := .int .i64 (cntK gf ia : Int)) (by
              unfold remA
              rw [HPA.out, HIA.out, Int.toNat_natCast]; rfl))
            have HYB := Lib.hid (show ((remK (cntK gf) (keptK X gf X.length) k).set k (remA (cntK gf) x))[k]? = some (remA (cntK gf) x) from List.getElem?_set_self (by rw [remK_length]; exact HKX.out))
            replace HS := HS2
            clear HS2 HY
            have HY := HYB
            clear HYB HEX HIA
            go_upto_region 17 with (fail)
            generalize w4.setCell ⟨go_, k * 4 + 1, none⟩ (.int .i64 (cntK gf ia : Int)) = wy at *
            clear c1 t0 f1 hla
            cases pb with
            | false =>
              have HEI := Lib.hid (show (remK (cntK gf) (keptK X gf X.length) k).set k (remap (cntK gf) x) = (remK (cntK gf) (keptK X gf X.length) k).set k (remA (cntK gf) x) by
                rw [remap_A, HPB.out]; rfl)
              clear HY
              have HS3 := Lib.hid (show LvX w _ gt go_ c X gf _ (remK (cntK gf) (keptK X gf X.length) (k + 1)) by rw [remK_next HX.out, HEI.out]; exact HS.out)
              clear HS
              go_wp2_with fail
              go_roundw
              case rel => exact ⟨k + 1, by omega, by go_num, HS3⟩
              case measure => simp [intOf]; omega
            | true =>
              obtain ⟨ib, hib⟩ : ∃ ib : Nat, x.b = ib := ⟨x.b.toNat, by have := HPX.out.2 HPB.out; omega⟩
              have HEX := Lib.hid (show ib < X.length by have := HPX.out.2 HPB.out; omega)
              have HIB := Lib.hid hib
              have hcell := (HS.out.rd.at_ (show k < _ by rw [HS.out.len]; exact HKX.out)).2
              rw [getElem_of? (by rw [HS.out.len]; exact HKX.out) HY.out] at hcell
              have c0 := hcell 0 _ rfl
              have c1 := hcell 1 _ rfl
              have c2 := hcell 2 _ rfl
              simp only [Nat.add_zero, Nat.zero_add] at c0 c1 c2
              clear hcell
              rw [show (remA (cntK gf) x).b = (ib : Int) from hib] at c2
              have t0 := HS.out.t.cell (toK_all gf HEX.out)
              have hlb : ib < m := by rw [← HM.out]; exact HEX.out
              have f2 := HS.out.o.frozenAt (k * 4 + 2)
              clear hib c0 c1
              have HS2 := Lib.hid (HS.out.store (y := remap (cntK gf) x) HY.out (show 2 < 4 by decide) (u := .int .i64 (cntK gf ib : Int)) (by
                rw [remap_A, HPB.out, HIB.out, Int.toNat_natCast]; rfl))
              rw [List.set_set] at HS2
              have HEI := Lib.hid (rfl : (remK (cntK gf) (keptK X gf X.length) k).set k (remap (cntK gf) x) = (remK (cntK gf) (keptK X gf X.length) k).set k (remap (cntK gf) x))
              clear HY
              replace HS := HS2
              clear HS2
              go_upto_region 19 with (fail)
              clear c2 t0 f2
              have HS3 := Lib.hid (show LvX w _ gt go_ c X gf _ (remK (cntK gf) (keptK X gf X.length) (k + 1)) by rw [remK_next HX.out, HEI.out]; exact HS.out)
              clear HS
              go_wp2_with fail
              go_roundw
              case rel => exact ⟨k + 1, by omega, by go_num, HS3⟩
              case measure => simp [intOf]; omega
        · have hkn : n = k := by omega
          subst hkn
          have HE := Lib.hid (show remK (cntK gf) (keptK X gf X.length) n = leaveX X gf by rw [← HN.out, remK_all]; rfl)
          have HLL := Lib.hid (show n = (leaveX X gf).length by rw [leaveX_length, ← keptK_length X gf X.length (Nat.le_refl _), HN.out])
          have hP := HW.out.below HS.out.b
          have z0 := hP.blk.cell 0
          have f0 := hP.blk.frozen 0
          simp only [List.getElem?_toArray, List.getElem?_cons_zero] at z0
          rw [HM.out] at z0
          have HO := Lib.hid (show wr.ownsRow base 36 4 (.slice (some ⟨go_, 0, none⟩) (leaveX X gf).length c) (leaveX X gf).length ((leaveX X gf).flatMap insc) by
            have := HS.out.o
            rw [HE.out, HN.out] at this
            rw [← HLL.out]
            exact own_mono this HBS.out)
          have HGO := Lib.hid (own_blk HS.out.o).1
          have HP := Lib.hid hP
          clear hP hlt hk
          go_upto_region 21 with (fail)
          have HQ := Lib.hid (show PassW (wr.setCell ⟨g, 0, none⟩ (.slice (some ⟨go_, 0, none⟩) n c)) base g go_ (leaveX X gf) c st vc from by
            refine ⟨HP.out.hb, ?_, own_but HO.out (But.set wr 0 _) HP.out.blk (by decide)⟩
            rw [← HLL.out]
            have := HP.out.blk.set 0 (.slice (some ⟨go_, 0, none⟩) n c)
            simpa using this)
          have HBT := Lib.hid ((But.of HS.out.b (B := g)).trans (But.set (B := g) wr 0 (.slice (some ⟨go_, 0, none⟩) n c)))
          generalize wr.setCell ⟨g, 0, none⟩ (.slice (some ⟨go_, 0, none⟩) n c) = wz at *
          clear z0 f0 HS
          go_wp2_with fail
          go_ret
          exact ⟨_, go_, c, rfl, HQ.out, HGO.out, HBT.out⟩
end Go.Proofs.YtpogngdddendiaaDoor

/- The walk over code.Check at a code that may be, whatever its last: nil. -/
set_option linter.unusedVariables false
set_option linter.unusedSimpArgs false
namespace Go.Proofs.YtpogngdddendiaaDoor
open Go.RowKit

set_option maxRecDepth 100000 in
set_option maxHeartbeats 8000000 in
theorem ccheck_fine (A : Option Addr) (c : Nat) (st : Nat) (X : List Ins) (w : World) (hpos : 0 < X.length) (hlen : X.length ≤ 9000) (hst : st ≤ 9000) (hok : ∀ x ∈ X, okI (X.length - 1) x = true) (hlast : ∀ h : X.length - 1 < X.length, X[X.length - 1].op = 41 ∨ X[X.length - 1].op = 40 ∨ X[X.length - 1].op = 18) (hrd : RdL w 4 insc A X) :
    Calls Tryd.prog 13 #[.agg #[.slice A X.length c, .int .i64 st]] w (Ret w .nilIface) := by
  obtain ⟨m, hm⟩ : ∃ m, m = X.length := ⟨_, rfl⟩
  rw [← hm] at hpos hlen ⊢
  have HM := Lib.hid hm
  obtain ⟨W0, hW0⟩ : ∃ W0, W0 = w.alloc (.cells #[.slice A m c, .int .i64 st] 29) := ⟨_, rfl⟩
  have hb0 : Below w.heap.size w W0 := by rw [hW0]; exact (Below.refl _ _).alloc (Nat.le_refl _) _
  have hB0 : Blk W0 w.heap.size 29 #[.slice A m c, .int .i64 st] := by rw [hW0]; exact Blk.new w _ _
  have HB := Lib.hid hb0
  have HBK := Lib.hid hB0
  have HRD := Lib.hid (hrd.below hb0)
  have HOK := Lib.hid hok
  have HLAST := Lib.hid hlast
  have y0 := hB0.cell 0
  have y1 := hB0.cell 1
  simp only [List.getElem?_toArray, List.getElem?_cons_zero, List.getElem?_cons_succ] at y0 y1
  have b1 : ((m : Int) == 0) = false := by simp; omega
  obtain ⟨B, hB⟩ : ∃ B, B = w.heap.size := ⟨_, rfl⟩
  clear hm hb0 hB0 hrd hok hlast
  go_enter Tryd.func13, Tryd.ntmps13
  go_upto_region 1 with (fail)
  rw [← hW0]
  clear hW0
  rw [← hB] at y0 y1 HBK ⊢
  clear hB
  go_upto_region 3 with (fail)
  clear y0 y1
  have y0 := HBK.out.cell 0
  simp only [List.getElem?_toArray, List.getElem?_cons_zero, List.getElem?_cons_succ] at y0
  go_wp2_with fail
  have HBK2 := Lib.hid HBK.out
  clear y0
  go_loopw [30] (fun i wr => ∃ k : Nat, k ≤ m ∧ i = .int .i64 k ∧ Hid (Below W0.heap.size W0 wr)) (fun i _ => m - (intOf i).toNat)
  case atStart => exact ⟨0, Nat.zero_le _, rfl, Lib.hid (Below.refl _ _)⟩
  case round =>
    obtain ⟨k, hk, rfl, HR⟩ := hrel
    by_cases hlt : k < m
    · have hkL : k < X.length := by rw [← HM.out]; exact hlt
      obtain ⟨b, o, rfl, _, hcell⟩ := (HRD.out.below HR.out) k hkL
      obtain ⟨x, hx⟩ : ∃ x, x = X[k] := ⟨_, rfl⟩
      rw [← hx] at hcell
      have c0 := hcell 0 _ rfl
      have c1 := hcell 1 _ rfl
      have c2 := hcell 2 _ rfl
      have c3 := hcell 3 _ rfl
      simp only [Nat.add_zero] at c0
      have HX := Lib.hid (show okI (m - 1) x = true by rw [HM.out]; exact HOK.out x (by rw [hx]; exact List.getElem_mem _))
      have HL := Lib.hid (show k + 1 = m → x.op = 41 ∨ x.op = 40 ∨ x.op = 18 from fun h => by
        have hk2 : k = X.length - 1 := by rw [← HM.out]; omega
        subst hk2
        rw [hx]
        exact HLAST.out hkL)
      have HBR := Lib.hid (HBK.out.below HR.out)
      clear hcell hx hkL
      go_upto_region 6 with (fail)
      obtain ⟨W3, hW3⟩ : ∃ W3, W3 = wr.alloc (.cells #[.int .i64 x.op, .int .i64 x.a, .int .i64 x.b, .string ⟨x.s.toArray⟩] 36) := ⟨_, rfl⟩
      have hb3 : Below wr.heap.size wr W3 := by rw [hW3]; exact (Below.refl _ _).alloc (Nat.le_refl _) _
      have hB3 : Blk W3 wr.heap.size 36 #[.int .i64 x.op, .int .i64 x.a, .int .i64 x.b, .string ⟨x.s.toArray⟩] := by rw [hW3]; exact Blk.new wr _ _
      have HR3 := Lib.hid (HR.out.trans (hb3.mono HR.out.size))
      have HMAY := Lib.hid (may_any x (m - 1) m W3 HX.out (by omega))
      have p0 := hB3.cell 0
      have p1 := hB3.cell 1
      have p2 := hB3.cell 2
      have p3 := hB3.cell 3
      have y0 := (HBR.out.below hb3).cell 0
      simp only [List.getElem?_toArray, List.getElem?_cons_zero, List.getElem?_cons_succ] at p0 p1 p2 p3 y0
      rw [← hW3]
      clear hb3 hB3 hW3 c0 c1 c2 c3
      generalize wr.heap.size = gi at *
      clear HX
      by_cases hk1 : k + 1 = m
      · have hop0 := HL.out hk1
        clear HL
        have hg : ((k : Int) == (m : Int) - 1) = true := by rw [beq_iff_eq]; omega
        clear hk1
        rcases hop0 with hop | hop | hop
        · skip
          obtain ⟨op, xa, xb, xs⟩ := x
          simp only at hop p0 p1 p2 p3 HMAY
          subst hop
          go_wp2_with fail
          refine HMAY.out.mono ?_
          rintro e w4 ⟨rfl, hb4⟩
          have HR4 := Lib.hid (HR3.out.trans (hb4.mono HR3.out.size))
          have y4 := cell_keep hb4 y0
          clear HMAY p0 p1 p2 p3 y0 hb4
          go_wp2_with fail
          go_roundw
          case rel => exact ⟨k + 1, by omega, by go_num, HR4⟩
          case measure => simp [intOf]; omega
        · skip
          obtain ⟨op, xa, xb, xs⟩ := x
          simp only at hop p0 p1 p2 p3 HMAY
          subst hop
          go_wp2_with fail
          refine HMAY.out.mono ?_
          rintro e w4 ⟨rfl, hb4⟩
          have HR4 := Lib.hid (HR3.out.trans (hb4.mono HR3.out.size))
          have y4 := cell_keep hb4 y0
          clear HMAY p0 p1 p2 p3 y0 hb4
          go_wp2_with fail
          go_roundw
          case rel => exact ⟨k + 1, by omega, by go_num, HR4⟩
          case measure => simp [intOf]; omega
        · skip
          obtain ⟨op, xa, xb, xs⟩ := x
          simp only at hop p0 p1 p2 p3 HMAY
          subst hop
          go_wp2_with fail
          refine HMAY.out.mono ?_
          rintro e w4 ⟨rfl, hb4⟩
          have HR4 := Lib.hid (HR3.out.trans (hb4.mono HR3.out.size))
          have y4 := cell_keep hb4 y0
          clear HMAY p0 p1 p2 p3 y0 hb4
          go_wp2_with fail
          go_roundw
          case rel => exact ⟨k + 1, by omega, by go_num, HR4⟩
          case measure => simp [intOf]; omega
      · have hg : ((k : Int) == (m : Int) - 1) = false := by simp; omega
        have hcase : x.op = 41 ∨ x.op = 40 ∨ x.op = 18 ∨ (x.op ≠ 41 ∧ x.op ≠ 40 ∧ x.op ≠ 18) := by omega
        clear HL hk1
        rcases hcase with hop | hop | hop | ⟨g1, g2, g3⟩
        · skip
          obtain ⟨op, xa, xb, xs⟩ := x
          simp only at hop p0 p1 p2 p3 HMAY
          subst hop
          go_wp2_with fail
          refine HMAY.out.mono ?_
          rintro e w4 ⟨rfl, hb4⟩
          have HR4 := Lib.hid (HR3.out.trans (hb4.mono HR3.out.size))
          have y4 := cell_keep hb4 y0
          clear HMAY p0 p1 p2 p3 y0 hb4
          go_wp2_with fail
          go_roundw
          case rel => exact ⟨k + 1, by omega, by go_num, HR4⟩
          case measure => simp [intOf]; omega
        · skip
          obtain ⟨op, xa, xb, xs⟩ := x
          simp only at hop p0 p1 p2 p3 HMAY
          subst hop
          go_wp2_with fail
          refine HMAY.out.mono ?_
          rintro e w4 ⟨rfl, hb4⟩
          have HR4 := Lib.hid (HR3.out.trans (hb4.mono HR3.out.size))
          have y4 := cell_keep hb4 y0
          clear HMAY p0 p1 p2 p3 y0 hb4
          go_wp2_with fail
          go_roundw
          case rel => exact ⟨k + 1, by omega, by go_num, HR4⟩
          case measure => simp [intOf]; omega
        · skip
          obtain ⟨op, xa, xb, xs⟩ := x
          simp only at hop p0 p1 p2 p3 HMAY
          subst hop
          go_wp2_with fail
          refine HMAY.out.mono ?_
          rintro e w4 ⟨rfl, hb4⟩
          have HR4 := Lib.hid (HR3.out.trans (hb4.mono HR3.out.size))
          have y4 := cell_keep hb4 y0
          clear HMAY p0 p1 p2 p3 y0 hb4
          go_wp2_with fail
          go_roundw
          case rel => exact ⟨k + 1, by omega, by go_num, HR4⟩
          case measure => simp [intOf]; omega
        · have e1 : (x.op == 41) = false := by simp [g1]
          have e2 : (x.op == 40) = false := by simp [g2]
          have e3 : (x.op == 18) = false := by simp [g3]
          clear g1 g2 g3
          go_wp2_with fail
          refine HMAY.out.mono ?_
          rintro e w4 ⟨rfl, hb4⟩
          have HR4 := Lib.hid (HR3.out.trans (hb4.mono HR3.out.size))
          have y4 := cell_keep hb4 y0
          clear HMAY p0 p1 p2 p3 y0 hb4
          go_wp2_with fail
          go_roundw
          case rel => exact ⟨k + 1, by omega, by go_num, HR4⟩
          case measure => simp [intOf]; omega
    · obtain rfl : k = m := by omega
      go_wp2_with fail
      go_ret
      exact ⟨rfl, HB.out.trans (HR.out.mono HB.out.size)⟩
end Go.Proofs.YtpogngdddendiaaDoor
